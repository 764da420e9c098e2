/-
  disk: done, for whatever change is handed to it.
-/
import Derived.Test.YtjkmbbnjiobckaaGreatDoorDsk4
namespace Go.Proofs.YtjkmbbnjiobckaaGreatDoor
open Go.RowKit
theorem OwnD.len {w : World} {base : Nat} {x y : Value} {now safe : List (List UInt8)} (h : OwnD w base x y now safe) : ∃ a1 c1 a2 c2, x = .slice a1 now.length c1 ∧ y = .slice a2 safe.length c2 := by
  obtain ⟨m, _, ⟨us, ⟨a1, c1, rfl, _⟩, h1, _⟩, _, ⟨us2, ⟨a2, c2, rfl, _⟩, h2, _⟩⟩ := h
  exact ⟨a1, c1, a2, c2, by rw [h1], by rw [h2]⟩
/-- What an operation hands back: the disk, in new memory, and the error. -/
def DoneP (w : World) (d : Dsk) (err : Int) (e : Ending) (w' : World) : Prop :=
  (∃ x y, e = .returned (.tuple #[.agg #[x, y, .int .i64 d.fuse, .int .i64 d.ops, .bool d.dead], .int .i64 err]) ∧ OwnD w' w.heap.size x y d.now d.safe) ∧ Below w.heap.size w w'
def downFuse (n : Int) : Int := if 0 < n then n - 1 else n
def moreOps (n : Int) : Int := min (n + 1) 4611686018427387904
/-- The disk behind an operation that is carried out. -/
def Dsk.spent (d : Dsk) (now safe : List (List UInt8)) : Dsk := ⟨now, safe, downFuse d.fuse, moreOps d.ops, d.dead⟩
/-- What the change that is handed to done does with a disk in memory. -/
def Change (w : World) (g : Nat) (caps : Array Value) (now safe now' safe' : List (List UInt8)) : Prop :=
  ∀ (W : World) (p base : Nat) (x y fu op de : Value), Below w.heap.size w W → W.heap[p]? = some (.cells #[x, y, fu, op, de] 36 (0, 0)) → OwnD W base x y now safe → w.heap.size ≤ base → base ≤ p →
    Calls Tryz.prog g (#[.pointer (some ⟨p, 0, none⟩)] ++ caps) W fun e W' => ∃ x' y', e = .returned (.tuple #[]) ∧ OwnD W' base x' y' now' safe' ∧ Below base W W' ∧ W'.heap[p]? = some (.cells #[x', y', fu, op, de] 36 (0, 0))
set_option maxRecDepth 100000 in
set_option maxHeartbeats 1000000 in
theorem done120 (v : Value) (d : Dsk) (g : Nat) (caps : Array Value) (now' safe' : List (List UInt8)) (w : World) (h : DskV w v d) (hsm : d.small) (hf : d.fuse ≤ 9223372036854775807) (ho0 : 0 ≤ d.ops) (ho1 : d.ops ≤ 4611686018427387904)
    (eg : ∀ args w, (callFunc g args).run Tryz.prog w = .ok (.enter g args) w) (hch : Change w g caps d.now d.safe now' safe') :
    Calls Tryz.prog 120 #[v, .func (.func g) #[] caps] w fun e w' => if d.fuse = 0 then DoneP w ⟨d.now, d.safe, 0, d.ops, true⟩ 40 e w' else DoneP w (d.spent now' safe') 0 e w' := by
  obtain ⟨now, safe, fuse, ops, dead⟩ := d
  simp only at hf ho0 ho1 hch ⊢
  have HD := Lib.hid h
  obtain ⟨x, y, rfl, -⟩ := h
  have HSM := Lib.hid hsm
  have HCH := Lib.hid hch
  clear hsm hch
  go_enter Tryz.func120, Tryz.ntmps120
  go_wp2_with fail
  with_reducible refine (copied155 _ ⟨now, safe, fuse, ops, dead⟩ _ (HD.out.mono (box2 w _ _).1) HSM.out).mono ?_
  rintro _ w1 ⟨⟨x1, y1, rfl, ho2⟩, hb1⟩
  obtain ⟨k1, -, k3, k4⟩ := box2 w (.cells #[x, y, .int .i64 fuse, .int .i64 ops, .bool dead] 36) (.cells #[.slice none 0 0, .slice none 0 0, .int .i64 0, .int .i64 0, .bool false] 36)
  rw [k4] at hb1 ho2
  have hh1 := block_below hb1 k3 (by omega)
  obtain ⟨e0, e1, e2, e3, e4⟩ := cells5 hh1
  have fr1 := free_all hh1
  have HH1 := Lib.hid hh1
  have BW1 := Lib.hid (k1.trans (hb1.mono (by omega)))
  have hsz1 : w.heap.size + 2 ≤ w1.heap.size := by have := hb1.size; omega
  have hlt1 : w.heap.size + 1 < w1.heap.size := by omega
  have HO2 := Lib.hid ho2
  obtain ⟨a1, c1, a2, c2, rfl, rfl⟩ := ho2.len
  clear hb1 k1 k3 k4 hh1 ho2
  by_cases hf0 : fuse = 0
  · subst hf0
    go_wp2
    refine post_world (fun w' => w'.heap[w.heap.size + 1]? = some (.cells #[.slice a1 now.length c1, .slice a2 safe.length c2, .int .i64 0, .int .i64 ops, .bool true] 36 (0, 0)) ∧ OwnD w' w.heap.size (.slice a1 now.length c1) (.slice a2 safe.length c2) now safe ∧ Below w.heap.size w w') ⟨?_, ?_, ?_⟩ ?_
    · exact (Below.heap_alloc _ _ _ (by simpa using hlt1)).trans (set5 HH1.out)
    · exact ((HO2.out.above ((Above.refl _ _).set5 (by omega) _ _ _ _ _) (Nat.le_refl _)).mono ((Below.refl _ _).alloc (Nat.le_refl _) _)).lower (by omega)
    · exact (below_set5 BW1.out (by omega) _ _ _ _ _).alloc (by simp; omega) _
    · rintro w9 ⟨hh9, ho9, hb9⟩
      obtain ⟨e0, e1, e2, e3, e4⟩ := cells5 hh9
      exact bodyPost_ret (v := .tuple #[.agg #[.slice a1 now.length c1, .slice a2 safe.length c2, .int .i64 0, .int .i64 ops, .bool true], .int .i64 40]) (by simp [results, Tryz.results120, go_sem, e0, e1, e2, e3, e4]) rfl ⟨⟨_, _, rfl, ho9⟩, hb9⟩
  · have hne : (fuse == 0) = false := by simpa using hf0
    have HF0 := Lib.hid hf0
    by_cases hfp : 0 < fuse
    · have HS : Hid (∀ e w', DoneP w ⟨now', safe', fuse - 1, moreOps ops, dead⟩ 0 e w' → DoneP w (Dsk.spent ⟨now, safe, fuse, ops, dead⟩ now' safe') 0 e w') := by
        intro e w' h
        unfold Dsk.spent downFuse; simp only [if_pos hfp]; exact h
      clear hf0
      obtain ⟨j1, j2, j3⟩ := box1 w1 (.cells #[.slice a1 now.length c1, .slice a2 safe.length c2, .int .i64 (fuse - 1), .int .i64 ops, .bool dead] 36)
      have BA := Lib.hid (BW1.out.alloc (by omega) (.cells #[.slice a1 now.length c1, .slice a2 safe.length c2, .int .i64 (fuse - 1), .int .i64 ops, .bool dead] 36))
      have HO3 := Lib.hid (HO2.out.mono j1)
      have HH3 := Lib.hid (block_below j1 HH1.out (by omega))
      have HC := Lib.hid (HCH.out _ w1.heap.size (w.heap.size + 2) _ _ _ _ _ BA.out j2 HO3.out (by omega) (by omega))
      have HJ := Lib.hid j3
      have BT := Lib.hid (show Below (w.heap.size + 2) w1 _ from j1.mono (by omega))
      clear j1 j2 j3 e0 e1 e2 e3 e4 fr1
      go_wp2_with fail
      with_reducible refine HC.out.mono ?_
      rintro _ w2 ⟨x2, y2, rfl, ho4, hb4, hp4⟩
      have hh2 := block_below (hb4.mono (show w.heap.size + 2 ≤ w.heap.size + 2 by omega)) HH3.out (by omega)
      have B2 := Lib.hid (BA.out.trans (hb4.mono (by omega)))
      obtain ⟨e0, e1, e2, e3, e4⟩ := cells5 hh2
      obtain ⟨d0, d1, d2, d3, d4⟩ := cells5 hp4
      have fr1 := free_all hh2
      have fr2 := free_all hp4
      have HH2 := Lib.hid hh2
      have HP4 := Lib.hid hp4
      have HO4 := Lib.hid ho4
      obtain ⟨b1, k1, b2, k2, rfl, rfl⟩ := ho4.len
      have hlt2 : w1.heap.size < w2.heap.size := (Array.getElem?_eq_some_iff.1 hp4).1
      clear hh2 hp4 ho4 hb4
      have hwrap : IntKind.i64.wrap (ops + 1) = ops + 1 := IntWalk.i64_in _ (by omega)
      go_wp2
      all_goals
        refine post_world (fun w' => w'.heap[w.heap.size + 1]? = some (.cells #[.slice b1 now'.length k1, .slice b2 safe'.length k2, .int .i64 (fuse - 1), .int .i64 (moreOps ops), .bool dead] 36 (0, 0)) ∧ OwnD w' w.heap.size (.slice b1 now'.length k1) (.slice b2 safe'.length k2) now' safe' ∧ Below w.heap.size w w') ⟨?_, ?_, ?_⟩ ?_
        · first
            | (rw [show moreOps ops = ops + 1 by unfold moreOps; omega]; exact set5 (other_set HH2.out (by omega)))
            | (rw [show moreOps ops = 4611686018427387904 by unfold moreOps; omega]; exact set5 (other_set HH2.out (by omega)))
        · exact ((HO4.out.apart HP4.out (by decide) (by decide) (grown_set (grown_refl _ _) _)).above ((Above.refl _ _).set5 (by omega) _ _ _ _ _) (Nat.le_refl _)).lower (by omega)
        · exact below_set5 (B2.out.setCell (show w.heap.size ≤ w1.heap.size by omega) _) (by omega) _ _ _ _ _
        · rintro w9 ⟨hh9, ho9, hb9⟩
          obtain ⟨e0, e1, e2, e3, e4⟩ := cells5 hh9
          exact bodyPost_ret (v := .tuple #[.agg #[.slice b1 now'.length k1, .slice b2 safe'.length k2, .int .i64 (fuse - 1), .int .i64 (moreOps ops), .bool dead], .int .i64 0]) (by simp [results, Tryz.results120, go_sem, e0, e1, e2, e3, e4]) rfl (HS.out _ _ ⟨⟨_, _, rfl, ho9⟩, hb9⟩)
    · have HS : Hid (∀ e w', DoneP w ⟨now', safe', fuse, moreOps ops, dead⟩ 0 e w' → DoneP w (Dsk.spent ⟨now, safe, fuse, ops, dead⟩ now' safe') 0 e w') := by
        intro e w' h
        unfold Dsk.spent downFuse; simp only [if_neg hfp]; exact h
      have hfn : fuse ≤ 0 := by omega
      clear hf0 hfp
      obtain ⟨j1, j2, j3⟩ := box1 w1 (.cells #[.slice a1 now.length c1, .slice a2 safe.length c2, .int .i64 fuse, .int .i64 ops, .bool dead] 36)
      have BA := Lib.hid (BW1.out.alloc (by omega) (.cells #[.slice a1 now.length c1, .slice a2 safe.length c2, .int .i64 fuse, .int .i64 ops, .bool dead] 36))
      have HO3 := Lib.hid (HO2.out.mono j1)
      have HH3 := Lib.hid (block_below j1 HH1.out (by omega))
      have HC := Lib.hid (HCH.out _ w1.heap.size (w.heap.size + 2) _ _ _ _ _ BA.out j2 HO3.out (by omega) (by omega))
      have HJ := Lib.hid j3
      have BT := Lib.hid (show Below (w.heap.size + 2) w1 _ from j1.mono (by omega))
      clear j1 j2 j3 e0 e1 e2 e3 e4 fr1
      go_wp2_with fail
      with_reducible refine HC.out.mono ?_
      rintro _ w2 ⟨x2, y2, rfl, ho4, hb4, hp4⟩
      have hh2 := block_below (hb4.mono (show w.heap.size + 2 ≤ w.heap.size + 2 by omega)) HH3.out (by omega)
      have B2 := Lib.hid (BA.out.trans (hb4.mono (by omega)))
      obtain ⟨e0, e1, e2, e3, e4⟩ := cells5 hh2
      obtain ⟨d0, d1, d2, d3, d4⟩ := cells5 hp4
      have fr1 := free_all hh2
      have fr2 := free_all hp4
      have HH2 := Lib.hid hh2
      have HP4 := Lib.hid hp4
      have HO4 := Lib.hid ho4
      obtain ⟨b1, k1, b2, k2, rfl, rfl⟩ := ho4.len
      have hlt2 : w1.heap.size < w2.heap.size := (Array.getElem?_eq_some_iff.1 hp4).1
      clear hh2 hp4 ho4 hb4
      have hwrap : IntKind.i64.wrap (ops + 1) = ops + 1 := IntWalk.i64_in _ (by omega)
      go_wp2
      all_goals
        refine post_world (fun w' => w'.heap[w.heap.size + 1]? = some (.cells #[.slice b1 now'.length k1, .slice b2 safe'.length k2, .int .i64 fuse, .int .i64 (moreOps ops), .bool dead] 36 (0, 0)) ∧ OwnD w' w.heap.size (.slice b1 now'.length k1) (.slice b2 safe'.length k2) now' safe' ∧ Below w.heap.size w w') ⟨?_, ?_, ?_⟩ ?_
        · first
            | (rw [show moreOps ops = ops + 1 by unfold moreOps; omega]; exact set5 (other_set HH2.out (by omega)))
            | (rw [show moreOps ops = 4611686018427387904 by unfold moreOps; omega]; exact set5 (other_set HH2.out (by omega)))
        · exact ((HO4.out.apart HP4.out (by decide) (by decide) (grown_set (grown_refl _ _) _)).above ((Above.refl _ _).set5 (by omega) _ _ _ _ _) (Nat.le_refl _)).lower (by omega)
        · exact below_set5 (B2.out.setCell (show w.heap.size ≤ w1.heap.size by omega) _) (by omega) _ _ _ _ _
        · rintro w9 ⟨hh9, ho9, hb9⟩
          obtain ⟨e0, e1, e2, e3, e4⟩ := cells5 hh9
          exact bodyPost_ret (v := .tuple #[.agg #[.slice b1 now'.length k1, .slice b2 safe'.length k2, .int .i64 fuse, .int .i64 (moreOps ops), .bool dead], .int .i64 0]) (by simp [results, Tryz.results120, go_sem, e0, e1, e2, e3, e4]) rfl (HS.out _ _ ⟨⟨_, _, rfl, ho9⟩, hb9⟩)
end Go.Proofs.YtjkmbbnjiobckaaGreatDoor
