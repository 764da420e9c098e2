/-
  disk: copied, Write$1, Flush$1, done.
-/
import Derived.Test.YtjkmbbnjiobckaaGreatDoorMem
namespace Go.Proofs.YtjkmbbnjiobckaaGreatDoor
open Go.RowKit
/-- The rows of a disk that can be copied. -/
def Dsk.small (d : Dsk) : Prop := d.now.length ≤ 1000000 ∧ d.safe.length ≤ 1000000 ∧ (∀ l ∈ d.now, l.length ≤ 140737488000000) ∧ (∀ l ∈ d.safe, l.length ≤ 140737488000000)
/-- A disk of the call's own: its two lists lie in blocks apart. -/
def OwnD (w : World) (base : Nat) (x y : Value) (now safe : List (List UInt8)) : Prop :=
  ∃ m, base ≤ m ∧ OwnSs w base x now ∧ (∀ k, x.ownBlock = some k → k < m) ∧ OwnSs w m y safe
theorem OwnD.mono {w w' : World} {base : Nat} {x y : Value} {now safe : List (List UInt8)} (h : OwnD w base x y now safe) (hb : Below w.heap.size w w') : OwnD w' base x y now safe := by
  obtain ⟨m, h1, h2, h3, h4⟩ := h
  exact ⟨m, h1, h2.mono hb, h3, h4.mono hb⟩
theorem OwnD.lower {w : World} {base base' : Nat} {x y : Value} {now safe : List (List UInt8)} (h : OwnD w base x y now safe) (hb : base' ≤ base) : OwnD w base' x y now safe := by
  obtain ⟨m, h1, h2, h3, h4⟩ := h
  exact ⟨m, Nat.le_trans hb h1, h2.lower hb, h3, h4⟩
theorem OwnD.above {w w' : World} {base base' : Nat} {x y : Value} {now safe : List (List UInt8)} (h : OwnD w base x y now safe) (ha : Above base' w w') (hb : base' ≤ base) : OwnD w' base x y now safe := by
  obtain ⟨m, h1, h2, h3, h4⟩ := h
  exact ⟨m, h1, h2.above ha hb, h3, h4.above ha (Nat.le_trans hb h1)⟩
theorem OwnSs.block_lt {w : World} {base : Nat} {x : Value} {ll : List (List UInt8)} (h : OwnSs w base x ll) : ∀ k, x.ownBlock = some k → k < w.heap.size := by
  obtain ⟨vs, ⟨a, cap, rfl, h⟩, _⟩ := h
  exact fun k hk => (h.lt k hk).2
set_option maxRecDepth 100000 in
set_option maxHeartbeats 2000000 in
theorem copied155 (v : Value) (d : Dsk) (w : World) (h : DskV w v d) (hsm : d.small) :
    Calls Tryz.prog 155 #[v] w fun e w' => (∃ x y, e = .returned (.agg #[x, y, .int .i64 d.fuse, .int .i64 d.ops, .bool d.dead]) ∧ OwnD w' w.heap.size x y d.now d.safe) ∧ Below w.heap.size w w' := by
  obtain ⟨x, y, rfl, hx, hy⟩ := h
  obtain ⟨now, safe, fuse, ops, dead⟩ := d
  obtain ⟨s1, s2, s3, s4⟩ := hsm
  have HS3 := Lib.hid s3
  have HS4 := Lib.hid s4
  simp only at hx hy s1 s2 HS3 HS4
  have HX := Lib.hid hx
  have HY := Lib.hid hy
  obtain ⟨a, cap, vs, rfl, -⟩ := hx
  obtain ⟨a2, cap2, vs2, rfl, -⟩ := hy
  clear s3 s4
  go_enter Tryz.func155, Tryz.ntmps155
  go_wp2_with fail
  refine wp_world (fun w' => Below w.heap.size w w' ∧ w'.heap[w.heap.size]? = some _ ∧ w'.heap[w.heap.size + 1]? = some _ ∧ w'.heap.size = w.heap.size + 2) (box2 w _ _) ?_
  rintro w0 ⟨hb0, hh0, hh1, hz0⟩
  obtain ⟨c0, c1, c2, c3, c4⟩ := cells5 hh0
  have HB0 := Lib.hid hb0
  have HH0 := Lib.hid hh0
  have HH1 := Lib.hid hh1
  have hlt0 : w.heap.size < w0.heap.size := by omega
  have HZ0 := Lib.hid hz0
  clear hb0 hh0 hh1 hz0
  refine wp_region_ext 7 [0, 1, 3, 4, 2, 6, 5] (by kernel_rfl) (by kernel_rfl) (by intro c a d v w h; cases d <;> exact h) ?_
  simp only [List.filterMap_cons, List.filterMap_nil, List.getElem?_cons_zero, List.getElem?_cons_succ, List.drop_succ_cons, List.drop_zero]
  iterate 4 (refine Seg.takeK rfl rfl (fun K hK => ⟨_, fun ws hws => by go_simp; rfl, ?_⟩); go_simp; refine hK _ ?_; clear hK K)
  refine Seg.loud rfl rfl (fun K hK => ?_)
  go_wp2_with fail
  with_reducible refine (cloned123 _ now _ (HX.out.mono HB0.out).drew s1 HS3.out).mono ?_
  rintro _ w1 ⟨x1, rfl, ho1, hb1⟩
  have HO1 := Lib.hid ho1
  have HB1 := Lib.hid hb1
  clear ho1 hb1
  refine hK _ _ (fun b o h => HB1.out.cell (p := ⟨b, o, none⟩) h) ?_
  clear hK K
  iterate 1 (refine Seg.takeK rfl rfl (fun K hK => ⟨_, fun ws hws => by go_simp; rfl, ?_⟩); go_simp; refine hK _ ?_; clear hK K)
  refine Seg.loud rfl rfl (fun K hK => ?_)
  go_wp2_with fail
  with_reducible refine (cloned123 _ safe _ ((HY.out.mono HB0.out).drew.mono HB1.out) s2 HS4.out).mono ?_
  rintro _ w2 ⟨y1, rfl, ho2, hb2⟩
  have HO2 := Lib.hid ho2
  have HB2 := Lib.hid (HB1.out.trans (hb2.mono HB1.out.size))
  have HO12 := Lib.hid (HO1.out.mono hb2)
  clear ho2 hb2
  refine hK _ _ (fun b o h => HB2.out.cell (p := ⟨b, o, none⟩) h) ?_
  have hh := block_below HB2.out HH0.out hlt0
  have hh1 := block_below HB2.out HH1.out (show w.heap.size + 1 < w0.heap.size by have := HZ0.out; omega)
  have fr := free_all hh
  have fr1 := free_all hh1
  obtain ⟨d0, d1, d2, d3, d4⟩ := cells5 hh
  obtain ⟨e0, e1, e2, e3, e4⟩ := cells5 hh1
  have hlt2 : w.heap.size + 1 < w2.heap.size := (Array.getElem?_eq_some_iff.1 hh1).1
  have HHH := Lib.hid hh
  obtain ⟨us, ⟨xa, xc, rfl, -⟩, -, -⟩ := HO1.out
  obtain ⟨us2, ⟨xa2, xc2, rfl, -⟩, -, -⟩ := HO2.out
  have HH2 := Lib.hid hh1
  clear hh hh1
  clear hK K
  refine Seg.nil ?_
  go_wp2
  refine post_world (fun w' => w'.heap[w.heap.size + 1]? = some (.cells #[.slice xa us.length xc, .slice xa2 us2.length xc2, .int .i64 fuse, .int .i64 ops, .bool dead] 36 (0, 0)) ∧ OwnD w' w.heap.size (.slice xa us.length xc) (.slice xa2 us2.length xc2) now safe ∧ Below w.heap.size w w') ⟨?_, ?_, ?_⟩ ?_
  · exact set5 (other_set (other_set HH2.out (by omega)) (by omega))
  · have h0 : OwnD w2 w0.heap.size (.slice xa us.length xc) (.slice xa2 us2.length xc2) now safe := ⟨_, HB1.out.size, HO12.out, HO1.out.block_lt, HO2.out⟩
    exact (h0.above (((((Above.refl _ _).set hlt0 _).set hlt0 _).set5 (by have := HZ0.out; omega) _ _ _ _ _)) (Nat.le_refl _)).lower (by omega)
  · exact below_set5 (((HB0.out.drew.trans (HB2.out.mono HB0.out.size)).setCell (Nat.le_refl _) _).setCell (Nat.le_refl _) _) (Nat.le_succ _) _ _ _ _ _
  · rintro w9 ⟨hh9, ho9, hb9⟩
    obtain ⟨e0, e1, e2, e3, e4⟩ := cells5 hh9
    exact bodyPost_ret (v := .agg #[.slice xa us.length xc, .slice xa2 us2.length xc2, .int .i64 fuse, .int .i64 ops, .bool dead]) (by simp [results, Tryz.results155, go_sem, e0, e1, e2, e3, e4]) rfl ⟨⟨_, _, rfl, ho9⟩, hb9⟩
end Go.Proofs.YtjkmbbnjiobckaaGreatDoor
