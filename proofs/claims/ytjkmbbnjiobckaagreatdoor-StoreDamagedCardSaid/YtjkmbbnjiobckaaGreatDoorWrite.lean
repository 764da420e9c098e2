/-
  disk: Write, Flush, Read.
-/
import Derived.Test.YtjkmbbnjiobckaaGreatDoorDone
import Derived.Shelf.Abstract
namespace Go.Proofs.YtjkmbbnjiobckaaGreatDoor
open Go.RowKit
def Dsk.zero : Dsk := ⟨[], [], 0, 0, false⟩
/-- What Write hands back. -/
def Dsk.writeR (d : Dsk) (n : Int) (l : List UInt8) : Dsk × Int :=
  if d.validB = false then (Dsk.zero, 25) else if d.dead then (Dsk.zero, 40) else if n < 0 ∨ (d.now.length : Int) ≤ n then (Dsk.zero, 3) else if l.length ≠ 64 then (Dsk.zero, 15)
  else if d.fuse = 0 then (⟨d.now, d.safe, 0, d.ops, true⟩, 40) else (d.spent (d.now.set n.toNat l) d.safe, 0)
/-- What Flush hands back. -/
def Dsk.flushR (d : Dsk) : Dsk × Int :=
  if d.validB = false then (Dsk.zero, 25) else if d.dead then (Dsk.zero, 40)
  else if d.fuse = 0 then (⟨d.now, d.safe, 0, d.ops, true⟩, 40) else (d.spent d.now d.now, 0)
theorem OwnD.zero (w : World) (base : Nat) : OwnD w base (.slice none 0 0) (.slice none 0 0) [] [] :=
  ⟨base, Nat.le_refl _, OwnSs.nil _ _, by simp [Value.ownBlock], OwnSs.nil _ _⟩
theorem DoneP.zero {w w' : World} {err : Int} (h : Below w.heap.size w w') : DoneP w Dsk.zero err (.returned (.tuple #[.agg #[.slice none 0 0, .slice none 0 0, .int .i64 0, .int .i64 0, .bool false], .int .i64 err])) w' :=
  ⟨⟨_, _, rfl, OwnD.zero _ _⟩, h⟩
theorem valid_rows {ll : List (List UInt8)} (h : wrongIn ll = false) : ∀ l ∈ ll, l.length = 64 := by
  intro l hl
  unfold wrongIn at h
  rw [List.any_eq_false] at h
  simpa using h l hl
theorem Dsk.valid_small {d : Dsk} (h : d.validB = true) : d.small ∧ 0 ≤ d.ops ∧ d.ops ≤ 4611686018427387904 ∧ d.now.length = d.safe.length ∧ d.now.length ≤ 256 ∧ 8 ≤ d.now.length ∧ d.now.length % 2 = 0 ∧ (∀ l ∈ d.now, l.length = 64) ∧ (∀ l ∈ d.safe, l.length = 64) ∧ -1 ≤ d.fuse := by
  unfold Dsk.validB at h
  simp only [Bool.and_eq_true, decide_eq_true_eq, Bool.not_eq_true'] at h
  obtain ⟨⟨⟨⟨⟨⟨h1, h2⟩, h3⟩, h4⟩, h5⟩, h6⟩, h7⟩ := h
  unfold sectorsB at h1
  simp only [Bool.and_eq_true, decide_eq_true_eq] at h1
  have r1 := valid_rows h6
  have r2 := valid_rows h7
  exact ⟨⟨by omega, by omega, fun l hl => by rw [r1 l hl]; decide, fun l hl => by rw [r2 l hl]; decide⟩, h4, h5, by omega, by omega, by omega, by omega, r1, r2, h3⟩
def Dsk.readyV (d : Dsk) : Int := if d.validB then (if d.dead then 40 else 0) else 25
theorem Dsk.readyV_zero {d : Dsk} (h : d.readyV = 0) : d.validB = true ∧ d.dead = false := by
  unfold Dsk.readyV at h
  split at h
  · split at h
    · cases h
    · rename_i h1 h2; exact ⟨h1, by simpa using h2⟩
  · cases h
theorem Dsk.readyV_ne {d : Dsk} (h : d.readyV ≠ 0) (n : Int) (l : List UInt8) : d.writeR n l = (Dsk.zero, d.readyV) ∧ d.flushR = (Dsk.zero, d.readyV) := by
  unfold Dsk.readyV at h ⊢
  unfold Dsk.writeR Dsk.flushR
  cases hv : d.validB
  · simp
  · cases hd : d.dead
    · rw [hv, hd] at h; exact absurd rfl h
    · simp
/-- The result's block q holds a zero disk. -/
def ZeroAt (w : World) (q : Nat) (w' : World) : Prop := w'.heap[q]? = some (.cells #[.slice none 0 0, .slice none 0 0, .int .i64 0, .int .i64 0, .bool false] 36 (0, 0)) ∧ Below w.heap.size w w'
theorem zero_end {w W : World} {q : Nat} {u0 u1 u2 u3 u4 : Value} (hb : Below w.heap.size w W) (hq : w.heap.size ≤ q) (hh : W.heap[q]? = some (.cells #[u0, u1, u2, u3, u4] 36 (0, 0))) :
    ZeroAt w q (((((W.setCell ⟨q, 0, none⟩ (.slice none 0 0)).setCell ⟨q, 1, none⟩ (.slice none 0 0)).setCell ⟨q, 2, none⟩ (.int .i64 0)).setCell ⟨q, 3, none⟩ (.int .i64 0)).setCell ⟨q, 4, none⟩ (.bool false)) :=
  ⟨set5 hh, below_set5 hb hq _ _ _ _ _⟩
set_option maxRecDepth 100000 in
set_option maxHeartbeats 1000000 in
theorem write83_not (v : Value) (ba : Option Addr) (bn bc : Nat) (d : Dsk) (n : Int) (l : List UInt8) (w : World) (h : DskV w v d) (hr : d.readyV ≠ 0) :
    Calls Tryz.prog 83 #[v, .int .i64 n, .slice ba bn bc] w (DoneP w (d.writeR n l).1 (d.writeR n l).2) := by
  rw [(Dsk.readyV_ne hr n l).1]
  have E := fun W (hb : Below w.heap.size w W) => Lib.hid (ready69 v d W (h.mono hb))
  obtain ⟨x, y, rfl, -, -⟩ := h
  change ∀ W, Below w.heap.size w W → Hid (Calls Tryz.prog 69 _ W fun e w' => e = .returned (.int .i64 d.readyV) ∧ Below W.heap.size W w') at E
  have HE := Lib.hid E
  have hne : (d.readyV != 0) = true := by simpa using hr
  obtain ⟨r, hr'⟩ : ∃ r, r = d.readyV := ⟨_, rfl⟩
  rw [← hr'] at HE hne
  simp only [← hr']
  clear hr hr' E
  obtain ⟨now, safe, fuse, ops, dead⟩ := d
  have K4 := Lib.hid (box4 w (.cells #[x, y, .int .i64 fuse, .int .i64 ops, .bool dead] 36) (.cells #[.int .i64 n] 3) (.cells #[.slice ba bn bc] 22) (.cells #[.slice none 0 0, .slice none 0 0, .int .i64 0, .int .i64 0, .bool false] 36))
  go_enter Tryz.func83, Tryz.ntmps83
  go_wp2_with fail
  with_reducible refine ((HE.out _ (box4 w _ _ _ _).1).out).mono ?_
  rintro _ w1 ⟨rfl, hb1⟩
  obtain ⟨k1, -, -, -, k4, k5⟩ := K4.out
  rw [k5] at hb1
  have hh := block_below hb1 k4 (by omega)
  obtain ⟨e0, e1, e2, e3, e4⟩ := cells5 hh
  have fr := free_all hh
  have B1 := Lib.hid (k1.trans (hb1.mono (by omega)))
  have HH := Lib.hid hh
  clear hb1 k1 k4 k5 hh
  go_wp2
  refine post_world (ZeroAt w (w.heap.size + 1 + 1 + 1)) (zero_end B1.out (by omega) HH.out) ?_
  rintro w9 ⟨hh9, hb9⟩
  obtain ⟨e0, e1, e2, e3, e4⟩ := cells5 hh9
  exact bodyPost_ret (v := .tuple #[.agg #[.slice none 0 0, .slice none 0 0, .int .i64 0, .int .i64 0, .bool false], .int .i64 r]) (by simp [results, Tryz.results83, go_sem, e0, e1, e2, e3, e4]) rfl (DoneP.zero hb9)
theorem Dsk.writeR_ready {d : Dsk} (h : d.readyV = 0) (n : Int) (l : List UInt8) : d.writeR n l = if n < 0 ∨ (d.now.length : Int) ≤ n then (Dsk.zero, 3) else if l.length ≠ 64 then (Dsk.zero, 15)
    else if d.fuse = 0 then (⟨d.now, d.safe, 0, d.ops, true⟩, 40) else (d.spent (d.now.set n.toNat l) d.safe, 0) := by
  obtain ⟨h1, h2⟩ := Dsk.readyV_zero h
  unfold Dsk.writeR
  simp [h1, h2]
theorem Dsk.flushR_ready {d : Dsk} (h : d.readyV = 0) : d.flushR = if d.fuse = 0 then (⟨d.now, d.safe, 0, d.ops, true⟩, 40) else (d.spent d.now d.now, 0) := by
  obtain ⟨h1, h2⟩ := Dsk.readyV_zero h
  unfold Dsk.flushR
  simp [h1, h2]
theorem change_write {w : World} {pb pn n : Nat} {b : Value} {l : List UInt8} {now safe : List (List UInt8)} (hb : w.heap[pb]? = some (.cells #[b] 22 (0, 0))) (hn : w.heap[pn]? = some (.cells #[.int .i64 n] 3 (0, 0))) (hl : Slc w b l) (hll : l.length ≤ 140737488000000) (hlt : n < now.length) :
    Change w 121 #[.pointer (some ⟨pb, 0, none⟩), .pointer (some ⟨pn, 0, none⟩)] now safe (now.set n l) safe := by
  intro W p base x y fu op de hW hp ho hbase hbp
  have hpl := (Array.getElem?_eq_some_iff.1 hp).1
  show Calls Tryz.prog 121 #[.pointer (some ⟨p, 0, none⟩), .pointer (some ⟨pb, 0, none⟩), .pointer (some ⟨pn, 0, none⟩)] W _
  with_reducible refine (change121 p pb pn n base x y b fu op de now safe l W hp (block_below hW hb (Array.getElem?_eq_some_iff.1 hb).1) (block_below hW hn (Array.getElem?_eq_some_iff.1 hn).1) ho (hl.mono hW) hll hlt (by omega)).mono ?_
  rintro e W' ⟨rfl, h1, h2, h3⟩
  obtain ⟨m, -, hx, -, -⟩ := ho
  exact ⟨x, y, rfl, h1, (Below.refl base W).grown h2 (by omega) (fun k hk => hx.ge k hk), h3⟩
theorem change_flush {w : World} {now safe : List (List UInt8)} (hlen : now.length ≤ 1000000) (hrow : ∀ l ∈ now, l.length ≤ 140737488000000) : Change w 122 #[] now safe now now := by
  intro W p base x y fu op de hW hp ho hbase hbp
  have hpl := (Array.getElem?_eq_some_iff.1 hp).1
  show Calls Tryz.prog 122 #[.pointer (some ⟨p, 0, none⟩)] W _
  with_reducible refine (change122 p base x y fu op de now safe W hp ho hlen hrow (by omega)).mono ?_
  rintro e W' ⟨y', rfl, h1, h2, h3⟩
  exact ⟨x, y', rfl, h1, (Below.refl base W).grown h2 (by omega) (fun k hk => by cases hk; exact hbp), h3⟩
/-- The result's block q holds a disk of the call's own. -/
def DskAt (w : World) (q : Nat) (x y : Value) (d : Dsk) (w' : World) : Prop := w'.heap[q]? = some (.cells #[x, y, .int .i64 d.fuse, .int .i64 d.ops, .bool d.dead] 36 (0, 0)) ∧ OwnD w' w.heap.size x y d.now d.safe ∧ Below w.heap.size w w'
theorem disk_end {w W : World} {q base : Nat} {x y : Value} {d : Dsk} {u0 u1 u2 u3 u4 : Value} (hb : Below w.heap.size w W) (hq : w.heap.size ≤ q) (hh : W.heap[q]? = some (.cells #[u0, u1, u2, u3, u4] 36 (0, 0))) (ho : OwnD W base x y d.now d.safe) (hqb : q < base) :
    DskAt w q x y d (((((W.setCell ⟨q, 0, none⟩ x).setCell ⟨q, 1, none⟩ y).setCell ⟨q, 2, none⟩ (.int .i64 d.fuse)).setCell ⟨q, 3, none⟩ (.int .i64 d.ops)).setCell ⟨q, 4, none⟩ (.bool d.dead)) :=
  ⟨set5 hh, (ho.above ((Above.refl _ _).set5 hqb _ _ _ _ _) (Nat.le_refl _)).lower (by omega), below_set5 hb hq _ _ _ _ _⟩
set_option maxRecDepth 100000 in
set_option maxHeartbeats 1000000 in
theorem write83_bad (v : Value) (ba : Option Addr) (bc : Nat) (d : Dsk) (n : Int) (l : List UInt8) (w : World) (h : DskV w v d) (hr : d.readyV = 0) (hbad : (n < 0 ∨ (d.now.length : Int) ≤ n) ∨ l.length ≠ 64) :
    Calls Tryz.prog 83 #[v, .int .i64 n, .slice ba l.length bc] w (DoneP w (d.writeR n l).1 (d.writeR n l).2) := by
  rw [Dsk.writeR_ready hr]
  have E := fun W (hb : Below w.heap.size w W) => Lib.hid (ready69 v d W (h.mono hb))
  obtain ⟨x, y, rfl, hx, -⟩ := h
  obtain ⟨xa, xc, xs, rfl, -⟩ := hx
  change ∀ W, Below w.heap.size w W → Hid (Calls Tryz.prog 69 _ W fun e w' => e = .returned (.int .i64 d.readyV) ∧ Below W.heap.size W w') at E
  rw [hr] at E
  have HE := Lib.hid E
  clear E hr
  obtain ⟨now, safe, fuse, ops, dead⟩ := d
  have K4 := Lib.hid (box4 w (.cells #[.slice xa now.length xc, y, .int .i64 fuse, .int .i64 ops, .bool dead] 36) (.cells #[.int .i64 n] 3) (.cells #[.slice ba l.length bc] 22) (.cells #[.slice none 0 0, .slice none 0 0, .int .i64 0, .int .i64 0, .bool false] 36))
  simp only at hbad HE ⊢
  by_cases h1 : n < 0
  · rw [if_pos (.inl h1)]
    clear hbad
    go_enter Tryz.func83, Tryz.ntmps83
    go_wp2_with fail
    with_reducible refine ((HE.out _ (box4 w _ _ _ _).1).out).mono ?_
    rintro _ w1 ⟨rfl, hb1⟩
    obtain ⟨k1, k2, k3, k3', k4, k5⟩ := K4.out
    rw [k5] at hb1
    have hh := block_below hb1 k4 (by omega)
    have hh0 := block_below hb1 k2 (by omega)
    have cn := cells1 (block_below hb1 k3 (by omega))
    have cb := cells1 (block_below hb1 k3' (by omega))
    obtain ⟨e0, e1, e2, e3, e4⟩ := cells5 hh
    obtain ⟨c0, c1, c2, c3, c4⟩ := cells5 hh0
    have fr := free_all hh
    have B1 := Lib.hid (k1.trans (hb1.mono (by omega)))
    have HH := Lib.hid hh
    clear hb1 k1 k2 k3 k3' k4 k5 hh hh0
    go_wp2
    refine post_world (ZeroAt w (w.heap.size + 1 + 1 + 1)) (zero_end B1.out (by omega) HH.out) ?_
    rintro w9 ⟨hh9, hb9⟩
    obtain ⟨e0, e1, e2, e3, e4⟩ := cells5 hh9
    exact bodyPost_ret (v := .tuple #[.agg #[.slice none 0 0, .slice none 0 0, .int .i64 0, .int .i64 0, .bool false], .int .i64 3]) (by simp [results, Tryz.results83, go_sem, e0, e1, e2, e3, e4]) rfl (DoneP.zero hb9)
  · by_cases h2 : (now.length : Int) ≤ n
    · rw [if_pos (.inr h2)]
      clear hbad
      go_enter Tryz.func83, Tryz.ntmps83
      go_wp2_with fail
      with_reducible refine ((HE.out _ (box4 w _ _ _ _).1).out).mono ?_
      rintro _ w1 ⟨rfl, hb1⟩
      obtain ⟨k1, k2, k3, k3', k4, k5⟩ := K4.out
      rw [k5] at hb1
      have hh := block_below hb1 k4 (by omega)
      have hh0 := block_below hb1 k2 (by omega)
      have cn := cells1 (block_below hb1 k3 (by omega))
      have cb := cells1 (block_below hb1 k3' (by omega))
      obtain ⟨e0, e1, e2, e3, e4⟩ := cells5 hh
      obtain ⟨c0, c1, c2, c3, c4⟩ := cells5 hh0
      have fr := free_all hh
      have B1 := Lib.hid (k1.trans (hb1.mono (by omega)))
      have HH := Lib.hid hh
      clear hb1 k1 k2 k3 k3' k4 k5 hh hh0
      go_wp2
      refine post_world (ZeroAt w (w.heap.size + 1 + 1 + 1)) (zero_end B1.out (by omega) HH.out) ?_
      rintro w9 ⟨hh9, hb9⟩
      obtain ⟨e0, e1, e2, e3, e4⟩ := cells5 hh9
      exact bodyPost_ret (v := .tuple #[.agg #[.slice none 0 0, .slice none 0 0, .int .i64 0, .int .i64 0, .bool false], .int .i64 3]) (by simp [results, Tryz.results83, go_sem, e0, e1, e2, e3, e4]) rfl (DoneP.zero hb9)
    · rw [if_neg (by omega), if_pos (by omega)]
      have h3 : ((l.length : Int) != 64) = true := by simp; omega
      clear hbad
      go_enter Tryz.func83, Tryz.ntmps83
      go_wp2_with fail
      with_reducible refine ((HE.out _ (box4 w _ _ _ _).1).out).mono ?_
      rintro _ w1 ⟨rfl, hb1⟩
      obtain ⟨k1, k2, k3, k3', k4, k5⟩ := K4.out
      rw [k5] at hb1
      have hh := block_below hb1 k4 (by omega)
      have hh0 := block_below hb1 k2 (by omega)
      have cn := cells1 (block_below hb1 k3 (by omega))
      have cb := cells1 (block_below hb1 k3' (by omega))
      obtain ⟨e0, e1, e2, e3, e4⟩ := cells5 hh
      obtain ⟨c0, c1, c2, c3, c4⟩ := cells5 hh0
      have fr := free_all hh
      have B1 := Lib.hid (k1.trans (hb1.mono (by omega)))
      have HH := Lib.hid hh
      clear hb1 k1 k2 k3 k3' k4 k5 hh hh0
      go_wp2
      refine post_world (ZeroAt w (w.heap.size + 1 + 1 + 1)) (zero_end B1.out (by omega) HH.out) ?_
      rintro w9 ⟨hh9, hb9⟩
      obtain ⟨e0, e1, e2, e3, e4⟩ := cells5 hh9
      exact bodyPost_ret (v := .tuple #[.agg #[.slice none 0 0, .slice none 0 0, .int .i64 0, .int .i64 0, .bool false], .int .i64 15]) (by simp [results, Tryz.results83, go_sem, e0, e1, e2, e3, e4]) rfl (DoneP.zero hb9)
set_option maxRecDepth 100000 in
set_option maxHeartbeats 1000000 in
theorem write83_good (v b : Value) (d : Dsk) (n : Nat) (l : List UInt8) (w : World) (h : DskV w v d) (hr : d.readyV = 0) (hb : Slc w b l) (hf : d.fuse ≤ 9223372036854775807) (hn : n < d.now.length) (hl : l.length = 64) :
    Calls Tryz.prog 83 #[v, .int .i64 n, b] w (DoneP w (d.writeR n l).1 (d.writeR n l).2) := by
  rw [Dsk.writeR_ready hr, if_neg (by omega), if_neg (by omega)]
  obtain ⟨s1, s2, s3, -⟩ := Dsk.valid_small (Dsk.readyV_zero hr).1
  have E := fun W (hb : Below w.heap.size w W) => Lib.hid (ready69 v d W (h.mono hb))
  have HD := Lib.hid h
  have HB := Lib.hid hb
  obtain ⟨x, y, rfl, hx, -⟩ := h
  obtain ⟨xa, xc, xs, rfl, -⟩ := hx
  obtain ⟨ba, bc, rfl, -⟩ := hb
  rw [hl] at HB ⊢
  change ∀ W, Below w.heap.size w W → Hid (Calls Tryz.prog 69 _ W fun e w' => e = .returned (.int .i64 d.readyV) ∧ Below W.heap.size W w') at E
  rw [hr] at E
  have HE := Lib.hid E
  obtain ⟨R, hR⟩ : ∃ R : Dsk × Int, R = if d.fuse = 0 then (⟨d.now, d.safe, 0, d.ops, true⟩, 40) else (d.spent (d.now.set n l) d.safe, 0) := ⟨_, rfl⟩
  rw [Int.toNat_natCast, ← hR]
  have HR : Hid (∀ w1 e w', (if d.fuse = 0 then DoneP w1 ⟨d.now, d.safe, 0, d.ops, true⟩ 40 e w' else DoneP w1 (d.spent (d.now.set n l) d.safe) 0 e w') → DoneP w1 R.1 R.2 e w') := by
    intro w1 e w' h
    rw [hR]
    split at h <;> rename_i hc
    · rw [if_pos hc]; exact h
    · rw [if_neg hc]; exact h
  have HS1 := Lib.hid s1
  have HLL := Lib.hid hl
  have HEG : Hid (∀ args w, (callFunc 121 args).run Tryz.prog w = .ok (.enter 121 args) w) := enters_of Tryz.func121 (by kernel_rfl) rfl
  clear E hr hR s1 hl
  obtain ⟨now, safe, fuse, ops, dead⟩ := d
  obtain ⟨dR, eR⟩ := R
  have K4 := Lib.hid (box4 w (.cells #[.slice xa now.length xc, y, .int .i64 fuse, .int .i64 ops, .bool dead] 36) (.cells #[.int .i64 n] 3) (.cells #[.slice ba 64 bc] 22) (.cells #[.slice none 0 0, .slice none 0 0, .int .i64 0, .int .i64 0, .bool false] 36))
  simp only at hn hf s2 s3 HE HR ⊢
  go_enter Tryz.func83, Tryz.ntmps83
  go_wp2_with fail
  with_reducible refine ((HE.out _ (box4 w _ _ _ _).1).out).mono ?_
  rintro _ w1 ⟨rfl, hb1⟩
  obtain ⟨k1, k2, k3, k3', k4, k5⟩ := K4.out
  rw [k5] at hb1
  have hh := block_below hb1 k4 (by omega)
  have hh0 := block_below hb1 k2 (by omega)
  have hhn := block_below hb1 k3 (by omega)
  have hhb := block_below hb1 k3' (by omega)
  obtain ⟨e0, e1, e2, e3, e4⟩ := cells5 hh
  obtain ⟨c0, c1, c2, c3, c4⟩ := cells5 hh0
  have cn := cells1 hhn
  have cb := cells1 hhb
  have fr := free_all hh
  have B1 := Lib.hid (k1.trans (hb1.mono (by omega)))
  have HH := Lib.hid hh
  have HC := Lib.hid (change_write (safe := safe) hhb hhn (HB.out.mono B1.out) (by have := HLL.out; omega) hn)
  have hsz : w.heap.size + 1 + 1 + 1 < w1.heap.size := (Array.getElem?_eq_some_iff.1 hh).1
  clear hb1 k1 k2 k3 k3' k4 k5 hh hh0 hhn hhb
  go_wp2_with fail
  with_reducible refine (done120 _ ⟨now, safe, fuse, ops, dead⟩ 121 _ _ _ w1 (HD.out.mono B1.out) HS1.out hf s2 s3 HEG.out HC.out).mono ?_
  rintro e w2 hd
  obtain ⟨⟨x2, y2, rfl, ho2⟩, hb2⟩ := HR.out _ _ _ hd
  have hh2 := block_below hb2 HH.out hsz
  have B2 := Lib.hid (B1.out.trans (hb2.mono B1.out.size))
  have HO2 := Lib.hid ho2
  have HH2 := Lib.hid hh2
  clear hd e0 e1 e2 e3 e4 fr c0 c1 c2 c3 c4 cn cb
  obtain ⟨e0, e1, e2, e3, e4⟩ := cells5 hh2
  have fr := free_all hh2
  obtain ⟨a1, c1, a2, c2, rfl, rfl⟩ := ho2.len
  clear hb2 hh2 ho2
  go_wp2
  refine post_world (DskAt w (w.heap.size + 1 + 1 + 1) (.slice a1 dR.now.length c1) (.slice a2 dR.safe.length c2) dR) (disk_end B2.out (by omega) HH2.out HO2.out hsz) ?_
  rintro w9 ⟨hh9, ho9, hb9⟩
  obtain ⟨e0, e1, e2, e3, e4⟩ := cells5 hh9
  exact bodyPost_ret (v := .tuple #[.agg #[.slice a1 dR.now.length c1, .slice a2 dR.safe.length c2, .int .i64 dR.fuse, .int .i64 dR.ops, .bool dR.dead], .int .i64 eR]) (by simp [results, Tryz.results83, go_sem, e0, e1, e2, e3, e4]) rfl ⟨⟨_, _, rfl, ho9⟩, hb9⟩
end Go.Proofs.YtjkmbbnjiobckaaGreatDoor
