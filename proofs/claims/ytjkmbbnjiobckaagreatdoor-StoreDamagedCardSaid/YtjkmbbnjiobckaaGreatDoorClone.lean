/-
  slices.Clone of bytes; disk.cloned.
-/
import Derived.Test.YtjkmbbnjiobckaaGreatDoorDsk2
import Derived.Laws.MakeOwn
import Derived.Laws.OwnMore
namespace Go.Proofs.YtjkmbbnjiobckaaGreatDoor
open Go.RowKit
theorem eql22 : ∀ (W : World) (a : Option Addr) (n c n' c' : Nat), (binOp .eql 22 (.slice a n c) (.slice none n' c')).run Tryz.prog W = .ok (.bool a.isNone) W := fun W a n c n' c' => Lib.run_eql_slice_nil W _ _ a n c n' c' Tryz.underlying22
set_option maxRecDepth 100000 in
set_option maxHeartbeats 1000000 in
theorem clone70 (v : Value) (l : List UInt8) (w : World) (hs : Slc w v l) (hl : l.length ≤ 140737488000000) : Calls Tryz.prog 70 #[v] w (NewB w l) := by
  have HS := Lib.hid hs
  obtain ⟨a, cap, rfl, hr⟩ := hs
  have HE := @eql22
  cases a with
  | none =>
    have hl0 : l = [] := by
      rcases Nat.eq_zero_or_pos l.length with h | h
      · exact List.length_eq_zero_iff.1 h
      · obtain ⟨b, o, e, _⟩ := hr.addr (by rw [bytesV_length]; exact h)
        cases e
    subst hl0
    clear hr
    go_enter Tryz.func70, Tryz.ntmps70
    go_wp2
    go_ret
    exact ⟨_, rfl, OwnB.nil _ _, Below.refl _ _⟩
  | some ad =>
    clear hr
    go_enter Tryz.func70, Tryz.ntmps70
    go_wp2_with (at_builtin; refine append_bytes rfl rfl rfl rfl (own_lit (cs := #[]) (l := []) rfl rfl (by decide)) (HS.out.alloc _) ?d1 (le_alloc _ _) ?d2)
    case d1 => simpa using (by omega : l.length ≤ 140737488355328)
    case d2 =>
      intro a4 cap4 w4 g1 g2
      have H4 := Lib.hid (OwnB.mk g1 (by simp))
      have B4 := Lib.hid (below_append (B := w.heap.size) ((Below.refl _ _).alloc (Nat.le_refl _) _) g2 (own_lit (w := w) (cs := #[]) (l := []) rfl rfl (by decide)) (le_alloc _ _) (Nat.le_refl _))
      clear g1 g2
      go_wp2
      go_ret
      exact ⟨_, rfl, H4.out, B4.out⟩
theorem make25 (n : Nat) (h : n ≤ 1000000) (W : World) : (Instr.makeSlice 25 (.int .i64 (n : Int)) (.int .i64 (n : Int))).run Tryz.prog W = .ok (.slice (some ⟨W.heap.size, 0, none⟩) n n) (W.alloc (.cells (Array.replicate n (.slice none 0 0)) 22)) := by
  obtain ⟨i0, hi, hz0, hz1, hz2⟩ := info_parts Tryz.info22
  have := run_make (P := Tryz.prog) W 25 22 i0 (.slice none 0 0) Tryz.underlying25 hi hz0 .i64 .i64 n n (by omega) (by omega) (by rw [hz2]; omega) (by omega)
  have h2 : madeCells #[Value.slice none 0 0] n = Array.replicate n (.slice none 0 0) := Array.toList_inj.1 (by rw [Array.toList_replicate]; exact toList_madeCells_one _ n)
  rw [this, hz1, Int.toNat_natCast, Nat.mul_one]
  exact congrArg (fun c => Result.ok _ (W.alloc (.cells c 22))) h2
set_option maxRecDepth 100000 in
set_option maxHeartbeats 2000000 in
theorem cloned123 (v : Value) (ll : List (List UInt8)) (w : World) (hs : Slcs w v ll) (hlen : ll.length ≤ 1000000) (hrow : ∀ l ∈ ll, l.length ≤ 140737488000000) : Calls Tryz.prog 123 #[v] w (NewSs w ll) := by
  have HS := Lib.hid hs
  have HROW := Lib.hid hrow
  obtain ⟨a, cap, vs, rfl, hr, -, -⟩ := hs
  have hlc := hr.le
  have hmk := make25 ll.length hlen
  clear hr hrow
  go_enter Tryz.func123, Tryz.ntmps123
  go_wp2
  go_loopw [11, 4, 5] (fun i _ _ wr => ∃ (k : Nat) (us : List Value), k ≤ ll.length ∧ i = .int .i64 (k : Int) ∧ wr.ownsRow w.heap.size 22 1 (.slice (some ⟨w.heap.size, 0, none⟩) ll.length ll.length) ll.length us ∧ (∀ (j : Nat) (x : Value), j < k → us[j]? = some x → ∃ l, ll[j]? = some l ∧ FrB wr w.heap.size x l) ∧ Below w.heap.size w wr) (fun i _ _ _ => ll.length - (intOf i).toNat)
  case atStart =>
    refine ⟨0, _, by omega, rfl, World.ownsRow_lit w _ ll.length (Nat.le_refl _) (by unfold maxLen; omega) (by simp), fun j x h => by omega, (Below.refl _ _).alloc (Nat.le_refl _) _⟩
  case round =>
    obtain ⟨k, us, hk, rfl, ho, hx, hb⟩ := hrel
    have HO := Lib.hid ho
    have HX := Lib.hid hx
    have HB := Lib.hid hb
    clear ho hx hb hmk
    by_cases hlt : k < ll.length
    · obtain ⟨b, o, a', c', he, hc, hrw⟩ := (HS.out.mono HB.out).get k hlt
      cases he
      have hlt' : (k : Int) < ll.length := by omega
      have E := Lib.hid (clone70 (.slice a' ll[k].length c') ll[k] wr (Slc.mk rfl hrw) (HROW.out _ (List.getElem_mem _)))
      clear hrw
      go_wp2_with fail
      with_reducible refine E.out.mono ?_
      rintro _ w2 ⟨x, rfl, hox, hb2⟩
      have HO2 := Lib.hid (ownsRow_below HO.out hb2)
      have HOX := Lib.hid (hox.fr.lower HB.out.size)
      have HB2 := Lib.hid (HB.out.trans (hb2.mono HB.out.size))
      have HX2 : Hid (∀ (j : Nat) (x : Value), j < k → us[j]? = some x → ∃ l, ll[j]? = some l ∧ FrB w2 w.heap.size x l) := fun j x hj hjx => by
        obtain ⟨l, h1, h2⟩ := HX.out j x hj hjx
        exact ⟨l, h1, h2.mono hb2⟩
      have hul : us.length = ll.length := by have := HO.out.1; omega
      have hcell : w2.cell? ⟨w.heap.size, k, none⟩ = some us[k] := by
        rw [HO2.out.cellAt k (by omega), List.getElem?_eq_getElem]
      have hfr := HO2.out.frozenAt k
      have HST := Lib.hid (HO2.out.stored k x)
      have HVS : Hid (OwnVs w2 w.heap.size (.slice (some ⟨w.heap.size, 0, none⟩) ll.length ll.length) us) := OwnVs.mk HO2.out hul
      obtain ⟨xa, xc, rfl, -⟩ := hox
      clear hb2
      go_wp2
      go_roundw
      case rel =>
        refine ⟨k + 1, us.set k _, by omega, by go_num, HST.out.1, ?_, HB2.out.setCell (Nat.le_refl _) _⟩
        intro j y hj hy
        by_cases hjk : j = k
        · subst hjk
          rw [List.getElem?_set_self (by omega)] at hy
          cases hy
          exact ⟨ll[j], List.getElem?_eq_getElem hlt, HOX.out.kept HVS.out HST.out.2⟩
        · rw [List.getElem?_set_ne (Ne.symm hjk)] at hy
          obtain ⟨l, h1, h2⟩ := HX2.out j y (by omega) hy
          exact ⟨l, h1, h2.kept HVS.out HST.out.2⟩
      case measure => simp [intOf]; omega
    · obtain rfl : k = ll.length := by omega
      have hul : us.length = ll.length := by have := HO.out.1; omega
      go_wp2
      go_ret
      refine ⟨_, rfl, ⟨us, OwnVs.mk HO.out hul, hul, fun i x hi => HX.out i x ?_ hi⟩, HB.out⟩
      have := (List.getElem?_eq_some_iff.1 hi).1
      omega
end Go.Proofs.YtjkmbbnjiobckaaGreatDoor
