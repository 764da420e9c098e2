/-
  slices.EqualFunc at bytes.Equal: are the slices of bytes the same?
-/
import Derived.Test.YtjkmbbnjiobckaaGreatDoorEqual
namespace Go.Proofs.YtjkmbbnjiobckaaGreatDoor
open Go.RowKit
set_option maxRecDepth 100000 in
set_option maxHeartbeats 1000000 in
theorem equalFunc_any (v y : Value) (ll mm : List (List UInt8)) (w : World) (hl : Slcs w v ll) (hm : Slcs w y mm) (hlen : ll.length ≤ 140737488000000) :
    Calls Tryz.prog 30 #[v, y, .func (.func 31) #[] #[]] w fun e w' => e = .returned (.bool (decide (ll = mm))) ∧ w' = w := by
  have HL := Lib.hid hl
  have HM := Lib.hid hm
  obtain ⟨a, cap, vs, rfl, hr, hvl, _⟩ := hl
  obtain ⟨a2, cap2, vs2, rfl, hr2, hvl2, _⟩ := hm
  have hcl : ll.length ≤ cap := hr.le
  by_cases hne : ll.length = mm.length
  · rw [← hne] at HM ⊢
    have HNE := Lib.hid hne
    clear hr hr2 hvl hvl2 hne
    go_enter Tryz.func30, Tryz.ntmps30
    go_wp2
    go_loop [17] (fun i => ∃ k : Nat, k ≤ ll.length ∧ i = .int .i64 (k : Int) ∧ ll.take k = mm.take k) (fun i => ll.length - (intOf i).toNat)
    case atStart => exact ⟨0, by omega, rfl, rfl⟩
    case round =>
      obtain ⟨k, hk, rfl, ht⟩ := hrel
      have HT := Lib.hid ht
      clear ht
      by_cases hlt : k < ll.length
      · obtain ⟨b, o, a', c', rfl, hc, hrw⟩ := HL.out.get k hlt
        have hlt2 : k < mm.length := by have := HNE.out; omega
        obtain ⟨b2, o2, a2', c2', rfl, hc2, hrw2⟩ := HM.out.get k hlt2
        have E := Lib.hid (equal_any (.slice a' ll[k].length c') (.slice a2' mm[k].length c2') ll[k] mm[k] w ⟨_, _, rfl, hrw⟩ ⟨_, _, rfl, hrw2⟩)
        obtain ⟨x, hx⟩ : ∃ x, x = decide (ll[k] = mm[k]) := ⟨_, rfl⟩
        rw [← hx] at E
        have HX := Lib.hid hx
        clear hx hrw hrw2
        cases x
        · have HF : Hid (decide (ll = mm) = false) := by
            have := HX.out
            simp only [Hid, decide_eq_false_iff_not]
            intro e
            subst e
            simp at this
          go_wp2_with fail
          refine E.out.mono ?_
          rintro _ _ ⟨rfl, rfl⟩
          go_wp2
          go_ret
          exact ⟨by rw [HF.out]; rfl, rfl⟩
        · have HT2 : Hid (ll.take (k + 1) = mm.take (k + 1)) := by
            have hx := HX.out
            have : ll[k] = mm[k] := by simpa using hx.symm
            simp only [Hid]
            rw [List.take_add_one, List.take_add_one, HT.out, List.getElem?_eq_getElem hlt, List.getElem?_eq_getElem hlt2, this]
          go_wp2_with fail
          refine E.out.mono ?_
          rintro _ _ ⟨rfl, rfl⟩
          go_wp2
          go_round
          case rel => exact ⟨k + 1, by omega, by go_num, HT2.out⟩
          case measure => simp [intOf]; omega
      · obtain rfl : k = ll.length := by omega
        have HF : Hid (decide (ll = mm) = true) := by
          have h1 := HT.out
          rw [List.take_length, HNE.out, List.take_length] at h1
          simp only [Hid, decide_eq_true_eq]
          exact h1
        go_wp2
        go_ret
        exact ⟨by rw [HF.out]; rfl, rfl⟩
  · have hb : ((ll.length : Int) != mm.length) = true := by simp; omega
    have HF : Hid (decide (ll = mm) = false) := by
      simp only [Hid, decide_eq_false_iff_not]
      intro e; exact hne (by rw [e])
    clear hr hr2 hvl hvl2 hne
    go_enter Tryz.func30, Tryz.ntmps30
    go_wp2
    go_ret
    exact ⟨by rw [HF.out]; rfl, rfl⟩
end Go.Proofs.YtjkmbbnjiobckaaGreatDoor
