/-
  flagstoneref33.number, flagstoneref32.SameSectors.
-/
import Derived.Test.YtjkmbbnjiobckaaGreatDoorRSectors
import Derived.Test.YtjkmbbnjiobckaaGreatDoorRead
namespace Go.Proofs.YtjkmbbnjiobckaaGreatDoor
open Go.RowKit
def beNat : List UInt8 → Nat → Nat
  | [], x => x
  | c :: cs, x => beNat cs (x * 256 + c.toNat)
set_option maxRecDepth 100000 in
set_option maxHeartbeats 1000000 in
theorem number34_any (b o cap : Nat) (l : List UInt8) (w : World) (hs : Slc w (.slice (some ⟨b, o, none⟩) l.length cap) l) (hl : l.length ≤ 7) :
    Calls Tryz.prog 34 #[.slice (some ⟨b, o, none⟩) l.length cap] w fun e w' => e = .returned (.int .u64 ((beNat l 0 : Nat) : Int)) ∧ w' = w := by
  have hc := hs.row.2
  have HC := Lib.hid hc
  have hcap := hc.le
  clear hs hc
  go_enter Tryz.func34, Tryz.ntmps34
  go_wp2
  go_loop [3, 4] (fun u i => ∃ (x k : Nat), k ≤ l.length ∧ u = .int .u64 (x : Int) ∧ i = .int .i64 (k : Int) ∧ x < 256 ^ k ∧ beNat l 0 = beNat (l.drop k) x) (fun _ i => 20 - (intOf i).toNat)
  case atStart => exact ⟨0, 0, by omega, rfl, rfl, by simp, rfl⟩
  case round =>
    obtain ⟨x, k, hk, rfl, rfl, hx, hgo⟩ := hrel
    have HX := Lib.hid hx
    have HGO := Lib.hid hgo
    clear hgo hx
    by_cases hlt : k < l.length
    · obtain ⟨c, hcc⟩ : ∃ c, c = (l[k]).toNat := ⟨_, rfl⟩
      have hc256 : c < 256 := by rw [hcc]; exact UInt8.toNat_lt _
      have hcell : w.cell? ⟨b, o + k, none⟩ = some (.int .u8 (c : Int)) := by
        obtain ⟨b', o', ha, hc⟩ := HC.out.at' k _ (bytesV_get hlt)
        cases ha
        rw [hcc]; exact hc
      have hx7 : x < 72057594037927936 / 256 := by
        have h1 := HX.out
        have h2 : 256 ^ k ≤ 256 ^ 6 := Nat.pow_le_pow_right (by decide) (by omega)
        omega
      have HG2 : Hid (beNat l 0 = beNat (l.drop (k + 1)) (x * 256 + c)) := by
        have h1 := HGO.out
        rw [List.drop_eq_getElem_cons hlt] at h1
        rw [hcc]; exact h1
      have HX2 : Hid (x * 256 + c < 256 ^ (k + 1)) := by
        have h1 := HX.out
        show x * 256 + c < 256 ^ (k + 1)
        rw [Nat.pow_succ]; omega
      have hor : bits .or .u64 ((x : Int) * 256) (c : Int) = ((x * 256 + c : Nat) : Int) := by
        rw [show (x : Int) * 256 = ((x * 256 : Nat) : Int) by simp, u64_or_nat _ _ (by omega) (by omega), nat_join 8 (x * 256) c (by omega) (by omega)]
      clear hcc
      go_wp2
      go_round
      case rel => exact ⟨x * 256 + c, k + 1, by omega, by go_num, by go_num, HX2.out, HG2.out⟩
      case measure => simp [intOf]; omega
    · obtain rfl : k = l.length := by omega
      have HG2 : Hid (beNat l 0 = x) := by
        have h1 := HGO.out
        rw [List.drop_length] at h1
        exact h1
      go_wp2
      go_ret
      exact ⟨by rw [HG2.out]; rfl, rfl⟩

theorem conv_same {w : World} {a : Option Addr} {n cap : Nat} {l : List UInt8} (h : Row w a n cap (bytesV l)) (hn : l.length = n) : ∀ ws : World, (∀ ad, ws.cell? ad = w.cell? ad) → (convert 22 9 (.slice a n cap)).run Tryz.prog ws = .ok (.string (str l)) ws :=
  fun _ hws => conv_string ⟨h.le, h.most, fun j x hj => let ⟨b, o, ha, hc⟩ := h.at' j x hj; ⟨b, o, ha, (hws _).trans hc⟩⟩ hn
set_option maxRecDepth 100000 in
set_option maxHeartbeats 1000000 in
theorem sameSectors_any (v y : Value) (ll mm : List (List UInt8)) (w : World) (hl : Slcs w v ll) (hm : Slcs w y mm) (hlen : ll.length ≤ 140737488000000) :
    Calls Tryz.prog 35 #[v, y] w fun e w' => e = .returned (.bool (decide (ll = mm))) ∧ Below w.heap.size w w' := by
  have HL := Lib.hid hl
  have HM := Lib.hid hm
  obtain ⟨a, cap, vs, rfl, hr, hvl, _⟩ := hl
  obtain ⟨a2, cap2, vs2, rfl, hr2, hvl2, _⟩ := hm
  have hcl : ll.length ≤ cap := hr.le
  by_cases hne : ll.length = mm.length
  · rw [← hne] at HM ⊢
    have HNE := Lib.hid hne
    clear hr hr2 hvl hvl2 hne
    go_enter Tryz.func35, Tryz.ntmps35
    go_wp2
    go_loopw [5] (fun i wr => ∃ k : Nat, k ≤ ll.length ∧ i = .int .i64 (k : Int) ∧ ll.take k = mm.take k ∧ Below w.heap.size w wr) (fun i _ => ll.length - (intOf i).toNat)
    case atStart => exact ⟨0, by omega, rfl, rfl, Below.refl _ _⟩
    case round =>
      obtain ⟨k, hk, rfl, ht, hb⟩ := hrel
      have HT := Lib.hid ht
      have HB := Lib.hid hb
      clear ht hb
      by_cases hlt : k < ll.length
      · obtain ⟨b, o, a', c', he, hc, hrw⟩ := (HL.out.mono HB.out).get k hlt
        have hlt2 : k < mm.length := by have := HNE.out; omega
        obtain ⟨b2, o2, a2', c2', he2, hc2, hrw2⟩ := (HM.out.mono HB.out).get k hlt2
        cases he
        cases he2
        have q1 := conv_same hrw rfl
        have q2 := conv_same hrw2 rfl
        obtain ⟨x, hx⟩ : ∃ x, x = ll[k] := ⟨_, rfl⟩
        obtain ⟨y, hy⟩ : ∃ y, y = mm[k] := ⟨_, rfl⟩
        rw [← hx] at hc hrw q1
        rw [← hy] at hc2 hrw2 q2
        have HX := Lib.hid hx
        have HY := Lib.hid hy
        clear hx hy hrw hrw2
        by_cases hxy : x = y
        · have hn : (x == y) = true := by simp [hxy]
          have HT2 : Hid (ll.take (k + 1) = mm.take (k + 1)) := by
            have : ll[k] = mm[k] := by rw [← HX.out, ← HY.out]; exact hxy
            simp only [Hid]
            rw [List.take_add_one, List.take_add_one, HT.out, List.getElem?_eq_getElem hlt, List.getElem?_eq_getElem hlt2, this]
          clear hxy
          go_wp2
          refine wp_region_same 11 [0, 1, 2, 3, 4, 5, 6, 7, 8, 9, 10] (by kernel_rfl) (by kernel_rfl) (by intro c a d v w h; cases d <;> exact h) ?_
          simp only [List.filterMap_cons, List.filterMap_nil, List.getElem?_cons_zero, List.getElem?_cons_succ, List.drop_succ_cons, List.drop_zero]
          iterate 11 (refine Seg.takeK rfl rfl (fun K hK => ⟨_, fun ws hws => by go_simp; rfl, ?_⟩); go_simp; refine hK _ ?_; clear hK K)
          refine Seg.nil ?_
          go_wp2
          case roundEnd =>
          refine ⟨?rel, ?measure⟩
          case rel => exact ⟨k + 1, by omega, by go_num, HT2.out, HB.out.drew⟩
          case measure => simp [intOf]; omega
        · have hn : (x == y) = false := by simp [hxy]
          have HF : Hid (decide (ll = mm) = false) := by
            simp only [Hid, decide_eq_false_iff_not]
            intro e
            subst e
            exact hxy (by rw [HX.out, HY.out])
          clear hxy
          go_wp2
          refine wp_region_same 11 [0, 1, 2, 3, 4, 5, 6, 7, 8, 9, 10] (by kernel_rfl) (by kernel_rfl) (by intro c a d v w h; cases d <;> exact h) ?_
          simp only [List.filterMap_cons, List.filterMap_nil, List.getElem?_cons_zero, List.getElem?_cons_succ, List.drop_succ_cons, List.drop_zero]
          iterate 11 (refine Seg.takeK rfl rfl (fun K hK => ⟨_, fun ws hws => by go_simp; rfl, ?_⟩); go_simp; refine hK _ ?_; clear hK K)
          refine Seg.nil ?_
          go_wp2
          go_ret
          exact ⟨by rw [HF.out]; rfl, HB.out.drew⟩
      · obtain rfl : k = ll.length := by omega
        have HF : Hid (decide (ll = mm) = true) := by
          have h1 := HT.out
          rw [List.take_length, HNE.out, List.take_length] at h1
          simp only [Hid, decide_eq_true_eq]
          exact h1
        go_wp2
        go_ret
        exact ⟨by rw [HF.out]; rfl, HB.out⟩
  · have hb : ((ll.length : Int) != mm.length) = true := by simp; omega
    have HF : Hid (decide (ll = mm) = false) := by
      simp only [Hid, decide_eq_false_iff_not]
      intro e; exact hne (by rw [e])
    clear hr hr2 hvl hvl2 hne
    go_enter Tryz.func35, Tryz.ntmps35
    go_wp2
    go_ret
    exact ⟨by rw [HF.out]; rfl, Below.refl _ _⟩
end Go.Proofs.YtjkmbbnjiobckaaGreatDoor
