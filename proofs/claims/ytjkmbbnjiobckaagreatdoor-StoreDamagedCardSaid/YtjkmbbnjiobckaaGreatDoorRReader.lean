/-
  flagstoneref4: New, Fail, Number (at a new reader).
-/
import Derived.Test.YtjkmbbnjiobckaaGreatDoorRNum
import Derived.Test.YtjkmbbnjiobckaaGreatDoorReader2
namespace Go.Proofs.YtjkmbbnjiobckaaGreatDoor
open Go.RowKit
def R4 (w : World) (p : Nat) (x : Value) (pos err : Int) : Prop := w.heap[p]? = some (.cells #[x, .int .i64 pos, .int .i64 err] 68 (0, 0))
theorem R4.setPos {w : World} {p : Nat} {x : Value} {pos err : Int} (h : R4 w p x pos err) (e : Int) : R4 (w.setCell ⟨p, 1, none⟩ (.int .i64 e)) p x e err := block_set' h rfl
theorem R4.setErr {w : World} {p : Nat} {x : Value} {pos err : Int} (h : R4 w p x pos err) (e : Int) : R4 (w.setCell ⟨p, 2, none⟩ (.int .i64 e)) p x pos e := block_set' h rfl
theorem cell_heap {w w' : World} (h : w'.heap = w.heap) (b o : Nat) : w'.cell? ⟨b, o, none⟩ = w.cell? ⟨b, o, none⟩ := by
  unfold World.cell?; rw [h]
set_option maxRecDepth 100000 in
set_option maxHeartbeats 1000000 in
theorem rnew_any (a : Option Addr) (n cap : Nat) (w : World) :
    Calls Tryz.prog 32 #[.slice a n cap] w fun e w' => e = .returned (.pointer (some ⟨w.heap.size, 0, none⟩)) ∧ R4 w' w.heap.size (.slice a n cap) 0 0 ∧ Below w.heap.size w w' := by
  go_enter Tryz.func32, Tryz.ntmps32
  go_wp2
  go_ret
  exact ⟨rfl, heap_alloc_new _ _, (Below.refl _ _).alloc (Nat.le_refl _) _⟩
set_option maxRecDepth 100000 in
set_option maxHeartbeats 1000000 in
theorem rfail_any (p : Nat) (x : Value) (pos e0 : Int) (w : World) (h : R4 w p x pos 0) :
    Calls Tryz.prog 68 #[.pointer (some ⟨p, 0, none⟩), .int .i64 e0] w fun e w' => e = .returned (.tuple #[]) ∧ R4 w' p x pos e0 ∧ w.grownBy w' (some p) := by
  have H := Lib.hid h
  obtain ⟨c0, c1, c2⟩ := cells3 h
  have fr := free_all h
  clear h
  go_enter Tryz.func68, Tryz.ntmps68
  go_wp2
  go_end0
  exact ⟨rfl, H.out.setErr e0, grown_set (grown_refl w _) _⟩
/-- Where the reader stands behind a number. -/
def r4pos (l : List UInt8) : Int := if (numGo l 0 0).2.1 = 0 then ((l.length - (numGo l 0 0).2.2.length : Nat) : Int) else 0
theorem unzig_even (u : Nat) (h : u < 18446744073709551616) (h2 : u % 2 = 0) : wrap64 ((u : Int) / 2) = Lib.unzigzag u := by
  unfold Lib.unzigzag wrap64
  rw [if_pos h2]; omega
theorem unzig_odd (u : Nat) (h : u < 18446744073709551616) (h2 : u % 2 = 1) : wrap64 (bits .xor .u64 IntKind.u64.max ((u : Int) / 2)) = Lib.unzigzag u := by
  rw [show (u : Int) / 2 = ((u / 2 : Nat) : Int) by omega, show IntKind.u64.max = ((2 ^ 64 - 1 : Nat) : Int) from rfl, u64_xor_nat _ _ (by omega) (by omega), Lib.xor_ones64 _ (by omega)]
  unfold Lib.unzigzag wrap64
  rw [if_neg (by omega)]; omega
set_option maxRecDepth 100000 in
set_option maxHeartbeats 4000000 in
theorem rnumber_go (p b o cap : Nat) (l : List UInt8) (w : World) (hp : R4 w p (.slice (some ⟨b, o, none⟩) l.length cap) 0 0) (hs : Slc w (.slice (some ⟨b, o, none⟩) l.length cap) l) (hl : l.length ≤ 140737488000000) :
    Calls Tryz.prog 33 #[.pointer (some ⟨p, 0, none⟩)] w fun e w' => e = .returned (.int .i64 (numGo l 0 0).1) ∧ R4 w' p (.slice (some ⟨b, o, none⟩) l.length cap) (r4pos l) (numGo l 0 0).2.1 ∧ w.grownBy w' (some p) := by
  have HP := Lib.hid hp
  have hc := hs.row.2
  have HC := Lib.hid hc
  have hcap := hc.le
  clear hp hs hc
  go_enter Tryz.func33, Tryz.ntmps33
  go_wp2
  go_loopw [3, 4] (fun u i wr => ∃ (x k : Nat), k ≤ l.length ∧ k ≤ 9 ∧ u = .int .u64 (x : Int) ∧ i = .int .i64 (k : Int) ∧ x < 2 ^ (7 * k) ∧ numGo l 0 0 = numGo (l.drop k) k x ∧ wr.heap = w.heap ∧ w.grownBy wr (some p)) (fun _ i _ => 20 - (intOf i).toNat)
  case atStart => exact ⟨0, 0, by omega, by omega, rfl, rfl, by simp, rfl, rfl, grown_refl _ _⟩
  case round =>
    obtain ⟨x, k, hk, hk9, rfl, rfl, hx, hgo, hh, hg⟩ := hrel
    have HX := Lib.hid hx
    have HH := Lib.hid hh
    have HG := Lib.hid hg
    have hpr : R4 wr p (.slice (some ⟨b, o, none⟩) l.length cap) 0 0 := by unfold R4; rw [hh]; exact HP.out
    have HPR := Lib.hid hpr
    obtain ⟨c0, c1, c2⟩ := cells3 hpr
    have fr := free_all hpr
    clear hh hg hpr
    have q1 : IntKind.i64.wrap (k : Int) = (k : Int) := IntWalk.i64_in _ (by omega)
    by_cases hlt : k < l.length
    · have hlt' : (k : Int) < l.length := by omega
      obtain ⟨c, hcc⟩ : ∃ c, c = (l[k]).toNat := ⟨_, rfl⟩
      have hcell : wr.cell? ⟨b, o + k, none⟩ = some (.int .u8 (c : Int)) := by
        obtain ⟨b', o', ha, hc⟩ := HC.out.at' k _ (bytesV_get hlt)
        cases ha
        rw [cell_heap HH.out, hcc]; exact hc
      have hclt : c < 256 := by rw [hcc]; exact l[k].toNat_lt
      rw [List.drop_eq_getElem_cons hlt, numGo, ← hcc] at hgo
      have lb : decide ((l.length : Int) ≤ (k : Int)) = false := by simp; omega
      by_cases hA : k = 9 ∧ 1 < c
      · rw [if_pos hA] at hgo
        have HGO := Lib.hid hgo
        have kb : ((k : Int) == 9) = true := by simp; omega
        obtain ⟨hA1, hA2⟩ := hA
        clear hgo hcc hx hA1
        go_wp2
        refine wp_region_same 12 [0, 1, 2, 3, 4, 5, 6, 7, 8, 9, 10, 11] (by kernel_rfl) (by kernel_rfl) (by intro c a d v w h; cases d <;> exact h) ?_
        simp only [List.filterMap_cons, List.filterMap_nil, List.getElem?_cons_zero, List.getElem?_cons_succ, List.drop_succ_cons, List.drop_zero]
        iterate 12 (refine Seg.takeK rfl rfl (fun K hK => ⟨_, fun ws hws => by go_simp; rfl, ?_⟩); go_simp; refine hK _ ?_; clear hK K)
        refine Seg.nil ?_
        go_wp2
        refine wp_region_same 13 [0, 1, 2, 3, 4, 5, 6, 7, 8, 9, 10, 11, 12] (by kernel_rfl) (by kernel_rfl) (by intro c a d v w h; cases d <;> exact h) ?_
        simp only [List.filterMap_cons, List.filterMap_nil, List.getElem?_cons_zero, List.getElem?_cons_succ, List.drop_succ_cons, List.drop_zero]
        iterate 13 (refine Seg.takeK rfl rfl (fun K hK => ⟨_, fun ws hws => by go_simp; rfl, ?_⟩); go_simp; refine hK _ ?_; clear hK K)
        refine Seg.nil ?_
        go_wp2_with fail
        refine (rfail_any p (.slice (some ⟨b, o, none⟩) l.length cap) 0 3 wr.drew.drew HPR.out).mono ?_
        rintro _ w2 ⟨rfl, hr2, hg2⟩
        have HR2 := Lib.hid hr2
        have HG2 := Lib.hid hg2
        clear hr2 hg2
        go_wp2
        go_ret
        refine ⟨by rw [HGO.out]; rfl, ?_, grown_trans (grown_drew (grown_drew HG.out)) HG2.out⟩
        rw [show r4pos l = 0 by simp [r4pos, HGO.out], HGO.out]
        exact HR2.out
      · rw [if_neg hA] at hgo
        obtain ⟨m, hm⟩ : ∃ m, m = c % 128 := ⟨_, rfl⟩
        obtain ⟨y, hy⟩ : ∃ y, y = m * 2 ^ (7 * k) := ⟨_, rfl⟩
        obtain ⟨x2, hx2⟩ : ∃ x2, x2 = x + y := ⟨_, rfl⟩
        have hm1 : m < 128 := by omega
        have hylt : y < 18446744073709551616 := by
          rw [hy]; exact mul_lt_pow m k hk9 hm1 (fun h9 => by omega)
        have hx2lt : x2 < 2 ^ (7 * (k + 1)) := by rw [hx2, hy]; exact step_lt x m k hx hm1
        have b1 : bits .and .u8 (c : Int) 127 = (m : Int) := by
          rw [u8_and127 (x := (c : Int)) (by omega) (by omega), hm]; omega
        have b0 : IntKind.u64.wrap (m : Int) = (m : Int) := by rw [IntKind.wrap_u64]; omega
        have b2 : IntKind.u64.wrap ((m : Int) * 2 ^ (7 * k)) = (y : Int) := by
          rw [IntKind.wrap_u64, show (m : Int) * 2 ^ (7 * k) = (y : Int) by rw [hy]; simp]; omega
        have hxlt : x < 18446744073709551616 := Nat.lt_of_lt_of_le hx (Nat.le_trans (Nat.pow_le_pow_right (by decide) (show 7 * k ≤ 63 by omega)) (by decide))
        have b3 : bits .or .u64 (x : Int) (y : Int) = (x2 : Int) := by
          rw [u64_or_nat x y hxlt hylt, hx2, hy, or_high x m k hx]
        have hx2u : x2 < 18446744073709551616 := by
          rcases Nat.lt_or_ge k 9 with h | h
          · exact Nat.lt_of_lt_of_le hx2lt (Nat.le_trans (Nat.pow_le_pow_right (by decide) (show 7 * (k + 1) ≤ 63 by omega)) (by decide))
          · have hk' : k = 9 := by omega
            have h1 : m ≤ 1 := by omega
            have h2 : y ≤ 1 * 2 ^ 63 := by rw [hy, hk']; exact Nat.mul_le_mul h1 (Nat.le_refl _)
            have h3 : x < 2 ^ 63 := by rw [hk'] at hx; exact hx
            omega
        rw [← hm, ← hy, ← hx2] at hgo
        have HX2 := Lib.hid hx2lt
        by_cases hB : 128 ≤ c
        · rw [if_pos hB] at hgo
          have HGO := Lib.hid hgo
          have hk8 : k ≤ 8 := by omega
          have kb : ((k : Int) == 9) = false := by simp; omega
          clear hgo hcc hx hm hy hx2 hylt hx2lt hxlt hx2u hA
          go_wp2
          refine wp_region_same 12 [0, 1, 2, 3, 4, 5, 6, 7, 8, 9, 10, 11] (by kernel_rfl) (by kernel_rfl) (by intro c a d v w h; cases d <;> exact h) ?_
          simp only [List.filterMap_cons, List.filterMap_nil, List.getElem?_cons_zero, List.getElem?_cons_succ, List.drop_succ_cons, List.drop_zero]
          iterate 12 (refine Seg.takeK rfl rfl (fun K hK => ⟨_, fun ws hws => by go_simp; rfl, ?_⟩); go_simp; refine hK _ ?_; clear hK K)
          refine Seg.nil ?_
          go_wp2
          refine wp_region_same 13 [0, 1, 2, 3, 4, 5, 6, 7, 8, 9, 10, 11, 12] (by kernel_rfl) (by kernel_rfl) (by intro c a d v w h; cases d <;> exact h) ?_
          simp only [List.filterMap_cons, List.filterMap_nil, List.getElem?_cons_zero, List.getElem?_cons_succ, List.drop_succ_cons, List.drop_zero]
          iterate 13 (refine Seg.takeK rfl rfl (fun K hK => ⟨_, fun ws hws => by go_simp; rfl, ?_⟩); go_simp; refine hK _ ?_; clear hK K)
          refine Seg.nil ?_
          go_wp2
          go_roundw
          case rel => exact ⟨x2, k + 1, by omega, by omega, rfl, by go_num, HX2.out, HGO.out, HH.out, grown_drew (grown_drew HG.out)⟩
          case measure => simp [intOf]; omega
        · rw [if_neg hB] at hgo
          by_cases hC : c = 0 ∧ 0 < k
          · rw [if_pos hC] at hgo
            have HGO := Lib.hid hgo
            obtain ⟨hC1, hC2⟩ := hC
            have cb : ((c : Int) == 0) = true := by simp; omega
            have hc1 : c ≤ 1 := by omega
            clear hgo hcc hx hm hy hx2 hylt hx2lt hxlt hx2u hA hC1
            by_cases hk9' : k = 9
            · have kb : ((k : Int) == 9) = true := by simp; omega
              clear hk9'
              go_wp2
              refine wp_region_same 12 [0, 1, 2, 3, 4, 5, 6, 7, 8, 9, 10, 11] (by kernel_rfl) (by kernel_rfl) (by intro c a d v w h; cases d <;> exact h) ?_
              simp only [List.filterMap_cons, List.filterMap_nil, List.getElem?_cons_zero, List.getElem?_cons_succ, List.drop_succ_cons, List.drop_zero]
              iterate 12 (refine Seg.takeK rfl rfl (fun K hK => ⟨_, fun ws hws => by go_simp; rfl, ?_⟩); go_simp; refine hK _ ?_; clear hK K)
              refine Seg.nil ?_
              go_wp2
              refine wp_region_same 13 [0, 1, 2, 3, 4, 5, 6, 7, 8, 9, 10, 11, 12] (by kernel_rfl) (by kernel_rfl) (by intro c a d v w h; cases d <;> exact h) ?_
              simp only [List.filterMap_cons, List.filterMap_nil, List.getElem?_cons_zero, List.getElem?_cons_succ, List.drop_succ_cons, List.drop_zero]
              iterate 13 (refine Seg.takeK rfl rfl (fun K hK => ⟨_, fun ws hws => by go_simp; rfl, ?_⟩); go_simp; refine hK _ ?_; clear hK K)
              refine Seg.nil ?_
              go_wp2_with fail
              refine (rfail_any p (.slice (some ⟨b, o, none⟩) l.length cap) 0 1 wr.drew.drew HPR.out).mono ?_
              rintro _ w2 ⟨rfl, hr2, hg2⟩
              have HR2 := Lib.hid hr2
              have HG2 := Lib.hid hg2
              clear hr2 hg2
              go_wp2
              go_ret
              refine ⟨by rw [HGO.out]; rfl, ?_, grown_trans (grown_drew (grown_drew HG.out)) HG2.out⟩
              rw [show r4pos l = 0 by simp [r4pos, HGO.out], HGO.out]
              exact HR2.out
            · have kb : ((k : Int) == 9) = false := by simp; omega
              go_wp2
              refine wp_region_same 12 [0, 1, 2, 3, 4, 5, 6, 7, 8, 9, 10, 11] (by kernel_rfl) (by kernel_rfl) (by intro c a d v w h; cases d <;> exact h) ?_
              simp only [List.filterMap_cons, List.filterMap_nil, List.getElem?_cons_zero, List.getElem?_cons_succ, List.drop_succ_cons, List.drop_zero]
              iterate 12 (refine Seg.takeK rfl rfl (fun K hK => ⟨_, fun ws hws => by go_simp; rfl, ?_⟩); go_simp; refine hK _ ?_; clear hK K)
              refine Seg.nil ?_
              go_wp2
              refine wp_region_same 13 [0, 1, 2, 3, 4, 5, 6, 7, 8, 9, 10, 11, 12] (by kernel_rfl) (by kernel_rfl) (by intro c a d v w h; cases d <;> exact h) ?_
              simp only [List.filterMap_cons, List.filterMap_nil, List.getElem?_cons_zero, List.getElem?_cons_succ, List.drop_succ_cons, List.drop_zero]
              iterate 13 (refine Seg.takeK rfl rfl (fun K hK => ⟨_, fun ws hws => by go_simp; rfl, ?_⟩); go_simp; refine hK _ ?_; clear hK K)
              refine Seg.nil ?_
              go_wp2_with fail
              refine (rfail_any p (.slice (some ⟨b, o, none⟩) l.length cap) 0 1 wr.drew.drew HPR.out).mono ?_
              rintro _ w2 ⟨rfl, hr2, hg2⟩
              have HR2 := Lib.hid hr2
              have HG2 := Lib.hid hg2
              clear hr2 hg2
              go_wp2
              go_ret
              refine ⟨by rw [HGO.out]; rfl, ?_, grown_trans (grown_drew (grown_drew HG.out)) HG2.out⟩
              rw [show r4pos l = 0 by simp [r4pos, HGO.out], HGO.out]
              exact HR2.out
          · rw [if_neg hC] at hgo
            have HGO := Lib.hid hgo
            have b4 : bits .and .u64 (x2 : Int) 1 = ((x2 % 2 : Nat) : Int) := by rw [Lib.u64_and1 _ (by omega) (by omega)]; omega
            have hpar : x2 % 2 = 0 ∨ x2 % 2 = 1 := by omega
            have q2 : IntKind.i64.wrap ((k : Int) + 1) = (k : Int) + 1 := IntWalk.i64_in _ (by omega)
            have HZ0 := Lib.hid (unzig_even x2 hx2u)
            have HZ1 := Lib.hid (unzig_odd x2 hx2u)
            have HPOS : Hid (r4pos l = (k : Int) + 1) := by
              simp only [Hid, r4pos, HGO.out, if_pos, List.length_drop]; omega
            have HE : Hid ((numGo l 0 0).2.1 = 0) := by rw [HGO.out]; rfl
            have hD : (c = 0 ∧ k = 0) ∨ (¬ c = 0 ∧ k = 9 ∧ c ≤ 1) ∨ (¬ c = 0 ∧ ¬ k = 9) := by omega
            clear hgo hcc hx hm hy hx2 hylt hx2lt hxlt hx2u hA hC
            rcases hD with ⟨e1, e2⟩ | ⟨e1, e2, e3⟩ | ⟨e1, e2⟩
            · have cb : ((c : Int) == 0) = true := by simp; omega
              have kb : ((k : Int) == 9) = false := by simp; omega
              have kz : ¬ (0 < (k : Int)) := by omega
              clear e1 e2
              rcases hpar with hp | hp
              · have p0 : ((x2 % 2 : Nat) : Int) = 0 := by omega
                have HZ := Lib.hid (HZ0.out hp)
                clear hp
                go_wp2
                refine wp_region_same 12 [0, 1, 2, 3, 4, 5, 6, 7, 8, 9, 10, 11] (by kernel_rfl) (by kernel_rfl) (by intro c a d v w h; cases d <;> exact h) ?_
                simp only [List.filterMap_cons, List.filterMap_nil, List.getElem?_cons_zero, List.getElem?_cons_succ, List.drop_succ_cons, List.drop_zero]
                iterate 12 (refine Seg.takeK rfl rfl (fun K hK => ⟨_, fun ws hws => by go_simp; rfl, ?_⟩); go_simp; refine hK _ ?_; clear hK K)
                refine Seg.nil ?_
                go_wp2
                refine wp_region_same 13 [0, 1, 2, 3, 4, 5, 6, 7, 8, 9, 10, 11, 12] (by kernel_rfl) (by kernel_rfl) (by intro c a d v w h; cases d <;> exact h) ?_
                simp only [List.filterMap_cons, List.filterMap_nil, List.getElem?_cons_zero, List.getElem?_cons_succ, List.drop_succ_cons, List.drop_zero]
                iterate 13 (refine Seg.takeK rfl rfl (fun K hK => ⟨_, fun ws hws => by go_simp; rfl, ?_⟩); go_simp; refine hK _ ?_; clear hK K)
                refine Seg.nil ?_
                go_wp2
                go_ret
                exact ⟨ret_i64 (HZ.out.trans (by rw [HGO.out])), by rw [HPOS.out, HE.out]; exact R4.setPos (w := wr.drew.drew) HPR.out _, grown_set (grown_drew (grown_drew HG.out)) _⟩
              · have p1 : ((x2 % 2 : Nat) : Int) = 1 := by omega
                have HZ := Lib.hid (HZ1.out hp)
                clear hp
                go_wp2
                refine wp_region_same 12 [0, 1, 2, 3, 4, 5, 6, 7, 8, 9, 10, 11] (by kernel_rfl) (by kernel_rfl) (by intro c a d v w h; cases d <;> exact h) ?_
                simp only [List.filterMap_cons, List.filterMap_nil, List.getElem?_cons_zero, List.getElem?_cons_succ, List.drop_succ_cons, List.drop_zero]
                iterate 12 (refine Seg.takeK rfl rfl (fun K hK => ⟨_, fun ws hws => by go_simp; rfl, ?_⟩); go_simp; refine hK _ ?_; clear hK K)
                refine Seg.nil ?_
                go_wp2
                refine wp_region_same 13 [0, 1, 2, 3, 4, 5, 6, 7, 8, 9, 10, 11, 12] (by kernel_rfl) (by kernel_rfl) (by intro c a d v w h; cases d <;> exact h) ?_
                simp only [List.filterMap_cons, List.filterMap_nil, List.getElem?_cons_zero, List.getElem?_cons_succ, List.drop_succ_cons, List.drop_zero]
                iterate 13 (refine Seg.takeK rfl rfl (fun K hK => ⟨_, fun ws hws => by go_simp; rfl, ?_⟩); go_simp; refine hK _ ?_; clear hK K)
                refine Seg.nil ?_
                go_wp2
                go_ret
                exact ⟨ret_i64 (HZ.out.trans (by rw [HGO.out])), by rw [HPOS.out, HE.out]; exact R4.setPos (w := wr.drew.drew) HPR.out _, grown_set (grown_drew (grown_drew HG.out)) _⟩
            · have cb : ((c : Int) == 0) = false := by simp; omega
              have kb : ((k : Int) == 9) = true := by simp; omega
              clear e1 e2
              rcases hpar with hp | hp
              · have p0 : ((x2 % 2 : Nat) : Int) = 0 := by omega
                have HZ := Lib.hid (HZ0.out hp)
                clear hp
                go_wp2
                refine wp_region_same 12 [0, 1, 2, 3, 4, 5, 6, 7, 8, 9, 10, 11] (by kernel_rfl) (by kernel_rfl) (by intro c a d v w h; cases d <;> exact h) ?_
                simp only [List.filterMap_cons, List.filterMap_nil, List.getElem?_cons_zero, List.getElem?_cons_succ, List.drop_succ_cons, List.drop_zero]
                iterate 12 (refine Seg.takeK rfl rfl (fun K hK => ⟨_, fun ws hws => by go_simp; rfl, ?_⟩); go_simp; refine hK _ ?_; clear hK K)
                refine Seg.nil ?_
                go_wp2
                refine wp_region_same 13 [0, 1, 2, 3, 4, 5, 6, 7, 8, 9, 10, 11, 12] (by kernel_rfl) (by kernel_rfl) (by intro c a d v w h; cases d <;> exact h) ?_
                simp only [List.filterMap_cons, List.filterMap_nil, List.getElem?_cons_zero, List.getElem?_cons_succ, List.drop_succ_cons, List.drop_zero]
                iterate 13 (refine Seg.takeK rfl rfl (fun K hK => ⟨_, fun ws hws => by go_simp; rfl, ?_⟩); go_simp; refine hK _ ?_; clear hK K)
                refine Seg.nil ?_
                go_wp2
                go_ret
                exact ⟨ret_i64 (HZ.out.trans (by rw [HGO.out])), by rw [HPOS.out, HE.out]; exact R4.setPos (w := wr.drew.drew) HPR.out _, grown_set (grown_drew (grown_drew HG.out)) _⟩
              · have p1 : ((x2 % 2 : Nat) : Int) = 1 := by omega
                have HZ := Lib.hid (HZ1.out hp)
                clear hp
                go_wp2
                refine wp_region_same 12 [0, 1, 2, 3, 4, 5, 6, 7, 8, 9, 10, 11] (by kernel_rfl) (by kernel_rfl) (by intro c a d v w h; cases d <;> exact h) ?_
                simp only [List.filterMap_cons, List.filterMap_nil, List.getElem?_cons_zero, List.getElem?_cons_succ, List.drop_succ_cons, List.drop_zero]
                iterate 12 (refine Seg.takeK rfl rfl (fun K hK => ⟨_, fun ws hws => by go_simp; rfl, ?_⟩); go_simp; refine hK _ ?_; clear hK K)
                refine Seg.nil ?_
                go_wp2
                refine wp_region_same 13 [0, 1, 2, 3, 4, 5, 6, 7, 8, 9, 10, 11, 12] (by kernel_rfl) (by kernel_rfl) (by intro c a d v w h; cases d <;> exact h) ?_
                simp only [List.filterMap_cons, List.filterMap_nil, List.getElem?_cons_zero, List.getElem?_cons_succ, List.drop_succ_cons, List.drop_zero]
                iterate 13 (refine Seg.takeK rfl rfl (fun K hK => ⟨_, fun ws hws => by go_simp; rfl, ?_⟩); go_simp; refine hK _ ?_; clear hK K)
                refine Seg.nil ?_
                go_wp2
                go_ret
                exact ⟨ret_i64 (HZ.out.trans (by rw [HGO.out])), by rw [HPOS.out, HE.out]; exact R4.setPos (w := wr.drew.drew) HPR.out _, grown_set (grown_drew (grown_drew HG.out)) _⟩
            · have cb : ((c : Int) == 0) = false := by simp; omega
              have kb : ((k : Int) == 9) = false := by simp; omega
              clear e1 e2
              rcases hpar with hp | hp
              · have p0 : ((x2 % 2 : Nat) : Int) = 0 := by omega
                have HZ := Lib.hid (HZ0.out hp)
                clear hp
                go_wp2
                refine wp_region_same 12 [0, 1, 2, 3, 4, 5, 6, 7, 8, 9, 10, 11] (by kernel_rfl) (by kernel_rfl) (by intro c a d v w h; cases d <;> exact h) ?_
                simp only [List.filterMap_cons, List.filterMap_nil, List.getElem?_cons_zero, List.getElem?_cons_succ, List.drop_succ_cons, List.drop_zero]
                iterate 12 (refine Seg.takeK rfl rfl (fun K hK => ⟨_, fun ws hws => by go_simp; rfl, ?_⟩); go_simp; refine hK _ ?_; clear hK K)
                refine Seg.nil ?_
                go_wp2
                refine wp_region_same 13 [0, 1, 2, 3, 4, 5, 6, 7, 8, 9, 10, 11, 12] (by kernel_rfl) (by kernel_rfl) (by intro c a d v w h; cases d <;> exact h) ?_
                simp only [List.filterMap_cons, List.filterMap_nil, List.getElem?_cons_zero, List.getElem?_cons_succ, List.drop_succ_cons, List.drop_zero]
                iterate 13 (refine Seg.takeK rfl rfl (fun K hK => ⟨_, fun ws hws => by go_simp; rfl, ?_⟩); go_simp; refine hK _ ?_; clear hK K)
                refine Seg.nil ?_
                go_wp2
                go_ret
                exact ⟨ret_i64 (HZ.out.trans (by rw [HGO.out])), by rw [HPOS.out, HE.out]; exact R4.setPos (w := wr.drew.drew) HPR.out _, grown_set (grown_drew (grown_drew HG.out)) _⟩
              · have p1 : ((x2 % 2 : Nat) : Int) = 1 := by omega
                have HZ := Lib.hid (HZ1.out hp)
                clear hp
                go_wp2
                refine wp_region_same 12 [0, 1, 2, 3, 4, 5, 6, 7, 8, 9, 10, 11] (by kernel_rfl) (by kernel_rfl) (by intro c a d v w h; cases d <;> exact h) ?_
                simp only [List.filterMap_cons, List.filterMap_nil, List.getElem?_cons_zero, List.getElem?_cons_succ, List.drop_succ_cons, List.drop_zero]
                iterate 12 (refine Seg.takeK rfl rfl (fun K hK => ⟨_, fun ws hws => by go_simp; rfl, ?_⟩); go_simp; refine hK _ ?_; clear hK K)
                refine Seg.nil ?_
                go_wp2
                refine wp_region_same 13 [0, 1, 2, 3, 4, 5, 6, 7, 8, 9, 10, 11, 12] (by kernel_rfl) (by kernel_rfl) (by intro c a d v w h; cases d <;> exact h) ?_
                simp only [List.filterMap_cons, List.filterMap_nil, List.getElem?_cons_zero, List.getElem?_cons_succ, List.drop_succ_cons, List.drop_zero]
                iterate 13 (refine Seg.takeK rfl rfl (fun K hK => ⟨_, fun ws hws => by go_simp; rfl, ?_⟩); go_simp; refine hK _ ?_; clear hK K)
                refine Seg.nil ?_
                go_wp2
                go_ret
                exact ⟨ret_i64 (HZ.out.trans (by rw [HGO.out])), by rw [HPOS.out, HE.out]; exact R4.setPos (w := wr.drew.drew) HPR.out _, grown_set (grown_drew (grown_drew HG.out)) _⟩
    · obtain rfl : k = l.length := by omega
      rw [List.drop_length, numGo] at hgo
      have HGO := Lib.hid hgo
      clear hgo hx
      go_wp2
      refine wp_region_same 12 [0, 1, 2, 3, 4, 5, 6, 7, 8, 9, 10, 11] (by kernel_rfl) (by kernel_rfl) (by intro c a d v w h; cases d <;> exact h) ?_
      simp only [List.filterMap_cons, List.filterMap_nil, List.getElem?_cons_zero, List.getElem?_cons_succ, List.drop_succ_cons, List.drop_zero]
      iterate 12 (refine Seg.takeK rfl rfl (fun K hK => ⟨_, fun ws hws => by go_simp; rfl, ?_⟩); go_simp; refine hK _ ?_; clear hK K)
      refine Seg.nil ?_
      go_wp2_with fail
      refine (rfail_any p (.slice (some ⟨b, o, none⟩) l.length cap) 0 16 wr.drew HPR.out).mono ?_
      rintro _ w2 ⟨rfl, hr2, hg2⟩
      have HR2 := Lib.hid hr2
      have HG2 := Lib.hid hg2
      clear hr2 hg2
      go_wp2
      go_ret
      refine ⟨by rw [HGO.out]; rfl, ?_, grown_trans (grown_drew HG.out) HG2.out⟩
      rw [show r4pos l = 0 by simp [r4pos, HGO.out], HGO.out]
      exact HR2.out
end Go.Proofs.YtjkmbbnjiobckaaGreatDoor
