/-
  store.Sectors: the sectors of a frame.
-/
import Derived.Test.YtjkmbbnjiobckaaGreatDoorSector
import Derived.Test.YtjkmbbnjiobckaaGreatDoorZeros
namespace Go.Proofs.YtjkmbbnjiobckaaGreatDoor
open Go.RowKit

def frameData (b : List UInt8) : List UInt8 := num b.length ++ b
def sectorCount (b : List UInt8) : Nat := ((frameData b).length + 47) / 48
def padded (b : List UInt8) : List UInt8 := frameData b ++ List.replicate (sectorCount b * 48 - (frameData b).length) 0
def partOf (b : List UInt8) (i : Nat) : List UInt8 := ((padded b).drop (i * 48)).take 48
def sectorsOf (gen frame : Nat) (b : List UInt8) : List (List UInt8) := (List.range (sectorCount b)).map fun i => sectorOf gen frame i (sectorCount b) (partOf b i)
theorem frameData_length (b : List UInt8) (hb : b.length ≤ 1000000000) : b.length < (frameData b).length ∧ (frameData b).length ≤ b.length + 10 := by
  have h1 : (num (b.length : Int)).length ≤ 10 := num_length (by omega) (by omega)
  have h2 : 1 ≤ (num (b.length : Int)).length := Lib.uvarint_pos _
  unfold frameData
  rw [List.length_append]
  omega
theorem padded_length (b : List UInt8) : (padded b).length = sectorCount b * 48 := by
  unfold padded sectorCount
  rw [List.length_append, List.length_replicate]
  omega
theorem partOf_length (b : List UInt8) (i : Nat) (h : i < sectorCount b) : (partOf b i).length = 48 := by
  unfold partOf
  rw [List.length_take, List.length_drop, padded_length]
  omega
theorem bytesV_zeros (k : Nat) : bytesV (List.replicate k 0) = List.replicate k (.int .u8 0) := by simp [bytesV]
set_option maxRecDepth 100000 in
set_option maxHeartbeats 1000000 in
theorem sectors_range (gen frame : Int) (v : Value) (b : List UInt8) (w : World) (hv : Slc w v b) (h : gen < 1 ∨ 4294967295 < gen ∨ frame < 0 ∨ 65535 < frame) :
    Calls Tryz.prog 29 #[.int .i64 gen, .int .i64 frame, v] w fun e w' => e = .returned (.tuple #[.slice none 0 0, .int .i64 3]) ∧ w' = w := by
  obtain ⟨a, cap, rfl, _⟩ := hv
  by_cases h1 : gen < 1
  · go_enter Tryz.func29, Tryz.ntmps29
    go_wp2
    go_ret2
    exact ⟨rfl, rfl⟩
  · by_cases h2 : 4294967295 < gen
    · go_enter Tryz.func29, Tryz.ntmps29
      go_wp2
      go_ret2
      exact ⟨rfl, rfl⟩
    · by_cases h3 : frame < 0
      · go_enter Tryz.func29, Tryz.ntmps29
        go_wp2
        go_ret2
        exact ⟨rfl, rfl⟩
      · have h4 : 65535 < frame := by omega
        clear h
        go_enter Tryz.func29, Tryz.ntmps29
        go_wp2
        go_ret2
        exact ⟨rfl, rfl⟩
def NewSsE (w : World) (ll : List (List UInt8)) (e : Ending) (w' : World) : Prop := ∃ v, e = .returned (.tuple #[v, .int .i64 0]) ∧ OwnSs w' w.heap.size v ll ∧ Below w.heap.size w w'
set_option maxRecDepth 100000 in
set_option maxHeartbeats 2000000 in
theorem sectors_ok (gen frame : Nat) (v : Value) (b : List UInt8) (w : World) (hv : Slc w v b) (hb : b.length ≤ 1000000000) (h1 : 1 ≤ gen) (h2 : gen ≤ 4294967295) (h3 : frame ≤ 65535) (h4 : sectorCount b ≤ 255) :
    Calls Tryz.prog 29 #[.int .i64 gen, .int .i64 frame, v] w (NewSsE w (sectorsOf gen frame b)) := by
  have HV := Lib.hid hv
  obtain ⟨a, cap, rfl, _⟩ := hv
  have hd := frameData_length b hb
  go_enter Tryz.func29, Tryz.ntmps29
  go_wp2_with fail
  refine (putNumber_any _ [] (b.length : Int) w (Slc.nil w) (by simp) (by omega) (by omega)).mono ?_
  rintro _ w1 ⟨v1, rfl, ho1, hb1⟩
  rw [List.nil_append] at ho1
  have HO1 := Lib.hid ho1
  have HB1 := Lib.hid hb1
  obtain ⟨a1, cap1, rfl, _⟩ := ho1
  clear hb1
  go_wp2_with (at_builtin; refine append_bytes rfl rfl rfl rfl HO1.out (HV.out.mono HB1.out) ?d1 HB1.out.size ?d2)
  case d1 =>
    have : (num (b.length : Int)).length ≤ 10 := num_length (by omega) (by omega)
    omega
  case d2 =>
    intro a2 cap2 w2 g1 g2
    have H2 := Lib.hid (OwnB.mk g1 List.length_append)
    have B2 := Lib.hid (below_append HB1.out g2 HO1.out HB1.out.size (Nat.le_refl _))
    clear g1 g2
    obtain ⟨L, hL⟩ : ∃ L, L = (num (b.length : Int)).length + b.length := ⟨_, rfl⟩
    have hL1 : L = (frameData b).length := by rw [hL]; unfold frameData; rw [List.length_append]
    have HL := Lib.hid hL1
    rw [← hL] at H2 ⊢
    have hL2 : L ≤ b.length + 10 := by omega
    have hN1 : (L + 47) / 48 = sectorCount b := by rw [hL1]; rfl
    obtain ⟨N, hN⟩ : ∃ N, N = sectorCount b := ⟨_, rfl⟩
    have HN := Lib.hid hN
    rw [← hN] at hN1 h4
    have hNI : ((L : Int) + 48 - 1) / 48 = (N : Int) := by omega
    have hN48 : L ≤ N * 48 ∧ N * 48 ≤ L + 48 := by omega
    have HP : Hid (padded b = frameData b ++ List.replicate (N * 48 - L) 0) := by rw [hL1, hN]; exact rfl
    obtain ⟨D, hD⟩ : ∃ D, D = num (b.length : Int) ++ b := ⟨_, rfl⟩
    rw [← hD] at H2
    have HFD : Hid (D = frameData b) := hD
    clear hD
    clear hL hL1 hd hN hN1
    go_wp2_with (at_builtin; refine append_zeros rfl rfl (N * 48 - L) rfl rfl H2.out ?z0 ?z3 B2.out.size ?z4)
    case z0 => omega
    case z3 => omega
    case z4 =>
      intro a3 cap3 w3 g1 g2
      have H3 : Hid (OwnB w3 w.heap.size (.slice a3 (N * 48) cap3) (padded b)) := by
        exact OwnB.mk (by rw [HP.out, ← HFD.out]; exact g1) (by rw [padded_length, ← HN.out])
      have B3 := Lib.hid (below_append B2.out g2 H2.out B2.out.size (Nat.le_refl _))
      clear g1 g2
      go_wp2_with fail
      go_loopw [10, 47] (fun v i wr => ∃ k : Nat, k ≤ N ∧ i = .int .i64 k ∧ OwnSs wr w.heap.size v ((List.range k).map fun i => sectorOf gen frame i N (partOf b i)) ∧ OwnB wr w.heap.size (.slice a3 (N * 48) cap3) (padded b) ∧ Below w.heap.size w wr) (fun _ i _ => N - (intOf i).toNat)
      case atStart => exact ⟨0, by omega, rfl, OwnSs.nil _ _, H3.out, B3.out⟩
      case round =>
        obtain ⟨k, hk, rfl, ⟨vs, ho, hvl, hvx⟩, hd, hb⟩ := hrel
        have HO := Lib.hid ho
        have HB := Lib.hid hb
        have HD := Lib.hid hd
        have HX := Lib.hid hvx
        have HVL := Lib.hid hvl
        obtain ⟨oa, ocap, rfl, _⟩ := ho
        clear hb hd hvx hvl
        by_cases hlt : k < N
        · have hcap3 := HD.out.slc.row.2.le
          have hcm : (k + 1) * 48 ≤ N * 48 := Nat.mul_le_mul_right _ hlt
          go_wp2
          refine wp_world (fun w' => Below wr.heap.size wr w' ∧ w'.heap[wr.heap.size]? = some (.cells #[.int .i64 gen, .int .i64 frame, .int .i64 k, .int .i64 N] 56 (0, 0))) ⟨(Below.refl _ _).alloc (Nat.le_refl _) _, heap_alloc_new _ _⟩ ?_
          rintro w4 ⟨hB4, hb4⟩
          have hsz : wr.heap.size < w4.heap.size := (Array.getElem?_eq_some_iff.1 hb4).1
          obtain ⟨d0, d1, d2, d3⟩ := cells4 hb4
          have HB4 := Lib.hid hB4
          clear hB4 hb4
          have q1 : IntKind.i64.wrap ((k : Int) * 48) = (k : Int) * 48 := IntWalk.i64_in _ (by omega)
          have q2 : IntKind.i64.wrap ((k : Int) + 1) = (k : Int) + 1 := IntWalk.i64_in _ (by omega)
          have q3 : IntKind.i64.wrap (((k : Int) + 1) * 48) = ((k : Int) + 1) * 48 := IntWalk.i64_in _ (by omega)
          have q4 : (0 : Int) ≤ (k : Int) * 48 := by omega
          have q5 : ((k : Int) + 1) * 48 ≤ (cap3 : Int) := by omega
          have q6 : (0 : Int) ≤ ((k : Int) + 1) * 48 := by omega
          have q7 : (k : Int) ≤ (k : Int) + 1 := by omega
          have q8 : ((k : Int) * 48).toNat = k * 48 := by omega
          have q9 : (((k : Int) + 1) * 48).toNat = (k + 1) * 48 := by omega
          have HS : Hid (Slc wr (.slice (subAddr a3 cap3 (k * 48) 1) ((k + 1) * 48 - k * 48) (cap3 - k * 48)) (partOf b k)) := by
            have := HD.out.slc.sub (lo := k * 48) (hi := (k + 1) * 48) (mx := cap3) (by omega) hcm (by omega) (Nat.le_refl _)
            rw [show (k + 1) * 48 - k * 48 = 48 by omega] at this ⊢
            exact this
          have HPL := Lib.hid (partOf_length b k (by rw [← HN.out]; exact hlt))
          refine wp_region_ext 11 [0, 1, 2, 3, 4, 5, 6, 7, 8, 9, 10] (by kernel_rfl) (by kernel_rfl) (by intro c a d v w h; cases d <;> exact h) ?_
          simp only [List.filterMap_cons, List.filterMap_nil, List.getElem?_cons_zero, List.getElem?_cons_succ, List.drop_succ_cons, List.drop_zero]
          iterate 9 (refine Seg.takeK rfl rfl (fun K hK => ⟨_, fun ws hws => by go_simp; rfl, ?_⟩); go_simp; refine hK _ ?_; clear hK K)
          refine Seg.loud rfl rfl (fun K hK => ?_)
          go_wp2_with fail
          refine (sector_any gen frame k N _ (partOf b k) _ ((HS.out.mono HB4.out).drew) (by rw [HPL.out]; omega)).mono ?_
          rintro _ w5 ⟨v5, rfl, ho5, hb5⟩
          have HO5 := Lib.hid (ho5.lower (show w4.heap.size ≤ w4.drew.heap.size from Nat.le_refl _))
          have HB5 := Lib.hid (show Below w4.heap.size w4 w5 from (Below.refl _ _).drew.trans hb5)
          obtain ⟨a5, c5, rfl, _⟩ := ho5
          clear hb5
          refine hK _ _ (fun b o h => HB5.out.cell (p := ⟨b, o, none⟩) h) ?_
          clear hK K
          refine Seg.loud rfl rfl (fun K hK => ?_)
          go_wp2_with fail
          refine hK _ _ (fun b o h => (World.cell?_alloc_past _ _ _ (by have := HB5.out.size; omega)).trans (HB5.out.cell (p := ⟨b, o, none⟩) h)) ?_
          clear hK K
          refine Seg.nil ?_
          have B5 := Lib.hid (HB.out.trans ((HB4.out.trans (HB5.out.mono HB4.out.size)).mono HB.out.size))
          have BR := Lib.hid (HB4.out.trans (HB5.out.mono HB4.out.size))
          have hvl : vs.length = k := by rw [HVL.out]; simp
          have HVK := Lib.hid hvl
          clear hvl q1 q2 q3 q4 q5 q6 q7 q8 q9 d0 d1 d2 d3
          go_wp2_with (at_builtin; refine append_vs rfl rfl rfl rfl ((HO.out.mono BR.out).mono ((Below.refl _ _).alloc (Nat.le_refl _) _)) row_one rfl ?u1 ?u2 ?u3 ?u4)
          case u1 =>
            intro u hu
            obtain rfl := List.mem_singleton.1 hu
            rfl
          case u2 => have := HVK.out; omega
          case u3 => have := B5.out.size; simp; omega
          case u4 =>
            intro a6 cap6 w6 g1 g2
            have H6 := Lib.hid (OwnVs.mk g1 (by simp))
            have OV := Lib.hid ((HO.out.mono BR.out).mono ((Below.refl _ _).alloc (Nat.le_refl _) (.cells #[.slice a5 (sectorOf gen frame k N (partOf b k)).length c5] 22)))
            have B6 := Lib.hid (below_append_vs (B5.out.alloc B5.out.size _) g2 OV.out (by have := B5.out.size; simp; omega) (Nat.le_refl _))
            have HD6 := Lib.hid (((HD.out.mono BR.out).mono ((Below.refl _ _).alloc (Nat.le_refl _) (.cells #[.slice a5 (sectorOf gen frame k N (partOf b k)).length c5] 22))).kept OV.out g2)
            have HS6 := Lib.hid (OwnSs.snoc (l := sectorOf gen frame k N (partOf b k)) OV.out HVL.out (fun i x hi => let ⟨l, h1, h2⟩ := HX.out i x hi; ⟨l, h1, (h2.mono BR.out).mono ((Below.refl _ _).alloc (Nat.le_refl _) (.cells #[.slice a5 (sectorOf gen frame k N (partOf b k)).length c5] 22))⟩)
              ((HO5.out.fr.mono ((Below.refl _ _).alloc (Nat.le_refl _) (.cells #[.slice a5 (sectorOf gen frame k N (partOf b k)).length c5] 22))).lower (by have := HB.out.size; have := HB4.out.size; omega)) H6.out g2)
            clear g1 g2
            go_wp2
            go_roundw
            case rel => exact ⟨k + 1, by omega, by go_num, by rw [List.range_succ, List.map_append]; exact HS6.out, HD6.out, B6.out⟩
            case measure => simp [intOf]; omega
        · obtain rfl : k = N := by omega
          have HF : Hid (OwnSs wr w.heap.size (.slice oa vs.length ocap) (sectorsOf gen frame b)) := by
            have := HN.out
            subst this
            exact ⟨vs, HO.out, HVL.out, HX.out⟩
          go_wp2
          go_ret2
          exact ⟨_, rfl, HF.out, HB.out⟩
set_option maxRecDepth 100000 in
set_option maxHeartbeats 2000000 in
theorem sectors_long (gen frame : Nat) (v : Value) (b : List UInt8) (w : World) (hv : Slc w v b) (hb : b.length ≤ 1000000000) (h1 : 1 ≤ gen) (h2 : gen ≤ 4294967295) (h3 : frame ≤ 65535) (h4 : 255 < sectorCount b) :
    Calls Tryz.prog 29 #[.int .i64 gen, .int .i64 frame, v] w fun e w' => e = .returned (.tuple #[.slice none 0 0, .int .i64 4]) ∧ Below w.heap.size w w' := by
  have HV := Lib.hid hv
  obtain ⟨a, cap, rfl, _⟩ := hv
  have hd := frameData_length b hb
  go_enter Tryz.func29, Tryz.ntmps29
  go_wp2_with fail
  refine (putNumber_any _ [] (b.length : Int) w (Slc.nil w) (by simp) (by omega) (by omega)).mono ?_
  rintro _ w1 ⟨v1, rfl, ho1, hb1⟩
  rw [List.nil_append] at ho1
  have HO1 := Lib.hid ho1
  have HB1 := Lib.hid hb1
  obtain ⟨a1, cap1, rfl, _⟩ := ho1
  clear hb1
  go_wp2_with (at_builtin; refine append_bytes rfl rfl rfl rfl HO1.out (HV.out.mono HB1.out) ?d1 HB1.out.size ?d2)
  case d1 =>
    have : (num (b.length : Int)).length ≤ 10 := num_length (by omega) (by omega)
    omega
  case d2 =>
    intro a2 cap2 w2 g1 g2
    have H2 := Lib.hid (OwnB.mk g1 List.length_append)
    have B2 := Lib.hid (below_append HB1.out g2 HO1.out HB1.out.size (Nat.le_refl _))
    clear g1 g2
    obtain ⟨L, hL⟩ : ∃ L, L = (num (b.length : Int)).length + b.length := ⟨_, rfl⟩
    have hL1 : L = (frameData b).length := by rw [hL]; unfold frameData; rw [List.length_append]
    have HL := Lib.hid hL1
    rw [← hL] at H2 ⊢
    have hL2 : L ≤ b.length + 10 := by omega
    have hN1 : (L + 47) / 48 = sectorCount b := by rw [hL1]; rfl
    obtain ⟨N, hN⟩ : ∃ N, N = sectorCount b := ⟨_, rfl⟩
    have HN := Lib.hid hN
    rw [← hN] at hN1 h4
    have hNI : ((L : Int) + 48 - 1) / 48 = (N : Int) := by omega
    clear hL hL1 hd hN hN1
    go_wp2
    go_ret2
    exact ⟨rfl, B2.out⟩
end Go.Proofs.YtjkmbbnjiobckaaGreatDoor
