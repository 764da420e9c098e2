/-
  flagstoneref33: big, sector: as the store's.
-/
import Derived.Test.YtjkmbbnjiobckaaGreatDoorRHash
import Derived.Test.YtjkmbbnjiobckaaGreatDoorSector
namespace Go.Proofs.YtjkmbbnjiobckaaGreatDoor
open Go.RowKit
set_option maxRecDepth 100000 in
set_option maxHeartbeats 1000000 in
theorem big_any (m n : Nat) (w : World) (hn : n ≤ 8) :
    Calls Tryz.prog 61 #[.int .u64 (m : Int), .int .i64 (n : Int)] w (NewB w (be m n)) := by
  go_enter Tryz.func61, Tryz.ntmps61
  go_wp2
  go_loopw [5, 6] (fun v i wr => ∃ (q : Nat) (cur2 : List UInt8), q ≤ n ∧ i = .int .i64 ((n : Int) - 1 - (q : Int)) ∧ OwnB wr w.heap.size v cur2 ∧ cur2 = (be m n).take q ∧ cur2.length = q ∧ Below w.heap.size w wr) (fun _ i _ => (intOf i + 1).toNat)
  case atStart => exact ⟨0, [], by omega, by go_num, OwnB.nil _ _, by simp, by simp, Below.refl _ _⟩
  case round =>
    obtain ⟨q, cur2, hq, rfl, ho2, hcur2, hl2, hb2⟩ := hrel
    have HO2 := Lib.hid ho2
    have HB2 := Lib.hid hb2
    have HC2 := Lib.hid hcur2
    have HLL := Lib.hid hl2
    obtain ⟨oa2, ocap2, rfl, _⟩ := ho2
    clear hb2 hcur2 hl2
    by_cases hq8 : q < n
    · go_wp2_with (at_builtin; refine append_bytes rfl rfl rfl rfl (HO2.out.mono ((Below.refl _ _).alloc (Nat.le_refl _) _)) (slc_one (x := UInt8.ofNat (m / 256 ^ (n - 1 - q))) ?d0) ?d1 ?d3 ?d2)
      case d0 => exact byte_ofNat (shr256 _ _)
      case d1 => have := HLL.out; simp; omega
      case d3 => have := HB2.out.size; simp; omega
      case d2 =>
        intro a2 cap2 w2 h1 h2
        have H2 := Lib.hid (OwnB.mk h1 (by simp))
        have B2 := Lib.hid (below_append (HB2.out.alloc HB2.out.size _) h2 (HO2.out.mono ((Below.refl _ _).alloc (Nat.le_refl _) _)) (by have := HB2.out.size; simp; omega) (Nat.le_refl _))
        have HC3 : Hid (cur2 ++ [UInt8.ofNat (m / 256 ^ (n - 1 - q))] = (be m n).take (q + 1)) := by
          rw [be_take m n q hq8, HC2.out]
          exact rfl
        clear h1 h2
        go_wp2
        go_roundw
        case rel => exact ⟨q + 1, _, by omega, by go_num, H2.out, HC3.out, by have := HLL.out; simp; omega, B2.out⟩
        case measure => simp [intOf]; omega
    · obtain rfl : q = n := by omega
      go_wp2
      go_ret
      exact ⟨_, rfl, by
        have e := HC2.out
        rw [be_all] at e
        rw [← e]; exact HO2.out, HB2.out⟩
theorem two_bytes (i n : Nat) : [Value.int .u8 ((i : Int) % 256), .int .u8 ((n : Int) % 256)] = bytesV (be i 1 ++ be n 1) := by
  rw [byte_mod, byte_mod]; rfl
set_option maxRecDepth 100000 in
set_option maxHeartbeats 1000000 in
theorem rsector_any (gen frame i n : Nat) (v : Value) (part : List UInt8) (w : World) (hv : Slc w v part) (hlen : part.length ≤ 1000000000) (hg : gen ≤ 4294967295) (hf : frame ≤ 65535) :
    Calls Tryz.prog 25 #[.int .i64 gen, .int .i64 frame, .int .i64 i, .int .i64 n, v] w (NewB w (sectorOf gen frame i n part)) := by
  have HV := Lib.hid hv
  obtain ⟨a, cap, rfl, _⟩ := hv
  go_enter Tryz.func25, Tryz.ntmps25
  go_wp2_with fail
  refine (big_any gen 4 _ (by omega)).mono ?_
  rintro _ w1 ⟨v1, rfl, ho, hb⟩
  have HO := Lib.hid ho
  have HB := Lib.hid hb
  obtain ⟨a1, cap1, rfl, _⟩ := ho
  clear hb
  go_wp2_with fail
  refine (big_any frame 2 _ (by omega)).mono ?_
  rintro _ w2 ⟨v2, rfl, ho2, hb2⟩
  have HO2 := Lib.hid ho2
  have HB2 := Lib.hid (HB.out.trans (hb2.mono HB.out.size))
  have HO' := Lib.hid (HO.out.mono hb2)
  obtain ⟨a2, cap2, rfl, _⟩ := ho2
  clear hb2
  go_wp2_with (at_builtin; refine append_bytes rfl rfl rfl rfl HO'.out HO2.out.slc ?d1 HB2.out.size ?d2)
  case d1 => simp [be_length]
  case d2 =>
  intro a3 cap3 w3 h1 h2
  have H3 := Lib.hid (OwnB.mk h1 (by simp))
  have B3 := Lib.hid (below_append HB2.out h2 HO'.out HB2.out.size (Nat.le_refl _))
  clear h1 h2
  go_wp2_with (at_builtin; refine append_bytes rfl rfl rfl rfl (H3.out.mono ((Below.refl _ _).alloc (Nat.le_refl _) _)) (own_lit (two_bytes i n) rfl (show 2 ≤ maxLen by decide)).slc ?d1 ?d3 ?d2)
  case d1 => simp [be_length]
  case d3 => have := B3.out.size; simp; omega
  case d2 =>
  intro a4 cap4 w4 h1 h2
  have H4 := Lib.hid (OwnB.mk h1 (by simp; omega))
  have B4 := Lib.hid (below_append (B3.out.alloc B3.out.size _) h2 (H3.out.mono ((Below.refl _ _).alloc (Nat.le_refl _) _)) (by have := B3.out.size; simp; omega) (Nat.le_refl _))
  have E4 : Hid (be gen 4 ++ be frame 2 ++ (be i 1 ++ be n 1) = headB gen frame i n) := by
    unfold headB
    exact Lib.hid (List.append_assoc ..).symm
  have H5 := Lib.hid (E4.out ▸ H4.out)
  clear h1 h2 H4 E4 H3 HO' HO2
  go_wp2_with fail
  refine (rhash_any 101 _ [headB gen frame i n, part] _ (slcs_two H5.out.slc (HV.out.mono B4.out)) (by simp) (by simp) (by simp [headB_length]; omega)).mono ?_
  rintro _ w5 ⟨rfl, hb5⟩
  have HB5 := Lib.hid (((Below.refl _ w4).alloc (Nat.le_refl _) _).trans (hb5.mono (le_alloc _ _)))
  have H6 := Lib.hid (H5.out.mono HB5.out)
  have B5 := Lib.hid (B4.out.trans (HB5.out.mono B4.out.size))
  clear hb5 H5
  go_wp2_with fail
  refine (big_any (hash 101 [headB gen frame i n, part]).toNat 8 w5 (by omega)).mono ?_
  rintro _ w6 ⟨v6, rfl, ho6, hb6⟩
  have HO6 := Lib.hid ho6
  have H7 := Lib.hid (H6.out.mono hb6)
  have B6 := Lib.hid (B5.out.trans (hb6.mono B5.out.size))
  obtain ⟨a6, cap6, rfl, _⟩ := ho6
  clear hb6 H6
  go_wp2_with (at_builtin; refine append_bytes rfl rfl rfl rfl H7.out HO6.out.slc ?d1 B6.out.size ?d2)
  case d1 => simp [be_length, headB_length]
  case d2 =>
  intro a7 cap7 w7 h1 h2
  have H8 := Lib.hid (OwnB.mk h1 (by simp [be_length, headB_length]))
  have B7 := Lib.hid (below_append B6.out h2 H7.out B6.out.size (Nat.le_refl _))
  clear h1 h2
  go_wp2_with (at_builtin; refine append_bytes rfl rfl rfl rfl H8.out (HV.out.mono B7.out) ?d1 B7.out.size ?d2)
  case d1 => simp [be_length, headB_length]; omega
  case d2 =>
  intro a8 cap8 w8 h1 h2
  have H9 := Lib.hid (OwnB.mk h1 (by simp [be_length, headB_length]; omega))
  have B8 := Lib.hid (below_append B7.out h2 H8.out B7.out.size (Nat.le_refl _))
  clear h1 h2
  go_wp2
  go_ret
  exact ⟨_, rfl, H9.out, B8.out⟩
end Go.Proofs.YtjkmbbnjiobckaaGreatDoor
