/-
  wire: own, groups, PutNumber: what they compute, as lists of bytes.
-/
import Derived.Test.YtjkmbbnjiobckaaGreatDoorSeat
import Derived.Lib.Zigzag
import Derived.Lib.Varint
namespace Go.Proofs.YtjkmbbnjiobckaaGreatDoor
open Go.RowKit

set_option maxRecDepth 100000 in
set_option maxHeartbeats 1000000 in
theorem own_any (v y : Value) (l m : List UInt8) (w : World) (hl : Slc w v l) (hm : Slc w y m) (hlen : l.length + m.length ≤ 140737488355328) :
    Calls Tryz.prog 64 #[v, y] w (NewB w (l ++ m)) := by
  have HL := Lib.hid hl
  have HM := Lib.hid hm
  obtain ⟨a, cap, rfl, _⟩ := hl
  obtain ⟨a2, cap2, rfl, _⟩ := hm
  obtain ⟨i0, hi, hz0, hz1, hz2⟩ := info_parts Tryz.info5
  have HI := Lib.hid (And.intro hi (And.intro hz0 (And.intro hz1 hz2)))
  clear hi hz0 hz1 hz2
  go_enter Tryz.func64, Tryz.ntmps64
  go_wp2_with (at_make; refine wpList_make_own _ rfl _ _ 22 rfl w.heap.size 5 i0 (.int .u8 0) 1 Tryz.underlying22 HI.out.1 HI.out.2.1 HI.out.2.2.1 _ _ _ (l.length + m.length) rfl rfl (by simp) ?c1 ?c2 (Nat.le_refl _) ?c3)
  case c1 => rw [HI.out.2.2.2]; omega
  case c2 => unfold maxLen; omega
  case c3 =>
    intro w1 h1 h2
    have H1 : Hid (OwnB w1 w.heap.size (.slice (some ⟨w.heap.size, 0, none⟩) 0 (l.length + m.length)) []) := ⟨_, _, rfl, h1⟩
    have B1 := Lib.hid ((Below.refl w.heap.size w).grown h2 (Nat.le_refl _) (fun k hk => by cases hk))
    clear h1 h2
    go_wp2_with (at_builtin; refine append_bytes rfl rfl rfl rfl H1.out (HL.out.mono B1.out) ?d1 B1.out.size ?d2)
    case d1 => simpa using (by omega : l.length ≤ 140737488355328)
    case d2 =>
      intro a3 cap3 w2 h1 h2
      have H2 := Lib.hid (OwnB.mk h1 (by simp))
      have B2 := Lib.hid (below_append B1.out h2 H1.out B1.out.size (Nat.le_refl _))
      clear h1 h2
      go_wp2_with (at_builtin; refine append_bytes rfl rfl rfl rfl H2.out (HM.out.mono B2.out) ?e1 B2.out.size ?e2)
      case e1 => simpa using hlen
      case e2 =>
        intro a4 cap4 w3 h1 h2
        have H3 := Lib.hid (OwnB.mk h1 (by simp))
        have B3 := Lib.hid (below_append B2.out h2 H2.out B2.out.size (Nat.le_refl _))
        clear h1 h2
        go_wp2
        go_ret
        exact ⟨_, rfl, by simpa using H3.out, B3.out⟩

open Go.Lib in
theorem byte_of {n : Int} {x : Nat} (h : n = (x : Int)) (hx : x < 256) : n = ((x.toUInt8).toNat : Int) := by
  subst h
  simp
  omega
theorem zig_bits {n : Int} (h0 : -9223372036854775808 ≤ n) (h1 : n ≤ 9223372036854775807) :
    bits .xor .u64 (IntKind.u64.wrap (IntKind.u64.wrap n * 2)) (IntKind.u64.wrap (n / 9223372036854775808)) = ((Lib.zigzag n : Nat) : Int) := by
  have hz := Lib.zigzag_lt h0 h1
  by_cases hn : 0 ≤ n
  · have e1 : IntKind.u64.wrap (IntKind.u64.wrap n * 2) = ((Lib.zigzag n : Nat) : Int) := by
      rw [Lib.zigzag_nonneg hn, IntKind.wrap_u64, IntKind.wrap_u64]; omega
    have e2 : IntKind.u64.wrap (n / 9223372036854775808) = ((0 : Nat) : Int) := by
      rw [IntKind.wrap_u64]; omega
    rw [e1, e2, u64_xor_nat _ _ hz (by omega), Nat.xor_zero]
  · have e0 : ((Lib.zigzag n : Nat) : Int) = -2 * n - 1 := by unfold Lib.zigzag; rw [if_neg hn]; omega
    obtain ⟨k, hk⟩ : ∃ k : Nat, IntKind.u64.wrap (IntKind.u64.wrap n * 2) = (k : Int) := ⟨(IntKind.u64.wrap (IntKind.u64.wrap n * 2)).toNat, by rw [IntKind.wrap_u64, IntKind.wrap_u64]; omega⟩
    have hk2 : (k : Int) = 2 * n + 18446744073709551616 := by rw [← hk, IntKind.wrap_u64, IntKind.wrap_u64]; omega
    have e2 : IntKind.u64.wrap (n / 9223372036854775808) = ((2 ^ 64 - 1 : Nat) : Int) := by
      rw [IntKind.wrap_u64]; omega
    rw [hk, e2, u64_xor_nat _ _ (by omega) (by omega), Nat.xor_comm, Lib.xor_ones64 _ (by omega)]
    omega
def hiByte (x : Nat) : UInt8 := (x % 128 + 128).toUInt8
def loByte (x : Nat) : UInt8 := x.toUInt8
set_option maxRecDepth 100000 in
set_option maxHeartbeats 1000000 in
theorem groups_any (n : Int) (w : World) (h0 : -9223372036854775808 ≤ n) (h1 : n ≤ 9223372036854775807) :
    Calls Tryz.prog 103 #[.int .i64 n] w (NewB w (Lib.uvarint (Lib.zigzag n))) := by
  have hz := zig_bits h0 h1
  have hzl := Lib.zigzag_lt h0 h1
  obtain ⟨z, hzz⟩ : ∃ z, z = Lib.zigzag n := ⟨_, rfl⟩
  rw [← hzz] at hz hzl ⊢
  clear hzz
  go_enter Tryz.func103, Tryz.ntmps103
  go_wp2
  have HZL := Lib.hid hzl
  clear hz hzl
  go_loopw [3, 4] (fun u v wr => ∃ (x : Nat) (l : List UInt8), u = .int .u64 (x : Int) ∧ x < 18446744073709551616 ∧ OwnB wr w.heap.size v l ∧ l ++ Lib.uvarint x = Lib.uvarint z ∧ Below w.heap.size w wr) (fun u _ _ => (intOf u).toNat)
  case atStart => exact ⟨z, [], rfl, HZL.out, OwnB.nil _ _, rfl, Below.refl _ _⟩
  case round =>
    obtain ⟨x, l, rfl, hx, ho, hl, hb⟩ := hrel
    have HO := Lib.hid ho
    have HL := Lib.hid hl
    have HB := Lib.hid hb
    obtain ⟨a, cap, rfl, _⟩ := ho
    have hlen : l.length ≤ 10 := by
      have := Lib.uvarint_length64 HZL.out
      rw [← hl, List.length_append] at this; omega
    have HX := Lib.hid hx
    clear hl hb hx
    by_cases h128 : 128 ≤ x
    · go_wp2_with (at_builtin; refine append_bytes rfl rfl rfl rfl (HO.out.mono ((Below.refl _ _).alloc (Nat.le_refl _) _)) (slc_one (x := hiByte x) ?d0) ?d1 ?d3 ?d2)
      case d0 => rw [Lib.u8_or128_any _ (by omega) (by omega)]; exact byte_of (by omega) (by omega)
      case d1 => simp; omega
      case d3 => have := HB.out.size; simp; omega
      case d2 =>
        intro a2 cap2 w2 h1 h2
        have H2 := Lib.hid (OwnB.mk h1 (by simp))
        have B2 := Lib.hid (below_append (HB.out.alloc HB.out.size _) h2 (HO.out.mono ((Below.refl _ _).alloc (Nat.le_refl _) _)) (by have := HB.out.size; simp; omega) (Nat.le_refl _))
        have HL2 : Hid ((l ++ [hiByte x]) ++ Lib.uvarint (x / 128) = Lib.uvarint z) := by
          have := HL.out
          rw [Lib.uvarint_big h128] at this
          rw [← this]
          exact (List.append_assoc ..)
        clear h1 h2
        go_wp2
        go_roundw
        case rel => exact ⟨x / 128, _, by go_num, by have := HX.out; omega, H2.out, HL2.out, B2.out⟩
        case measure => simp [intOf]; omega
    · go_wp2_with (at_builtin; refine append_bytes rfl rfl rfl rfl (HO.out.mono ((Below.refl _ _).alloc (Nat.le_refl _) _)) (slc_one (x := loByte x) ?d0) ?d1 ?d3 ?d2)
      case d0 => exact byte_of (by omega) (by omega)
      case d1 => simp; omega
      case d3 => have := HB.out.size; simp; omega
      case d2 =>
        intro a2 cap2 w2 h1 h2
        have H2 := Lib.hid (OwnB.mk h1 (by simp))
        have B2 := Lib.hid (below_append (HB.out.alloc HB.out.size _) h2 (HO.out.mono ((Below.refl _ _).alloc (Nat.le_refl _) _)) (by have := HB.out.size; simp; omega) (Nat.le_refl _))
        have HL2 : Hid (l ++ [loByte x] = Lib.uvarint z) := by
          have := HL.out
          rw [Lib.uvarint_small (by omega)] at this
          exact this
        clear h1 h2
        go_wp2
        go_ret
        exact ⟨_, rfl, by rw [← HL2.out]; exact H2.out, B2.out⟩

/-- The bytes of a number. -/
def num (n : Int) : List UInt8 := Lib.uvarint (Lib.zigzag n)
theorem num_length {n : Int} (h0 : -9223372036854775808 ≤ n) (h1 : n ≤ 9223372036854775807) : (num n).length ≤ 10 := Lib.uvarint_length64 (Lib.zigzag_lt h0 h1)
set_option maxRecDepth 100000 in
set_option maxHeartbeats 1000000 in
theorem putNumber_any (v : Value) (l : List UInt8) (n : Int) (w : World) (hl : Slc w v l) (hlen : l.length ≤ 140737488000000) (h0 : -9223372036854775808 ≤ n) (h1 : n ≤ 9223372036854775807) :
    Calls Tryz.prog 67 #[v, .int .i64 n] w (NewB w (l ++ num n)) := by
  have HL := Lib.hid hl
  have hn := num_length h0 h1
  go_enter Tryz.func67, Tryz.ntmps67
  go_wp2_with fail
  refine (groups_any n w h0 h1).mono ?_
  rintro _ w1 ⟨v1, rfl, ho, hb⟩
  have HO := Lib.hid ho
  have HB := Lib.hid hb
  clear ho hb
  go_wp2_with fail
  refine (own_any v v1 l (num n) w1 (HL.out.mono HB.out) HO.out.slc (by omega)).mono ?_
  rintro _ w2 ⟨v2, rfl, ho2, hb2⟩
  have HO2 := Lib.hid ho2
  have HB2 := Lib.hid hb2
  clear ho2 hb2
  go_wp2
  go_ret
  exact ⟨_, rfl, HO2.out.lower HB.out.size, HB.out.trans (HB2.out.mono HB.out.size)⟩
end Go.Proofs.YtjkmbbnjiobckaaGreatDoor
