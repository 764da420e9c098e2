/-
  the reference's wire: PutNumber; and flagstoneref33.big: what they compute.
-/
import Derived.Test.YtjkmbbnjiobckaaGreatDoorWire
namespace Go.Proofs.YtjkmbbnjiobckaaGreatDoor
open Go.RowKit
theorem u64_and127 (x : Nat) (h : x < 18446744073709551616) : bits .and .u64 (x : Int) 127 = ((x % 128 : Nat) : Int) := by
  rw [show (127 : Int) = ((127 : Nat) : Int) from rfl, u64_and_nat x 127 h (by omega)]
  rw [show 127 = 2 ^ 7 - 1 from rfl, Nat.and_two_pow_sub_one_eq_mod]
theorem zig_pos {n : Int} (h0 : 0 ≤ n) : n * 2 = ((Lib.zigzag n : Nat) : Int) := (Lib.zigzag_nonneg h0).symm
theorem zig_neg {n : Int} (h0 : -9223372036854775808 ≤ n) (h1 : n < 0) : ∃ k : Nat, k < 18446744073709551616 ∧ IntKind.u64.wrap (IntKind.u64.wrap n * 2) = (k : Int) ∧ bits .xor .u64 IntKind.u64.max (k : Int) = ((Lib.zigzag n : Nat) : Int) := by
  have e0 : ((Lib.zigzag n : Nat) : Int) = -2 * n - 1 := by unfold Lib.zigzag; rw [if_neg (by omega)]; omega
  refine ⟨(IntKind.u64.wrap (IntKind.u64.wrap n * 2)).toNat, ?_, ?_, ?_⟩
  · rw [IntKind.wrap_u64, IntKind.wrap_u64]; omega
  · rw [IntKind.wrap_u64, IntKind.wrap_u64]; omega
  · have hk : (((IntKind.u64.wrap (IntKind.u64.wrap n * 2)).toNat : Nat) : Int) = 2 * n + 18446744073709551616 := by rw [IntKind.wrap_u64, IntKind.wrap_u64]; omega
    rw [show IntKind.u64.max = ((2 ^ 64 - 1 : Nat) : Int) from rfl, u64_xor_nat _ _ (by omega) (by omega), Lib.xor_ones64 _ (by omega)]
    omega
set_option maxRecDepth 100000 in
set_option maxHeartbeats 2000000 in
theorem rputNumber_any (v : Value) (l : List UInt8) (n : Int) (w : World) (hl : Slc w v l) (hlen : l.length ≤ 140737488000000) (h0 : -9223372036854775808 ≤ n) (h1 : n ≤ 9223372036854775807) :
    Calls Tryz.prog 24 #[v, .int .i64 n] w (NewB w (l ++ num n)) := by
  have HL := Lib.hid hl
  obtain ⟨a, cap, rfl, _⟩ := hl
  have hzl := Lib.zigzag_lt h0 h1
  have hul := Lib.uvarint_length64 hzl
  by_cases hn : 0 ≤ n
  all_goals
    first
    | have hz := zig_pos hn
    | obtain ⟨kk, hkk, hz1, hz⟩ := zig_neg h0 (show n < 0 by omega)
    have HNUM : Hid (num n = Lib.uvarint (Lib.zigzag n)) := rfl
    obtain ⟨z, hzz⟩ : ∃ z, z = Lib.zigzag n := ⟨_, rfl⟩
    rw [← hzz] at hz hzl hul HNUM
    have HZL := Lib.hid hzl
    clear hzz hzl
    go_enter Tryz.func24, Tryz.ntmps24
    go_wp2_with (at_builtin; refine append_bytes rfl rfl rfl rfl (OwnB.nil w w.heap.size) HL.out ?d1 (Nat.le_refl _) ?d2)
    case d1 => first | omega | (simp only [List.length_nil, Nat.zero_add]; omega)
    case d2 =>
      intro a2 cap2 w2 g1 g2
      have H2 := Lib.hid (OwnB.mk (l := l) g1 rfl)
      have B2 := Lib.hid (below_append (Below.refl w.heap.size w) g2 (OwnB.nil w w.heap.size) (Nat.le_refl _) (Nat.le_refl _))
      clear g1 g2
      go_wp2
      clear hz
      go_loopw [0, 5] (fun v u wr => ∃ (x : Nat) (cur : List UInt8), u = .int .u64 (x : Int) ∧ x < 18446744073709551616 ∧ OwnB wr w.heap.size v cur ∧ cur ++ Lib.uvarint x = l ++ Lib.uvarint z ∧ Below w.heap.size w wr) (fun _ u _ => (intOf u).toNat)
      case atStart => exact ⟨z, l, rfl, HZL.out, H2.out, rfl, B2.out⟩
      case round =>
        obtain ⟨x, cur, rfl, hx, ho, hl, hb⟩ := hrel
        have HO := Lib.hid ho
        have HLC := Lib.hid hl
        have HB := Lib.hid hb
        obtain ⟨a, cap, rfl, _⟩ := ho
        have hlen2 : cur.length ≤ l.length + 10 := by
          have := congrArg List.length hl
          simp only [List.length_append] at this; omega
        have HX := Lib.hid hx
        clear hl hb hx
        by_cases h128 : 128 ≤ x
        · go_wp2_with (at_builtin; refine append_bytes rfl rfl rfl rfl (HO.out.mono ((Below.refl _ _).alloc (Nat.le_refl _) _)) (slc_one (x := hiByte x) ?d0) ?d1 ?d3 ?d2)
          case d0 => rw [u64_and127 x HX.out, Lib.u8_or128_any _ (by omega) (by omega)]; exact byte_of (by omega) (by omega)
          case d1 => simp; omega
          case d3 => have := HB.out.size; simp; omega
          case d2 =>
            intro a2 cap2 w2 h1 h2
            have H5 := Lib.hid (OwnB.mk h1 (by simp))
            have B5 := Lib.hid (below_append (HB.out.alloc HB.out.size _) h2 (HO.out.mono ((Below.refl _ _).alloc (Nat.le_refl _) _)) (by have := HB.out.size; simp; omega) (Nat.le_refl _))
            have HL5 : Hid ((cur ++ [hiByte x]) ++ Lib.uvarint (x / 128) = l ++ Lib.uvarint z) := by
              have := HLC.out
              rw [Lib.uvarint_big h128] at this
              rw [← this]
              exact (List.append_assoc ..)
            clear h1 h2
            go_wp2
            go_roundw
            case rel => exact ⟨x / 128, _, by go_num, by have := HX.out; omega, H5.out, HL5.out, B5.out⟩
            case measure => simp [intOf]; omega
        · go_wp2_with (at_builtin; refine append_bytes rfl rfl rfl rfl (HO.out.mono ((Below.refl _ _).alloc (Nat.le_refl _) _)) (slc_one (x := loByte x) ?d0) ?d1 ?d3 ?d2)
          case d0 => exact byte_of (by omega) (by omega)
          case d1 => simp; omega
          case d3 => have := HB.out.size; simp; omega
          case d2 =>
            intro a2 cap2 w2 h1 h2
            have H5 := Lib.hid (OwnB.mk h1 (by simp))
            have B5 := Lib.hid (below_append (HB.out.alloc HB.out.size _) h2 (HO.out.mono ((Below.refl _ _).alloc (Nat.le_refl _) _)) (by have := HB.out.size; simp; omega) (Nat.le_refl _))
            have HL5 : Hid (cur ++ [loByte x] = l ++ Lib.uvarint z) := by
              have := HLC.out
              rw [Lib.uvarint_small (by omega)] at this
              exact this
            clear h1 h2
            go_wp2
            go_ret
            exact ⟨_, rfl, by rw [HNUM.out, ← HL5.out]; exact H5.out, B5.out⟩

end Go.Proofs.YtjkmbbnjiobckaaGreatDoor
