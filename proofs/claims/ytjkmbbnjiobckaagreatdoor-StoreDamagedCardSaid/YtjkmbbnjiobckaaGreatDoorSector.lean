/-
  store: head.put, head.sector: what they compute, as lists of bytes.
-/
import Derived.Test.YtjkmbbnjiobckaaGreatDoorHash
namespace Go.Proofs.YtjkmbbnjiobckaaGreatDoor
open Go.RowKit

/-- The eight bytes of a head. -/
def headB (gen frame i n : Nat) : List UInt8 := be gen 4 ++ be frame 2 ++ be i 1 ++ be n 1
theorem headB_length (gen frame i n : Nat) : (headB gen frame i n).length = 8 := by simp [headB, be_length]
/-- A sector of a frame. -/
def sectorOf (gen frame i n : Nat) (part : List UInt8) : List UInt8 := headB gen frame i n ++ be (hash 101 [headB gen frame i n, part]).toNat 8 ++ part
theorem sectorOf_length (gen frame i n : Nat) (part : List UInt8) : (sectorOf gen frame i n part).length = 16 + part.length := by simp [sectorOf, headB_length, be_length]; omega
theorem byte_div (x : Nat) (c : Int) (k : Nat) (hc : c = ((256 ^ k : Nat) : Int)) : Value.int .u8 ((x : Int) / c % 256) = .int .u8 ((UInt8.ofNat (x / 256 ^ k)).toNat : Int) := by
  subst hc
  refine congrArg _ (byte_ofNat ?_)
  rw [Int.natCast_emod, Int.natCast_ediv]; rfl
theorem byte_mod (x : Nat) : Value.int .u8 ((x : Int) % 256) = .int .u8 ((UInt8.ofNat (x / 256 ^ 0)).toNat : Int) := by
  rw [← byte_div x 1 0 rfl, Int.ediv_one]
theorem headB_cells (gen frame i n : Nat) : [Value.int .u8 ((gen : Int) / 16777216 % 256), .int .u8 ((gen : Int) / 65536 % 256), .int .u8 ((gen : Int) / 256 % 256), .int .u8 ((gen : Int) % 256), .int .u8 ((frame : Int) / 256 % 256), .int .u8 ((frame : Int) % 256), .int .u8 ((i : Int) % 256), .int .u8 ((n : Int) % 256)] = bytesV (headB gen frame i n) := by
  rw [byte_div gen 16777216 3 rfl, byte_div gen 65536 2 rfl, byte_div gen 256 1 rfl, byte_mod, byte_div frame 256 1 rfl, byte_mod, byte_mod, byte_mod]
  rfl
set_option maxRecDepth 100000 in
set_option maxHeartbeats 1000000 in
theorem put_any (gen frame i n : Nat) (w : World) :
    Calls Tryz.prog 98 #[.agg #[.int .i64 gen, .int .i64 frame, .int .i64 i, .int .i64 n]] w (NewB w (headB gen frame i n)) := by
  have h := own_lit (w := w.alloc (.cells #[.int .i64 gen, .int .i64 frame, .int .i64 i, .int .i64 n] 56)) (headB_cells gen frame i n) rfl (show 8 ≤ maxLen by decide)
  rw [World.size_alloc] at h
  have H := Lib.hid h
  clear h
  go_enter Tryz.func98, Tryz.ntmps98
  go_wp2
  go_ret
  exact ⟨_, rfl, H.out.lower (Nat.le_succ _), ((Below.refl _ _).alloc (Nat.le_refl _) _).alloc (by simp) _⟩
set_option maxRecDepth 100000 in
set_option maxHeartbeats 1000000 in
theorem sector_any (gen frame i n : Nat) (v : Value) (part : List UInt8) (w : World) (hv : Slc w v part) (hlen : part.length ≤ 1000000000) :
    Calls Tryz.prog 63 #[.agg #[.int .i64 gen, .int .i64 frame, .int .i64 i, .int .i64 n], v] w (NewB w (sectorOf gen frame i n part)) := by
  have HV := Lib.hid hv
  obtain ⟨a, cap, rfl, _⟩ := hv
  go_enter Tryz.func63, Tryz.ntmps63
  go_wp2_with fail
  refine (put_any gen frame i n _).mono ?_
  rintro _ w1 ⟨v1, rfl, ho, hb⟩
  have HO := Lib.hid ho
  have HB := Lib.hid hb
  have hblk := block_below hb (heap_alloc_new w _) (by simp)
  obtain ⟨c0, c1, c2, c3⟩ := cells4 hblk
  clear ho hb hblk
  go_wp2_with fail
  refine (put_any gen frame i n _).mono ?_
  rintro _ w2 ⟨v2, rfl, ho2, hb2⟩
  have HO2 := Lib.hid ho2
  have HB2 := Lib.hid hb2
  obtain ⟨a2, cap2, rfl, _⟩ := ho2
  clear hb2 c0 c1 c2 c3
  have BW := Lib.hid (((Below.refl w.heap.size w).alloc (Nat.le_refl _) (.cells #[.int .i64 gen, .int .i64 frame, .int .i64 i, .int .i64 n] 56)).trans ((HB.out.trans (HB2.out.mono HB.out.size)).mono (le_alloc _ _)))
  go_wp2_with fail
  refine (hash_any 101 _ [headB gen frame i n, part] _ (slcs_two HO2.out.slc (HV.out.mono BW.out)) (by simp) (by simp [headB_length]; omega)).mono ?_
  rintro _ w3 ⟨rfl, hb3⟩
  have HB3 := Lib.hid (((Below.refl _ w2).alloc (Nat.le_refl _) _).trans (hb3.mono (le_alloc _ _)))
  clear hb3
  go_wp2_with fail
  refine (putWord_any v1 (headB gen frame i n) (hash 101 [headB gen frame i n, part]) w3 (HO.out.slc.mono (HB2.out.trans (HB3.out.mono HB2.out.size))) (by rw [headB_length]; omega)).mono ?_
  rintro _ w4 ⟨v4, rfl, ho4, hb4⟩
  have HO4 := Lib.hid ho4
  have B4 := Lib.hid (BW.out.trans ((HB3.out.trans (hb4.mono HB3.out.size)).mono BW.out.size))
  clear ho4 hb4
  go_wp2_with (at_builtin; refine append_bytes rfl rfl rfl rfl (HO4.out.lower ?d0) (HV.out.mono B4.out) ?d1 B4.out.size ?d2)
  case d0 => have := BW.out.size; have := HB3.out.size; omega
  case d1 => simp [headB_length, be_length]; omega
  case d2 =>
    intro a5 cap5 w5 h1 h2
    have H2 := Lib.hid (OwnB.mk h1 (by simp [Nat.add_assoc]))
    have B2 := Lib.hid (below_append B4.out h2 HO4.out B4.out.size (by have := BW.out.size; have := HB3.out.size; omega))
    clear h1 h2
    go_wp2
    go_ret
    exact ⟨_, rfl, H2.out, B2.out⟩
end Go.Proofs.YtjkmbbnjiobckaaGreatDoor
