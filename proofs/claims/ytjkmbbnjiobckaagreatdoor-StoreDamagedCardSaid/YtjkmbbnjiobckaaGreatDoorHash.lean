/-
  digest: Frame and Hash; wire: PutWord; store: head.put and head.sector: what they compute, as lists of bytes.
-/
import Derived.Test.YtjkmbbnjiobckaaGreatDoorSum
import Derived.Test.YtjkmbbnjiobckaaGreatDoorWire
namespace Go.Proofs.YtjkmbbnjiobckaaGreatDoor
open Go.RowKit

def frame (ll : List (List UInt8)) : List UInt8 := ll.flatMap fun l => be l.length 8 ++ l
theorem frame_take (ll : List (List UInt8)) (i : Nat) (h : i < ll.length) : frame (ll.take (i + 1)) = frame (ll.take i) ++ be ll[i].length 8 ++ ll[i] := by
  unfold frame
  rw [List.take_add_one, List.getElem?_eq_getElem h, List.flatMap_append]
  simp

theorem shr256 (m k : Nat) : (m : Int) / 2 ^ (8 * k) % 256 = ((m / 256 ^ k % 256 : Nat) : Int) := by
  have : (2 : Int) ^ (8 * k) = ((256 ^ k : Nat) : Int) := by
    rw [Int.pow_mul, Int.natCast_pow]; rfl
  rw [this, Int.natCast_emod, Int.natCast_ediv]; rfl
theorem cell_mono {w w' : World} {b o : Nat} {v : Value} (hb : Below w.heap.size w w') (h : w.cell? ⟨b, o, none⟩ = some v) : w'.cell? ⟨b, o, none⟩ = some v := by
  rw [hb.cell (p := ⟨b, o, none⟩) (World.block_lt_of_cell? w _ h)]; exact h
set_option maxRecDepth 100000 in
set_option maxHeartbeats 1000000 in
theorem frame_any (a : Option Addr) (n cap : Nat) (ll : List (List UInt8)) (w : World) (hs : Slcs w (.slice a n cap) ll) (hn : ll.length = n) (hlen : n ≤ 100) (hlen2 : ∀ l ∈ ll, l.length ≤ 1099511627776) :
    Calls Tryz.prog 132 #[.slice a n cap] w (NewB w (frame ll)) := by
  have HS := Lib.hid hs
  have HL := Lib.hid hlen2
  have HN := Lib.hid hn
  have hn' : n ≤ ll.length := by omega
  clear hs hlen2 hn
  go_enter Tryz.func132, Tryz.ntmps132
  go_wp2
  go_loopw [3, 9] (fun v i wr => ∃ (k : Nat) (cur : List UInt8), k ≤ n ∧ i = .int .i64 k ∧ OwnB wr w.heap.size v cur ∧ cur = frame (ll.take k) ∧ cur.length ≤ k * 1099511627784 ∧ Below w.heap.size w wr) (fun _ i _ => n - (intOf i).toNat)
  case atStart => exact ⟨0, [], by omega, rfl, OwnB.nil _ _, by simp [frame], by simp, Below.refl _ _⟩
  case round =>
    obtain ⟨k, cur, hk, rfl, ho, hcur, hfl, hb⟩ := hrel
    have HO := Lib.hid ho
    have HB := Lib.hid hb
    have HC := Lib.hid hcur
    obtain ⟨oa, ocap, rfl, _⟩ := ho
    clear hb hcur
    by_cases hlt : k < n
    · obtain ⟨b, o, a', c', rfl, hc, hr⟩ := HS.out.get k (by omega)
      have hc := cell_mono HB.out hc
      have hel := HL.out ll[k] (List.getElem_mem _)
      have HF := Lib.hid (frame_take ll k (by omega))
      obtain ⟨x, hx⟩ : ∃ x, x = ll[k] := ⟨_, rfl⟩
      rw [← hx] at hc hr hel HF
      have HR := Lib.hid hr
      clear hr hx
      go_wp2
      obtain ⟨wo, rfl⟩ : ∃ wo : World, wo = wr := ⟨_, rfl⟩
      go_loopw [3, 6] (fun v i wr => ∃ (q : Nat) (cur2 : List UInt8), q ≤ 8 ∧ i = .int .i64 (7 - (q : Int)) ∧ OwnB wr w.heap.size v cur2 ∧ cur2 = cur ++ (be x.length 8).take q ∧ cur2.length = cur.length + q ∧ Below w.heap.size w wr) (fun _ i _ => (intOf i + 1).toNat)
      case atStart => exact ⟨0, cur, by omega, rfl, HO.out, by simp, by simp, HB.out⟩
      case round =>
        obtain ⟨q, cur2, hq, rfl, ho2, hcur2, hl2, hb2⟩ := hrel
        have HO2 := Lib.hid ho2
        have HB2 := Lib.hid hb2
        have HC2 := Lib.hid hcur2
        have HLL := Lib.hid hl2
        obtain ⟨oa2, ocap2, rfl, _⟩ := ho2
        clear hb2 hcur2 hl2
        by_cases hq8 : q < 8
        · go_wp2_with (at_builtin; refine append_bytes rfl rfl rfl rfl (HO2.out.mono ((Below.refl _ _).alloc (Nat.le_refl _) _)) (slc_one (x := UInt8.ofNat (x.length / 256 ^ (7 - q))) ?d0) ?d1 ?d3 ?d2)
          case d0 => exact byte_ofNat (by exact shr256 _ _)
          case d1 => have := HLL.out; simp; omega
          case d3 => have := HB2.out.size; simp; omega
          case d2 =>
            intro a2 cap2 w2 h1 h2
            have H2 := Lib.hid (OwnB.mk h1 (by simp))
            have B2 := Lib.hid (below_append (HB2.out.alloc HB2.out.size _) h2 (HO2.out.mono ((Below.refl _ _).alloc (Nat.le_refl _) _)) (by have := HB2.out.size; simp; omega) (Nat.le_refl _))
            have HC3 : Hid (cur2 ++ [UInt8.ofNat (x.length / 256 ^ (7 - q))] = cur ++ (be x.length 8).take (q + 1)) := by
              have := be_take x.length 8 q hq8
              rw [show 8 - 1 - q = 7 - q by omega] at this
              rw [this, HC2.out]
              exact List.append_assoc ..
            clear h1 h2
            go_wp2
            go_roundw
            case rel => exact ⟨q + 1, _, by omega, by go_num, H2.out, HC3.out, by have := HLL.out; simp; omega, B2.out⟩
            case measure => simp [intOf]; omega
        · obtain rfl : q = 8 := by omega
          go_wp2_with (at_builtin; refine append_bytes rfl rfl rfl rfl HO2.out ⟨_, _, rfl, HR.out.mono HB2.out⟩ ?d1 ?d3 ?d2)
          case d1 => have := HLL.out; omega
          case d3 => exact HB2.out.size
          case d2 =>
            intro a2 cap2 w2 h1 h2
            have H2 := Lib.hid (OwnB.mk h1 (by simp))
            have B2 := Lib.hid (below_append HB2.out h2 HO2.out HB2.out.size (Nat.le_refl _))
            have HC3 : Hid (cur2 ++ x = frame (ll.take (k + 1))) := by
              have := HF.out
              rw [be_all] at HC2
              rw [this, HC2.out, HC.out]
              exact rfl
            clear h1 h2
            go_wp2
            go_roundw
            case rel => exact ⟨k + 1, _, by omega, by go_num, H2.out, HC3.out, by have := HLL.out; simp; omega, B2.out⟩
            case measure => simp [intOf]; omega
    · obtain rfl : k = n := by omega
      go_wp2
      go_ret
      have := HN.out
      exact ⟨_, rfl, by
        have e := HC.out
        rw [List.take_of_length_le (by omega)] at e
        rw [← e]; exact HO.out, HB.out⟩

def hash (d : UInt64) (ll : List (List UInt8)) : UInt64 := sipSum d 0 (frame ll)
theorem frame_length (ll : List (List UInt8)) (h : ∀ l ∈ ll, l.length ≤ 1099511627) : (frame ll).length ≤ ll.length * 1099511635 := by
  induction ll with
  | nil => simp [frame]
  | cons l ll ih =>
    have h1 := h l (by simp)
    have h2 := ih (fun m hm => h m (by simp [hm]))
    unfold frame at *
    simp [be_length] at *
    omega
set_option maxRecDepth 100000 in
set_option maxHeartbeats 1000000 in
theorem hash_any (d : UInt64) (v : Value) (ll : List (List UInt8)) (w : World) (hs : Slcs w v ll) (hlen : ll.length ≤ 100) (hlen2 : ∀ l ∈ ll, l.length ≤ 1099511627) :
    Calls Tryz.prog 100 #[.int .u64 (U d), v] w fun e w' => e = .returned (.int .u64 (U (hash d ll))) ∧ Below w.heap.size w w' := by
  have HL := Lib.hid hlen2
  have HF := Lib.hid (frame_length ll hlen2)
  clear hlen2
  have HS := Lib.hid hs
  obtain ⟨a, cap, _, rfl, _⟩ := hs
  go_enter Tryz.func100, Tryz.ntmps100
  go_wp2_with fail
  refine (frame_any a _ cap ll w HS.out rfl hlen (fun l hl => by have := HL.out l hl; omega)).mono ?_
  rintro _ w1 ⟨v1, rfl, ho, hb⟩
  have HO := Lib.hid ho
  have HB := Lib.hid hb
  obtain ⟨a1, c1, rfl, _⟩ := ho
  clear hb
  go_wp2_with fail
  refine (sum_any d 0 a1 _ c1 (frame ll) w1 rfl (by have := HF.out; omega) (by obtain ⟨_, _, hv, hr⟩ := HO.out.slc; cases hv; exact hr)).mono ?_
  rintro _ w2 ⟨rfl, hb2⟩
  have HB2 := Lib.hid hb2
  clear hb2
  go_wp2
  go_ret
  exact ⟨rfl, HB.out.trans (HB2.out.mono HB.out.size)⟩

theorem be8_cells (x : UInt64) : [Value.int .u8 (U x / 72057594037927936 % 256), .int .u8 (U x / 281474976710656 % 256), .int .u8 (U x / 1099511627776 % 256), .int .u8 (U x / 4294967296 % 256), .int .u8 (U x / 16777216 % 256), .int .u8 (U x / 65536 % 256), .int .u8 (U x / 256 % 256), .int .u8 (U x % 256)] = bytesV (be x.toNat 8) := by
  have h : ∀ (c : Int) (k : Nat), c = ((256 ^ k : Nat) : Int) → Value.int .u8 (U x / c % 256) = .int .u8 ((UInt8.ofNat (x.toNat / 256 ^ k)).toNat : Int) := fun c k hc => by
    subst hc
    refine congrArg _ (byte_ofNat ?_)
    unfold U
    rw [Int.natCast_emod, Int.natCast_ediv]; rfl
  have h0 : Value.int .u8 (U x % 256) = .int .u8 ((UInt8.ofNat (x.toNat / 256 ^ 0)).toNat : Int) := by
    rw [← h 1 0 rfl, Int.ediv_one]
  rw [h 72057594037927936 7 rfl, h 281474976710656 6 rfl, h 1099511627776 5 rfl, h 4294967296 4 rfl, h 16777216 3 rfl, h 65536 2 rfl, h 256 1 rfl, h0]
  rfl
set_option maxRecDepth 100000 in
set_option maxHeartbeats 1000000 in
theorem putWord_any (v : Value) (l : List UInt8) (x : UInt64) (w : World) (hl : Slc w v l) (hlen : l.length ≤ 140737488000000) :
    Calls Tryz.prog 99 #[v, .int .u64 (U x)] w (NewB w (l ++ be x.toNat 8)) := by
  have HL := Lib.hid hl
  clear hl
  have hx := (U_bd x).1
  go_enter Tryz.func99, Tryz.ntmps99
  go_wp2
  refine wp_loop_rounds 9 ?_
  repeat any_goals (rw [rounds_succ]; go_wp2_with fail)
  refine (own_any v _ l (be x.toNat 8) _ (HL.out.alloc _) (slc_block (heap_alloc_new _ _) (be8_cells x) rfl (Nat.le_refl _) (show 8 ≤ maxLen by decide)) (by simp [be_length]; omega)).mono ?_
  rintro _ w1 ⟨v1, rfl, ho, hb⟩
  have HO := Lib.hid ho
  have HB := Lib.hid hb
  clear ho hb
  go_wp2
  go_ret
  exact ⟨_, rfl, HO.out.lower (by simp), ((Below.refl _ _).alloc (Nat.le_refl _) _).trans (HB.out.mono (by simp))⟩
end Go.Proofs.YtjkmbbnjiobckaaGreatDoor
