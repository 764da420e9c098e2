/-
  the reference's digest: Frame and Hash: as the program's.
-/
import Derived.Test.YtjkmbbnjiobckaaGreatDoorRSum
namespace Go.Proofs.YtjkmbbnjiobckaaGreatDoor
open Go.RowKit
set_option maxRecDepth 100000 in
set_option maxHeartbeats 1000000 in
theorem rframe_any (a : Option Addr) (n cap : Nat) (ll : List (List UInt8)) (w : World) (hs : Slcs w (.slice a n cap) ll) (hn : ll.length = n) (hlen : n ≤ 100) (hlen2 : ∀ l ∈ ll, l.length ≤ 1099511627776) :
    Calls Tryz.prog 97 #[.slice a n cap] w (NewB w (frame ll)) := by
  have HS := Lib.hid hs
  have HL := Lib.hid hlen2
  have HN := Lib.hid hn
  have hn' : n ≤ ll.length := by omega
  clear hs hlen2 hn
  go_enter Tryz.func97, Tryz.ntmps97
  go_wp2
  go_loopw [3, 4] (fun v i wr => ∃ (k : Nat) (cur : List UInt8), k ≤ n ∧ i = .int .i64 k ∧ OwnB wr w.heap.size v cur ∧ cur = frame (ll.take k) ∧ cur.length ≤ k * 1099511627784 ∧ Below w.heap.size w wr) (fun _ i _ => n - (intOf i).toNat)
  case atStart => exact ⟨0, [], by omega, rfl, OwnB.nil _ _, by simp [frame], by simp, Below.refl _ _⟩
  case round =>
    obtain ⟨k, cur, hk, rfl, ho, hcur, hfl, hb⟩ := hrel
    have HO := Lib.hid ho
    have HB := Lib.hid hb
    have HC := Lib.hid hcur
    obtain ⟨oa, ocap, rfl, _⟩ := ho
    clear hb hcur
    by_cases hlt : k < n
    · obtain ⟨b, o, a', c', rfl, hc, hr⟩ := HS.out.get k (by omega)
      have hcw := hc
      have hc := cell_mono HB.out hc
      have hel := HL.out ll[k] (List.getElem_mem _)
      have HF := Lib.hid (frame_take ll k (by omega))
      obtain ⟨x, hx⟩ : ∃ x, x = ll[k] := ⟨_, rfl⟩
      rw [← hx] at hc hr hel HF hcw
      have HCW := Lib.hid hcw
      clear hcw
      have HR := Lib.hid hr
      clear hr hx
      go_wp2
      obtain ⟨wo, rfl⟩ : ∃ wo : World, wo = wr := ⟨_, rfl⟩
      go_loopw [3, 6] (fun v i wr => ∃ (q : Nat) (cur2 : List UInt8), q ≤ 8 ∧ i = .int .i64 (56 - 8 * (q : Int)) ∧ OwnB wr w.heap.size v cur2 ∧ cur2 = cur ++ (be x.length 8).take q ∧ cur2.length = cur.length + q ∧ Below w.heap.size w wr) (fun _ i _ => (intOf i + 8).toNat)
      case atStart => exact ⟨0, cur, by omega, rfl, HO.out, by simp, by simp, HB.out⟩
      case round =>
        obtain ⟨q, cur2, hq, rfl, ho2, hcur2, hl2, hb2⟩ := hrel
        have HO2 := Lib.hid ho2
        have HB2 := Lib.hid hb2
        have HC2 := Lib.hid hcur2
        have HLL := Lib.hid hl2
        obtain ⟨oa2, ocap2, rfl, _⟩ := ho2
        clear hb2 hcur2 hl2
        by_cases hq8 : q < 8
        · go_wp2_with (at_builtin; refine append_bytes rfl rfl rfl rfl (HO2.out.mono ((Below.refl _ _).alloc (Nat.le_refl _) _)) (slc_one (x := UInt8.ofNat (x.length / 256 ^ (7 - q))) ?d0) ?d1 ?d3 ?d2)
          case d0 => exact byte_ofNat (by rw [show 56 - 8 * q = 8 * (7 - q) by omega]; exact shr256 _ _)
          case d1 => have := HLL.out; simp; omega
          case d3 => have := HB2.out.size; simp; omega
          case d2 =>
            intro a2 cap2 w2 h1 h2
            have H2 := Lib.hid (OwnB.mk h1 (by simp))
            have B2 := Lib.hid (below_append (HB2.out.alloc HB2.out.size _) h2 (HO2.out.mono ((Below.refl _ _).alloc (Nat.le_refl _) _)) (by have := HB2.out.size; simp; omega) (Nat.le_refl _))
            have HC3 : Hid (cur2 ++ [UInt8.ofNat (x.length / 256 ^ (7 - q))] = cur ++ (be x.length 8).take (q + 1)) := by
              have := be_take x.length 8 q hq8
              rw [show 8 - 1 - q = 7 - q by omega] at this
              rw [this, HC2.out]
              exact List.append_assoc ..
            clear h1 h2
            go_wp2
            go_roundw
            case rel => exact ⟨q + 1, _, by omega, by go_num, H2.out, HC3.out, by have := HLL.out; simp; omega, B2.out⟩
            case measure => simp [intOf]; omega
        · obtain rfl : q = 8 := by omega
          have hc2 := cell_mono HB2.out HCW.out
          go_wp2_with (at_builtin; refine append_bytes rfl rfl rfl rfl HO2.out ⟨_, _, rfl, HR.out.mono HB2.out⟩ ?d1 ?d3 ?d2)
          case d1 => have := HLL.out; omega
          case d3 => exact HB2.out.size
          case d2 =>
            intro a2 cap2 w2 h1 h2
            have H2 := Lib.hid (OwnB.mk h1 (by simp))
            have B2 := Lib.hid (below_append HB2.out h2 HO2.out HB2.out.size (Nat.le_refl _))
            have HC3 : Hid (cur2 ++ x = frame (ll.take (k + 1))) := by
              have := HF.out
              rw [be_all] at HC2
              rw [this, HC2.out, HC.out]
              exact rfl
            clear h1 h2
            go_wp2
            go_roundw
            case rel => exact ⟨k + 1, _, by omega, by go_num, H2.out, HC3.out, by have := HLL.out; simp; omega, B2.out⟩
            case measure => simp [intOf]; omega
    · obtain rfl : k = n := by omega
      go_wp2
      go_ret
      have := HN.out
      exact ⟨_, rfl, by
        have e := HC.out
        rw [List.take_of_length_le (by omega)] at e
        rw [← e]; exact HO.out, HB.out⟩


set_option maxRecDepth 100000 in
set_option maxHeartbeats 1000000 in
theorem rhash_any (d : UInt64) (v : Value) (ll : List (List UInt8)) (w : World) (hs : Slcs w v ll) (hne : ll ≠ []) (hlen : ll.length ≤ 100) (hlen2 : ∀ l ∈ ll, l.length ≤ 1000000000) :
    Calls Tryz.prog 62 #[.int .u64 (U d), v] w fun e w' => e = .returned (.int .u64 (U (hash d ll))) ∧ Below w.heap.size w w' := by
  have HL := Lib.hid hlen2
  have HF := Lib.hid (frame_length ll (fun l hl => by have := hlen2 l hl; omega))
  have hfpos : 0 < (frame ll).length := by
    cases ll with
    | nil => exact absurd rfl hne
    | cons l ll => simp [frame, be_length]; omega
  clear hlen2 hne
  have HS := Lib.hid hs
  obtain ⟨a, cap, _, rfl, -⟩ := hs
  go_enter Tryz.func62, Tryz.ntmps62
  go_wp2_with fail
  refine (rframe_any a _ cap ll w HS.out rfl hlen (fun l hl => by have := HL.out l hl; omega)).mono ?_
  rintro _ w1 ⟨v1, rfl, ho, hb⟩
  have HO := Lib.hid ho
  have HB := Lib.hid hb
  obtain ⟨a1, c1, rfl, hrow⟩ := ho.slc
  obtain ⟨b1, o1, rfl, hcells⟩ := hrow.addr (by rw [bytesV_length]; exact hfpos)
  have HCE := Lib.hid hcells
  have hfl : (frame ll).length ≤ 109951163500 := by have := HF.out; omega
  clear hb hrow hcells ho
  go_wp2_with fail
  refine (rsum_some d 0 b1 o1 c1 (frame ll) w1 (by omega) HCE.out).mono ?_
  rintro _ w2 ⟨rfl, hb2⟩
  have HB2 := Lib.hid hb2
  clear hb2
  go_wp2
  go_ret
  exact ⟨rfl, HB.out.trans (HB2.out.mono HB.out.size)⟩
end Go.Proofs.YtjkmbbnjiobckaaGreatDoor
