/-
  wire.Reader: New, Fail, take, Number, length, Text, Count: what they read.
-/
import Derived.Test.YtjkmbbnjiobckaaGreatDoorWire
import Derived.Lib.VarintDec
import Derived.Lib.VarintBits
namespace Go.Proofs.YtjkmbbnjiobckaaGreatDoor
open Go.RowKit

/-- A reader in memory: what is left, and the error. -/
def RdAt (w : World) (p : Nat) (rest : List UInt8) (err : Int) : Prop :=
  ∃ a n cap, w.heap[p]? = some (.cells #[.slice a n cap, .int .i64 err] 103 (0, 0)) ∧ Slc w (.slice a n cap) rest
theorem RdAt.below {w w' : World} {p : Nat} {rest : List UInt8} {err : Int} (h : RdAt w p rest err) (hb : Below w.heap.size w w') : RdAt w' p rest err := by
  obtain ⟨a, n, cap, h1, h2⟩ := h
  exact ⟨a, n, cap, block_below hb h1 (Array.getElem?_eq_some_iff.1 h1).1, h2.mono hb⟩
theorem RdAt.drew {w : World} {p : Nat} {rest : List UInt8} {err : Int} (h : RdAt w p rest err) : RdAt w.drew p rest err := h.below (Below.refl _ _).drew
/-- The bytes do not lie in the reader's own block. -/
theorem rd_apart {w : World} {p : Nat} {x : Value} {err : Int} {T : TypeId} {b o n cap : Nat} {l : List UInt8} (hb : w.heap[p]? = some (.cells #[x, .int .i64 err] T (0, 0))) (hx : ∀ n, x ≠ .int .u8 n)
    (h : Row w (some ⟨b, o, none⟩) n cap (bytesV l)) (hl : 0 < l.length) : b ≠ p := by
  rintro rfl
  obtain ⟨b', o', ha, hc⟩ := h.at' 0 _ (bytesV_get hl)
  cases ha
  unfold World.cell? at hc
  rw [hb] at hc
  simp only [Option.isSome_none, Bool.false_eq_true, if_false, Nat.add_zero] at hc
  match o, hc with
  | 0, hc => simp at hc; exact hx _ hc
  | 1, hc => simp at hc
  | o + 2, hc => simp at hc
theorem slc_rd {w w' : World} {p : Nat} {x : Value} {err : Int} {T : TypeId} {v : Value} {l : List UInt8} (h : Slc w v l) (hb : w.heap[p]? = some (.cells #[x, .int .i64 err] T (0, 0))) (hx : ∀ n, x ≠ .int .u8 n)
    (hg : w.grownBy w' (some p)) : Slc w' v l := by
  obtain ⟨a, cap, rfl, hr⟩ := h
  refine ⟨a, cap, rfl, ?_⟩
  rcases Nat.eq_zero_or_pos l.length with h0 | h0
  · obtain rfl := List.length_eq_zero_iff.1 h0
    exact Row.nil w' hr.le hr.most
  · exact hr.kept hg (fun b o ha => by subst ha; simpa using rd_apart hb hx hr h0)
/-- A store of the error. -/
theorem RdAt.setErr {w : World} {p : Nat} {rest : List UInt8} {err : Int} (h : RdAt w p rest err) (e : Int) : RdAt (w.setCell ⟨p, 1, none⟩ (.int .i64 e)) p rest e := by
  obtain ⟨a, n, cap, h1, h2⟩ := h
  exact ⟨a, n, cap, block_set' h1 rfl, slc_rd h2 h1 (by simp) (grown_set (grown_refl w _) _)⟩
/-- A store of what is left. -/
theorem RdAt.setRest {w : World} {p : Nat} {rest rest' : List UInt8} {err : Int} {a : Option Addr} {n cap : Nat} (h : RdAt w p rest err) (hs : Slc w (.slice a n cap) rest') : RdAt (w.setCell ⟨p, 0, none⟩ (.slice a n cap)) p rest' err := by
  obtain ⟨a', n', cap', h1, h2⟩ := h
  exact ⟨a, n, cap, block_set' h1 rfl, slc_rd hs h1 (by simp) (grown_set (grown_refl w _) _)⟩

set_option maxRecDepth 100000 in
set_option maxHeartbeats 1000000 in
theorem new_any (v : Value) (l : List UInt8) (w : World) (hv : Slc w v l) (hl : l.length ≤ 140737488000000) :
    Calls Tryz.prog 27 #[v] w fun e w' => (∃ p, e = .returned (.pointer (some ⟨p, 0, none⟩)) ∧ w.heap.size ≤ p ∧ RdAt w' p l 0) ∧ Below w.heap.size w w' := by
  have HV := Lib.hid hv
  clear hv
  go_enter Tryz.func27, Tryz.ntmps27
  go_wp2_with fail
  refine (own_any v _ l [] w HV.out (Slc.nil w) (by simp; omega)).mono ?_
  rintro _ w1 ⟨v1, rfl, ho, hb⟩
  rw [List.append_nil] at ho
  have HO := Lib.hid ho
  have HB := Lib.hid hb
  obtain ⟨a, cap, rfl, _⟩ := ho
  clear hb
  go_wp2
  go_ret
  exact ⟨⟨_, rfl, HB.out.size, _, _, _, heap_alloc_new _ _, HO.out.slc.alloc _⟩, HB.out.alloc HB.out.size _⟩
set_option maxRecDepth 100000 in
set_option maxHeartbeats 1000000 in
theorem fail_any (p : Nat) (rest : List UInt8) (err e0 : Int) (w : World) (h : RdAt w p rest err) :
    Calls Tryz.prog 102 #[.pointer (some ⟨p, 0, none⟩), .int .i64 e0] w fun e w' => e = .returned (.tuple #[]) ∧ RdAt w' p rest (if err = 0 then e0 else err) ∧ w.grownBy w' (some p) := by
  have H := Lib.hid h
  obtain ⟨a, n, cap, h1, h2⟩ := h
  obtain ⟨c0, c1⟩ := cells2 h1
  have fr := free_all h1
  clear h1 h2
  by_cases he : err = 0
  · subst he
    rw [if_pos rfl]
    go_enter Tryz.func102, Tryz.ntmps102
    go_wp2
    go_end0
    exact ⟨rfl, H.out.setErr e0, grown_set (grown_refl w _) _⟩
  · rw [if_neg he]
    go_enter Tryz.func102, Tryz.ntmps102
    go_wp2
    go_end0
    exact ⟨rfl, H.out, grown_refl w _⟩

/-- Reading a number: byte i and those behind it. The value, the error, what is left. -/
def numGo : List UInt8 → Nat → Nat → Int × Int × List UInt8
  | [], _, _ => (0, 16, [])
  | c :: cs, i, u =>
    if i = 9 ∧ 1 < c.toNat then (0, 3, [])
    else if 128 ≤ c.toNat then numGo cs (i + 1) (u + c.toNat % 128 * 2 ^ (7 * i))
    else if c.toNat = 0 ∧ 0 < i then (0, 1, [])
    else (Lib.unzigzag (u + c.toNat % 128 * 2 ^ (7 * i)), 0, cs)
/-- What Number hands back, and what it leaves. -/
def rdNum (l : List UInt8) (err : Int) : Int × Int × List UInt8 :=
  if err = 0 then (if (numGo l 0 0).2.1 = 0 then numGo l 0 0 else (0, (numGo l 0 0).2.1, l)) else (0, err, l)
theorem mul_lt_pow (m i : Nat) (hi : i ≤ 9) (hm : m < 128) (h9 : i = 9 → m ≤ 1) : m * 2 ^ (7 * i) < 18446744073709551616 := by
  rcases Nat.lt_or_ge i 9 with h | h
  · have : 2 ^ (7 * i) ≤ 2 ^ 56 := Nat.pow_le_pow_right (by decide) (by omega)
    have : m * 2 ^ (7 * i) ≤ 127 * 2 ^ 56 := Nat.mul_le_mul (by omega) this
    omega
  · obtain rfl : i = 9 := by omega
    have := h9 rfl
    have : m * 2 ^ (7 * 9) ≤ 1 * 2 ^ 63 := Nat.mul_le_mul this (Nat.le_refl _)
    omega
theorem or_high (u m i : Nat) (hu : u < 2 ^ (7 * i)) : u ||| m * 2 ^ (7 * i) = u + m * 2 ^ (7 * i) := by
  rw [Nat.or_comm, nat_join (7 * i) _ _ (Nat.mul_mod_left _ _) hu, Nat.add_comm]
theorem step_lt (u m i : Nat) (hu : u < 2 ^ (7 * i)) (hm : m < 128) : u + m * 2 ^ (7 * i) < 2 ^ (7 * (i + 1)) := by
  rw [show 7 * (i + 1) = 7 * i + 7 by omega, Nat.pow_add]
  have : m * 2 ^ (7 * i) ≤ 127 * 2 ^ (7 * i) := Nat.mul_le_mul_right _ (by omega)
  omega
theorem i64_xor_comm (a b : Int) : bits .xor .i64 a b = bits .xor .i64 b a := by
  show IntKind.i64.wrap ((BitVec.ofInt 64 a ^^^ BitVec.ofInt 64 b).toNat : Int) = IntKind.i64.wrap ((BitVec.ofInt 64 b ^^^ BitVec.ofInt 64 a).toNat : Int)
  rw [BitVec.xor_comm]
theorem i64_xor_zero (a : Nat) (h : a < 9223372036854775808) : bits .xor .i64 (a : Int) 0 = (a : Int) := by
  show IntKind.i64.wrap ((BitVec.ofInt 64 (a : Int) ^^^ BitVec.ofInt 64 ((0 : Nat) : Int)).toNat : Int) = _
  rw [BitVec.toNat_xor, ofInt_u64 a (by omega), ofInt_u64 0 (by omega), Nat.xor_zero, IntKind.wrap_i64]
  omega
theorem unzig_bits (u : Nat) (h : u < 18446744073709551616) : bits .xor .i64 (wrap64 ((u : Int) / 2)) (wrap64 (-wrap64 (bits .and .u64 (u : Int) 1))) = Lib.unzigzag u := by
  rw [Lib.u64_and1 _ (by omega) (by omega)]
  unfold Lib.unzigzag
  have e1 : wrap64 ((u : Int) / 2) = ((u / 2 : Nat) : Int) := by unfold wrap64; omega
  rw [e1]
  by_cases h2 : u % 2 = 0
  · rw [if_pos h2, show (u : Int) % 2 = 0 by omega, show wrap64 (-wrap64 0) = 0 by unfold wrap64; omega, i64_xor_zero _ (by omega)]
  · rw [if_neg h2, show (u : Int) % 2 = 1 by omega, show wrap64 (-wrap64 1) = -1 by unfold wrap64; omega, i64_xor_comm, Lib.i64_not _ (by omega)]
theorem ret_i64 {a b : Int} (h : a = b) : Ending.returned (.int .i64 a) = .returned (.int .i64 b) := by rw [h]
set_option maxRecDepth 100000 in
set_option maxHeartbeats 2000000 in
theorem number_go (p : Nat) (b o cap : Nat) (l : List UInt8) (w : World) (hp : w.heap[p]? = some (.cells #[.slice (some ⟨b, o, none⟩) l.length cap, .int .i64 0] 103 (0, 0))) (hs : Slc w (.slice (some ⟨b, o, none⟩) l.length cap) l) (hl : l.length ≤ 140737488000000) :
    Calls Tryz.prog 101 #[.pointer (some ⟨p, 0, none⟩)] w fun e w' => e = .returned (.int .i64 (rdNum l 0).1) ∧ RdAt w' p (rdNum l 0).2.2 (rdNum l 0).2.1 ∧ w.grownBy w' (some p) := by
  have HR : Hid (RdAt w p l 0) := ⟨_, _, _, hp, hs⟩
  have hc := hs.row.2
  obtain ⟨c0, c1⟩ := cells2 hp
  have fr := free_all hp
  have HC := Lib.hid hc
  have hcap := hc.le
  clear hp hs hc
  go_enter Tryz.func101, Tryz.ntmps101
  go_wp2
  go_loop [3, 4] (fun u i => ∃ (x k : Nat), k ≤ l.length ∧ k ≤ 9 ∧ u = .int .u64 (x : Int) ∧ i = .int .i64 (k : Int) ∧ x < 2 ^ (7 * k) ∧ numGo l 0 0 = numGo (l.drop k) k x) (fun _ i => 20 - (intOf i).toNat)
  case atStart => exact ⟨0, 0, by omega, by omega, rfl, rfl, by simp, rfl⟩
  case round =>
    obtain ⟨x, k, hk, hk9, rfl, rfl, hx, hgo⟩ := hrel
    have HX := Lib.hid hx
    by_cases hlt : k < l.length
    · obtain ⟨c, hcc⟩ : ∃ c, c = (l[k]).toNat := ⟨_, rfl⟩
      have hcell : w.cell? ⟨b, o + k, none⟩ = some (.int .u8 (c : Int)) := by
        obtain ⟨b', o', ha, hc⟩ := HC.out.at' k _ (bytesV_get hlt)
        cases ha
        rw [hcc]; exact hc
      have hclt : c < 256 := by rw [hcc]; exact l[k].toNat_lt
      rw [List.drop_eq_getElem_cons hlt, numGo, ← hcc] at hgo
      by_cases hA : k = 9 ∧ 1 < c
      · rw [if_pos hA] at hgo
        have HGO := Lib.hid hgo
        have kb : ((k : Int) == 9) = true := by simp; omega
        obtain ⟨hA1, hA2⟩ := hA
        clear hgo hcc hx hA1
        go_wp2
        go_ret
        refine ⟨?_, ?_, ?_⟩
        · simp [rdNum, HGO.out]
        · rw [show rdNum l 0 = (0, 3, l) by simp [rdNum, HGO.out]]
          exact HR.out.setErr 3
        · exact grown_set (grown_refl w _) _
      · rw [if_neg hA] at hgo
        obtain ⟨m, hm⟩ : ∃ m, m = c % 128 := ⟨_, rfl⟩
        obtain ⟨y, hy⟩ : ∃ y, y = m * 2 ^ (7 * k) := ⟨_, rfl⟩
        obtain ⟨x2, hx2⟩ : ∃ x2, x2 = x + y := ⟨_, rfl⟩
        have hm1 : m < 128 := by omega
        have hylt : y < 18446744073709551616 := by
          rw [hy]; exact mul_lt_pow m k hk9 hm1 (fun h9 => by omega)
        have hx2lt : x2 < 2 ^ (7 * (k + 1)) := by rw [hx2, hy]; exact step_lt x m k hx hm1
        have b1 : bits .and .u8 (c : Int) 127 = (m : Int) := by
          rw [u8_and127 (x := (c : Int)) (by omega) (by omega), hm]; omega
        have b0 : IntKind.u64.wrap (m : Int) = (m : Int) := by rw [IntKind.wrap_u64]; omega
        have b2 : IntKind.u64.wrap ((m : Int) * 2 ^ (7 * k)) = (y : Int) := by
          rw [IntKind.wrap_u64, show (m : Int) * 2 ^ (7 * k) = (y : Int) by rw [hy]; simp]; omega
        have hxlt : x < 18446744073709551616 := Nat.lt_of_lt_of_le hx (Nat.le_trans (Nat.pow_le_pow_right (by decide) (show 7 * k ≤ 63 by omega)) (by decide))
        have b3 : bits .or .u64 (x : Int) (y : Int) = (x2 : Int) := by
          rw [u64_or_nat x y hxlt hylt, hx2, hy, or_high x m k hx]
        have hx2u : x2 < 18446744073709551616 := by
          rcases Nat.lt_or_ge k 9 with h | h
          · exact Nat.lt_of_lt_of_le hx2lt (Nat.le_trans (Nat.pow_le_pow_right (by decide) (show 7 * (k + 1) ≤ 63 by omega)) (by decide))
          · have hk' : k = 9 := by omega
            have h1 : m ≤ 1 := by omega
            have h2 : y ≤ 1 * 2 ^ 63 := by rw [hy, hk']; exact Nat.mul_le_mul h1 (Nat.le_refl _)
            have h3 : x < 2 ^ 63 := by rw [hk'] at hx; exact hx
            omega
        rw [← hm, ← hy, ← hx2] at hgo
        have HX2 := Lib.hid hx2lt
        by_cases hB : 128 ≤ c
        · rw [if_pos hB] at hgo
          have HGO := Lib.hid hgo
          have hk8 : k ≤ 8 := by omega
          have kb : ((k : Int) == 9) = false := by simp; omega
          clear hgo hcc hx hm hy hx2 hylt hx2lt hxlt hx2u hA
          go_wp2
          go_round
          case rel => exact ⟨x2, k + 1, by omega, by omega, rfl, by go_num, HX2.out, HGO.out⟩
          case measure => simp [intOf]; omega
        · rw [if_neg hB] at hgo
          by_cases hC : c = 0 ∧ 0 < k
          · rw [if_pos hC] at hgo
            have HGO := Lib.hid hgo
            obtain ⟨hC1, hC2⟩ := hC
            have cb : ((c : Int) == 0) = true := by simp; omega
            have hc1 : c ≤ 1 := by omega
            clear hgo hcc hx hm hy hx2 hylt hx2lt hxlt hx2u hA hC1
            by_cases hk9' : k = 9
            · have kb : ((k : Int) == 9) = true := by simp; omega
              clear hk9'
              go_wp2
              go_ret
              refine ⟨?_, ?_, ?_⟩
              · simp [rdNum, HGO.out]
              · rw [show rdNum l 0 = (0, 1, l) by simp [rdNum, HGO.out]]
                exact HR.out.setErr 1
              · exact grown_set (grown_refl w _) _
            · have kb : ((k : Int) == 9) = false := by simp; omega
              go_wp2
              go_ret
              refine ⟨?_, ?_, ?_⟩
              · simp [rdNum, HGO.out]
              · rw [show rdNum l 0 = (0, 1, l) by simp [rdNum, HGO.out]]
                exact HR.out.setErr 1
              · exact grown_set (grown_refl w _) _
          · rw [if_neg hC] at hgo
            have HGO := Lib.hid hgo
            have hq : (k : Int) + 1 ≤ l.length := by omega
            have HZ := Lib.hid (unzig_bits x2 hx2u)
            have HRN : Hid (rdNum l 0 = (Lib.unzigzag x2, 0, l.drop (k + 1))) := by simp [rdNum, HGO.out, Hid]
            have HRS := Lib.hid (HR.out.setRest ((Slc.mk rfl HC.out).drop (lo := k + 1) (by omega)))
            have hD : (c = 0 ∧ k = 0) ∨ (¬ c = 0 ∧ k = 9 ∧ c ≤ 1) ∨ (¬ c = 0 ∧ ¬ k = 9) := by omega
            clear hgo hcc hx hm hy hx2 hylt hx2lt hxlt hx2u hA hC
            rcases hD with ⟨e1, e2⟩ | ⟨e1, e2, e3⟩ | ⟨e1, e2⟩
            · have cb : ((c : Int) == 0) = true := by simp; omega
              have kb : ((k : Int) == 9) = false := by simp; omega
              have kz : ¬ (0 < (k : Int)) := by omega
              clear e1 e2
              go_wp2
              go_ret
              exact ⟨ret_i64 (HZ.out.trans (by rw [HRN.out])), by rw [HRN.out]; exact HRS.out, grown_set (grown_refl w _) _⟩
            · have cb : ((c : Int) == 0) = false := by simp; omega
              have kb : ((k : Int) == 9) = true := by simp; omega
              clear e1 e2
              go_wp2
              go_ret
              exact ⟨ret_i64 (HZ.out.trans (by rw [HRN.out])), by rw [HRN.out]; exact HRS.out, grown_set (grown_refl w _) _⟩
            · have cb : ((c : Int) == 0) = false := by simp; omega
              have kb : ((k : Int) == 9) = false := by simp; omega
              clear e1 e2
              go_wp2
              go_ret
              exact ⟨ret_i64 (HZ.out.trans (by rw [HRN.out])), by rw [HRN.out]; exact HRS.out, grown_set (grown_refl w _) _⟩
    · obtain rfl : k = l.length := by omega
      rw [List.drop_length, numGo] at hgo
      have HGO := Lib.hid hgo
      clear hgo hx
      go_wp2
      go_ret
      refine ⟨?_, ?_, ?_⟩
      · simp [rdNum, HGO.out]
      · rw [show rdNum l 0 = (0, 16, l) by simp [rdNum, HGO.out]]
        exact HR.out.setErr 16
      · exact grown_set (grown_refl w _) _
set_option maxRecDepth 100000 in
set_option maxHeartbeats 1000000 in
theorem number_any (p : Nat) (l : List UInt8) (err : Int) (w : World) (h : RdAt w p l err) (hl : l.length ≤ 140737488000000) :
    Calls Tryz.prog 101 #[.pointer (some ⟨p, 0, none⟩)] w fun e w' => e = .returned (.int .i64 (rdNum l err).1) ∧ RdAt w' p (rdNum l err).2.2 (rdNum l err).2.1 ∧ w.grownBy w' (some p) := by
  have H := Lib.hid h
  obtain ⟨a, n, cap, h1, h2⟩ := h
  obtain ⟨hn, hr⟩ := h2.row
  by_cases he : err = 0
  · subst he
    rcases Nat.eq_zero_or_pos l.length with h0 | h0
    · obtain rfl := List.length_eq_zero_iff.1 h0
      obtain rfl : n = 0 := by simpa using hn.symm
      obtain ⟨c0, c1⟩ := cells2 h1
      have fr := free_all h1
      have HRN : Hid (rdNum [] 0 = (0, 16, [])) := by simp [rdNum, numGo, Hid]
      clear h1 h2 hn hr h0
      go_enter Tryz.func101, Tryz.ntmps101
      go_wp2
      refine wp_loop_rounds 1 ?_
      rw [rounds_succ]
      go_wp2
      go_ret
      exact ⟨ret_i64 (by rw [HRN.out]), by rw [HRN.out]; exact H.out.setErr 16, grown_set (grown_refl w _) _⟩
    · obtain ⟨b, o, rfl, _⟩ := hr.addr (by rw [bytesV_length]; exact h0)
      subst hn
      exact number_go p b o cap l w h1 h2 hl
  · obtain ⟨c0, c1⟩ := cells2 h1
    have HRN : Hid (rdNum l err = (0, err, l)) := by simp [rdNum, he, Hid]
    clear h1 h2 hn hr
    go_enter Tryz.func101, Tryz.ntmps101
    go_wp2
    go_ret
    exact ⟨ret_i64 (by rw [HRN.out]), by rw [HRN.out]; exact H.out, grown_refl w _⟩
end Go.Proofs.YtjkmbbnjiobckaaGreatDoor
