/-
  the reference's digest: Sum: the same value as the program's.
-/
import Derived.Test.YtjkmbbnjiobckaaGreatDoorRef2
namespace Go.Proofs.YtjkmbbnjiobckaaGreatDoor
open Go.RowKit
theorem orBytes_or (f : Nat → UInt8) : ∀ (n : Nat) (m : UInt64), orBytes f n m = orBytes f n 0 ||| m
  | 0, m => by simp [orBytes]
  | n + 1, m => by
    rw [orBytes, orBytes, orBytes_or f n m, UInt64.or_assoc, UInt64.or_assoc, UInt64.or_comm m]
theorem lastWord_eq (l : List UInt8) : lastWord l = chunkWord l (8 * (l.length / 8)) (l.length % 8) 0 ||| lenWord l.length := by
  unfold lastWord chunkWord
  rw [orBytes_or, show l.length - l.length % 8 = 8 * (l.length / 8) by omega]
/-- The state behind j rounds of the reference's loop. -/
def rstate (l : List UInt8) (s : St) (j : Nat) : St := if j ≤ l.length / 8 then words l s j else sipWord (words l s (l.length / 8)) (lastWord l)
theorem cell_set4 {w : World} {p : Nat} {T : TypeId} {s t : St} (hb : w.heap[p]? = some (.cells s.cells T (0, 0))) :
    ((((w.setCell ⟨p, 0, none⟩ (.int .u64 (U t.a))).setCell ⟨p, 1, none⟩ (.int .u64 (U t.b))).setCell ⟨p, 2, none⟩ (.int .u64 (U t.c))).setCell ⟨p, 3, none⟩ (.int .u64 (U t.d))).heap[p]? = some (.cells t.cells T (0, 0)) :=
  block_set' (block_set' (block_set' (block_set' hb rfl) rfl) rfl) rfl

set_option maxRecDepth 100000 in
set_option maxHeartbeats 4000000 in
theorem rsum_some (k0 k1 : UInt64) (b o cap : Nat) (l : List UInt8) (w : World) (hl : l.length ≤ 1099511627776)
    (hc : ∀ j x, (bytesV l)[j]? = some x → w.cell? ⟨b, o + j, none⟩ = some x) :
    Calls Tryz.prog 96 #[.int .u64 (U k0), .int .u64 (U k1), .slice (some ⟨b, o, none⟩) l.length cap] w fun e w' => e = .returned (.int .u64 (U (sipSum k0 k1 l))) ∧ Below w.heap.size w w' := by
  have l1 : (8317987319222330741 : Int) = U 8317987319222330741 := rfl
  have l2 : (7237128888997146477 : Int) = U 7237128888997146477 := rfl
  have l3 : (7816392313619706465 : Int) = U 7816392313619706465 := rfl
  have l4 : (8387220255154660723 : Int) = U 8387220255154660723 := rfl
  have HC := Lib.hid hc
  clear hc
  go_enter Tryz.func96, Tryz.ntmps96
  go_wp2
  clear l1 l2 l3 l4
  go_loopw [8] (fun i wr => ∃ (j : Nat) (t : St), j ≤ l.length / 8 + 1 ∧ i = .int .i64 (j : Int) ∧ Below w.heap.size w wr ∧ wr.heap[w.heap.size]? = some (.cells t.cells 172 (0, 0)) ∧ t = rstate l (sipInit k0 k1) j) (fun i _ => l.length / 8 + 1 - (intOf i).toNat)
  case atStart => exact ⟨0, _, by omega, rfl, (Below.refl _ _).alloc (Nat.le_refl _) _, heap_alloc_new _ _, by simp [rstate, words]; rfl⟩
  case round =>
    obtain ⟨j, t, hj, rfl, hB, hb, ht⟩ := hrel
    obtain ⟨a, b2, c, d⟩ := t
    have HB := Lib.hid hB
    have HT := Lib.hid ht
    have HBL := Lib.hid hb
    simp only [St.cells] at hb
    obtain ⟨h0, h1, h2, h3, f0, f1, f2, f3⟩ := st_cells hb
    have hsz : w.heap.size < wr.heap.size := (Array.getElem?_eq_some_iff.1 hb).1
    clear hB hb ht
    by_cases hlt : j < l.length / 8 + 1
    · have hj8 : 8 * j ≤ l.length := by omega
      obtain ⟨cnt, hcnt⟩ : ∃ cnt, cnt = if j < l.length / 8 then 8 else l.length % 8 := ⟨_, rfl⟩
      have hcnt1 : cnt ≤ 8 ∧ 8 * j + cnt ≤ l.length ∧ (cnt = 8 ∨ 8 * j + cnt = l.length) := by
        rw [hcnt]; split <;> omega
      have HCNT := Lib.hid hcnt
      have hjI : (j : Int) ≤ (l.length : Int) / 8 := by omega
      clear hcnt
      go_wp2
      go_loop [9, 10] (fun m k => ∃ q : Nat, q ≤ cnt ∧ k = .int .i64 q ∧ m = .int .u64 (U (chunkWord l (8 * j) q 0))) (fun _ k => 8 - (intOf k).toNat)
      case atStart => exact ⟨0, by omega, rfl, rfl⟩
      case round =>
        obtain ⟨q, hq, rfl, rfl⟩ := hrel
        by_cases hqc : q < cnt
        · have hx : wr.cell? ⟨b, o + (8 * j + q), none⟩ = some (.int .u8 ((l.getD (8 * j + q) 0).toNat : Int)) := by
            rw [HB.out.cell (p := ⟨b, o + (8 * j + q), none⟩) (World.block_lt_of_cell? w _ (bytes_cell HC.out _ (by omega)))]
            exact bytes_cell HC.out _ (by omega)
          have hq8 : q < 8 := by omega
          have hql : 8 * (j : Int) + q < l.length := by omega
          go_wp2
          go_round
          case rel => exact ⟨q + 1, by omega, by go_num, congrArg (Value.int .u64) (chunk_step l (8 * j) q 0 _ (by simp))⟩
          case measure => simp [intOf]; omega
        · obtain rfl : q = cnt := by omega
          by_cases hlast : j < l.length / 8
          · have hq8 : q = 8 := by rw [HCNT.out, if_pos hlast]
            obtain ⟨M, hM⟩ : ∃ M, M = chunkWord l (8 * j) q 0 := ⟨_, rfl⟩
            rw [← hM]
            have HM : Hid (M = chunkWord l (8 * j) 8 0) := by rw [hq8] at hM; exact hM
            have hjb : ((j : Int) == (l.length : Int) / 8) = false := by rw [beq_eq_false_iff_ne]; omega
            have hn8 : ¬ ((q : Int) < 8) := by omega
            clear hM hq8
            go_wp2_with fail
            refine (rrounds_any ⟨a, b2, c, d ^^^ M⟩ 2 _ (by omega)).mono ?_
            rintro _ w2 ⟨rfl, hb2⟩
            have hh2 := block_below hb2 (block_set' HBL.out rfl) (by simpa using hsz)
            have HB2 := Lib.hid ((HB.out.setCell (Nat.le_refl _) _).trans (hb2.mono (by simpa using Nat.le_of_lt hsz)))
            obtain ⟨⟨a', b', c', d'⟩, ht2⟩ : ∃ t, t = sipRounds 2 ⟨a, b2, c, d ^^^ M⟩ := ⟨_, rfl⟩
            rw [← ht2]
            have HT2 := Lib.hid ht2
            clear h0 h1 h2 h3 f0 f1 f2 f3
            obtain ⟨h0, h1, h2, h3⟩ := cells4 hh2
            have fr := free_all hh2
            have hsz2 : w.heap.size < w2.heap.size := (Array.getElem?_eq_some_iff.1 hh2).1
            have HH2 := Lib.hid hh2
            clear hb2 hh2 ht2
            unfold stAgg
            go_wp2
            go_roundw
            case rel =>
              refine ⟨j + 1, ⟨a' ^^^ M, b', c', d'⟩, by omega, by go_num, ((((HB2.out.setCell (Nat.le_refl _) _).setCell (Nat.le_refl _) _).setCell (Nat.le_refl _) _).setCell (Nat.le_refl _) _).setCell (Nat.le_refl _) _, block_set' (block_set' (block_set' (block_set' (block_set' HH2.out rfl) rfl) rfl) rfl) rfl, ?_⟩
              have e : (⟨a, b2, c, d⟩ : St) = words l (sipInit k0 k1) j := by rw [HT.out, rstate, if_pos (by omega)]
              rw [rstate, if_pos (by omega), words, ← e, ← HM.out, sipWord, ← HT2.out]
            case measure => simp [intOf]; omega
          · have hje : j = l.length / 8 := by omega
            obtain ⟨M, hM⟩ : ∃ M, M = lastWord l := ⟨_, rfl⟩
            have hor : bits .or .u64 (U (chunkWord l (8 * j) q 0)) ((l.length : Int) % 256 * 72057594037927936) = U M := by
              have e1 : (l.length : Int) % 256 * 72057594037927936 = U (lenWord l.length) := by
                unfold U lenWord; simp; omega
              have e2 : q = l.length % 8 := by rw [HCNT.out, if_neg hlast]
              rw [e1, U_or, hM, lastWord_eq, hje, e2]
            have HM := Lib.hid hM
            have hjb : ((j : Int) == (l.length : Int) / 8) = true := by rw [beq_iff_eq]; omega
            have hn8 : (q : Int) < 8 := by rw [HCNT.out, if_neg hlast]; omega
            have hn9 : ¬ (8 * (j : Int) + q < l.length) := by
              have e2 : q = l.length % 8 := by rw [HCNT.out, if_neg hlast]
              omega
            have HJE := Lib.hid hje
            clear hM hje
            go_wp2_with fail
            refine (rrounds_any ⟨a, b2, c, d ^^^ M⟩ 2 _ (by omega)).mono ?_
            rintro _ w2 ⟨rfl, hb2⟩
            have hh2 := block_below hb2 (block_set' HBL.out rfl) (by simpa using hsz)
            have HB2 := Lib.hid ((HB.out.setCell (Nat.le_refl _) _).trans (hb2.mono (by simpa using Nat.le_of_lt hsz)))
            obtain ⟨⟨a', b', c', d'⟩, ht2⟩ : ∃ t, t = sipRounds 2 ⟨a, b2, c, d ^^^ M⟩ := ⟨_, rfl⟩
            rw [← ht2]
            have HT2 := Lib.hid ht2
            clear h0 h1 h2 h3 f0 f1 f2 f3
            obtain ⟨h0, h1, h2, h3⟩ := cells4 hh2
            have fr := free_all hh2
            have hsz2 : w.heap.size < w2.heap.size := (Array.getElem?_eq_some_iff.1 hh2).1
            have HH2 := Lib.hid hh2
            clear hb2 hh2 ht2
            unfold stAgg
            go_wp2
            go_roundw
            case rel =>
              refine ⟨j + 1, ⟨a' ^^^ M, b', c', d'⟩, by omega, by go_num, ((((HB2.out.setCell (Nat.le_refl _) _).setCell (Nat.le_refl _) _).setCell (Nat.le_refl _) _).setCell (Nat.le_refl _) _).setCell (Nat.le_refl _) _, block_set' (block_set' (block_set' (block_set' (block_set' HH2.out rfl) rfl) rfl) rfl) rfl, ?_⟩
              have hje := HJE.out
              have e : (⟨a, b2, c, d⟩ : St) = words l (sipInit k0 k1) (l.length / 8) := by rw [HT.out, rstate, if_pos (by omega), hje]
              rw [rstate, if_neg (by omega), ← e, ← HM.out, sipWord, ← HT2.out]
            case measure => simp [intOf]; omega
    · have hjI : ¬ ((j : Int) ≤ (l.length : Int) / 8) := by omega
      have HE : Hid ((⟨a, b2, c, d⟩ : St) = sipWord (words l (sipInit k0 k1) (l.length / 8)) (lastWord l)) := by
        rw [HT.out, rstate, if_neg (by omega)]; exact rfl
      have l5 : (255 : Int) = U 255 := rfl
      go_wp2_with fail
      refine (rrounds_any ⟨a, b2, c ^^^ 255, d⟩ 4 _ (by omega)).mono ?_
      rintro _ w2 ⟨rfl, hb2⟩
      have hh2 := block_below hb2 (block_set' HBL.out rfl) (by simpa using hsz)
      have HB2 := Lib.hid ((HB.out.setCell (Nat.le_refl _) _).trans (hb2.mono (by simpa using Nat.le_of_lt hsz)))
      obtain ⟨⟨a', b', c', d'⟩, ht2⟩ : ∃ t, t = sipRounds 4 ⟨a, b2, c ^^^ 255, d⟩ := ⟨_, rfl⟩
      rw [← ht2]
      have HT2 := Lib.hid ht2
      clear h0 h1 h2 h3 f0 f1 f2 f3
      obtain ⟨h0, h1, h2, h3⟩ := cells4 hh2
      have fr := free_all hh2
      have hsz2 : w.heap.size < w2.heap.size := (Array.getElem?_eq_some_iff.1 hh2).1
      clear hb2 hh2 ht2 l5
      unfold stAgg
      go_wp2
      go_ret
      refine ⟨congrArg (fun x => Ending.returned (Value.int .u64 (U x))) (show a' ^^^ b' ^^^ c' ^^^ d' = sipSum k0 k1 l by rw [sipSum, ← HE.out, sipEnd, ← HT2.out]), ?_⟩
      exact (((HB2.out.setCell (Nat.le_refl _) _).setCell (Nat.le_refl _) _).setCell (Nat.le_refl _) _).setCell (Nat.le_refl _) _
end Go.Proofs.YtjkmbbnjiobckaaGreatDoor
