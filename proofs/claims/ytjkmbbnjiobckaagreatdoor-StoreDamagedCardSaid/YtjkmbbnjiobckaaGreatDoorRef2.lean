/-
  the reference's digest: rotate and rounds: the same words as the program's.
-/
import Derived.Test.YtjkmbbnjiobckaaGreatDoorHash
namespace Go.Proofs.YtjkmbbnjiobckaaGreatDoor
open Go.RowKit
theorem rrot_any (x : UInt64) (k : Nat) (w : World) (hk : k < 64) :
    Calls Tryz.prog 160 #[.int .u64 (U x), .int .u64 k] w fun e w' => e = .returned (.int .u64 (U (rotl x k))) ∧ w' = w := by
  have hx := U_bd x
  have h2 := U_shl x k
  have h3 := U_shr x (64 - k)
  go_enter Tryz.func160, Tryz.ntmps160
  go_wp2
  go_ret
  exact ⟨by simp [rotl], rfl⟩
theorem rrot_lit (k : Nat) (hk : k < 64) (x : UInt64) (w : World) (j : Int) (hj : j = (k : Int)) : Calls Tryz.prog 160 #[.int .u64 (U x), .int .u64 j] w fun e w' => e = .returned (.int .u64 (U (rotl x k))) ∧ w' = w := by
  subst hj; exact rrot_any x k w hk
theorem set_other {w : World} {p q i : Nat} {v : Value} {o : Obj} (h : w.heap[q]? = some o) (hq : q ≠ p) : (w.setCell ⟨p, i, none⟩ v).heap[q]? = some o :=
  (Below.heap_setCell w _ v q hq).trans h
def stZero : Array Value := #[.int .u64 0, .int .u64 0, .int .u64 0, .int .u64 0]
def stAgg (s : St) : Value := .agg #[.int .u64 (U s.a), .int .u64 (U s.b), .int .u64 (U s.c), .int .u64 (U s.d)]

set_option maxRecDepth 100000 in
set_option maxHeartbeats 4000000 in
theorem rrounds_any (s : St) (n : Nat) (w : World) (hn : n ≤ 100) :
    Calls Tryz.prog 130 #[stAgg s, .int .i64 n] w fun e w' => e = .returned (stAgg (sipRounds n s)) ∧ Below w.heap.size w w' := by
  unfold stAgg
  go_enter Tryz.func130, Tryz.ntmps130
  go_wp2
  refine wp_world (fun w' => Below w.heap.size w w' ∧ w'.heap[w.heap.size]? = some (.cells s.cells 172 (0, 0)) ∧ w'.heap[w.heap.size + 1]? = some (.cells #[.int .u64 0, .int .u64 0, .int .u64 0, .int .u64 0] 172 (0, 0))) ?_ ?_
  · refine ⟨((Below.refl _ _).alloc (Nat.le_refl _) _).alloc (le_alloc _ _) _, ?_, ?_⟩
    · rw [Below.heap_alloc _ _ _ (by simp), heap_alloc_new]; rfl
    · have := heap_alloc_new (w.alloc (.cells s.cells 172)) (.cells #[.int .u64 0, .int .u64 0, .int .u64 0, .int .u64 0] 172)
      rw [World.size_alloc] at this
      exact this
  rintro w0 ⟨hB, hb0, hz⟩
  have HB := Lib.hid hB
  have HB0 := Lib.hid hb0
  have HZ := Lib.hid hz
  clear hB hb0 hz
  go_loopw [5] (fun i wr => ∃ k : Nat, ∃ t : St, k ≤ n ∧ i = .int .i64 k ∧ Below w.heap.size w wr ∧ wr.heap[w.heap.size]? = some (.cells t.cells 172 (0, 0)) ∧ wr.heap[w.heap.size + 1]? = some (.cells #[.int .u64 0, .int .u64 0, .int .u64 0, .int .u64 0] 172 (0, 0)) ∧ sipRounds n s = sipRounds (n - k) t) (fun i _ => n - (intOf i).toNat)
  case atStart => exact ⟨0, s, Nat.zero_le _, rfl, HB.out, HB0.out, HZ.out, rfl⟩
  case round =>
    obtain ⟨k, t, hk, rfl, hB, hb0, hz, hs⟩ := hrel
    obtain ⟨a, b, c, d⟩ := t
    have HB := Lib.hid hB
    have HZ := Lib.hid hz
    clear hB hz
    by_cases hlt : k < n
    · have HS := Lib.hid (sipRounds_less _ _ hlt hs)
      simp only [St.cells] at hb0
      obtain ⟨h0, h1, h2, h3, f0, f1, f2, f3⟩ := st_cells hb0
      have HB0 := Lib.hid hb0
      clear hs hb0
      go_wp2
      refine wp_world (fun w' => ∃ a1_0, a1_0 = a + b ∧ Below w.heap.size w w' ∧ w'.heap[w.heap.size]? = some (.cells #[.int .u64 (U a1_0), .int .u64 (U b), .int .u64 (U c), .int .u64 (U d)] 172 (0, 0)) ∧ w'.heap[w.heap.size + 1]? = some (.cells #[.int .u64 0, .int .u64 0, .int .u64 0, .int .u64 0] 172 (0, 0))) ⟨_, rfl, (HB.out.setCell (Nat.le_refl _) _), (block_set' HB0.out rfl), (set_other HZ.out (by omega))⟩ ?_
      clear h0 h1 h2 h3 f0 f1 f2 f3
      rintro w1 ⟨a1_0, ea1_0, hB, hb, hz⟩
      have Ea1_0 := Lib.hid ea1_0
      clear ea1_0
      obtain ⟨h0, h1, h2, h3, f0, f1, f2, f3⟩ := st_cells hb
      have HB1b := Lib.hid hB
      have HC1 := Lib.hid hb
      have HZ1 := Lib.hid hz
      clear hB hb hz
      refine wp_region_same 7 [0, 1, 3, 4, 2, 5, 6] (by kernel_rfl) (by kernel_rfl) (by intro c a d v w h; cases d <;> exact h) ?_
      simp only [List.filterMap_cons, List.filterMap_nil, List.getElem?_cons_zero, List.getElem?_cons_succ, List.drop_succ_cons, List.drop_zero]
      iterate 4 (refine Seg.takeK rfl rfl (fun K hK => ⟨_, fun ws hws => by go_simp; rfl, ?_⟩); go_simp; refine hK _ ?_; clear hK K)
      refine Seg.loud rfl rfl (fun K hK => ?_)
      go_wp2_with fail
      refine (rrot_lit 13 (by omega) _ _ _ rfl).mono ?_
      rintro _ _ ⟨rfl, rfl⟩
      refine hK _ _ (fun _ => rfl) ?_
      clear hK K
      iterate 2 (refine Seg.takeK rfl rfl (fun K hK => ⟨_, fun ws hws => by go_simp; rfl, ?_⟩); go_simp; refine hK _ ?_; clear hK K)
      refine Seg.nil ?_
      go_wp2_with fail
      refine (rrot_lit 32 (by omega) _ _ _ rfl).mono ?_
      rintro _ _ ⟨rfl, rfl⟩
      go_wp2
      refine wp_world (fun w' => ∃ b2_0, b2_0 = rotl b 13 ^^^ a1_0 ∧ ∃ a2_1, a2_1 = rotl a1_0 32 ∧ ∃ c2_2, c2_2 = c + d ∧ Below w.heap.size w w' ∧ w'.heap[w.heap.size]? = some (.cells #[.int .u64 (U a2_1), .int .u64 (U b2_0), .int .u64 (U c2_2), .int .u64 (U d)] 172 (0, 0)) ∧ w'.heap[w.heap.size + 1]? = some (.cells #[.int .u64 0, .int .u64 0, .int .u64 0, .int .u64 0] 172 (0, 0))) ⟨_, rfl, _, rfl, _, rfl, (((HB1b.out.setCell (Nat.le_refl _) _).setCell (Nat.le_refl _) _).setCell (Nat.le_refl _) _).drew, (block_drew (block_set' (block_set' (block_set' HC1.out rfl) rfl) rfl)), (block_drew (set_other (set_other (set_other HZ1.out (by omega)) (by omega)) (by omega)))⟩ ?_
      clear h0 h1 h2 h3 f0 f1 f2 f3
      rintro w2 ⟨b2_0, eb2_0, a2_1, ea2_1, c2_2, ec2_2, hB, hb, hz⟩
      have Eb2_0 := Lib.hid eb2_0
      clear eb2_0
      have Ea2_1 := Lib.hid ea2_1
      clear ea2_1
      have Ec2_2 := Lib.hid ec2_2
      clear ec2_2
      obtain ⟨h0, h1, h2, h3, f0, f1, f2, f3⟩ := st_cells hb
      have HB2b := Lib.hid hB
      have HC2 := Lib.hid hb
      have HZ2 := Lib.hid hz
      clear hB hb hz
      refine wp_region_same 7 [0, 1, 3, 4, 2, 5, 6] (by kernel_rfl) (by kernel_rfl) (by intro c a d v w h; cases d <;> exact h) ?_
      simp only [List.filterMap_cons, List.filterMap_nil, List.getElem?_cons_zero, List.getElem?_cons_succ, List.drop_succ_cons, List.drop_zero]
      iterate 4 (refine Seg.takeK rfl rfl (fun K hK => ⟨_, fun ws hws => by go_simp; rfl, ?_⟩); go_simp; refine hK _ ?_; clear hK K)
      refine Seg.loud rfl rfl (fun K hK => ?_)
      go_wp2_with fail
      refine (rrot_lit 16 (by omega) _ _ _ rfl).mono ?_
      rintro _ _ ⟨rfl, rfl⟩
      refine hK _ _ (fun _ => rfl) ?_
      clear hK K
      iterate 2 (refine Seg.takeK rfl rfl (fun K hK => ⟨_, fun ws hws => by go_simp; rfl, ?_⟩); go_simp; refine hK _ ?_; clear hK K)
      refine Seg.nil ?_
      go_wp2
      refine wp_world (fun w' => ∃ d3_0, d3_0 = rotl d 16 ^^^ c2_2 ∧ ∃ a3_1, a3_1 = a2_1 + d3_0 ∧ Below w.heap.size w w' ∧ w'.heap[w.heap.size]? = some (.cells #[.int .u64 (U a3_1), .int .u64 (U b2_0), .int .u64 (U c2_2), .int .u64 (U d3_0)] 172 (0, 0)) ∧ w'.heap[w.heap.size + 1]? = some (.cells #[.int .u64 0, .int .u64 0, .int .u64 0, .int .u64 0] 172 (0, 0))) ⟨_, rfl, _, rfl, ((HB2b.out.setCell (Nat.le_refl _) _).setCell (Nat.le_refl _) _).drew, (block_drew (block_set' (block_set' HC2.out rfl) rfl)), (block_drew (set_other (set_other HZ2.out (by omega)) (by omega)))⟩ ?_
      clear h0 h1 h2 h3 f0 f1 f2 f3
      rintro w3 ⟨d3_0, ed3_0, a3_1, ea3_1, hB, hb, hz⟩
      have Ed3_0 := Lib.hid ed3_0
      clear ed3_0
      have Ea3_1 := Lib.hid ea3_1
      clear ea3_1
      obtain ⟨h0, h1, h2, h3, f0, f1, f2, f3⟩ := st_cells hb
      have HB3b := Lib.hid hB
      have HC3 := Lib.hid hb
      have HZ3 := Lib.hid hz
      clear hB hb hz
      refine wp_region_same 7 [0, 1, 3, 4, 2, 5, 6] (by kernel_rfl) (by kernel_rfl) (by intro c a d v w h; cases d <;> exact h) ?_
      simp only [List.filterMap_cons, List.filterMap_nil, List.getElem?_cons_zero, List.getElem?_cons_succ, List.drop_succ_cons, List.drop_zero]
      iterate 4 (refine Seg.takeK rfl rfl (fun K hK => ⟨_, fun ws hws => by go_simp; rfl, ?_⟩); go_simp; refine hK _ ?_; clear hK K)
      refine Seg.loud rfl rfl (fun K hK => ?_)
      go_wp2_with fail
      refine (rrot_lit 21 (by omega) _ _ _ rfl).mono ?_
      rintro _ _ ⟨rfl, rfl⟩
      refine hK _ _ (fun _ => rfl) ?_
      clear hK K
      iterate 2 (refine Seg.takeK rfl rfl (fun K hK => ⟨_, fun ws hws => by go_simp; rfl, ?_⟩); go_simp; refine hK _ ?_; clear hK K)
      refine Seg.nil ?_
      go_wp2
      refine wp_world (fun w' => ∃ d4_0, d4_0 = rotl d3_0 21 ^^^ a3_1 ∧ ∃ c4_1, c4_1 = c2_2 + b2_0 ∧ Below w.heap.size w w' ∧ w'.heap[w.heap.size]? = some (.cells #[.int .u64 (U a3_1), .int .u64 (U b2_0), .int .u64 (U c4_1), .int .u64 (U d4_0)] 172 (0, 0)) ∧ w'.heap[w.heap.size + 1]? = some (.cells #[.int .u64 0, .int .u64 0, .int .u64 0, .int .u64 0] 172 (0, 0))) ⟨_, rfl, _, rfl, ((HB3b.out.setCell (Nat.le_refl _) _).setCell (Nat.le_refl _) _).drew, (block_drew (block_set' (block_set' HC3.out rfl) rfl)), (block_drew (set_other (set_other HZ3.out (by omega)) (by omega)))⟩ ?_
      clear h0 h1 h2 h3 f0 f1 f2 f3
      rintro w4 ⟨d4_0, ed4_0, c4_1, ec4_1, hB, hb, hz⟩
      have Ed4_0 := Lib.hid ed4_0
      clear ed4_0
      have Ec4_1 := Lib.hid ec4_1
      clear ec4_1
      obtain ⟨h0, h1, h2, h3, f0, f1, f2, f3⟩ := st_cells hb
      have HB4b := Lib.hid hB
      have HC4 := Lib.hid hb
      have HZ4 := Lib.hid hz
      clear hB hb hz
      refine wp_region_same 7 [0, 1, 3, 4, 2, 5, 6] (by kernel_rfl) (by kernel_rfl) (by intro c a d v w h; cases d <;> exact h) ?_
      simp only [List.filterMap_cons, List.filterMap_nil, List.getElem?_cons_zero, List.getElem?_cons_succ, List.drop_succ_cons, List.drop_zero]
      iterate 4 (refine Seg.takeK rfl rfl (fun K hK => ⟨_, fun ws hws => by go_simp; rfl, ?_⟩); go_simp; refine hK _ ?_; clear hK K)
      refine Seg.loud rfl rfl (fun K hK => ?_)
      go_wp2_with fail
      refine (rrot_lit 17 (by omega) _ _ _ rfl).mono ?_
      rintro _ _ ⟨rfl, rfl⟩
      refine hK _ _ (fun _ => rfl) ?_
      clear hK K
      iterate 2 (refine Seg.takeK rfl rfl (fun K hK => ⟨_, fun ws hws => by go_simp; rfl, ?_⟩); go_simp; refine hK _ ?_; clear hK K)
      refine Seg.nil ?_
      go_wp2_with fail
      refine (rrot_lit 32 (by omega) _ _ _ rfl).mono ?_
      rintro _ _ ⟨rfl, rfl⟩
      go_wp2
      go_roundw
      case rel => exact ⟨k + 1, ⟨a3_1, rotl b2_0 17 ^^^ c4_1, rotl c4_1 32, d4_0⟩, by omega, by go_num, ((HB4b.out.setCell (Nat.le_refl _) _).setCell (Nat.le_refl _) _).drew, block_drew (block_set' (block_set' HC4.out rfl) rfl), block_drew (set_other (set_other HZ4.out (by omega)) (by omega)), HS.out.trans (by rw [sipRound_eq Ea1_0.out Eb2_0.out Ea2_1.out Ec2_2.out Ed3_0.out Ea3_1.out Ed4_0.out Ec4_1.out rfl rfl])⟩
      case measure => simp [intOf]; omega
    · obtain rfl : k = n := by omega
      have HS : Hid (sipRounds k s = ⟨a, b, c, d⟩) := by rw [Nat.sub_self, sipRounds_zero] at hs; exact Lib.hid hs
      simp only [St.cells] at hb0
      obtain ⟨h0, h1, h2, h3, f0, f1, f2, f3⟩ := st_cells hb0
      obtain ⟨z0, z1, z2, z3⟩ := cells4 HZ.out
      have zf := free_all HZ.out
      have hsz : w.heap.size + 1 < wr.heap.size := (Array.getElem?_eq_some_iff.1 HZ.out).1
      clear hs
      have HB0 := Lib.hid hb0
      clear hb0
      go_wp2
      have hF : (((((wr.setCell ⟨w.heap.size + 1, 0, none⟩ (.int .u64 (U a))).setCell ⟨w.heap.size + 1, 1, none⟩ (.int .u64 (U b))).setCell ⟨w.heap.size + 1, 2, none⟩ (.int .u64 (U c))).setCell ⟨w.heap.size + 1, 3, none⟩ (.int .u64 (U d)))).heap[w.heap.size + 1]? = some (.cells #[.int .u64 (U a), .int .u64 (U b), .int .u64 (U c), .int .u64 (U d)] 172 (0, 0)) := block_set' (block_set' (block_set' (block_set' HZ.out rfl) rfl) rfl) rfl
      obtain ⟨r0, r1, r2, r3⟩ := cells4 hF
      clear z0 z1 z2 z3 zf h0 h1 h2 h3 f0 f1 f2 f3 hF
      refine bodyPost_ret (v := stAgg ⟨a, b, c, d⟩) (by simp only [results, Tryz.results130]; simp [go_sem, r0, r1, r2, r3]; rfl) rfl ⟨by rw [HS.out]; rfl, ?_⟩
      exact (((HB.out.setCell (by simp) _).setCell (by simp) _).setCell (by simp) _).setCell (by simp) _
end Go.Proofs.YtjkmbbnjiobckaaGreatDoor
