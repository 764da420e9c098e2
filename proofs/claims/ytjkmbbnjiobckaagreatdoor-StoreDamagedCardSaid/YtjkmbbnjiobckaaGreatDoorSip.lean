/-
  digest: RotateLeft64, state.rounds, state.word: what they compute, in 64-bit words.
-/
import Derived.Test.YtjkmbbnjiobckaaGreatDoorProg
import Derived.Test.YtjkmbbnjiobckaaGreatDoorBase
namespace Go.Proofs.YtjkmbbnjiobckaaGreatDoor
open Go.RowKit

theorem rot_any (x : UInt64) (k : Nat) (w : World) (hk : k < 64) :
    Calls Tryz.prog 186 #[.int .u64 (U x), .int .i64 k] w fun e w' => e = .returned (.int .u64 (U (rotl x k))) ∧ w' = w := by
  have hx := U_bd x
  have h0 : IntKind.u64.wrap (k : Int) = (k : Int) := by rw [IntKind.wrap_u64]; omega
  have h1 : bits .and .u64 (k : Int) 63 = (k : Int) := by
    rw [show (63 : Int) = ((63 : Nat) : Int) from rfl, u64_and_nat k 63 (by omega) (by omega)]
    have : k &&& 63 = k := by rw [show 63 = 2 ^ 6 - 1 from rfl, Nat.and_two_pow_sub_one_eq_mod]; omega
    rw [this]
  have h2 := U_shl x k
  have h3 := U_shr x (64 - k)
  go_enter Tryz.func186, Tryz.ntmps186
  go_wp2
  go_ret
  exact ⟨by simp [rotl], rfl⟩

structure St where
  a : UInt64
  b : UInt64
  c : UInt64
  d : UInt64
def St.cells (s : St) : Array Value := #[.int .u64 (U s.a), .int .u64 (U s.b), .int .u64 (U s.c), .int .u64 (U s.d)]
def sipRound (s : St) : St :=
  let a := s.a + s.b
  let b := rotl s.b 13 ^^^ a
  let a := rotl a 32
  let c := s.c + s.d
  let d := rotl s.d 16 ^^^ c
  let a := a + d
  let d := rotl d 21 ^^^ a
  let c := c + b
  let b := rotl b 17 ^^^ c
  let c := rotl c 32
  ⟨a, b, c, d⟩
def iter {α : Type} (f : α → α) : Nat → α → α
  | 0, s => s
  | n + 1, s => iter f n (f s)
theorem iter_succ {α : Type} (f : α → α) (n : Nat) (s : α) : iter f (n + 1) s = iter f n (f s) := rfl
def sipRounds (n : Nat) (s : St) : St := iter sipRound n s
theorem sipRounds_succ (n : Nat) (s : St) : sipRounds (n + 1) s = sipRounds n (sipRound s) := iter_succ sipRound n s
theorem sipRounds_zero (s : St) : sipRounds 0 s = s := by rw [sipRounds, iter]
theorem sipRounds_less {n k : Nat} (s t : St) (hk : k < n) (h : sipRounds n s = sipRounds (n - k) t) : sipRounds n s = sipRounds (n - (k + 1)) (sipRound t) := by
  have e : n - k = (n - (k + 1)) + 1 := by omega
  rw [h, e, sipRounds_succ]
def sipWord (s : St) (m : UInt64) : St :=
  let t := sipRounds 2 ⟨s.a, s.b, s.c, s.d ^^^ m⟩
  ⟨t.a ^^^ m, t.b, t.c, t.d⟩
theorem rot_lit (k : Nat) (hk : k < 64) (x : UInt64) (w : World) (j : Int) (hj : j = (k : Int)) : Calls Tryz.prog 186 #[.int .u64 (U x), .int .i64 j] w fun e w' => e = .returned (.int .u64 (U (rotl x k))) ∧ w' = w := by
  subst hj; exact rot_any x k w hk

theorem st_cells {w : World} {p : Nat} {T : TypeId} {a b c d : UInt64} (hb : w.heap[p]? = some (.cells #[.int .u64 (U a), .int .u64 (U b), .int .u64 (U c), .int .u64 (U d)] T (0, 0))) :
    w.cell? ⟨p, 0, none⟩ = some (.int .u64 (U a)) ∧ w.cell? ⟨p, 1, none⟩ = some (.int .u64 (U b)) ∧ w.cell? ⟨p, 2, none⟩ = some (.int .u64 (U c)) ∧ w.cell? ⟨p, 3, none⟩ = some (.int .u64 (U d)) ∧
    w.frozen? ⟨p, 0, none⟩ = false ∧ w.frozen? ⟨p, 1, none⟩ = false ∧ w.frozen? ⟨p, 2, none⟩ = false ∧ w.frozen? ⟨p, 3, none⟩ = false :=
  ⟨cell_of_block hb rfl, cell_of_block hb rfl, cell_of_block hb rfl, cell_of_block hb rfl, free_of_block hb, free_of_block hb, free_of_block hb, free_of_block hb⟩
theorem sipRound_eq {a b c d a1 b2 a3 c4 d5 a6 d7 c8 b9 c10 : UInt64} (h1 : a1 = a + b) (h2 : b2 = rotl b 13 ^^^ a1) (h3 : a3 = rotl a1 32) (h4 : c4 = c + d) (h5 : d5 = rotl d 16 ^^^ c4)
    (h6 : a6 = a3 + d5) (h7 : d7 = rotl d5 21 ^^^ a6) (h8 : c8 = c4 + b2) (h9 : b9 = rotl b2 17 ^^^ c8) (h10 : c10 = rotl c8 32) : sipRound ⟨a, b, c, d⟩ = ⟨a6, b9, c10, d7⟩ := by
  subst h1 h2 h3 h4 h5 h6 h7 h8 h9 h10
  simp only [sipRound]
set_option maxRecDepth 100000 in
set_option maxHeartbeats 4000000 in
theorem rounds_any (s : St) (n : Nat) (p : Nat) (T : TypeId) (w : World) (hn : n ≤ 100) (hb : w.heap[p]? = some (.cells s.cells T (0, 0))) :
    Calls Tryz.prog 162 #[.pointer (some ⟨p, 0, none⟩), .int .i64 n] w fun e w' => e = .returned (.tuple #[]) ∧ w.grownBy w' (some p) ∧ w'.heap[p]? = some (.cells (sipRounds n s).cells T (0, 0)) := by
  have HB := Lib.hid hb
  clear hb
  go_enter Tryz.func162, Tryz.ntmps162
  go_wp2
  go_loopw [5] (fun i wr => ∃ k : Nat, ∃ t : St, k ≤ n ∧ i = .int .i64 k ∧ w.grownBy wr (some p) ∧ wr.heap[p]? = some (.cells t.cells T (0, 0)) ∧ sipRounds n s = sipRounds (n - k) t) (fun i _ => n - (intOf i).toNat)
  case atStart => exact ⟨0, s, Nat.zero_le _, rfl, grown_refl _ _, HB.out, rfl⟩
  case round =>
    obtain ⟨k, t, hk, rfl, hg, hb0, hs⟩ := hrel
    obtain ⟨a, b, c, d⟩ := t
    have HG := Lib.hid hg
    clear hg
    by_cases hlt : k < n
    · have HS := Lib.hid (sipRounds_less _ _ hlt hs)
      simp only [St.cells] at hb0
      obtain ⟨h0, h1, h2, h3, f0, f1, f2, f3⟩ := st_cells hb0
      have HB0 := Lib.hid hb0
      have HG0 := Lib.hid (grown_refl wr (some p))
      clear hs hb0
      go_wp2
      refine wp_region_same 11 [0, 1, 2, 3, 4, 5, 6, 7, 8, 9, 10] (by kernel_rfl) (by kernel_rfl) (by intro c a d v w h; cases d <;> exact h) ?_
      simp only [List.filterMap_cons, List.filterMap_nil, List.getElem?_cons_zero, List.getElem?_cons_succ, List.drop_succ_cons, List.drop_zero]
      iterate 11 (refine Seg.takeK rfl rfl (fun K hK => ⟨_, fun ws hws => by go_simp; rfl, ?_⟩); go_simp; refine hK _ ?_; clear hK K)
      refine Seg.nil ?_
      go_wp2
      refine wp_world (fun w' => wr.grownBy w' (some p) ∧ ∃ x, x = a + b ∧ w'.heap[p]? = some (.cells #[.int .u64 (U x), .int .u64 (U b), .int .u64 (U c), .int .u64 (U d)] T (0, 0))) ⟨grown_drew (grown_set HG0.out _), _, rfl, block_drew (block_set' HB0.out rfl)⟩ ?_
      clear h0 h1 h2 h3 f0 f1 f2 f3
      rintro w1 ⟨hg1, a1, e1, hb1⟩
      obtain ⟨h0, h1, h2, h3, f0, f1, f2, f3⟩ := st_cells hb1
      have E1 := Lib.hid e1
      clear e1
      have HB1 := Lib.hid hb1
      clear hb1
      have HG1 := Lib.hid hg1
      clear hg1
      refine wp_region_same 13 [0, 1, 2, 3, 4, 6, 7, 8, 9, 11, 5, 10, 12] (by kernel_rfl) (by kernel_rfl) (by intro c a d v w h; cases d <;> exact h) ?_
      simp only [List.filterMap_cons, List.filterMap_nil, List.getElem?_cons_zero, List.getElem?_cons_succ, List.drop_succ_cons, List.drop_zero]
      iterate 10 (refine Seg.takeK rfl rfl (fun K hK => ⟨_, fun ws hws => by go_simp; rfl, ?_⟩); go_simp; refine hK _ ?_; clear hK K)
      refine Seg.loud rfl rfl (fun K hK => ?_)
      go_wp2_with fail
      refine (rot_lit 13 (by omega) _ _ _ rfl).mono ?_
      rintro _ _ ⟨rfl, rfl⟩
      refine hK _ _ (fun _ => rfl) ?_
      clear hK K
      iterate 2 (refine Seg.takeK rfl rfl (fun K hK => ⟨_, fun ws hws => by go_simp; rfl, ?_⟩); go_simp; refine hK _ ?_; clear hK K)
      refine Seg.nil ?_
      go_wp2
      refine wp_world (fun w' => wr.grownBy w' (some p) ∧ ∃ x, x = rotl b 13 ^^^ a1 ∧ w'.heap[p]? = some (.cells #[.int .u64 (U a1), .int .u64 (U x), .int .u64 (U c), .int .u64 (U d)] T (0, 0))) ⟨grown_drew (grown_set HG1.out _), _, rfl, block_drew (block_set' HB1.out rfl)⟩ ?_
      clear h0 h1 h2 h3 f0 f1 f2 f3
      rintro w2 ⟨hg2, b2, e2, hb2⟩
      obtain ⟨h0, h1, h2, h3, f0, f1, f2, f3⟩ := st_cells hb2
      have E2 := Lib.hid e2
      clear e2
      have HB2 := Lib.hid hb2
      clear hb2
      have HG2 := Lib.hid hg2
      clear hg2
      refine wp_region_same 8 [0, 1, 2, 3, 4, 6, 5, 7] (by kernel_rfl) (by kernel_rfl) (by intro c a d v w h; cases d <;> exact h) ?_
      simp only [List.filterMap_cons, List.filterMap_nil, List.getElem?_cons_zero, List.getElem?_cons_succ, List.drop_succ_cons, List.drop_zero]
      iterate 6 (refine Seg.takeK rfl rfl (fun K hK => ⟨_, fun ws hws => by go_simp; rfl, ?_⟩); go_simp; refine hK _ ?_; clear hK K)
      refine Seg.loud rfl rfl (fun K hK => ?_)
      go_wp2_with fail
      refine (rot_lit 32 (by omega) _ _ _ rfl).mono ?_
      rintro _ _ ⟨rfl, rfl⟩
      refine hK _ _ (fun _ => rfl) ?_
      clear hK K
      iterate 1 (refine Seg.takeK rfl rfl (fun K hK => ⟨_, fun ws hws => by go_simp; rfl, ?_⟩); go_simp; refine hK _ ?_; clear hK K)
      refine Seg.nil ?_
      go_wp2
      refine wp_world (fun w' => wr.grownBy w' (some p) ∧ ∃ x, x = rotl a1 32 ∧ w'.heap[p]? = some (.cells #[.int .u64 (U x), .int .u64 (U b2), .int .u64 (U c), .int .u64 (U d)] T (0, 0))) ⟨grown_drew (grown_set HG2.out _), _, rfl, block_drew (block_set' HB2.out rfl)⟩ ?_
      clear h0 h1 h2 h3 f0 f1 f2 f3
      rintro w3 ⟨hg3, a3, e3, hb3⟩
      obtain ⟨h0, h1, h2, h3, f0, f1, f2, f3⟩ := st_cells hb3
      have E3 := Lib.hid e3
      clear e3
      have HB3 := Lib.hid hb3
      clear hb3
      have HG3 := Lib.hid hg3
      clear hg3
      refine wp_region_same 11 [0, 1, 2, 3, 4, 5, 6, 7, 8, 9, 10] (by kernel_rfl) (by kernel_rfl) (by intro c a d v w h; cases d <;> exact h) ?_
      simp only [List.filterMap_cons, List.filterMap_nil, List.getElem?_cons_zero, List.getElem?_cons_succ, List.drop_succ_cons, List.drop_zero]
      iterate 11 (refine Seg.takeK rfl rfl (fun K hK => ⟨_, fun ws hws => by go_simp; rfl, ?_⟩); go_simp; refine hK _ ?_; clear hK K)
      refine Seg.nil ?_
      go_wp2
      refine wp_world (fun w' => wr.grownBy w' (some p) ∧ ∃ x, x = c + d ∧ w'.heap[p]? = some (.cells #[.int .u64 (U a3), .int .u64 (U b2), .int .u64 (U x), .int .u64 (U d)] T (0, 0))) ⟨grown_drew (grown_set HG3.out _), _, rfl, block_drew (block_set' HB3.out rfl)⟩ ?_
      clear h0 h1 h2 h3 f0 f1 f2 f3
      rintro w4 ⟨hg4, c4, e4, hb4⟩
      obtain ⟨h0, h1, h2, h3, f0, f1, f2, f3⟩ := st_cells hb4
      have E4 := Lib.hid e4
      clear e4
      have HB4 := Lib.hid hb4
      clear hb4
      have HG4 := Lib.hid hg4
      clear hg4
      refine wp_region_same 13 [0, 1, 2, 3, 4, 6, 7, 8, 9, 11, 5, 10, 12] (by kernel_rfl) (by kernel_rfl) (by intro c a d v w h; cases d <;> exact h) ?_
      simp only [List.filterMap_cons, List.filterMap_nil, List.getElem?_cons_zero, List.getElem?_cons_succ, List.drop_succ_cons, List.drop_zero]
      iterate 10 (refine Seg.takeK rfl rfl (fun K hK => ⟨_, fun ws hws => by go_simp; rfl, ?_⟩); go_simp; refine hK _ ?_; clear hK K)
      refine Seg.loud rfl rfl (fun K hK => ?_)
      go_wp2_with fail
      refine (rot_lit 16 (by omega) _ _ _ rfl).mono ?_
      rintro _ _ ⟨rfl, rfl⟩
      refine hK _ _ (fun _ => rfl) ?_
      clear hK K
      iterate 2 (refine Seg.takeK rfl rfl (fun K hK => ⟨_, fun ws hws => by go_simp; rfl, ?_⟩); go_simp; refine hK _ ?_; clear hK K)
      refine Seg.nil ?_
      go_wp2
      refine wp_world (fun w' => wr.grownBy w' (some p) ∧ ∃ x, x = rotl d 16 ^^^ c4 ∧ w'.heap[p]? = some (.cells #[.int .u64 (U a3), .int .u64 (U b2), .int .u64 (U c4), .int .u64 (U x)] T (0, 0))) ⟨grown_drew (grown_set HG4.out _), _, rfl, block_drew (block_set' HB4.out rfl)⟩ ?_
      clear h0 h1 h2 h3 f0 f1 f2 f3
      rintro w5 ⟨hg5, d5, e5, hb5⟩
      obtain ⟨h0, h1, h2, h3, f0, f1, f2, f3⟩ := st_cells hb5
      have E5 := Lib.hid e5
      clear e5
      have HB5 := Lib.hid hb5
      clear hb5
      have HG5 := Lib.hid hg5
      clear hg5
      refine wp_region_same 11 [0, 1, 2, 3, 4, 5, 6, 7, 8, 9, 10] (by kernel_rfl) (by kernel_rfl) (by intro c a d v w h; cases d <;> exact h) ?_
      simp only [List.filterMap_cons, List.filterMap_nil, List.getElem?_cons_zero, List.getElem?_cons_succ, List.drop_succ_cons, List.drop_zero]
      iterate 11 (refine Seg.takeK rfl rfl (fun K hK => ⟨_, fun ws hws => by go_simp; rfl, ?_⟩); go_simp; refine hK _ ?_; clear hK K)
      refine Seg.nil ?_
      go_wp2
      refine wp_world (fun w' => wr.grownBy w' (some p) ∧ ∃ x, x = a3 + d5 ∧ w'.heap[p]? = some (.cells #[.int .u64 (U x), .int .u64 (U b2), .int .u64 (U c4), .int .u64 (U d5)] T (0, 0))) ⟨grown_drew (grown_set HG5.out _), _, rfl, block_drew (block_set' HB5.out rfl)⟩ ?_
      clear h0 h1 h2 h3 f0 f1 f2 f3
      rintro w6 ⟨hg6, a6, e6, hb6⟩
      obtain ⟨h0, h1, h2, h3, f0, f1, f2, f3⟩ := st_cells hb6
      have E6 := Lib.hid e6
      clear e6
      have HB6 := Lib.hid hb6
      clear hb6
      have HG6 := Lib.hid hg6
      clear hg6
      refine wp_region_same 13 [0, 1, 2, 3, 4, 6, 7, 8, 9, 11, 5, 10, 12] (by kernel_rfl) (by kernel_rfl) (by intro c a d v w h; cases d <;> exact h) ?_
      simp only [List.filterMap_cons, List.filterMap_nil, List.getElem?_cons_zero, List.getElem?_cons_succ, List.drop_succ_cons, List.drop_zero]
      iterate 10 (refine Seg.takeK rfl rfl (fun K hK => ⟨_, fun ws hws => by go_simp; rfl, ?_⟩); go_simp; refine hK _ ?_; clear hK K)
      refine Seg.loud rfl rfl (fun K hK => ?_)
      go_wp2_with fail
      refine (rot_lit 21 (by omega) _ _ _ rfl).mono ?_
      rintro _ _ ⟨rfl, rfl⟩
      refine hK _ _ (fun _ => rfl) ?_
      clear hK K
      iterate 2 (refine Seg.takeK rfl rfl (fun K hK => ⟨_, fun ws hws => by go_simp; rfl, ?_⟩); go_simp; refine hK _ ?_; clear hK K)
      refine Seg.nil ?_
      go_wp2
      refine wp_world (fun w' => wr.grownBy w' (some p) ∧ ∃ x, x = rotl d5 21 ^^^ a6 ∧ w'.heap[p]? = some (.cells #[.int .u64 (U a6), .int .u64 (U b2), .int .u64 (U c4), .int .u64 (U x)] T (0, 0))) ⟨grown_drew (grown_set HG6.out _), _, rfl, block_drew (block_set' HB6.out rfl)⟩ ?_
      clear h0 h1 h2 h3 f0 f1 f2 f3
      rintro w7 ⟨hg7, d7, e7, hb7⟩
      obtain ⟨h0, h1, h2, h3, f0, f1, f2, f3⟩ := st_cells hb7
      have E7 := Lib.hid e7
      clear e7
      have HB7 := Lib.hid hb7
      clear hb7
      have HG7 := Lib.hid hg7
      clear hg7
      refine wp_region_same 11 [0, 1, 2, 3, 4, 5, 6, 7, 8, 9, 10] (by kernel_rfl) (by kernel_rfl) (by intro c a d v w h; cases d <;> exact h) ?_
      simp only [List.filterMap_cons, List.filterMap_nil, List.getElem?_cons_zero, List.getElem?_cons_succ, List.drop_succ_cons, List.drop_zero]
      iterate 11 (refine Seg.takeK rfl rfl (fun K hK => ⟨_, fun ws hws => by go_simp; rfl, ?_⟩); go_simp; refine hK _ ?_; clear hK K)
      refine Seg.nil ?_
      go_wp2
      refine wp_world (fun w' => wr.grownBy w' (some p) ∧ ∃ x, x = c4 + b2 ∧ w'.heap[p]? = some (.cells #[.int .u64 (U a6), .int .u64 (U b2), .int .u64 (U x), .int .u64 (U d7)] T (0, 0))) ⟨grown_drew (grown_set HG7.out _), _, rfl, block_drew (block_set' HB7.out rfl)⟩ ?_
      clear h0 h1 h2 h3 f0 f1 f2 f3
      rintro w8 ⟨hg8, c8, e8, hb8⟩
      obtain ⟨h0, h1, h2, h3, f0, f1, f2, f3⟩ := st_cells hb8
      have E8 := Lib.hid e8
      clear e8
      have HB8 := Lib.hid hb8
      clear hb8
      have HG8 := Lib.hid hg8
      clear hg8
      refine wp_region_same 13 [0, 1, 2, 3, 4, 6, 7, 8, 9, 11, 5, 10, 12] (by kernel_rfl) (by kernel_rfl) (by intro c a d v w h; cases d <;> exact h) ?_
      simp only [List.filterMap_cons, List.filterMap_nil, List.getElem?_cons_zero, List.getElem?_cons_succ, List.drop_succ_cons, List.drop_zero]
      iterate 10 (refine Seg.takeK rfl rfl (fun K hK => ⟨_, fun ws hws => by go_simp; rfl, ?_⟩); go_simp; refine hK _ ?_; clear hK K)
      refine Seg.loud rfl rfl (fun K hK => ?_)
      go_wp2_with fail
      refine (rot_lit 17 (by omega) _ _ _ rfl).mono ?_
      rintro _ _ ⟨rfl, rfl⟩
      refine hK _ _ (fun _ => rfl) ?_
      clear hK K
      iterate 2 (refine Seg.takeK rfl rfl (fun K hK => ⟨_, fun ws hws => by go_simp; rfl, ?_⟩); go_simp; refine hK _ ?_; clear hK K)
      refine Seg.nil ?_
      go_wp2
      refine wp_world (fun w' => wr.grownBy w' (some p) ∧ ∃ x, x = rotl b2 17 ^^^ c8 ∧ w'.heap[p]? = some (.cells #[.int .u64 (U a6), .int .u64 (U x), .int .u64 (U c8), .int .u64 (U d7)] T (0, 0))) ⟨grown_drew (grown_set HG8.out _), _, rfl, block_drew (block_set' HB8.out rfl)⟩ ?_
      clear h0 h1 h2 h3 f0 f1 f2 f3
      rintro w9 ⟨hg9, b9, e9, hb9⟩
      obtain ⟨h0, h1, h2, h3, f0, f1, f2, f3⟩ := st_cells hb9
      have E9 := Lib.hid e9
      clear e9
      have HB9 := Lib.hid hb9
      clear hb9
      have HG9 := Lib.hid hg9
      clear hg9
      refine wp_region_same 8 [0, 1, 2, 3, 4, 6, 5, 7] (by kernel_rfl) (by kernel_rfl) (by intro c a d v w h; cases d <;> exact h) ?_
      simp only [List.filterMap_cons, List.filterMap_nil, List.getElem?_cons_zero, List.getElem?_cons_succ, List.drop_succ_cons, List.drop_zero]
      iterate 6 (refine Seg.takeK rfl rfl (fun K hK => ⟨_, fun ws hws => by go_simp; rfl, ?_⟩); go_simp; refine hK _ ?_; clear hK K)
      refine Seg.loud rfl rfl (fun K hK => ?_)
      go_wp2_with fail
      refine (rot_lit 32 (by omega) _ _ _ rfl).mono ?_
      rintro _ _ ⟨rfl, rfl⟩
      refine hK _ _ (fun _ => rfl) ?_
      clear hK K
      iterate 1 (refine Seg.takeK rfl rfl (fun K hK => ⟨_, fun ws hws => by go_simp; rfl, ?_⟩); go_simp; refine hK _ ?_; clear hK K)
      refine Seg.nil ?_
      go_wp2
      go_roundw
      case rel => exact ⟨k + 1, ⟨a6, b9, rotl c8 32, d7⟩, by omega, by go_num, grown_trans HG.out (grown_drew (grown_set HG9.out _)), block_drew (block_set' HB9.out rfl), HS.out.trans (by rw [sipRound_eq E1.out E2.out E3.out E4.out E5.out E6.out E7.out E8.out E9.out rfl])⟩
      case measure => simp [intOf]; omega
    · obtain rfl : k = n := by omega
      have HS : Hid (sipRounds k s = ⟨a, b, c, d⟩) := by rw [Nat.sub_self, sipRounds_zero] at hs; exact Lib.hid hs
      have HB2 := Lib.hid hb0
      clear hs hb0 HB
      go_wp2
      go_end0
      exact ⟨rfl, HG.out, by rw [HS.out]; exact HB2.out⟩
end Go.Proofs.YtjkmbbnjiobckaaGreatDoor
