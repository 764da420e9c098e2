/-
  digest: state.word and Sum: what they compute.
-/
import Derived.Test.YtjkmbbnjiobckaaGreatDoorSip
namespace Go.Proofs.YtjkmbbnjiobckaaGreatDoor
open Go.RowKit
theorem word_any (s : St) (m : UInt64) (p : Nat) (T : TypeId) (w : World) (hb : w.heap[p]? = some (.cells s.cells T (0, 0))) :
    Calls Tryz.prog 161 #[.pointer (some ⟨p, 0, none⟩), .int .u64 (U m)] w fun e w' => e = .returned (.tuple #[]) ∧ w.grownBy w' (some p) ∧ w'.heap[p]? = some (.cells (sipWord s m).cells T (0, 0)) := by
  obtain ⟨a, b, c, d⟩ := s
  simp only [St.cells] at hb
  obtain ⟨h0, h1, h2, h3, f0, f1, f2, f3⟩ := st_cells hb
  have HB := Lib.hid hb
  clear hb
  go_enter Tryz.func161, Tryz.ntmps161
  go_wp2
  refine wp_region_same 8 [0, 1, 2, 3, 4, 5, 6, 7] (by kernel_rfl) (by kernel_rfl) (by intro c a d v w h; cases d <;> exact h) ?_
  simp only [List.filterMap_cons, List.filterMap_nil, List.getElem?_cons_zero, List.getElem?_cons_succ, List.drop_succ_cons, List.drop_zero]
  iterate 8 (refine Seg.takeK rfl rfl (fun K hK => ⟨_, fun ws hws => by go_simp; rfl, ?_⟩); go_simp; refine hK _ ?_; clear hK K)
  refine Seg.nil ?_
  go_wp2_with fail
  refine (rounds_any ⟨a, b, c, d ^^^ m⟩ 2 p T _ (by omega) (block_drew (block_set' HB.out rfl))).mono ?_
  rintro _ w1 ⟨rfl, hg1, hb1⟩
  clear h0 h1 h2 h3 f0 f1 f2 f3
  obtain ⟨⟨a1, b1, c1, d1⟩, ht⟩ : ∃ t, t = sipRounds 2 ⟨a, b, c, d ^^^ m⟩ := ⟨_, rfl⟩
  rw [← ht] at hb1
  simp only [St.cells] at hb1
  obtain ⟨h0, h1, h2, h3, f0, f1, f2, f3⟩ := st_cells hb1
  have HB1 := Lib.hid hb1
  have HG1 := Lib.hid hg1
  have HT := Lib.hid ht
  clear hb1 hg1 ht
  go_wp2
  refine wp_region_same 8 [0, 1, 2, 3, 4, 5, 6, 7] (by kernel_rfl) (by kernel_rfl) (by intro c a d v w h; cases d <;> exact h) ?_
  simp only [List.filterMap_cons, List.filterMap_nil, List.getElem?_cons_zero, List.getElem?_cons_succ, List.drop_succ_cons, List.drop_zero]
  iterate 8 (refine Seg.takeK rfl rfl (fun K hK => ⟨_, fun ws hws => by go_simp; rfl, ?_⟩); go_simp; refine hK _ ?_; clear hK K)
  refine Seg.nil ?_
  go_wp2
  go_end0
  refine ⟨rfl, grown_drew (grown_set (grown_trans (grown_drew (grown_set (grown_refl w _) _)) HG1.out) _), ?_⟩
  simp only [sipWord, ← HT.out]
  exact block_drew (block_set' HB1.out rfl)

def orBytes (f : Nat → UInt8) : Nat → UInt64 → UInt64
  | 0, m => m
  | k + 1, m => orBytes f k m ||| UInt64.ofNat ((f k).toNat * 2 ^ (8 * k))
def chunkWord (l : List UInt8) (i n : Nat) (m : UInt64) : UInt64 := orBytes (fun k => l.getD (i + k) 0) n m
def words (l : List UInt8) (s : St) : Nat → St
  | 0 => s
  | j + 1 => sipWord (words l s j) (chunkWord l (8 * j) 8 0)
def lenWord (n : Nat) : UInt64 := UInt64.ofNat (n * 2 ^ 56)
def lastWord (l : List UInt8) : UInt64 := chunkWord l (l.length - l.length % 8) (l.length % 8) (lenWord l.length)
def sipInit (k0 k1 : UInt64) : St := ⟨k0 ^^^ 8317987319222330741, k1 ^^^ 7237128888997146477, k0 ^^^ 7816392313619706465, k1 ^^^ 8387220255154660723⟩
def sipEnd (s : St) : UInt64 :=
  let t := sipRounds 4 ⟨s.a, s.b, s.c ^^^ 255, s.d⟩
  t.a ^^^ t.b ^^^ t.c ^^^ t.d
def sipSum (k0 k1 : UInt64) (l : List UInt8) : UInt64 := sipEnd (sipWord (words l (sipInit k0 k1) (l.length / 8)) (lastWord l))

theorem chunk_step (l : List UInt8) (i q : Nat) (m : UInt64) (x : Int) (hx : x = ((l.getD (i + q) 0).toNat : Int)) :
    bits .or .u64 (U (chunkWord l i q m)) (IntKind.u64.wrap (IntKind.u64.wrap x * 2 ^ (8 * q))) = U (chunkWord l i (q + 1) m) := by
  subst hx
  have e1 : IntKind.u64.wrap ((l.getD (i + q) 0).toNat : Int) = U (UInt64.ofNat (l.getD (i + q) 0).toNat) := by
    have := (l.getD (i + q) 0).toNat_lt
    rw [IntKind.wrap_u64]; unfold U; simp at this ⊢; omega
  rw [e1, U_shl, U_or]
  simp [chunkWord, orBytes]
theorem bytes_cell {l : List UInt8} {w : World} {b o : Nat} (hc : ∀ j x, (bytesV l)[j]? = some x → w.cell? ⟨b, o + j, none⟩ = some x) (i : Nat) (h : i < l.length) :
    w.cell? ⟨b, o + i, none⟩ = some (.int .u8 ((l.getD i 0).toNat : Int)) := by
  rw [hc i _ (bytesV_get h)]; simp [h]

set_option maxRecDepth 100000 in
set_option maxHeartbeats 2000000 in
theorem sum_some (k0 k1 : UInt64) (b o cap : Nat) (l : List UInt8) (w : World) (hl : l.length ≤ 2 ^ 40) 
    (hc : ∀ j x, (bytesV l)[j]? = some x → w.cell? ⟨b, o + j, none⟩ = some x) :
    Calls Tryz.prog 131 #[.int .u64 (U k0), .int .u64 (U k1), .slice (some ⟨b, o, none⟩) l.length cap] w fun e w' => e = .returned (.int .u64 (U (sipSum k0 k1 l))) ∧ Below w.heap.size w w' := by
  have l1 : (8317987319222330741 : Int) = U 8317987319222330741 := rfl
  have l2 : (7237128888997146477 : Int) = U 7237128888997146477 := rfl
  have l3 : (7816392313619706465 : Int) = U 7816392313619706465 := rfl
  have l4 : (8387220255154660723 : Int) = U 8387220255154660723 := rfl
  have l6 : IntKind.u64.wrap ((l.length : Int) * 72057594037927936) = U (lenWord l.length) := by
    rw [IntKind.wrap_u64]; unfold U lenWord; simp
  have HC := Lib.hid hc
  clear hc
  go_enter Tryz.func131, Tryz.ntmps131
  go_wp2
  clear l1 l2 l3 l4 l6
  go_loopw [9] (fun i wr => ∃ j : Nat, 8 * j ≤ l.length ∧ i = .int .i64 ((8 * j : Nat) : Int) ∧ Below w.heap.size w wr ∧ wr.heap[w.heap.size]? = some (.cells (words l (sipInit k0 k1) j).cells 194 (0, 0))) (fun i _ => l.length + 8 - (intOf i).toNat)
  case atStart => exact ⟨0, by omega, rfl, (Below.refl _ _).alloc (Nat.le_refl _) _, heap_alloc_new _ _⟩
  case round =>
    obtain ⟨j, hj, rfl, hB, hb⟩ := hrel
    by_cases hlt : 8 * j + 8 ≤ l.length
    · have HB := Lib.hid hb
      have HBel := Lib.hid hB
      have hlt' : ((8 * j : Nat) : Int) + 8 ≤ l.length := by omega
      clear hb hB
      go_wp2
      go_loop [10, 33] (fun m k => ∃ q : Nat, q ≤ 8 ∧ k = .int .i64 q ∧ m = .int .u64 (U (chunkWord l (8 * j) q 0))) (fun _ k => 8 - (intOf k).toNat)
      case atStart => exact ⟨0, by omega, rfl, rfl⟩
      case round =>
        obtain ⟨q, hq, rfl, rfl⟩ := hrel
        by_cases hq8 : q < 8
        · have hx : wr.cell? ⟨b, o + (8 * j + q), none⟩ = some (.int .u8 ((l.getD (8 * j + q) 0).toNat : Int)) := by
            rw [HBel.out.cell (p := ⟨b, o + (8 * j + q), none⟩) (World.block_lt_of_cell? w _ (bytes_cell HC.out _ (by omega)))]
            exact bytes_cell HC.out _ (by omega)
          go_wp2
          go_round
          case rel => exact ⟨q + 1, by omega, by go_num, congrArg (Value.int .u64) (chunk_step l (8 * j) q 0 _ (by simp))⟩
          case measure => simp [intOf]; omega
        · obtain rfl : q = 8 := by omega
          go_wp2_with fail
          refine (word_any (words l (sipInit k0 k1) j) (chunkWord l (8 * j) 8 0) _ 194 _ HB.out).mono ?_
          rintro _ w1 ⟨rfl, hg1, hb1⟩
          have HG1 := Lib.hid hg1
          have HB1 := Lib.hid hb1
          clear hg1 hb1
          go_wp2
          go_roundw
          case rel => exact ⟨j + 1, by omega, by go_num, below_of_grown HBel.out HG1.out (HBel.out.size) (Nat.le_refl _), HB1.out⟩
          case measure => simp [intOf]; omega
    · obtain rfl : j = l.length / 8 := by omega
      have HB := Lib.hid hb
      have HBel := Lib.hid hB
      clear hb hB
      go_wp2
      go_loop [8, 54] (fun m k => ∃ q : Nat, q ≤ l.length % 8 ∧ k = .int .i64 q ∧ m = .int .u64 (U (chunkWord l (l.length - l.length % 8) q (lenWord l.length)))) (fun _ k => 8 - (intOf k).toNat)
      case atStart => exact ⟨0, by omega, rfl, rfl⟩
      case round =>
        obtain ⟨q, hq, rfl, rfl⟩ := hrel
        by_cases hq8 : q < l.length % 8
        · have hx : wr.cell? ⟨b, o + (l.length - l.length % 8 + q), none⟩ = some (.int .u8 ((l.getD (l.length - l.length % 8 + q) 0).toNat : Int)) := by
            rw [HBel.out.cell (p := ⟨b, o + (l.length - l.length % 8 + q), none⟩) (World.block_lt_of_cell? w _ (bytes_cell HC.out _ (by omega)))]
            exact bytes_cell HC.out _ (by omega)
          go_wp2
          go_round
          case rel => exact ⟨q + 1, by omega, by go_num, congrArg (Value.int .u64) (chunk_step l (l.length - l.length % 8) q _ _ (by simp))⟩
          case measure => simp [intOf]; omega
        · obtain rfl : q = l.length % 8 := by omega
          go_wp2_with fail
          refine (word_any (words l (sipInit k0 k1) (l.length / 8)) (lastWord l) _ 194 _ HB.out).mono ?_
          rintro _ w1 ⟨rfl, hg1, hb1⟩
          obtain ⟨⟨a, b2, c, d⟩, ht⟩ : ∃ t, t = sipWord (words l (sipInit k0 k1) (l.length / 8)) (lastWord l) := ⟨_, rfl⟩
          rw [← ht] at hb1
          simp only [St.cells] at hb1
          obtain ⟨h0, h1, h2, h3, f0, f1, f2, f3⟩ := st_cells hb1
          have HG1 := Lib.hid hg1
          have HB1 := Lib.hid hb1
          have HT := Lib.hid ht
          have l5 : (255 : Int) = U 255 := rfl
          clear hg1 hb1 ht
          go_wp2_with fail
          clear h0 h1 h2 h3 f0 f1 f2 f3
          refine (rounds_any ⟨a, b2, c ^^^ 255, d⟩ 4 _ 194 _ (by omega) (block_set' HB1.out rfl)).mono ?_
          rintro _ w2 ⟨rfl, hg2, hb2⟩
          obtain ⟨⟨a', b', c', d'⟩, ht2⟩ : ∃ t, t = sipRounds 4 ⟨a, b2, c ^^^ 255, d⟩ := ⟨_, rfl⟩
          rw [← ht2] at hb2
          simp only [St.cells] at hb2
          obtain ⟨h0, h1, h2, h3, f0, f1, f2, f3⟩ := st_cells hb2
          have HG2 := Lib.hid hg2
          have HT2 := Lib.hid ht2
          clear hg2 hb2 ht2
          go_wp2
          go_ret
          refine ⟨congrArg (fun x => Ending.returned (Value.int .u64 (U x))) (show a' ^^^ b' ^^^ c' ^^^ d' = sipSum k0 k1 l by rw [sipSum, ← HT.out, sipEnd, ← HT2.out]), ?_⟩
          · refine below_of_grown ?_ HG2.out (by have := HBel.out.size; have := HG1.out.size; simp; omega) (Nat.le_refl _)
            refine (below_of_grown HBel.out HG1.out HBel.out.size (Nat.le_refl _)).setCell (Nat.le_refl _) _
set_option maxRecDepth 100000 in
set_option maxHeartbeats 1000000 in
theorem sum_nil (k0 k1 : UInt64) (ad : Option Addr) (cap : Nat) (w : World) :
    Calls Tryz.prog 131 #[.int .u64 (U k0), .int .u64 (U k1), .slice ad 0 cap] w fun e w' => e = .returned (.int .u64 (U (sipSum k0 k1 []))) ∧ Below w.heap.size w w' := by
  have l1 : (8317987319222330741 : Int) = U 8317987319222330741 := rfl
  have l2 : (7237128888997146477 : Int) = U 7237128888997146477 := rfl
  have l3 : (7816392313619706465 : Int) = U 7816392313619706465 := rfl
  have l4 : (8387220255154660723 : Int) = U 8387220255154660723 := rfl
  go_enter Tryz.func131, Tryz.ntmps131
  go_wp2
  clear l1 l2 l3 l4
  refine wp_loop_rounds 1 ?_
  rw [rounds_succ]
  go_wp2
  refine wp_loop_rounds 1 ?_
  rw [rounds_succ]
  go_wp2_with fail
  refine (word_any (sipInit k0 k1) 0 _ 194 _ (heap_alloc_new _ _)).mono ?_
  rintro _ w1 ⟨rfl, hg1, hb1⟩
  obtain ⟨⟨a, b2, c, d⟩, ht⟩ : ∃ t, t = sipWord (sipInit k0 k1) 0 := ⟨_, rfl⟩
  rw [← ht] at hb1
  simp only [St.cells] at hb1
  obtain ⟨h0, h1, h2, h3, f0, f1, f2, f3⟩ := st_cells hb1
  have HG1 := Lib.hid hg1
  have HB1 := Lib.hid hb1
  have HT := Lib.hid ht
  have l5 : (255 : Int) = U 255 := rfl
  clear hg1 hb1 ht
  go_wp2_with fail
  clear h0 h1 h2 h3 f0 f1 f2 f3
  refine (rounds_any ⟨a, b2, c ^^^ 255, d⟩ 4 _ 194 _ (by omega) (block_set' HB1.out rfl)).mono ?_
  rintro _ w2 ⟨rfl, hg2, hb2⟩
  obtain ⟨⟨a', b', c', d'⟩, ht2⟩ : ∃ t, t = sipRounds 4 ⟨a, b2, c ^^^ 255, d⟩ := ⟨_, rfl⟩
  rw [← ht2] at hb2
  simp only [St.cells] at hb2
  obtain ⟨h0, h1, h2, h3, f0, f1, f2, f3⟩ := st_cells hb2
  have HG2 := Lib.hid hg2
  have HT2 := Lib.hid ht2
  clear hg2 hb2 ht2
  go_wp2
  go_ret
  refine ⟨congrArg (fun x => Ending.returned (Value.int .u64 (U x))) (show a' ^^^ b' ^^^ c' ^^^ d' = sipSum k0 k1 [] by
    have e : sipWord (words [] (sipInit k0 k1) 0) (lastWord []) = sipWord (sipInit k0 k1) 0 := rfl
    rw [sipSum, show ([] : List UInt8).length / 8 = 0 from rfl, e, ← HT.out, sipEnd, ← HT2.out]), ?_⟩
  refine below_of_grown ?_ HG2.out (by have := HG1.out.size; simp at this ⊢; omega) (Nat.le_refl _)
  exact (below_of_grown ((Below.refl _ _).alloc (Nat.le_refl _) _) HG1.out (by simp) (Nat.le_refl _)).setCell (Nat.le_refl _) _
theorem sum_any (k0 k1 : UInt64) (a : Option Addr) (n cap : Nat) (l : List UInt8) (w : World) (hn : l.length = n) (hl : n ≤ 2 ^ 40) (hr : Row w a n cap (bytesV l)) :
    Calls Tryz.prog 131 #[.int .u64 (U k0), .int .u64 (U k1), .slice a n cap] w fun e w' => e = .returned (.int .u64 (U (sipSum k0 k1 l))) ∧ Below w.heap.size w w' := by
  subst hn
  rcases Nat.eq_zero_or_pos l.length with h | h
  · obtain rfl := List.length_eq_zero_iff.1 h
    exact sum_nil k0 k1 a cap w
  · obtain ⟨b, o, rfl, hc⟩ := hr.addr (by rw [bytesV_length]; exact h)
    exact sum_some k0 k1 b o cap l w hl hc
end Go.Proofs.YtjkmbbnjiobckaaGreatDoor
