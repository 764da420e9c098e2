/-
  store.read: the head of a sector of a frame, and whether it is one.
-/
import Derived.Test.YtjkmbbnjiobckaaGreatDoorSector
import Derived.Test.YtjkmbbnjiobckaaGreatDoorEqual
namespace Go.Proofs.YtjkmbbnjiobckaaGreatDoor
open Go.RowKit

theorem wrap_i64_nat (n : Nat) (h : n < 9223372036854775808) : IntKind.i64.wrap (n : Int) = (n : Int) := by
  rw [IntKind.wrap_i64]; omega
theorem i64_or_nat (a b : Nat) (ha : a < 9223372036854775808) (hb : b < 9223372036854775808) : bits .or .i64 (a : Int) (b : Int) = ((a ||| b : Nat) : Int) := by
  have hx : a ||| b < 2 ^ 63 := Nat.or_lt_two_pow (by omega) (by omega)
  show IntKind.i64.wrap ((BitVec.ofInt 64 (a : Int) ||| BitVec.ofInt 64 (b : Int)).toNat : Int) = _
  rw [BitVec.toNat_or, ofInt_u64 a (by omega), ofInt_u64 b (by omega)]
  exact wrap_i64_nat _ (by omega)
theorem or4 (a b c d : Nat) (ha : a < 256) (hb : b < 256) (hc : c < 256) (hd : d < 256) :
    bits .or .i64 (bits .or .i64 (bits .or .i64 ((a : Int) * 16777216) ((b : Int) * 65536)) ((c : Int) * 256)) (d : Int) = ((a * 16777216 + b * 65536 + c * 256 + d : Nat) : Int) := by
  rw [show (a : Int) * 16777216 = ((a * 16777216 : Nat) : Int) by simp, show (b : Int) * 65536 = ((b * 65536 : Nat) : Int) by simp, show (c : Int) * 256 = ((c * 256 : Nat) : Int) by simp]
  rw [i64_or_nat _ _ (by omega) (by omega), nat_join 24 (a * 16777216) (b * 65536) (by omega) (by omega), i64_or_nat _ _ (by omega) (by omega), nat_join 16 (a * 16777216 + b * 65536) (c * 256) (by omega) (by omega),
    i64_or_nat _ _ (by omega) (by omega), nat_join 8 (a * 16777216 + b * 65536 + c * 256) d (by omega) (by omega)]
theorem or2 (a b : Nat) (ha : a < 256) (hb : b < 256) : bits .or .i64 ((a : Int) * 256) (b : Int) = ((a * 256 + b : Nat) : Int) := by
  rw [show (a : Int) * 256 = ((a * 256 : Nat) : Int) by simp, i64_or_nat _ _ (by omega) (by omega), nat_join 8 (a * 256) b (by omega) (by omega)]
/-- Byte number i, as a number. -/
def byteAt (s : List UInt8) (i : Nat) : Nat := (s.getD i 0).toNat
theorem byteAt_lt (s : List UInt8) (i : Nat) : byteAt s i < 256 := (s.getD i 0).toNat_lt
@[go_sem] theorem wrap_byte (s : List UInt8) (i : Nat) : IntKind.i64.wrap (byteAt s i : Int) = (byteAt s i : Int) := by
  rw [IntKind.wrap_i64]; have := byteAt_lt s i; omega
@[go_sem] theorem wrap_byte24 (s : List UInt8) (i : Nat) : IntKind.i64.wrap ((byteAt s i : Int) * 16777216) = (byteAt s i : Int) * 16777216 := by
  rw [IntKind.wrap_i64]; have := byteAt_lt s i; omega
@[go_sem] theorem wrap_byte16 (s : List UInt8) (i : Nat) : IntKind.i64.wrap ((byteAt s i : Int) * 65536) = (byteAt s i : Int) * 65536 := by
  rw [IntKind.wrap_i64]; have := byteAt_lt s i; omega
@[go_sem] theorem wrap_byte8 (s : List UInt8) (i : Nat) : IntKind.i64.wrap ((byteAt s i : Int) * 256) = (byteAt s i : Int) * 256 := by
  rw [IntKind.wrap_i64]; have := byteAt_lt s i; omega
def genOf (s : List UInt8) : Nat := byteAt s 0 * 16777216 + byteAt s 1 * 65536 + byteAt s 2 * 256 + byteAt s 3
def frameOf (s : List UInt8) : Nat := byteAt s 4 * 256 + byteAt s 5
def indexOf (s : List UInt8) : Nat := byteAt s 6
def numberOf (s : List UInt8) : Nat := byteAt s 7
/-- Is it a sector of a frame? -/
def isSector (s : List UInt8) : Bool := decide (s.length = 64) && decide (0 < genOf s) && decide (indexOf s < numberOf s) && decide (s = sectorOf (genOf s) (frameOf s) (indexOf s) (numberOf s) (s.drop 16))
def headV (g f i n : Nat) : Value := .agg #[.int .i64 g, .int .i64 f, .int .i64 i, .int .i64 n]
/-- What read hands back. -/
def readV (s : List UInt8) : Value := if s.length = 64 then headV (genOf s) (frameOf s) (indexOf s) (numberOf s) else headV 0 0 0 0

set_option maxRecDepth 100000 in
set_option maxHeartbeats 1000000 in
theorem read_short (v : Value) (s : List UInt8) (w : World) (hv : Slc w v s) (hl : ¬ s.length = 64) :
    Calls Tryz.prog 26 #[v] w fun e w' => e = .returned (.tuple #[readV s, .bool (isSector s)]) ∧ Below w.heap.size w w' := by
  have e1 : readV s = headV 0 0 0 0 := if_neg hl
  have e2 : isSector s = false := by simp [isSector, hl]
  rw [e1, e2]
  have hne : ((s.length : Int) != 64) = true := by simp; omega
  obtain ⟨a, cap, rfl, _⟩ := hv
  go_enter Tryz.func26, Tryz.ntmps26
  go_wp2
  exact bodyPost_ret (v := .tuple #[headV 0 0 0 0, .bool false]) (by simp [results, Tryz.results26, go_sem]; rfl) rfl ⟨rfl, (Below.refl _ _).alloc (Nat.le_refl _) _⟩
set_option maxRecDepth 100000 in
set_option maxHeartbeats 2000000 in
theorem read_zero (v : Value) (s : List UInt8) (w : World) (hv : Slc w v s) (hl : s.length = 64) (hg : genOf s = 0) :
    Calls Tryz.prog 26 #[v] w fun e w' => e = .returned (.tuple #[readV s, .bool (isSector s)]) ∧ Below w.heap.size w w' := by
  have e1 : readV s = headV (genOf s) (frameOf s) (indexOf s) (numberOf s) := if_pos hl
  rw [e1]
  have HV := Lib.hid hv
  obtain ⟨a, cap, rfl, hr⟩ := hv
  obtain ⟨b, o, rfl, hc⟩ := hr.addr (by rw [bytesV_length]; omega)
  have c (i : Nat) (hi : i < 64) : w.cell? ⟨b, o + i, none⟩ = some (.int .u8 ((byteAt s i : Nat) : Int)) := bytes_cell hc i (by omega)
  have c0 := c 0 (by omega)
  have c1 := c 1 (by omega)
  have c2 := c 2 (by omega)
  have c3 := c 3 (by omega)
  have c4 := c 4 (by omega)
  have c5 := c 5 (by omega)
  have c6 := c 6 (by omega)
  have c7 := c 7 (by omega)
  have hb := World.block_lt_of_cell? w _ c0
  have o4 := or4 _ _ _ _ (byteAt_lt s 0) (byteAt_lt s 1) (byteAt_lt s 2) (byteAt_lt s 3)
  have o2 := or2 _ _ (byteAt_lt s 4) (byteAt_lt s 5)
  rw [show byteAt s 0 * 16777216 + byteAt s 1 * 65536 + byteAt s 2 * 256 + byteAt s 3 = genOf s from rfl] at o4
  rw [show byteAt s 4 * 256 + byteAt s 5 = frameOf s from rfl] at o2
  rw [show byteAt s 6 = indexOf s from rfl] at c6
  rw [show byteAt s 7 = numberOf s from rfl] at c7
  simp only [Nat.add_zero] at c0 hb
  have g6 : IntKind.i64.wrap (indexOf s : Int) = (indexOf s : Int) := wrap_byte s 6
  have g7 : IntKind.i64.wrap (numberOf s : Int) = (numberOf s : Int) := wrap_byte s 7
  have hl' : s.length = 64 := hl
  rw [hl] at HV ⊢
  have HL := Lib.hid hl'
  have e2 : isSector s = false := by simp [isSector, hg]
  rw [e2, hg] at *
  clear e2 hg
  clear hr hc c hl hl' e1
  go_enter Tryz.func26, Tryz.ntmps26
  go_wp2
  refine wp_region_ext 42 [0, 1, 2, 3, 4, 5, 6, 7, 8, 9, 10, 11, 12, 13, 14, 15, 16, 17, 18, 19, 20, 21, 22, 23, 24, 25, 26, 27, 28, 29, 30, 31, 32, 33, 34, 35, 36, 37, 38, 39, 40, 41] (by kernel_rfl) (by kernel_rfl) (by intro c a d v w h; cases d <;> exact h) ?_
  simp only [List.filterMap_cons, List.filterMap_nil, List.getElem?_cons_zero, List.getElem?_cons_succ, List.drop_succ_cons, List.drop_zero]
  iterate 41 (refine Seg.takeK rfl rfl (fun K hK => ⟨_, fun ws hws => by go_simp; rfl, ?_⟩); go_simp; refine hK _ ?_; clear hK K)
  refine Seg.loud rfl rfl (fun K hK => ?_)
  go_wp2_with fail
  refine hK _ _ (fun b o h => World.cell?_alloc_past _ _ _ h) ?_
  clear hK K
  refine Seg.nil ?_
  go_wp2_with fail
  refine wp_world (fun w' => Below w.heap.size w w' ∧ w'.heap[w.heap.size]? = some (.cells #[.int .i64 0, .int .i64 0, .int .i64 0, .int .i64 0] 56 (0, 0)) ∧ w'.heap[w.heap.size + 1]? = some (.cells #[.int .i64 0, .int .i64 (frameOf s), .int .i64 (indexOf s), .int .i64 (numberOf s)] 56 (0, 0))) ?_ ?_
  · refine ⟨(((Below.refl _ _).alloc (Nat.le_refl _) _).alloc (le_alloc _ _) _).drew, ?_, ?_⟩
    · rw [show ((w.alloc _).alloc _).drew.heap[w.heap.size]? = ((w.alloc _).alloc _).heap[w.heap.size]? from rfl, Below.heap_alloc _ _ _ (by simp), heap_alloc_new]
    · have := heap_alloc_new (w.alloc (.cells #[.int .i64 0, .int .i64 0, .int .i64 0, .int .i64 0] 56)) (.cells #[.int .i64 0, .int .i64 (frameOf s), .int .i64 (indexOf s), .int .i64 (numberOf s)] 56)
      rw [World.size_alloc] at this
      exact this
  clear c0 c1 c2 c3 c4 c5 c6 c7 o4 o2 g6 g7
  rintro w0 ⟨hB, hb1, hb2⟩
  have hsz : w.heap.size + 1 < w0.heap.size := (Array.getElem?_eq_some_iff.1 hb2).1
  obtain ⟨a0, a1, a2, a3⟩ := cells4 hb1
  have fr := free_all hb1
  obtain ⟨d0, d1, d2, d3⟩ := cells4 hb2
  have HB := Lib.hid hB
  have HB1 := Lib.hid hb1
  clear hB hb1 hb2
  refine wp_region_but (w.heap.size) 21 [0, 1, 2, 3, 4, 5, 6, 7, 8, 9, 10, 11, 12, 13, 14, 15, 16, 17, 18, 19, 20] (by kernel_rfl) (by kernel_rfl) (by intro c a d v w h; cases d <;> exact h) ?_
  simp only [List.filterMap_cons, List.filterMap_nil, List.getElem?_cons_zero, List.getElem?_cons_succ, List.drop_succ_cons, List.drop_zero]
  iterate 5 (refine Seg.takeK rfl rfl (fun K hK => ⟨_, fun ws hws => by go_simp; rfl, ?_⟩); go_simp; refine hK _ ?_; clear hK K)
  (refine Seg.passK (by go_simp) (fun K hK => ?_); go_simp; refine hK _ ?_; clear hK K)
  (refine Seg.passK (by go_simp) (fun K hK => ?_); go_simp; refine hK _ ?_; clear hK K)
  (refine Seg.passK (by go_simp) (fun K hK => ?_); go_simp; refine hK _ ?_; clear hK K)
  (refine Seg.passK (by go_simp) (fun K hK => ?_); go_simp; refine hK _ ?_; clear hK K)
  (refine Seg.passK (by go_simp) (fun K hK => ?_); go_simp; refine hK _ ?_; clear hK K)
  iterate 2 (refine Seg.takeK rfl rfl (fun K hK => ⟨_, fun ws hws => by go_simp; rfl, ?_⟩); go_simp; refine hK _ ?_; clear hK K)
  (refine Seg.passK (by go_simp) (fun K hK => ?_); go_simp; refine hK _ ?_; clear hK K)
  (refine Seg.passK (by go_simp) (fun K hK => ?_); go_simp; refine hK _ ?_; clear hK K)
  (refine Seg.passK (by go_simp) (fun K hK => ?_); go_simp; refine hK _ ?_; clear hK K)
  (refine Seg.passK (by go_simp) (fun K hK => ?_); go_simp; refine hK _ ?_; clear hK K)
  (refine Seg.passK (by go_simp) (fun K hK => ?_); go_simp; refine hK _ ?_; clear hK K)
  (refine Seg.passK (by go_simp) (fun K hK => ?_); go_simp; refine hK _ ?_; clear hK K)
  iterate 1 (refine Seg.takeK rfl rfl (fun K hK => ⟨_, fun ws hws => by go_simp; rfl, ?_⟩); go_simp; refine hK _ ?_; clear hK K)
  refine Seg.loud rfl rfl (fun K hK => ?_)
  go_wp2_with fail
  refine hK _ _ (fun b o h1 h2 => set_but4 h2) ?_
  clear hK K
  refine seg_world (fun w' => Below w.heap.size w w' ∧ w'.heap[w.heap.size]? = some (.cells #[.int .i64 0, .int .i64 (frameOf s), .int .i64 (indexOf s), .int .i64 (numberOf s)] 56 (0, 0))) ⟨((((HB.out.setCell (Nat.le_refl _) _).setCell (Nat.le_refl _) _).setCell (Nat.le_refl _) _).setCell (Nat.le_refl _) _).drew, block_drew (block_set' (block_set' (block_set' (block_set' HB1.out rfl) rfl) rfl) rfl)⟩ ?_
  rintro w9 ⟨hB9, hb9⟩
  obtain ⟨r0, r1, r2, r3⟩ := cells4 hb9
  iterate 1 (refine Seg.takeK rfl rfl (fun K hK => ⟨_, fun ws hws => by go_simp; rfl, ?_⟩); go_simp; refine hK _ ?_; clear hK K)
  refine Seg.nil ?_
  go_wp2
  exact bodyPost_ret (v := .tuple #[headV 0 (frameOf s) (indexOf s) (numberOf s), .bool false]) (by simp [results, Tryz.results26, go_sem, r0, r1, r2, r3]; rfl) rfl ⟨rfl, hB9⟩
set_option maxRecDepth 100000 in
set_option maxHeartbeats 2000000 in
theorem read_bad (v : Value) (s : List UInt8) (w : World) (hv : Slc w v s) (hl : s.length = 64) (hg : 0 < genOf s) (hi : ¬ indexOf s < numberOf s) :
    Calls Tryz.prog 26 #[v] w fun e w' => e = .returned (.tuple #[readV s, .bool (isSector s)]) ∧ Below w.heap.size w w' := by
  have e1 : readV s = headV (genOf s) (frameOf s) (indexOf s) (numberOf s) := if_pos hl
  rw [e1]
  have HV := Lib.hid hv
  obtain ⟨a, cap, rfl, hr⟩ := hv
  obtain ⟨b, o, rfl, hc⟩ := hr.addr (by rw [bytesV_length]; omega)
  have c (i : Nat) (hi : i < 64) : w.cell? ⟨b, o + i, none⟩ = some (.int .u8 ((byteAt s i : Nat) : Int)) := bytes_cell hc i (by omega)
  have c0 := c 0 (by omega)
  have c1 := c 1 (by omega)
  have c2 := c 2 (by omega)
  have c3 := c 3 (by omega)
  have c4 := c 4 (by omega)
  have c5 := c 5 (by omega)
  have c6 := c 6 (by omega)
  have c7 := c 7 (by omega)
  have hb := World.block_lt_of_cell? w _ c0
  have o4 := or4 _ _ _ _ (byteAt_lt s 0) (byteAt_lt s 1) (byteAt_lt s 2) (byteAt_lt s 3)
  have o2 := or2 _ _ (byteAt_lt s 4) (byteAt_lt s 5)
  rw [show byteAt s 0 * 16777216 + byteAt s 1 * 65536 + byteAt s 2 * 256 + byteAt s 3 = genOf s from rfl] at o4
  rw [show byteAt s 4 * 256 + byteAt s 5 = frameOf s from rfl] at o2
  rw [show byteAt s 6 = indexOf s from rfl] at c6
  rw [show byteAt s 7 = numberOf s from rfl] at c7
  simp only [Nat.add_zero] at c0 hb
  have g6 : IntKind.i64.wrap (indexOf s : Int) = (indexOf s : Int) := wrap_byte s 6
  have g7 : IntKind.i64.wrap (numberOf s : Int) = (numberOf s : Int) := wrap_byte s 7
  have hl' : s.length = 64 := hl
  rw [hl] at HV ⊢
  have HL := Lib.hid hl'
  have e2 : isSector s = false := by simp [isSector, hi]
  rw [e2]
  clear e2
  clear hr hc c hl hl' e1
  go_enter Tryz.func26, Tryz.ntmps26
  go_wp2
  refine wp_region_ext 42 [0, 1, 2, 3, 4, 5, 6, 7, 8, 9, 10, 11, 12, 13, 14, 15, 16, 17, 18, 19, 20, 21, 22, 23, 24, 25, 26, 27, 28, 29, 30, 31, 32, 33, 34, 35, 36, 37, 38, 39, 40, 41] (by kernel_rfl) (by kernel_rfl) (by intro c a d v w h; cases d <;> exact h) ?_
  simp only [List.filterMap_cons, List.filterMap_nil, List.getElem?_cons_zero, List.getElem?_cons_succ, List.drop_succ_cons, List.drop_zero]
  iterate 41 (refine Seg.takeK rfl rfl (fun K hK => ⟨_, fun ws hws => by go_simp; rfl, ?_⟩); go_simp; refine hK _ ?_; clear hK K)
  refine Seg.loud rfl rfl (fun K hK => ?_)
  go_wp2_with fail
  refine hK _ _ (fun b o h => World.cell?_alloc_past _ _ _ h) ?_
  clear hK K
  refine Seg.nil ?_
  go_wp2_with fail
  refine wp_world (fun w' => Below w.heap.size w w' ∧ w'.heap[w.heap.size]? = some (.cells #[.int .i64 0, .int .i64 0, .int .i64 0, .int .i64 0] 56 (0, 0)) ∧ w'.heap[w.heap.size + 1]? = some (.cells #[.int .i64 (genOf s), .int .i64 (frameOf s), .int .i64 (indexOf s), .int .i64 (numberOf s)] 56 (0, 0))) ?_ ?_
  · refine ⟨(((Below.refl _ _).alloc (Nat.le_refl _) _).alloc (le_alloc _ _) _).drew, ?_, ?_⟩
    · rw [show ((w.alloc _).alloc _).drew.heap[w.heap.size]? = ((w.alloc _).alloc _).heap[w.heap.size]? from rfl, Below.heap_alloc _ _ _ (by simp), heap_alloc_new]
    · have := heap_alloc_new (w.alloc (.cells #[.int .i64 0, .int .i64 0, .int .i64 0, .int .i64 0] 56)) (.cells #[.int .i64 (genOf s), .int .i64 (frameOf s), .int .i64 (indexOf s), .int .i64 (numberOf s)] 56)
      rw [World.size_alloc] at this
      exact this
  clear c0 c1 c2 c3 c4 c5 c6 c7 o4 o2 g6 g7
  rintro w0 ⟨hB, hb1, hb2⟩
  have hsz : w.heap.size + 1 < w0.heap.size := (Array.getElem?_eq_some_iff.1 hb2).1
  obtain ⟨a0, a1, a2, a3⟩ := cells4 hb1
  have fr := free_all hb1
  obtain ⟨d0, d1, d2, d3⟩ := cells4 hb2
  have HB := Lib.hid hB
  have HB1 := Lib.hid hb1
  clear hB hb1 hb2
  refine wp_region_but (w.heap.size) 21 [0, 1, 2, 3, 4, 5, 6, 7, 8, 9, 10, 11, 12, 13, 14, 15, 16, 17, 18, 19, 20] (by kernel_rfl) (by kernel_rfl) (by intro c a d v w h; cases d <;> exact h) ?_
  simp only [List.filterMap_cons, List.filterMap_nil, List.getElem?_cons_zero, List.getElem?_cons_succ, List.drop_succ_cons, List.drop_zero]
  iterate 5 (refine Seg.takeK rfl rfl (fun K hK => ⟨_, fun ws hws => by go_simp; rfl, ?_⟩); go_simp; refine hK _ ?_; clear hK K)
  (refine Seg.takeK rfl (by go_simp) (fun K hK => ⟨_, fun ws hws => by go_simp; rfl, ?_⟩); go_simp; refine hK _ ?_; clear hK K)
  (refine Seg.takeK rfl (by go_simp) (fun K hK => ⟨_, fun ws hws => by go_simp; rfl, ?_⟩); go_simp; refine hK _ ?_; clear hK K)
  (refine Seg.takeK rfl (by go_simp) (fun K hK => ⟨_, fun ws hws => by go_simp; rfl, ?_⟩); go_simp; refine hK _ ?_; clear hK K)
  (refine Seg.takeK rfl (by go_simp) (fun K hK => ⟨_, fun ws hws => by go_simp; rfl, ?_⟩); go_simp; refine hK _ ?_; clear hK K)
  (refine Seg.takeK rfl (by go_simp) (fun K hK => ⟨_, fun ws hws => by go_simp; rfl, ?_⟩); go_simp; refine hK _ ?_; clear hK K)
  iterate 2 (refine Seg.takeK rfl rfl (fun K hK => ⟨_, fun ws hws => by go_simp; rfl, ?_⟩); go_simp; refine hK _ ?_; clear hK K)
  (refine Seg.passK (by go_simp) (fun K hK => ?_); go_simp; refine hK _ ?_; clear hK K)
  (refine Seg.passK (by go_simp) (fun K hK => ?_); go_simp; refine hK _ ?_; clear hK K)
  (refine Seg.passK (by go_simp) (fun K hK => ?_); go_simp; refine hK _ ?_; clear hK K)
  (refine Seg.passK (by go_simp) (fun K hK => ?_); go_simp; refine hK _ ?_; clear hK K)
  (refine Seg.passK (by go_simp) (fun K hK => ?_); go_simp; refine hK _ ?_; clear hK K)
  (refine Seg.passK (by go_simp) (fun K hK => ?_); go_simp; refine hK _ ?_; clear hK K)
  iterate 1 (refine Seg.takeK rfl rfl (fun K hK => ⟨_, fun ws hws => by go_simp; rfl, ?_⟩); go_simp; refine hK _ ?_; clear hK K)
  refine Seg.loud rfl rfl (fun K hK => ?_)
  go_wp2_with fail
  refine hK _ _ (fun b o h1 h2 => set_but4 h2) ?_
  clear hK K
  refine seg_world (fun w' => Below w.heap.size w w' ∧ w'.heap[w.heap.size]? = some (.cells #[.int .i64 (genOf s), .int .i64 (frameOf s), .int .i64 (indexOf s), .int .i64 (numberOf s)] 56 (0, 0))) ⟨((((HB.out.setCell (Nat.le_refl _) _).setCell (Nat.le_refl _) _).setCell (Nat.le_refl _) _).setCell (Nat.le_refl _) _).drew, block_drew (block_set' (block_set' (block_set' (block_set' HB1.out rfl) rfl) rfl) rfl)⟩ ?_
  rintro w9 ⟨hB9, hb9⟩
  obtain ⟨r0, r1, r2, r3⟩ := cells4 hb9
  iterate 1 (refine Seg.takeK rfl rfl (fun K hK => ⟨_, fun ws hws => by go_simp; rfl, ?_⟩); go_simp; refine hK _ ?_; clear hK K)
  refine Seg.nil ?_
  go_wp2
  exact bodyPost_ret (v := .tuple #[headV (genOf s) (frameOf s) (indexOf s) (numberOf s), .bool false]) (by simp [results, Tryz.results26, go_sem, r0, r1, r2, r3]; rfl) rfl ⟨rfl, hB9⟩
set_option maxRecDepth 100000 in
set_option maxHeartbeats 2000000 in
theorem read_full (v : Value) (s : List UInt8) (w : World) (hv : Slc w v s) (hl : s.length = 64) (hg : 0 < genOf s) (hi : indexOf s < numberOf s) :
    Calls Tryz.prog 26 #[v] w fun e w' => e = .returned (.tuple #[readV s, .bool (isSector s)]) ∧ Below w.heap.size w w' := by
  have e1 : readV s = headV (genOf s) (frameOf s) (indexOf s) (numberOf s) := if_pos hl
  rw [e1]
  have HV := Lib.hid hv
  obtain ⟨a, cap, rfl, hr⟩ := hv
  obtain ⟨b, o, rfl, hc⟩ := hr.addr (by rw [bytesV_length]; omega)
  have c (i : Nat) (hi : i < 64) : w.cell? ⟨b, o + i, none⟩ = some (.int .u8 ((byteAt s i : Nat) : Int)) := bytes_cell hc i (by omega)
  have c0 := c 0 (by omega)
  have c1 := c 1 (by omega)
  have c2 := c 2 (by omega)
  have c3 := c 3 (by omega)
  have c4 := c 4 (by omega)
  have c5 := c 5 (by omega)
  have c6 := c 6 (by omega)
  have c7 := c 7 (by omega)
  have hb := World.block_lt_of_cell? w _ c0
  have o4 := or4 _ _ _ _ (byteAt_lt s 0) (byteAt_lt s 1) (byteAt_lt s 2) (byteAt_lt s 3)
  have o2 := or2 _ _ (byteAt_lt s 4) (byteAt_lt s 5)
  rw [show byteAt s 0 * 16777216 + byteAt s 1 * 65536 + byteAt s 2 * 256 + byteAt s 3 = genOf s from rfl] at o4
  rw [show byteAt s 4 * 256 + byteAt s 5 = frameOf s from rfl] at o2
  rw [show byteAt s 6 = indexOf s from rfl] at c6
  rw [show byteAt s 7 = numberOf s from rfl] at c7
  simp only [Nat.add_zero] at c0 hb
  have g6 : IntKind.i64.wrap (indexOf s : Int) = (indexOf s : Int) := wrap_byte s 6
  have g7 : IntKind.i64.wrap (numberOf s : Int) = (numberOf s : Int) := wrap_byte s 7
  have hl' : s.length = 64 := hl
  rw [hl] at HV ⊢
  have HL := Lib.hid hl'
  have e2 : isSector s = decide (s = sectorOf (genOf s) (frameOf s) (indexOf s) (numberOf s) (s.drop 16)) := by simp [isSector, hg, hi, hl']
  rw [e2]
  clear e2
  have hcap := HV.out.row.2.le
  clear hr hc c hl hl' e1
  go_enter Tryz.func26, Tryz.ntmps26
  go_wp2
  refine wp_region_ext 42 [0, 1, 2, 3, 4, 5, 6, 7, 8, 9, 10, 11, 12, 13, 14, 15, 16, 17, 18, 19, 20, 21, 22, 23, 24, 25, 26, 27, 28, 29, 30, 31, 32, 33, 34, 35, 36, 37, 38, 39, 40, 41] (by kernel_rfl) (by kernel_rfl) (by intro c a d v w h; cases d <;> exact h) ?_
  simp only [List.filterMap_cons, List.filterMap_nil, List.getElem?_cons_zero, List.getElem?_cons_succ, List.drop_succ_cons, List.drop_zero]
  iterate 41 (refine Seg.takeK rfl rfl (fun K hK => ⟨_, fun ws hws => by go_simp; rfl, ?_⟩); go_simp; refine hK _ ?_; clear hK K)
  refine Seg.loud rfl rfl (fun K hK => ?_)
  go_wp2_with fail
  refine hK _ _ (fun b o h => World.cell?_alloc_past _ _ _ h) ?_
  clear hK K
  refine Seg.nil ?_
  go_wp2_with fail
  refine wp_world (fun w' => Below w.heap.size w w' ∧ w'.heap[w.heap.size]? = some (.cells #[.int .i64 0, .int .i64 0, .int .i64 0, .int .i64 0] 56 (0, 0)) ∧ w'.heap[w.heap.size + 1]? = some (.cells #[.int .i64 (genOf s), .int .i64 (frameOf s), .int .i64 (indexOf s), .int .i64 (numberOf s)] 56 (0, 0))) ?_ ?_
  · refine ⟨(((Below.refl _ _).alloc (Nat.le_refl _) _).alloc (le_alloc _ _) _).drew, ?_, ?_⟩
    · rw [show ((w.alloc _).alloc _).drew.heap[w.heap.size]? = ((w.alloc _).alloc _).heap[w.heap.size]? from rfl, Below.heap_alloc _ _ _ (by simp), heap_alloc_new]
    · have := heap_alloc_new (w.alloc (.cells #[.int .i64 0, .int .i64 0, .int .i64 0, .int .i64 0] 56)) (.cells #[.int .i64 (genOf s), .int .i64 (frameOf s), .int .i64 (indexOf s), .int .i64 (numberOf s)] 56)
      rw [World.size_alloc] at this
      exact this
  clear c0 c1 c2 c3 c4 c5 c6 c7 o4 o2 g6 g7
  rintro w0 ⟨hB, hb1, hb2⟩
  have hsz : w.heap.size + 1 < w0.heap.size := (Array.getElem?_eq_some_iff.1 hb2).1
  obtain ⟨a0, a1, a2, a3⟩ := cells4 hb1
  have fr := free_all hb1
  obtain ⟨d0, d1, d2, d3⟩ := cells4 hb2
  have HB := Lib.hid hB
  have HB1 := Lib.hid hb1
  clear hB hb1 hb2
  refine wp_region_but (w.heap.size) 21 [0, 1, 2, 3, 4, 5, 6, 7, 8, 9, 10, 11, 12, 13, 14, 15, 16, 17, 18, 19, 20] (by kernel_rfl) (by kernel_rfl) (by intro c a d v w h; cases d <;> exact h) ?_
  simp only [List.filterMap_cons, List.filterMap_nil, List.getElem?_cons_zero, List.getElem?_cons_succ, List.drop_succ_cons, List.drop_zero]
  iterate 5 (refine Seg.takeK rfl rfl (fun K hK => ⟨_, fun ws hws => by go_simp; rfl, ?_⟩); go_simp; refine hK _ ?_; clear hK K)
  (refine Seg.takeK rfl (by go_simp) (fun K hK => ⟨_, fun ws hws => by go_simp; rfl, ?_⟩); go_simp; refine hK _ ?_; clear hK K)
  (refine Seg.takeK rfl (by go_simp) (fun K hK => ⟨_, fun ws hws => by go_simp; rfl, ?_⟩); go_simp; refine hK _ ?_; clear hK K)
  (refine Seg.takeK rfl (by go_simp) (fun K hK => ⟨_, fun ws hws => by go_simp; rfl, ?_⟩); go_simp; refine hK _ ?_; clear hK K)
  (refine Seg.takeK rfl (by go_simp) (fun K hK => ⟨_, fun ws hws => by go_simp; rfl, ?_⟩); go_simp; refine hK _ ?_; clear hK K)
  (refine Seg.takeK rfl (by go_simp) (fun K hK => ⟨_, fun ws hws => by go_simp; rfl, ?_⟩); go_simp; refine hK _ ?_; clear hK K)
  iterate 2 (refine Seg.takeK rfl rfl (fun K hK => ⟨_, fun ws hws => by go_simp; rfl, ?_⟩); go_simp; refine hK _ ?_; clear hK K)
  (refine Seg.takeK rfl (by go_simp) (fun K hK => ⟨_, fun ws hws => by go_simp; rfl, ?_⟩); go_simp; refine hK _ ?_; clear hK K)
  (refine Seg.takeK rfl (by go_simp) (fun K hK => ⟨_, fun ws hws => by go_simp; rfl, ?_⟩); go_simp; refine hK _ ?_; clear hK K)
  (refine Seg.takeK rfl (by go_simp) (fun K hK => ⟨_, fun ws hws => by go_simp; rfl, ?_⟩); go_simp; refine hK _ ?_; clear hK K)
  (refine Seg.takeK rfl (by go_simp) (fun K hK => ⟨_, fun ws hws => by go_simp; rfl, ?_⟩); go_simp; refine hK _ ?_; clear hK K)
  refine Seg.loud rfl (by go_simp) (fun K hK => ?_)
  go_wp2_with fail
  refine (sector_any (genOf s) (frameOf s) (indexOf s) (numberOf s) _ (s.drop 16) w0.drew ((HV.out.mono HB.out).drew.drop (lo := 16) (by omega)) (by have := HL.out; simp; omega)).mono ?_
  rintro _ w1 ⟨v1, rfl, ho, hb1⟩
  have HO := Lib.hid ho
  have HB2 := Lib.hid hb1
  clear ho hb1
  refine hK _ _ (fun b o h1 h2 => HB2.out.cell (p := ⟨b, o, none⟩) h1) ?_
  clear hK K
  refine Seg.loud rfl (by go_simp) (fun K hK => ?_)
  go_wp2_with fail
  refine (equal_any _ v1 s _ w1 ((HV.out.mono HB.out).drew.mono HB2.out) HO.out.slc).mono ?_
  rintro _ _ ⟨rfl, rfl⟩
  refine hK _ _ (fun b o h1 h2 => HB2.out.cell (p := ⟨b, o, none⟩) h1) ?_
  clear hK K a0 a1 a2 a3 d0 d1 d2 d3 fr
  have hw1 := block_below HB2.out (block_drew HB1.out) (by simp; omega)
  obtain ⟨a0, a1, a2, a3⟩ := cells4 hw1
  have fr := free_all hw1
  have HB3 := Lib.hid hw1
  have HB4 := Lib.hid (HB.out.drew.trans (HB2.out.mono HB.out.size))
  clear hw1
  iterate 1 (refine Seg.takeK rfl rfl (fun K hK => ⟨_, fun ws hws => by go_simp; rfl, ?_⟩); go_simp; refine hK _ ?_; clear hK K)
  refine Seg.loud rfl rfl (fun K hK => ?_)
  go_wp2_with fail
  refine hK _ _ (fun b o h1 h2 => (set_but4 h2).trans (HB2.out.cell (p := ⟨b, o, none⟩) h1)) ?_
  clear hK K
  refine seg_world (fun w' => Below w.heap.size w w' ∧ w'.heap[w.heap.size]? = some (.cells #[.int .i64 (genOf s), .int .i64 (frameOf s), .int .i64 (indexOf s), .int .i64 (numberOf s)] 56 (0, 0))) ⟨(((HB4.out.setCell (Nat.le_refl _) _).setCell (Nat.le_refl _) _).setCell (Nat.le_refl _) _).setCell (Nat.le_refl _) _, block_set' (block_set' (block_set' (block_set' HB3.out rfl) rfl) rfl) rfl⟩ ?_
  rintro w9 ⟨hB9, hb9⟩
  obtain ⟨r0, r1, r2, r3⟩ := cells4 hb9
  iterate 1 (refine Seg.takeK rfl rfl (fun K hK => ⟨_, fun ws hws => by go_simp; rfl, ?_⟩); go_simp; refine hK _ ?_; clear hK K)
  refine Seg.nil ?_
  go_wp2
  exact bodyPost_ret (v := .tuple #[headV (genOf s) (frameOf s) (indexOf s) (numberOf s), .bool (decide (s = sectorOf (genOf s) (frameOf s) (indexOf s) (numberOf s) (s.drop 16)))]) (by simp [results, Tryz.results26, go_sem, r0, r1, r2, r3]; rfl) rfl ⟨rfl, hB9⟩
theorem read_any (v : Value) (s : List UInt8) (w : World) (hv : Slc w v s) :
    Calls Tryz.prog 26 #[v] w fun e w' => e = .returned (.tuple #[readV s, .bool (isSector s)]) ∧ Below w.heap.size w w' := by
  by_cases hl : s.length = 64
  · rcases Nat.eq_zero_or_pos (genOf s) with hg | hg
    · exact read_zero v s w hv hl hg
    · by_cases hi : indexOf s < numberOf s
      · exact read_full v s w hv hl hg hi
      · exact read_bad v s w hv hl hg hi
  · exact read_short v s w hv hl
end Go.Proofs.YtjkmbbnjiobckaaGreatDoor
