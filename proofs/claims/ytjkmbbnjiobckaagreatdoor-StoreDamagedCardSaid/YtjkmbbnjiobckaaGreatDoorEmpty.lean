/-
  flagstonelaw33.empty: a blank disk.
-/
import Derived.Test.YtjkmbbnjiobckaaGreatDoorNew32
namespace Go.Proofs.YtjkmbbnjiobckaaGreatDoor
open Go.RowKit
set_option maxRecDepth 100000 in
set_option maxHeartbeats 1000000 in
theorem empty13 (s : Nat) (w : World) (hs : s ≤ 255) :
    Calls Tryz.prog 13 #[.int .u8 s] w fun e w' => (∃ v, e = .returned v ∧ DskV w' v (Dsk.blank (8 + 2 * s % 60))) ∧ Below w.heap.size w w' := by
  obtain ⟨n, hn⟩ : ∃ n, n = 8 + 2 * s % 60 := ⟨_, rfl⟩
  rw [← hn]
  have hB : sectorsB n = true := by unfold sectorsB; simp; omega
  have hv : (8 : Int) + 2 * (s : Int) % 60 = (n : Int) := by omega
  have q1 : IntKind.i64.wrap (s : Int) = (s : Int) := IntWalk.i64_in _ (by omega)
  have HB := Lib.hid hB
  clear hn hB
  go_enter Tryz.func13, Tryz.ntmps13
  go_wp2_with fail
  with_reducible refine (new42 n _ HB.out).mono ?_
  rintro _ w1 ⟨⟨x, y, rfl, hx, hy⟩, hb1⟩
  obtain ⟨k1, k2, k3⟩ := box1 w (.cells #[.slice none 0 0, .slice none 0 0, .int .i64 0, .int .i64 0, .bool false] 36)
  rw [k3] at hb1 hx hy
  have hh := block_below hb1 k2 (by omega)
  obtain ⟨d0, d1, d2, d3, d4⟩ := cells5 hh
  have fr := free_all hh
  have HH := Lib.hid hh
  have HX := Lib.hid hx
  have HY := Lib.hid hy
  have HB1 := Lib.hid (k1.trans (hb1.mono (by omega)))
  have hlt : w.heap.size < w1.heap.size := (Array.getElem?_eq_some_iff.1 hh).1
  obtain ⟨us, ⟨xa, xc, rfl, -⟩, -, -⟩ := hx
  obtain ⟨us2, ⟨ya, yc, rfl, -⟩, -, -⟩ := hy
  clear hb1 hh k1 k2 k3
  go_wp2
  refine post_world (fun w' => w'.heap[w.heap.size]? = some (.cells #[.slice xa us.length xc, .slice ya us2.length yc, .int .i64 (-1), .int .i64 0, .bool false] 36 (0, 0)) ∧ Slcs w' (.slice xa us.length xc) (List.replicate n zeros64) ∧ Slcs w' (.slice ya us2.length yc) (List.replicate n zeros64) ∧ Below w.heap.size w w') ⟨?_, ?_, ?_, ?_⟩ ?_
  · exact (Below.heap_alloc _ _ _ (by simpa using hlt)).trans (set5 HH.out)
  · exact ((HX.out.above ((Above.refl _ _).set5 (Nat.lt_succ_self _) _ _ _ _ _) (Nat.le_refl _)).mono ((Below.refl _ _).alloc (Nat.le_refl _) _)).slcs
  · exact ((HY.out.above ((Above.refl _ _).set5 (Nat.lt_succ_self _) _ _ _ _ _) (Nat.le_refl _)).mono ((Below.refl _ _).alloc (Nat.le_refl _) _)).slcs
  · exact (below_set5 HB1.out (Nat.le_refl _) _ _ _ _ _).alloc (by simp; omega) _
  · rintro w9 ⟨hh9, h91, h92, hb9⟩
    obtain ⟨e0, e1, e2, e3, e4⟩ := cells5 hh9
    exact bodyPost_ret (v := .agg #[.slice xa us.length xc, .slice ya us2.length yc, .int .i64 (-1), .int .i64 0, .bool false]) (by simp [results, Tryz.results13, go_sem, e0, e1, e2, e3, e4]) rfl ⟨⟨_, rfl, _, _, rfl, h91, h92⟩, hb9⟩
end Go.Proofs.YtjkmbbnjiobckaaGreatDoor
