/-
  bytes.Equal: true where the bytes are the same, false where they are not.
-/
import Derived.Test.YtjkmbbnjiobckaaGreatDoorSeat
namespace Go.Proofs.YtjkmbbnjiobckaaGreatDoor
open Go.RowKit
set_option maxRecDepth 100000 in
set_option maxHeartbeats 1000000 in
theorem equal_any (v y : Value) (l m : List UInt8) (w : World) (hl : Slc w v l) (hm : Slc w y m) :
    Calls Tryz.prog 31 #[v, y] w fun e w' => e = .returned (.bool (decide (l = m))) ∧ w' = w := by
  obtain ⟨a, cap, rfl, h1⟩ := hl
  obtain ⟨a2, cap2, rfl, h2⟩ := hm
  have c1 := conv_string h1 rfl
  have c2 := conv_string h2 rfl
  go_enter Tryz.func31, Tryz.ntmps31
  go_wp2
  go_ret
  exact ⟨by simp; rw [Bool.eq_iff_iff]; simp, rfl⟩
end Go.Proofs.YtjkmbbnjiobckaaGreatDoor
