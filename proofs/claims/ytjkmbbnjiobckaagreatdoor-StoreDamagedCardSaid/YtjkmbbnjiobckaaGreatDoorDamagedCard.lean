/-
  The given card of flagstonelaw33.StoreDamaged: whatever it is given it answers true and leaves its arguments alone, with the two listed tables tied to the program's text.
-/
import Derived.Test.YtjkmbbnjiobckaaGreatDoorDamagedRow
import Derived.Test.YtjkmbbnjiobckaaGreatDoorTie
import Derived.Test.YtjkmbbnjiobckaaGreatDoorCards
import Derived.SevenTiedAt
namespace Go.Proofs.YtjkmbbnjiobckaaGreatDoor
theorem storeDamaged_card : Rows.StoreDamagedCardSaid :=
  Claim7.holds_tied_plain_at .later [] [.listed, .data] true (true, "8b7ac111d124187b49d5c68f65da622aa1ee0280345d3dd34025d74b17c1fdc3") false
    storeDamaged_row (fun _ h => by cases h) (by kernel_rfl) (fun _ h => by cases h) storeDamaged_row_tie rfl ⟨rfl, rfl⟩ (by kernel_rfl) rfl
    (fun f fn hf hfn => by
      obtain rfl : f = 3 := Option.some.inj ((show Tryz.prog.funcNamed "flagstone/flagstonelaw33.StoreDamaged" = some 3 by kernel_rfl).symm.trans hf) |>.symm
      obtain rfl : fn = Tryz.f3 := (Option.some.inj (Tryz.func3.symm.trans hfn)).symm
      exact ⟨by kernel_rfl, fun j t ht => by
        rw [Tryz.params3] at ht
        have hm : t ∈ [22, 22, 23, 23, 23] := by simpa using Array.mem_of_getElem? ht
        have hall : ([22, 22, 23, 23, 23].all fun u => !Tryz.prog.wantsStandIn u) = true := by kernel_rfl
        exact (show Tryz.prog.wantsStandIn t = false by simpa using List.all_eq_true.1 hall t hm)⟩)
    (by kernel_rfl)
#print axioms storeDamaged_card
end Go.Proofs.YtjkmbbnjiobckaaGreatDoor
