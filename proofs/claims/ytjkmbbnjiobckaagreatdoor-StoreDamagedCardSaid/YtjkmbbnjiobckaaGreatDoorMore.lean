/-
  More words: an append of bytes as one operation of a region that draws its order; small laws on reading.
-/
import Derived.Test.YtjkmbbnjiobckaaGreatDoorSeat
import Derived.Test.YtjkmbbnjiobckaaGreatDoorTree
namespace Go.Proofs.YtjkmbbnjiobckaaGreatDoor
open Go.RowKit
/-- 'append(x, src...)' of bytes onto a slice of the call's own, as one operation. -/
theorem append_bytes_wp {w : World} {K : Act → World → Prop} {o : Oper} {ac : Act} {Q : Exit → Act → World → Prop} {s x : Operand}
    (ho : o.op = .call { callee := .builtin .append, args := #[s, x], argTypes := #[22, 22] }) {base : Nat} {v y : Value} {l m : List UInt8}
    (hs : ac.eval s = v) (hx : ac.eval x = y) (hown : OwnB w base v l) (hsrc : Slc w y m) (hlen : l.length + m.length ≤ 140737488355328) (hbase : base ≤ w.heap.size)
    (h : ∀ a' cap' w', w'.ownsRow base 5 1 (.slice a' (l.length + m.length) cap') (l.length + m.length) (bytesV (l ++ m)) → w.grownBy w' v.ownBlock → K (ac.put o.dst (.slice a' (l.length + m.length) cap')) w') :
    o.wp Tryz.prog ac w K Q := by
  obtain ⟨a, cap, rfl, hown⟩ := hown
  obtain ⟨a2, cap2, rfl, hsrc⟩ := hsrc
  obtain ⟨i0, hi, hz0, hz1, hz2⟩ := info_parts Tryz.info5
  obtain ⟨a', cap', w', hr, h2, h3⟩ := run_append_fresh (P := Tryz.prog) w base 22 o.type 5 i0 (.int .u8 0) 1 1 Tryz.underlying22 hi hz0 hz1 hz2 rfl (by decide) a l.length cap _ hown a2 m.length cap2 _ hsrc (by simp [bytesV_length]) (bytesV_one m) (by unfold maxLen; omega) (by omega) hbase
  rw [← bytesV_append] at h2
  unfold Oper.wp execOp
  simp only [ho, resolve, invoke, builtin, Sem.run_bind, Sem.run_pure, Result.andThen_ok, List.map_toArray, List.map_cons, List.map_nil, hs, hx, hr]
  exact h a' cap' w' h2 h3
end Go.Proofs.YtjkmbbnjiobckaaGreatDoor
