/-
  column.Table of no events.
-/
import Derived.Test.YtjkmbbnjiobckaaGreatDoorCompact
import Derived.Test.YtjkmbbnjiobckaaGreatDoorWire
import Derived.RangeFuncNested
import Derived.RangeFuncBound
import Derived.RangeFuncCalls
import Derived.RangeFuncLeaves
import Derived.Shelf.Abstract
import Derived.Shelf.RegionOpen
import Derived.OwnWalkIn
import Derived.TacticsInMore
import Derived.LoopNIn
import Derived.LoopIn
namespace Go.Proofs.YtjkmbbnjiobckaaGreatDoor
open Go.RowKit Go.Shelf
attribute [local go_sem] Oper.semAt_some
set_option maxRecDepth 100000 in
set_option maxHeartbeats 1000000 in
theorem chunk80 (a : Option Addr) (n cap : Nat) (w : World) : Calls Tryz.prog 80 #[.slice a n cap, .int .i64 16] w fun e w' => e = .returned (.func (.func 115) #[] #[.pointer (some ⟨w.heap.size, 0, none⟩), .pointer (some ⟨w.heap.size + 1, 0, none⟩)]) ∧ w' = (w.alloc (.cells #[.slice a n cap] 37)).alloc (.cells #[.int .i64 16] 3) := by
  have hmf : ∀ (fn : Fn) (first cap : Array Value) (w : World), (Instr.makeFunc fn first cap).run Tryz.prog w = .ok (.func fn first cap) w := fun _ _ _ _ => rfl
  go_enter Tryz.func80, Tryz.ntmps80
  go_wp2
  go_ret
  exact ⟨rfl, rfl⟩
set_option maxRecDepth 100000 in
set_option maxHeartbeats 1000000 in
/-- The iterator over the chunks of an empty slice hands over nothing. -/
theorem chunks_none (F : Fence) (n : Nat) (h : F.fn 115) (hro : F.round = none) (w : World) (b1 b2 : Nat) (a : Option Addr) (cap : Nat) (hb : w.heap[b1]? = some (.cells #[.slice a 0 cap] 37 (0, 0))) :
    SeqStopsK F n Tryz.prog 115 #[.pointer (some ⟨b1, 0, none⟩), .pointer (some ⟨b2, 0, none⟩)] (fun x : Empty => x.elim) (fun _ _ => True) (fun xs => xs = []) (fun _ => False) 0 w := fun l J Jx W hW _ _ _ h0 => by
  have hc := cells1 (block_below hW hb (Array.getElem?_eq_some_iff.1 hb).1)
  refine callsIn_of_wp Tryz.func115 rfl h ?_ hro
  simp only [Tryz.ntmps115, List.size_toArray, List.length_cons, List.length_nil, Nat.reduceAdd, Nat.reduceSub, Array.replicate_succ, Array.replicate_zero, List.push_toArray, List.append_toArray, List.nil_append, List.cons_append]
  gi_wp2
  refine wpIn_loop_rounds 1 ?_
  rw [roundsIn_succ]
  gi_wp2
  go_end0
  exact ⟨⟨_, rfl⟩, .inl ⟨[], rfl, h0⟩⟩
set_option maxRecDepth 100000 in
set_option maxHeartbeats 2000000 in
theorem table52_in (F : Fence) (n : Nat) (h : F.fn 52) (h115 : F.fn 115) (hro : F.round = none) (hn : 3 ≤ n) (hw : F = Fence.wide) (w : World) : CallsIn F n Tryz.prog 52 #[.slice none 0 0] w (TableP w (num 0) 0) := by
  have h1 : 1 ≤ n := by omega
  have hmf : ∀ (fn : Fn) (first cap : Array Value) (w : World), (Instr.makeFunc fn first cap).run Tryz.prog w = .ok (.func fn first cap) w := fun _ _ _ _ => rfl
  refine callsIn_of_wp_marks Tryz.func52 rfl h ?_ hro
  simp only [Tryz.ntmps52, List.size_toArray, List.length_cons, List.length_nil, Nat.reduceAdd, Nat.reduceSub, Array.replicate_succ, Array.replicate_zero, List.push_toArray, List.append_toArray, List.nil_append, List.cons_append]
  gi_wp2
  refine wpIn_loop_rounds 1 ?_
  rw [roundsIn_succ]
  gi_wp2_with fail
  refine ⟨trivial, (callsIn_wide.2 (putNumber_any (.slice none 0 0) [] 0 w (Slc.nil w) (by decide) (by decide) (by decide))).mono ?_⟩
  rintro _ w1 ⟨bv, rfl, hob, hb1⟩
  have HOB := Lib.hid hob
  have HB1 := Lib.hid hb1
  obtain ⟨ba, bc, rfl, -⟩ := hob
  obtain ⟨bl, hbl⟩ : ∃ bl, bl = ([] ++ num 0).length := ⟨_, rfl⟩
  rw [← hbl] at HOB ⊢
  have HBL := Lib.hid hbl
  clear hb1 hbl
  gi_wp2_with fail
  refine ⟨trivial, (callsIn_wide.2 (chunk80 none 0 0 _)).mono ?_⟩
  rintro _ w2 ⟨rfl, rfl⟩
  gi_wp2_with fail
  obtain ⟨k1, k2, k3, k4, k5⟩ := box3 w1 (.cells #[.slice ba bl bc] 22) (.cells #[.slice none 0 0] 37) (.cells #[.int .i64 16] 3)
  obtain ⟨W3, hW3⟩ : ∃ W3, W3 = ((w1.alloc (.cells #[.slice ba bl bc] 22)).alloc (.cells #[.slice none 0 0] 37)).alloc (.cells #[.int .i64 16] 3) := ⟨_, rfl⟩
  rw [← hW3] at k1 k2 k3 k4 k5 ⊢
  have HK1 := Lib.hid k1
  have HK2 := Lib.hid k2
  have HK5 := Lib.hid k5
  have HSEQ := chunks_none F (n - 1) h115 hro W3 (w1.heap.size + 1) (w1.heap.size + 1 + 1) none 0 k3
  clear hW3
  refine wpIn_rangeFunc_ownG hro h1 (gf := 115) (lb := #[.pointer (some ⟨w1.heap.size + 1, 0, none⟩), .pointer (some ⟨w1.heap.size + 1 + 1, 0, none⟩)]) rfl h115 (enters_of Tryz.func115 (by kernel_rfl) rfl)
    HSEQ (fun _ _ => trivial) (fun _ _ _ _ _ _ _ _ => trivial) (Below.refl _ _) (fun x => x.elim)
    (fun _ W => Below W3.heap.size W3 W) (fun _ _ _ => False) (ownFrom_below (Nat.le_refl _) (Nat.le_refl _)) (fun _ _ _ _ _ hs _ _ => hs) (Below.refl _ _)
    (fun x => x.elim) ?assign ?body ?done ?stop
  case assign => exact fun _ x => x.elim
  case body => exact fun _ _ x => x.elim
  case stop => exact fun _ _ _ _ _ h => h.elim
  case done =>
    rintro D ys W hD - hB hK
    have HB := Lib.hid hB
    have hbox := block_below hB HK2.out (by rw [HK5.out]; omega)
    have cbox := cells1 hbox
    have HKD := Lib.hid hK
    clear hbox hB
    gi_wp2
    refine ⟨by simp, .inl ⟨_, _, rfl, run_takeDeferred HKD.out, ?_⟩⟩
    have hbl : Below W3.heap.size W (W.putObj D (.deferred none)) := belowK_b (w := W3) (Nat.le_refl _) W D _ _ hD HKD.out rfl rfl
    have hb3 : Below w1.heap.size w1 (W.putObj D (.deferred none)) := HK1.out.trans ((HB.out.trans hbl).mono (by rw [HK5.out]; omega))
    exact ⟨_, results_tmp2 rfl _ _ _, ⟨_, rfl, (HOB.out.mono hb3).fr⟩, HB1.out.trans (hb3.mono HB1.out.size)⟩
theorem table52_nil (w : World) : Calls Tryz.prog 52 #[.slice none 0 0] w (TableP w (num 0) 0) :=
  callsIn_wide.1 (table52_in Fence.wide 3 trivial trivial rfl (Nat.le_refl _) rfl w)
end Go.Proofs.YtjkmbbnjiobckaaGreatDoor
