/-
  More words on memory: what lies at or above a base stands when something below it is written; a struct stored whole; a return out of a result's block.
-/
import Derived.Test.YtjkmbbnjiobckaaGreatDoorClone
namespace Go.Proofs.YtjkmbbnjiobckaaGreatDoor
open Go.RowKit
/-- From w to w' nothing at or above base has turned. -/
def Above (base : Nat) (w w' : World) : Prop := ∀ b, base ≤ b → w'.heap[b]? = w.heap[b]?
theorem Above.refl (base : Nat) (w : World) : Above base w w := fun _ _ => rfl
theorem Above.set {base : Nat} {w w' : World} (h : Above base w w') {p i : Nat} (hp : p < base) (u : Value) : Above base w (w'.setCell ⟨p, i, none⟩ u) :=
  fun b hb => (Below.heap_setCell _ _ _ _ (show b ≠ p by omega)).trans (h b hb)
theorem row_above {w w' : World} {base : Nat} {a : Option Addr} {n cap : Nat} {xs : List Value} (h : Row w a n cap xs) (ha : Above base w w') (hb : ∀ b o, a = some ⟨b, o, none⟩ → base ≤ b) : Row w' a n cap xs :=
  ⟨h.le, h.most, fun j x hj => by
    obtain ⟨b, o, e, hc⟩ := h.at' j x hj
    exact ⟨b, o, e, by rw [World.cell?_of_block (a := ⟨b, o + j, none⟩) (ha b (hb b o e))]; exact hc⟩⟩
theorem FrB.above {w w' : World} {base base' : Nat} {v : Value} {l : List UInt8} (h : FrB w base v l) (ha : Above base' w w') (hb : base' ≤ base) : FrB w' base v l := by
  obtain ⟨a, cap, rfl, hr, k⟩ := h
  refine ⟨a, cap, rfl, row_above hr ha (fun b o e => Nat.le_trans hb (k b o e).1), fun b o e => ?_⟩
  obtain ⟨h1, cur, fr, h2⟩ := k b o e
  exact ⟨h1, cur, fr, (ha b (Nat.le_trans hb h1)).trans h2⟩
theorem ownsRow_above {w w' : World} {base base' : Nat} {e : TypeId} {sz n : Nat} {v : Value} {xs : List Value} (h : w.ownsRow base e sz v n xs) (ha : Above base' w w') (hb : base' ≤ base) : w'.ownsRow base e sz v n xs :=
  ⟨h.1, h.2.imp id fun ⟨g, cap, cur, hv, hg, hh, r⟩ => ⟨g, cap, cur, hv, hg, (ha g (Nat.le_trans hb hg)).trans hh, r⟩⟩
theorem OwnB.above {w w' : World} {base base' : Nat} {v : Value} {l : List UInt8} (h : OwnB w base v l) (ha : Above base' w w') (hb : base' ≤ base) : OwnB w' base v l := by
  obtain ⟨a, cap, rfl, h⟩ := h
  exact ⟨a, cap, rfl, ownsRow_above h ha hb⟩
theorem OwnVs.above {w w' : World} {base base' : Nat} {v : Value} {vs : List Value} (h : OwnVs w base v vs) (ha : Above base' w w') (hb : base' ≤ base) : OwnVs w' base v vs := by
  obtain ⟨a, cap, rfl, h⟩ := h
  exact ⟨a, cap, rfl, ownsRow_above h ha hb⟩
theorem OwnSs.above {w w' : World} {base base' : Nat} {v : Value} {ll : List (List UInt8)} (h : OwnSs w base v ll) (ha : Above base' w w') (hb : base' ≤ base) : OwnSs w' base v ll := by
  obtain ⟨vs, h1, h2, h3⟩ := h
  exact ⟨vs, h1.above ha hb, h2, fun i x hi => let ⟨l, a, b⟩ := h3 i x hi; ⟨l, a, b.above ha hb⟩⟩
theorem Slcs.drew {w : World} {v : Value} {ll : List (List UInt8)} (h : Slcs w v ll) : Slcs w.drew v ll := h.mono (Below.refl _ _).drew
theorem Slcs.alloc {w : World} {v : Value} {ll : List (List UInt8)} (h : Slcs w v ll) (o : Obj) : Slcs (w.alloc o) v ll := h.mono ((Below.refl _ _).alloc (Nat.le_refl _) o)
/-! ### A whole block stored, cell by cell -/
theorem set1 {w : World} {p : Nat} {T : TypeId} {u0 v0 : Value} (h : w.heap[p]? = some (.cells #[u0] T (0, 0))) : (w.setCell ⟨p, 0, none⟩ v0).heap[p]? = some (.cells #[v0] T (0, 0)) := block_set' h rfl
theorem set4 {w : World} {p : Nat} {T : TypeId} {u0 u1 u2 u3 v0 v1 v2 v3 : Value} (h : w.heap[p]? = some (.cells #[u0, u1, u2, u3] T (0, 0))) :
    ((((w.setCell ⟨p, 0, none⟩ v0).setCell ⟨p, 1, none⟩ v1).setCell ⟨p, 2, none⟩ v2).setCell ⟨p, 3, none⟩ v3).heap[p]? = some (.cells #[v0, v1, v2, v3] T (0, 0)) :=
  block_set' (block_set' (block_set' (block_set' h rfl) rfl) rfl) rfl
theorem set5 {w : World} {p : Nat} {T : TypeId} {u0 u1 u2 u3 u4 v0 v1 v2 v3 v4 : Value} (h : w.heap[p]? = some (.cells #[u0, u1, u2, u3, u4] T (0, 0))) :
    (((((w.setCell ⟨p, 0, none⟩ v0).setCell ⟨p, 1, none⟩ v1).setCell ⟨p, 2, none⟩ v2).setCell ⟨p, 3, none⟩ v3).setCell ⟨p, 4, none⟩ v4).heap[p]? = some (.cells #[v0, v1, v2, v3, v4] T (0, 0)) :=
  block_set' (block_set' (block_set' (block_set' (block_set' h rfl) rfl) rfl) rfl) rfl
theorem Above.set5 {base : Nat} {w w' : World} (h : Above base w w') {p : Nat} (hp : p < base) (v0 v1 v2 v3 v4 : Value) :
    Above base w (((((w'.setCell ⟨p, 0, none⟩ v0).setCell ⟨p, 1, none⟩ v1).setCell ⟨p, 2, none⟩ v2).setCell ⟨p, 3, none⟩ v3).setCell ⟨p, 4, none⟩ v4) :=
  ((((h.set hp _).set hp _).set hp _).set hp _).set hp _
theorem below_set5 {B : Nat} {a w : World} (h : Below B a w) {p : Nat} (hp : B ≤ p) (v0 v1 v2 v3 v4 : Value) :
    Below B a (((((w.setCell ⟨p, 0, none⟩ v0).setCell ⟨p, 1, none⟩ v1).setCell ⟨p, 2, none⟩ v2).setCell ⟨p, 3, none⟩ v3).setCell ⟨p, 4, none⟩ v4) :=
  ((((h.setCell hp _).setCell hp _).setCell hp _).setCell hp _).setCell hp _
theorem other_set {w : World} {p q i : Nat} {u : Value} {o : Option Obj} (h : w.heap[q]? = o) (hne : q ≠ p) : (w.setCell ⟨p, i, none⟩ u).heap[q]? = o := by
  rw [Below.heap_setCell _ _ _ _ hne]; exact h
theorem other_set5 {w : World} {p q : Nat} {v0 v1 v2 v3 v4 : Value} {o : Option Obj} (h : w.heap[q]? = o) (hne : q ≠ p) :
    (((((w.setCell ⟨p, 0, none⟩ v0).setCell ⟨p, 1, none⟩ v1).setCell ⟨p, 2, none⟩ v2).setCell ⟨p, 3, none⟩ v3).setCell ⟨p, 4, none⟩ v4).heap[q]? = o :=
  other_set (other_set (other_set (other_set (other_set h hne) hne) hne) hne) hne
/-- The end of a walk, the world under one name. -/
theorem post_world {P : Program} {F : Func} {R : Ending → World → Prop} {x : Exit} {a : Act} {w : World} (H : World → Prop) (h : H w) (k : ∀ w', H w' → bodyPost P F R x a w') : bodyPost P F R x a w := k w h
theorem box1 (w : World) (o1 : Obj) : Below w.heap.size w (w.alloc o1) ∧ (w.alloc o1).heap[w.heap.size]? = some o1 ∧ (w.alloc o1).heap.size = w.heap.size + 1 :=
  ⟨(Below.refl _ _).alloc (Nat.le_refl _) _, heap_alloc_new _ _, World.size_alloc _ _⟩
theorem box2 (w : World) (o1 o2 : Obj) : Below w.heap.size w ((w.alloc o1).alloc o2) ∧ ((w.alloc o1).alloc o2).heap[w.heap.size]? = some o1 ∧ ((w.alloc o1).alloc o2).heap[w.heap.size + 1]? = some o2 ∧ ((w.alloc o1).alloc o2).heap.size = w.heap.size + 2 := by
  obtain ⟨h1, h2, h3⟩ := box1 w o1
  obtain ⟨k1, k2, k3⟩ := box1 (w.alloc o1) o2
  rw [h3] at k1 k2 k3
  exact ⟨h1.trans (k1.mono (Nat.le_succ _)), block_below k1 h2 (Nat.lt_succ_self _), k2, k3⟩
theorem box3 (w : World) (o1 o2 o3 : Obj) : Below w.heap.size w (((w.alloc o1).alloc o2).alloc o3) ∧ (((w.alloc o1).alloc o2).alloc o3).heap[w.heap.size]? = some o1 ∧ (((w.alloc o1).alloc o2).alloc o3).heap[w.heap.size + 1]? = some o2 ∧ (((w.alloc o1).alloc o2).alloc o3).heap[w.heap.size + 1 + 1]? = some o3 ∧ (((w.alloc o1).alloc o2).alloc o3).heap.size = w.heap.size + 1 + 1 + 1 := by
  obtain ⟨h1, h2, h3, h4⟩ := box2 w o1 o2
  obtain ⟨k1, k2, k3⟩ := box1 ((w.alloc o1).alloc o2) o3
  rw [h4] at k1 k2 k3
  exact ⟨h1.trans (k1.mono (by omega)), block_below k1 h2 (by omega), block_below k1 h3 (by omega), k2, k3⟩
theorem box4 (w : World) (o1 o2 o3 o4 : Obj) : Below w.heap.size w ((((w.alloc o1).alloc o2).alloc o3).alloc o4) ∧ ((((w.alloc o1).alloc o2).alloc o3).alloc o4).heap[w.heap.size]? = some o1 ∧ ((((w.alloc o1).alloc o2).alloc o3).alloc o4).heap[w.heap.size + 1]? = some o2 ∧ ((((w.alloc o1).alloc o2).alloc o3).alloc o4).heap[w.heap.size + 1 + 1]? = some o3 ∧ ((((w.alloc o1).alloc o2).alloc o3).alloc o4).heap[w.heap.size + 1 + 1 + 1]? = some o4 ∧ ((((w.alloc o1).alloc o2).alloc o3).alloc o4).heap.size = w.heap.size + 1 + 1 + 1 + 1 := by
  obtain ⟨h1, h2, h3, h4, h5⟩ := box3 w o1 o2 o3
  obtain ⟨k1, k2, k3⟩ := box1 (((w.alloc o1).alloc o2).alloc o3) o4
  rw [h5] at k1 k2 k3
  exact ⟨h1.trans (k1.mono (by omega)), block_below k1 h2 (by omega), block_below k1 h3 (by omega), block_below k1 h4 (by omega), k2, k3⟩
end Go.Proofs.YtjkmbbnjiobckaaGreatDoor
