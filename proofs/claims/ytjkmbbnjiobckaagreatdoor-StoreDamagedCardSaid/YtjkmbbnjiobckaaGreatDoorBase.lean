/-
  General words for the walks of this seat: what a slice reads, what a call's own new slice holds, 64-bit words; the laws on an append and a reslicing in these words. No function of the program is named here.
-/
import Derived.WalkKit
import Derived.Lib.Hide
import Derived.Outline
import Derived.Test.YtjkmbbnjiobckaaGreatDoorPlan
namespace Go
open Go.RowKit

/-! ### 64-bit words -/
def U (x : UInt64) : Int := (x.toNat : Int)
theorem U_bd (x : UInt64) : 0 ≤ U x ∧ U x < 18446744073709551616 := by
  unfold U; have := x.toNat_lt; omega
@[go_sem] theorem U_add (x y : UInt64) : IntKind.u64.wrap (U x + U y) = U (x + y) := by
  rw [IntKind.wrap_u64]; unfold U; rw [UInt64.toNat_add]; simp
@[go_sem] theorem U_xor (x y : UInt64) : bits .xor .u64 (U x) (U y) = U (x ^^^ y) := by
  unfold U; rw [u64_xor_nat _ _ x.toNat_lt y.toNat_lt]; simp
@[go_sem] theorem U_or (x y : UInt64) : bits .or .u64 (U x) (U y) = U (x ||| y) := by
  unfold U; rw [u64_or_nat _ _ x.toNat_lt y.toNat_lt]; simp
def rotl (x : UInt64) (k : Nat) : UInt64 := UInt64.ofNat (x.toNat * 2 ^ k) ||| UInt64.ofNat (x.toNat / 2 ^ (64 - k))
theorem U_shl (x : UInt64) (k : Nat) : IntKind.u64.wrap (U x * 2 ^ k) = U (UInt64.ofNat (x.toNat * 2 ^ k)) := by
  rw [IntKind.wrap_u64]; unfold U; simp
theorem U_shr (x : UInt64) (k : Nat) : (U x / 2 ^ k) = U (UInt64.ofNat (x.toNat / 2 ^ k)) := by
  unfold U
  have h1 : (x.toNat / 2 ^ k) % 18446744073709551616 = x.toNat / 2 ^ k := Nat.mod_eq_of_lt (Nat.lt_of_le_of_lt (Nat.div_le_self _ _) x.toNat_lt)
  rw [UInt64.toNat_ofNat', h1]; rfl

/-! ### Blocks known whole -/
theorem cell_of_block {w : World} {p i : Nat} {cs : Array Value} {T : TypeId} {fr : Nat × Nat} {v : Value} (hb : w.heap[p]? = some (.cells cs T fr)) (h : cs[i]? = some v) : w.cell? ⟨p, i, none⟩ = some v := by
  simp [World.cell?, hb, h]
theorem free_of_block {w : World} {p i : Nat} {cs : Array Value} {T : TypeId} (hb : w.heap[p]? = some (.cells cs T (0, 0))) : w.frozen? ⟨p, i, none⟩ = false := by
  simp [World.frozen?, hb]
theorem block_set {w : World} {p i : Nat} {cs : Array Value} {T : TypeId} {fr : Nat × Nat} {v : Value} (hb : w.heap[p]? = some (.cells cs T fr)) : (w.setCell ⟨p, i, none⟩ v).heap[p]? = some (.cells (cs.setIfInBounds i v) T fr) := by
  simp [World.setCell, Array.getElem?_modify, hb]
theorem block_drew {w : World} {p : Nat} {o : Option Obj} (hb : w.heap[p]? = o) : w.drew.heap[p]? = o := hb
theorem grown_refl (w : World) (r : Option Nat) : w.grownBy w r := ⟨rfl, rfl, rfl, Nat.le_refl _, fun _ _ _ => rfl⟩
theorem grown_drew {w w' : World} {r : Option Nat} (h : w.grownBy w' r) : w.grownBy w'.drew r := ⟨h.os, h.tape, h.output, h.size, h.block⟩
theorem grown_set {w w' : World} {p i : Nat} (h : w.grownBy w' (some p)) (v : Value) : w.grownBy (w'.setCell ⟨p, i, none⟩ v) (some p) :=
  ⟨h.os, h.tape, h.output, by simp [World.setCell]; exact h.size, fun k hk hne => by
    rw [Below.heap_setCell _ _ _ _ (by intro e; exact hne (by rw [e]))]; exact h.block k hk hne⟩
theorem grown_trans {a b c : World} {r : Option Nat} (h : a.grownBy b r) (k : b.grownBy c r) : a.grownBy c r :=
  ⟨k.os.trans h.os, k.tape.trans h.tape, k.output.trans h.output, Nat.le_trans h.size k.size, fun i hi hne => (k.block i (Nat.lt_of_lt_of_le hi h.size) hne).trans (h.block i hi hne)⟩
theorem below_of_grown {B : Nat} {a w w' : World} {r : Nat} (h : Below B a w) (hg : w.grownBy w' (some r)) (hB : B ≤ w.heap.size) (hr : B ≤ r) : Below B a w' :=
  h.grown hg hB (fun k e => by cases e; exact hr)
theorem grown_of_below {w w' : World} {r : Option Nat} (h : Below w.heap.size w w') : w.grownBy w' r :=
  ⟨h.os, h.tape, h.output, h.size, fun k hk _ => h.block k hk⟩

theorem block_set' {w : World} {p i : Nat} {cs cs' : Array Value} {T : TypeId} {fr : Nat × Nat} {v : Value} (hb : w.heap[p]? = some (.cells cs T fr)) (h : cs.setIfInBounds i v = cs') : (w.setCell ⟨p, i, none⟩ v).heap[p]? = some (.cells cs' T fr) := by
  rw [← h]; exact block_set hb
theorem wp_world {P : Program} {c : Code} {Q : Exit → Act → World → Prop} {a : Act} {w : World} (H : World → Prop) (h : H w) (k : ∀ w', H w' → c.wp P Q a w') : c.wp P Q a w := k w h
theorem le_alloc (w : World) (o : Obj) : w.heap.size ≤ (w.alloc o).heap.size := by rw [World.size_alloc]; exact Nat.le_succ _
theorem cells1 {w : World} {p : Nat} {T : TypeId} {fr : Nat × Nat} {v0 : Value} (hb : w.heap[p]? = some (.cells #[v0] T fr)) : w.cell? ⟨p, 0, none⟩ = some v0 :=
  cell_of_block hb rfl
theorem cells2 {w : World} {p : Nat} {T : TypeId} {fr : Nat × Nat} {v0 v1 : Value} (hb : w.heap[p]? = some (.cells #[v0, v1] T fr)) : w.cell? ⟨p, 0, none⟩ = some v0 ∧ w.cell? ⟨p, 1, none⟩ = some v1 :=
  ⟨cell_of_block hb rfl, cell_of_block hb rfl⟩
theorem cells3 {w : World} {p : Nat} {T : TypeId} {fr : Nat × Nat} {v0 v1 v2 : Value} (hb : w.heap[p]? = some (.cells #[v0, v1, v2] T fr)) : w.cell? ⟨p, 0, none⟩ = some v0 ∧ w.cell? ⟨p, 1, none⟩ = some v1 ∧ w.cell? ⟨p, 2, none⟩ = some v2 :=
  ⟨cell_of_block hb rfl, cell_of_block hb rfl, cell_of_block hb rfl⟩
theorem cells4 {w : World} {p : Nat} {T : TypeId} {fr : Nat × Nat} {v0 v1 v2 v3 : Value} (hb : w.heap[p]? = some (.cells #[v0, v1, v2, v3] T fr)) : w.cell? ⟨p, 0, none⟩ = some v0 ∧ w.cell? ⟨p, 1, none⟩ = some v1 ∧ w.cell? ⟨p, 2, none⟩ = some v2 ∧ w.cell? ⟨p, 3, none⟩ = some v3 :=
  ⟨cell_of_block hb rfl, cell_of_block hb rfl, cell_of_block hb rfl, cell_of_block hb rfl⟩
theorem cells5 {w : World} {p : Nat} {T : TypeId} {fr : Nat × Nat} {v0 v1 v2 v3 v4 : Value} (hb : w.heap[p]? = some (.cells #[v0, v1, v2, v3, v4] T fr)) : w.cell? ⟨p, 0, none⟩ = some v0 ∧ w.cell? ⟨p, 1, none⟩ = some v1 ∧ w.cell? ⟨p, 2, none⟩ = some v2 ∧ w.cell? ⟨p, 3, none⟩ = some v3 ∧ w.cell? ⟨p, 4, none⟩ = some v4 :=
  ⟨cell_of_block hb rfl, cell_of_block hb rfl, cell_of_block hb rfl, cell_of_block hb rfl, cell_of_block hb rfl⟩
theorem cells6 {w : World} {p : Nat} {T : TypeId} {fr : Nat × Nat} {v0 v1 v2 v3 v4 v5 : Value} (hb : w.heap[p]? = some (.cells #[v0, v1, v2, v3, v4, v5] T fr)) : w.cell? ⟨p, 0, none⟩ = some v0 ∧ w.cell? ⟨p, 1, none⟩ = some v1 ∧ w.cell? ⟨p, 2, none⟩ = some v2 ∧ w.cell? ⟨p, 3, none⟩ = some v3 ∧ w.cell? ⟨p, 4, none⟩ = some v4 ∧ w.cell? ⟨p, 5, none⟩ = some v5 :=
  ⟨cell_of_block hb rfl, cell_of_block hb rfl, cell_of_block hb rfl, cell_of_block hb rfl, cell_of_block hb rfl, cell_of_block hb rfl⟩
theorem cells7 {w : World} {p : Nat} {T : TypeId} {fr : Nat × Nat} {v0 v1 v2 v3 v4 v5 v6 : Value} (hb : w.heap[p]? = some (.cells #[v0, v1, v2, v3, v4, v5, v6] T fr)) : w.cell? ⟨p, 0, none⟩ = some v0 ∧ w.cell? ⟨p, 1, none⟩ = some v1 ∧ w.cell? ⟨p, 2, none⟩ = some v2 ∧ w.cell? ⟨p, 3, none⟩ = some v3 ∧ w.cell? ⟨p, 4, none⟩ = some v4 ∧ w.cell? ⟨p, 5, none⟩ = some v5 ∧ w.cell? ⟨p, 6, none⟩ = some v6 :=
  ⟨cell_of_block hb rfl, cell_of_block hb rfl, cell_of_block hb rfl, cell_of_block hb rfl, cell_of_block hb rfl, cell_of_block hb rfl, cell_of_block hb rfl⟩
theorem cells8 {w : World} {p : Nat} {T : TypeId} {fr : Nat × Nat} {v0 v1 v2 v3 v4 v5 v6 v7 : Value} (hb : w.heap[p]? = some (.cells #[v0, v1, v2, v3, v4, v5, v6, v7] T fr)) : w.cell? ⟨p, 0, none⟩ = some v0 ∧ w.cell? ⟨p, 1, none⟩ = some v1 ∧ w.cell? ⟨p, 2, none⟩ = some v2 ∧ w.cell? ⟨p, 3, none⟩ = some v3 ∧ w.cell? ⟨p, 4, none⟩ = some v4 ∧ w.cell? ⟨p, 5, none⟩ = some v5 ∧ w.cell? ⟨p, 6, none⟩ = some v6 ∧ w.cell? ⟨p, 7, none⟩ = some v7 :=
  ⟨cell_of_block hb rfl, cell_of_block hb rfl, cell_of_block hb rfl, cell_of_block hb rfl, cell_of_block hb rfl, cell_of_block hb rfl, cell_of_block hb rfl, cell_of_block hb rfl⟩
theorem cells9 {w : World} {p : Nat} {T : TypeId} {fr : Nat × Nat} {v0 v1 v2 v3 v4 v5 v6 v7 v8 : Value} (hb : w.heap[p]? = some (.cells #[v0, v1, v2, v3, v4, v5, v6, v7, v8] T fr)) : w.cell? ⟨p, 0, none⟩ = some v0 ∧ w.cell? ⟨p, 1, none⟩ = some v1 ∧ w.cell? ⟨p, 2, none⟩ = some v2 ∧ w.cell? ⟨p, 3, none⟩ = some v3 ∧ w.cell? ⟨p, 4, none⟩ = some v4 ∧ w.cell? ⟨p, 5, none⟩ = some v5 ∧ w.cell? ⟨p, 6, none⟩ = some v6 ∧ w.cell? ⟨p, 7, none⟩ = some v7 ∧ w.cell? ⟨p, 8, none⟩ = some v8 :=
  ⟨cell_of_block hb rfl, cell_of_block hb rfl, cell_of_block hb rfl, cell_of_block hb rfl, cell_of_block hb rfl, cell_of_block hb rfl, cell_of_block hb rfl, cell_of_block hb rfl, cell_of_block hb rfl⟩
theorem cells10 {w : World} {p : Nat} {T : TypeId} {fr : Nat × Nat} {v0 v1 v2 v3 v4 v5 v6 v7 v8 v9 : Value} (hb : w.heap[p]? = some (.cells #[v0, v1, v2, v3, v4, v5, v6, v7, v8, v9] T fr)) : w.cell? ⟨p, 0, none⟩ = some v0 ∧ w.cell? ⟨p, 1, none⟩ = some v1 ∧ w.cell? ⟨p, 2, none⟩ = some v2 ∧ w.cell? ⟨p, 3, none⟩ = some v3 ∧ w.cell? ⟨p, 4, none⟩ = some v4 ∧ w.cell? ⟨p, 5, none⟩ = some v5 ∧ w.cell? ⟨p, 6, none⟩ = some v6 ∧ w.cell? ⟨p, 7, none⟩ = some v7 ∧ w.cell? ⟨p, 8, none⟩ = some v8 ∧ w.cell? ⟨p, 9, none⟩ = some v9 :=
  ⟨cell_of_block hb rfl, cell_of_block hb rfl, cell_of_block hb rfl, cell_of_block hb rfl, cell_of_block hb rfl, cell_of_block hb rfl, cell_of_block hb rfl, cell_of_block hb rfl, cell_of_block hb rfl, cell_of_block hb rfl⟩
theorem cells11 {w : World} {p : Nat} {T : TypeId} {fr : Nat × Nat} {v0 v1 v2 v3 v4 v5 v6 v7 v8 v9 v10 : Value} (hb : w.heap[p]? = some (.cells #[v0, v1, v2, v3, v4, v5, v6, v7, v8, v9, v10] T fr)) : w.cell? ⟨p, 0, none⟩ = some v0 ∧ w.cell? ⟨p, 1, none⟩ = some v1 ∧ w.cell? ⟨p, 2, none⟩ = some v2 ∧ w.cell? ⟨p, 3, none⟩ = some v3 ∧ w.cell? ⟨p, 4, none⟩ = some v4 ∧ w.cell? ⟨p, 5, none⟩ = some v5 ∧ w.cell? ⟨p, 6, none⟩ = some v6 ∧ w.cell? ⟨p, 7, none⟩ = some v7 ∧ w.cell? ⟨p, 8, none⟩ = some v8 ∧ w.cell? ⟨p, 9, none⟩ = some v9 ∧ w.cell? ⟨p, 10, none⟩ = some v10 :=
  ⟨cell_of_block hb rfl, cell_of_block hb rfl, cell_of_block hb rfl, cell_of_block hb rfl, cell_of_block hb rfl, cell_of_block hb rfl, cell_of_block hb rfl, cell_of_block hb rfl, cell_of_block hb rfl, cell_of_block hb rfl, cell_of_block hb rfl⟩
theorem cells12 {w : World} {p : Nat} {T : TypeId} {fr : Nat × Nat} {v0 v1 v2 v3 v4 v5 v6 v7 v8 v9 v10 v11 : Value} (hb : w.heap[p]? = some (.cells #[v0, v1, v2, v3, v4, v5, v6, v7, v8, v9, v10, v11] T fr)) : w.cell? ⟨p, 0, none⟩ = some v0 ∧ w.cell? ⟨p, 1, none⟩ = some v1 ∧ w.cell? ⟨p, 2, none⟩ = some v2 ∧ w.cell? ⟨p, 3, none⟩ = some v3 ∧ w.cell? ⟨p, 4, none⟩ = some v4 ∧ w.cell? ⟨p, 5, none⟩ = some v5 ∧ w.cell? ⟨p, 6, none⟩ = some v6 ∧ w.cell? ⟨p, 7, none⟩ = some v7 ∧ w.cell? ⟨p, 8, none⟩ = some v8 ∧ w.cell? ⟨p, 9, none⟩ = some v9 ∧ w.cell? ⟨p, 10, none⟩ = some v10 ∧ w.cell? ⟨p, 11, none⟩ = some v11 :=
  ⟨cell_of_block hb rfl, cell_of_block hb rfl, cell_of_block hb rfl, cell_of_block hb rfl, cell_of_block hb rfl, cell_of_block hb rfl, cell_of_block hb rfl, cell_of_block hb rfl, cell_of_block hb rfl, cell_of_block hb rfl, cell_of_block hb rfl, cell_of_block hb rfl⟩
theorem free_all {w : World} {p : Nat} {cs : Array Value} {T : TypeId} (hb : w.heap[p]? = some (.cells cs T (0, 0))) : ∀ i, w.frozen? ⟨p, i, none⟩ = false := fun _ => free_of_block hb
theorem block_below {w w' : World} {B p : Nat} {o : Obj} (h : Below B w w') (hb : w.heap[p]? = some o) (hp : p < B) : w'.heap[p]? = some o := (h.block p hp).trans hb
/-! ### What a slice reads -/
structure Row (w : World) (a : Option Addr) (n cap : Nat) (xs : List Value) : Prop where
  le : n ≤ cap
  most : cap ≤ maxLen
  at' : ∀ j x, xs[j]? = some x → ∃ b o, a = some ⟨b, o, none⟩ ∧ w.cell? ⟨b, o + j, none⟩ = some x
def bytesV (l : List UInt8) : List Value := l.map fun b => .int .u8 (b.toNat : Int)
theorem bytesV_length (l : List UInt8) : (bytesV l).length = l.length := by simp [bytesV]
theorem bytesV_get {l : List UInt8} {j : Nat} (h : j < l.length) : (bytesV l)[j]? = some (.int .u8 (l[j].toNat : Int)) := by
  simp [bytesV, h]
theorem Row.mono {w w' : World} {a : Option Addr} {n cap : Nat} {xs : List Value} (h : Row w a n cap xs) (hb : Below w.heap.size w w') : Row w' a n cap xs :=
  ⟨h.le, h.most, fun j x hj => by
    obtain ⟨b, o, ha, hc⟩ := h.at' j x hj
    exact ⟨b, o, ha, by rw [hb.cell (p := ⟨b, o + j, none⟩) (World.block_lt_of_cell? w _ hc)]; exact hc⟩⟩
theorem Row.drew {w : World} {a : Option Addr} {n cap : Nat} {xs : List Value} (h : Row w a n cap xs) : Row w.drew a n cap xs := ⟨h.le, h.most, h.at'⟩
theorem Row.alloc {w : World} {a : Option Addr} {n cap : Nat} {xs : List Value} (h : Row w a n cap xs) (o : Obj) : Row (w.alloc o) a n cap xs :=
  h.mono ((Below.refl _ _).alloc (Nat.le_refl _) o)
theorem Row.kept {w w' : World} {a : Option Addr} {n cap : Nat} {xs : List Value} {r : Option Nat} (h : Row w a n cap xs) (hg : w.grownBy w' r) (hne : ∀ b o, a = some ⟨b, o, none⟩ → some b ≠ r) : Row w' a n cap xs :=
  ⟨h.le, h.most, fun j x hj => by
    obtain ⟨b, o, ha, hc⟩ := h.at' j x hj
    exact ⟨b, o, ha, hg.cell hc (hne b o ha)⟩⟩
theorem Row.nil (w : World) {a : Option Addr} {n cap : Nat} (h : n ≤ cap) (h' : cap ≤ maxLen) : Row w a n cap [] := ⟨h, h', fun _ _ hj => by simp at hj⟩
/-- A row with at least one cell lies at an address. -/
theorem Row.addr {w : World} {a : Option Addr} {n cap : Nat} {xs : List Value} (h : Row w a n cap xs) (hx : 0 < xs.length) :
    ∃ b o, a = some ⟨b, o, none⟩ ∧ ∀ j x, xs[j]? = some x → w.cell? ⟨b, o + j, none⟩ = some x := by
  obtain ⟨b, o, ha, _⟩ := h.at' 0 _ (List.getElem?_eq_getElem hx)
  refine ⟨b, o, ha, fun j x hj => ?_⟩
  obtain ⟨b', o', ha', hc⟩ := h.at' j x hj
  rw [ha] at ha'
  cases ha'
  exact hc
theorem ownsRow_row {w : World} {base : Nat} {e : TypeId} {sz : Nat} {a : Option Addr} {n cap : Nat} {xs : List Value} (h : w.ownsRow base e sz (.slice a n cap) n xs) : Row w a n cap xs := by
  obtain ⟨hl, h⟩ := h
  rcases h with ⟨hv, rfl⟩ | ⟨g, cap', cur, hv, hg, hh, hle, hm, hs, ht⟩
  · cases hv
    have : xs = [] := List.length_eq_zero_iff.1 (by simpa using hl)
    subst this
    exact Row.nil w (Nat.le_refl _) (Nat.zero_le _)
  · cases hv
    refine ⟨hle, hm, fun j x hj => ⟨g, 0, rfl, ?_⟩⟩
    rw [Nat.zero_add]
    refine cell_of_block hh ?_
    rw [← ht] at hj
    have hj' := hj
    rw [List.getElem?_take] at hj
    split at hj
    · simpa using hj
    · cases hj
theorem ownsRow_block {w : World} {base : Nat} {e : TypeId} {sz : Nat} {a : Option Addr} {n cap : Nat} {xs : List Value} (h : w.ownsRow base e sz (.slice a n cap) n xs) :
    ∀ b o, a = some ⟨b, o, none⟩ → base ≤ b ∧ b < w.heap.size := fun b o ha => h.lt b (by rw [ha]; rfl)
theorem ownsRow_below {w w' : World} {base : Nat} {e : TypeId} {sz : Nat} {v : Value} {n : Nat} {xs : List Value} (h : w.ownsRow base e sz v n xs) (hb : Below w.heap.size w w') : w'.ownsRow base e sz v n xs :=
  h.kept (grown_of_below (r := none) hb) (by cases h : v.ownBlock <;> simp)
theorem ownsRow_lower {w : World} {base base' : Nat} {e : TypeId} {sz : Nat} {v : Value} {n : Nat} {xs : List Value} (h : w.ownsRow base e sz v n xs) (hb : base' ≤ base) : w.ownsRow base' e sz v n xs :=
  ⟨h.1, h.2.imp id fun ⟨g, cap, cur, hv, hg, r⟩ => ⟨g, cap, cur, hv, Nat.le_trans hb hg, r⟩⟩

/-! ### Reslicing -/
def subAddr (a : Option Addr) (cap lo sz : Nat) : Option Addr := if cap = lo then a else a.map (·.add (lo * sz))
theorem Row.sub {w : World} {a : Option Addr} {n cap : Nat} {xs : List Value} (h : Row w a n cap xs) {lo hi mx sz : Nat} (h1 : lo ≤ hi) (h2 : hi ≤ mx) (h3 : mx ≤ cap) :
    Row w (subAddr a mx lo sz) (hi - lo) (mx - lo) ((xs.drop (lo * sz)).take ((hi - lo) * sz)) := by
  refine ⟨by omega, by have := h.most; omega, fun j x hj => ?_⟩
  rw [List.getElem?_take] at hj
  split at hj
  · rename_i hlt
    rw [List.getElem?_drop] at hj
    obtain ⟨b, o, ha, hc⟩ := h.at' _ _ hj
    unfold subAddr
    by_cases he : mx = lo
    · have : hi - lo = 0 := by omega
      rw [this] at hlt
      simp at hlt
    · rw [if_neg he, ha]
      refine ⟨b, o + lo * sz, ?_, by rw [Nat.add_assoc]; exact hc⟩
      simp only [Option.map_some, Addr.add]
      split
      · rename_i h0; rw [h0]; rfl
      · rfl
  · cases hj

@[go_sem ↓] theorem sliced_sub (a : Option Addr) (l h m s : Nat) : sliced a l h m s = .slice (subAddr a m l s) (h - l) (m - l) := rfl
@[go_sem] theorem subAddr_zero (a : Option Addr) (m s : Nat) : subAddr a m 0 s = a := by
  unfold subAddr
  split
  · rfl
  · cases a <;> simp [Addr.add]
theorem Row.front {w : World} {a : Option Addr} {n cap : Nat} {xs : List Value} (h : Row w a n cap xs) {hi mx sz : Nat} (h2 : hi ≤ mx) (h3 : mx ≤ cap) : Row w a hi mx (xs.take (hi * sz)) := by
  have := h.sub (lo := 0) (sz := sz) (Nat.zero_le hi) h2 h3
  rw [subAddr_zero] at this
  simpa using this

/-! ### Appending -/
section
variable {P : Program} (w : World)
theorem run_append_fresh (base : Nat) (t ty e : TypeId) (i : TypeInfo) (z : Value) (size bytes : Nat) (ht : P.underlying t = some (.slice e)) (hi : P.info? e = some i) (hz : i.zero = some z)
    (hsize : i.size = size) (hby : i.bytes = bytes) (hzs : z.cells.size = size) (hsz : 0 < size)
    (a : Option Addr) (n cap : Nat) (xs : List Value) (hown : w.ownsRow base e size (.slice a n cap) n xs)
    (sa : Option Addr) (m c : Nat) (news : List Value) (hrow : Row w sa m c news) (hl : news.length = m * size) (h1 : ∀ u ∈ news, u.oneCell' = true)
    (h63 : n + m ≤ maxLen) (hbytes : (n + m) * bytes ≤ 140737488355328) (hbase : base ≤ w.heap.size) :
    ∃ a' cap' w', (Builtin.append_ #[t, t] ty #[.slice a n cap, .slice sa m c]).run P w = .ok (.slice a' (n + m) cap') w' ∧ w'.ownsRow base e size (.slice a' (n + m) cap') (n + m) (xs ++ news) ∧ w.grownBy w' (Value.slice a n cap).ownBlock := by
  rcases Nat.eq_zero_or_pos m with rfl | hm
  · have hn : news = [] := List.length_eq_zero_iff.1 (by simpa using hl)
    subst hn
    refine ⟨a, cap, w, ?_, by simpa using hown, grown_refl _ _⟩
    rcases hown.2 with ⟨hv, rfl⟩ | ⟨g, cap', cur, hv, _, _, hnc, _⟩
    · cases hv
      cases sa <;> simp [Builtin.append_, run_underlying ht, sizeOf, typeInfo, hi, Builtin.lenOf, Builtin.firstCells, loadCells, loadCellsFrom]
    · cases hv
      cases sa <;> simp [Builtin.append_, run_underlying ht, sizeOf, typeInfo, hi, Builtin.lenOf, Builtin.firstCells, hnc, storeCells, loadCells, loadCellsFrom]
  · obtain ⟨b, o, rfl, hc⟩ := hrow.addr (by rw [hl]; exact Nat.mul_pos hm hsz)
    obtain ⟨v', w', hr, h2, h3, _⟩ := run_append_own (P := P) w base t ty e i z size bytes ht hi hz hsize hby hzs hsz _ n xs hown ⟨b, o, none⟩ m c news hl
      (fun j u hj => by
        have := hc j u hj
        simp only [Addr.add]
        split
        · rename_i h0; rw [h0] at this; exact this
        · exact this) h1 h63 hbytes hbase
    rcases h2.2 with ⟨rfl, h0⟩ | ⟨g, cap', cur, rfl, _⟩
    · omega
    · exact ⟨_, cap', w', hr, h2, h3⟩

/-- 'append(x, src...)' on a slice of the call's own, whatever its source. -/
theorem wpList_append_fresh {ops : Array Oper} {rest : List Oper} {o : Oper} {ac : Act} {Q : Exit → Act → World → Prop} (hgd : o.guard = none) (s x : Operand) (t : TypeId)
    (ho : o.op = .call { callee := .builtin .append, args := #[s, x], argTypes := #[t, t] })
    (base : Nat) (e : TypeId) (i : TypeInfo) (z : Value) (size bytes : Nat) (ht : P.underlying t = some (.slice e)) (hi : P.info? e = some i) (hz : i.zero = some z)
    (hsize : i.size = size) (hby : i.bytes = bytes) (hzs : z.cells.size = size) (hsz : 0 < size)
    {a : Option Addr} {n cap : Nat} {xs : List Value} {sa : Option Addr} {m c : Nat} {news : List Value}
    (hs : ac.eval s = .slice a n cap) (hx : ac.eval x = .slice sa m c) (hown : w.ownsRow base e size (.slice a n cap) n xs)
    (hrow : Row w sa m c news) (hl : news.length = m * size) (h1 : ∀ u ∈ news, u.oneCell' = true)
    (h63 : n + m ≤ maxLen) (hbytes : (n + m) * bytes ≤ 140737488355328) (hbase : base ≤ w.heap.size)
    (h : ∀ a' cap' w', w'.ownsRow base e size (.slice a' (n + m) cap') (n + m) (xs ++ news) → w.grownBy w' (Value.slice a n cap).ownBlock → wpList P ops Q rest (ac.put o.dst (.slice a' (n + m) cap')) w') :
    wpList P ops Q (o :: rest) ac w :=
  wpList_plain hgd fun K hK => by
    obtain ⟨a', cap', w', hr, h2, h3⟩ := run_append_fresh (P := P) w base t o.type e i z size bytes ht hi hz hsize hby hzs hsz a n cap xs hown sa m c news hrow hl h1 h63 hbytes hbase
    unfold Oper.wp execOp
    simp only [ho, resolve, invoke, builtin, Sem.run_bind, Sem.run_pure, Result.andThen_ok, List.map_toArray, List.map_cons, List.map_nil, hs, hx, hr]
    exact hK _ _ (h a' cap' w' h2 h3)
end
end Go
