/-
  Stores in memory: a block of ten cells stored whole; store.fail.
-/
import Derived.Test.YtjkmbbnjiobckaaGreatDoorEvs
namespace Go.Proofs.YtjkmbbnjiobckaaGreatDoor
open Go.RowKit
def setMany (w : World) (p : Nat) : Nat → List Value → World
  | _, [] => w
  | i, v :: vs => setMany (w.setCell ⟨p, i, none⟩ v) p (i + 1) vs
theorem setMany_block {p : Nat} {T : TypeId} : ∀ (vs : List Value) (w : World) (i : Nat) (us : List Value), w.heap[p]? = some (.cells us.toArray T (0, 0)) → i + vs.length ≤ us.length →
    (setMany w p i vs).heap[p]? = some (.cells (us.take i ++ vs ++ us.drop (i + vs.length)).toArray T (0, 0))
  | [], w, i, us, h, _ => by simpa [setMany] using h
  | v :: vs, w, i, us, h, hl => by
    simp only [List.length_cons] at hl
    have h1 : (w.setCell ⟨p, i, none⟩ v).heap[p]? = some (.cells (us.set i v).toArray T (0, 0)) := block_set' h (by simp)
    have := setMany_block vs (w.setCell ⟨p, i, none⟩ v) (i + 1) (us.set i v) h1 (by simp; omega)
    rw [setMany, this]
    congr 3
    rw [List.take_add_one, List.getElem?_set_self (by omega), List.take_set_of_le (Nat.le_refl _), List.drop_set_of_lt (by omega)]
    simp only [Option.toList_some, List.append_assoc, List.singleton_append, List.length_cons]
    rw [show i + 1 + vs.length = i + (vs.length + 1) by omega]
theorem set10 {w : World} {p : Nat} {T : TypeId} {u0 u1 u2 u3 u4 u5 u6 u7 u8 u9 v0 v1 v2 v3 v4 v5 v6 v7 v8 v9 : Value} (h : w.heap[p]? = some (.cells #[u0, u1, u2, u3, u4, u5, u6, u7, u8, u9] T (0, 0))) :
    ((((((((((w.setCell ⟨p, 0, none⟩ v0).setCell ⟨p, 1, none⟩ v1).setCell ⟨p, 2, none⟩ v2).setCell ⟨p, 3, none⟩ v3).setCell ⟨p, 4, none⟩ v4).setCell ⟨p, 5, none⟩ v5).setCell ⟨p, 6, none⟩ v6).setCell ⟨p, 7, none⟩ v7).setCell ⟨p, 8, none⟩ v8).setCell ⟨p, 9, none⟩ v9).heap[p]? = some (.cells #[v0, v1, v2, v3, v4, v5, v6, v7, v8, v9] T (0, 0)) := by
  have := setMany_block [v0, v1, v2, v3, v4, v5, v6, v7, v8, v9] w 0 [u0, u1, u2, u3, u4, u5, u6, u7, u8, u9] h (by simp)
  simpa [setMany] using this
theorem below_set10 {B : Nat} {a w : World} (h : Below B a w) {p : Nat} (hp : B ≤ p) (v0 v1 v2 v3 v4 v5 v6 v7 v8 v9 : Value) : Below B a ((((((((((w.setCell ⟨p, 0, none⟩ v0).setCell ⟨p, 1, none⟩ v1).setCell ⟨p, 2, none⟩ v2).setCell ⟨p, 3, none⟩ v3).setCell ⟨p, 4, none⟩ v4).setCell ⟨p, 5, none⟩ v5).setCell ⟨p, 6, none⟩ v6).setCell ⟨p, 7, none⟩ v7).setCell ⟨p, 8, none⟩ v8).setCell ⟨p, 9, none⟩ v9) :=
  (((((((((((h.setCell hp _).setCell hp _).setCell hp _).setCell hp _).setCell hp _).setCell hp _).setCell hp _).setCell hp _).setCell hp _).setCell hp _))
theorem Above.set10 {base : Nat} {w w' : World} (h : Above base w w') {p : Nat} (hp : p < base) (v0 v1 v2 v3 v4 v5 v6 v7 v8 v9 : Value) : Above base w ((((((((((w'.setCell ⟨p, 0, none⟩ v0).setCell ⟨p, 1, none⟩ v1).setCell ⟨p, 2, none⟩ v2).setCell ⟨p, 3, none⟩ v3).setCell ⟨p, 4, none⟩ v4).setCell ⟨p, 5, none⟩ v5).setCell ⟨p, 6, none⟩ v6).setCell ⟨p, 7, none⟩ v7).setCell ⟨p, 8, none⟩ v8).setCell ⟨p, 9, none⟩ v9) :=
  (((((((((((h.set hp _).set hp _).set hp _).set hp _).set hp _).set hp _).set hp _).set hp _).set hp _).set hp _))
theorem other_set10 {w : World} {p q : Nat} {v0 v1 v2 v3 v4 v5 v6 v7 v8 v9 : Value} {o : Option Obj} (h : w.heap[q]? = o) (hne : q ≠ p) : ((((((((((w.setCell ⟨p, 0, none⟩ v0).setCell ⟨p, 1, none⟩ v1).setCell ⟨p, 2, none⟩ v2).setCell ⟨p, 3, none⟩ v3).setCell ⟨p, 4, none⟩ v4).setCell ⟨p, 5, none⟩ v5).setCell ⟨p, 6, none⟩ v6).setCell ⟨p, 7, none⟩ v7).setCell ⟨p, 8, none⟩ v8).setCell ⟨p, 9, none⟩ v9).heap[q]? = o :=
  (other_set (other_set (other_set (other_set (other_set (other_set (other_set (other_set (other_set (other_set h hne) hne) hne) hne) hne) hne) hne) hne) hne) hne)

/-- A store. -/
structure Sto where
  disk : Dsk
  gen : Int
  half : Int
  next : Int
  frame : Int
  events : List Ev
def Sto.zero : Sto := ⟨Dsk.zero, 0, 0, 0, 0, []⟩
def StoV (w : World) (v : Value) (s : Sto) : Prop := ∃ x y ev, v = .agg #[x, y, .int .i64 s.disk.fuse, .int .i64 s.disk.ops, .bool s.disk.dead, .int .i64 s.gen, .int .i64 s.half, .int .i64 s.next, .int .i64 s.frame, ev] ∧ Slcs w x s.disk.now ∧ Slcs w y s.disk.safe ∧ Evs w ev s.events
theorem StoV.mono {w w' : World} {v : Value} {s : Sto} (h : StoV w v s) (hb : Below w.heap.size w w') : StoV w' v s := by
  obtain ⟨x, y, ev, rfl, h1, h2, h3⟩ := h
  exact ⟨x, y, ev, rfl, h1.mono hb, h2.mono hb, h3.mono hb⟩
theorem StoV.zero (w : World) : StoV w (.agg #[.slice none 0 0, .slice none 0 0, .int .i64 0, .int .i64 0, .bool false, .int .i64 0, .int .i64 0, .int .i64 0, .int .i64 0, .slice none 0 0]) Sto.zero :=
  ⟨_, _, _, rfl, (OwnSs.nil w 0).slcs, (OwnSs.nil w 0).slcs, Evs.nil w⟩
/-- A store of the call's own. -/
def StoO (w : World) (base : Nat) (v : Value) (s : Sto) : Prop := ∃ x y ev, v = .agg #[x, y, .int .i64 s.disk.fuse, .int .i64 s.disk.ops, .bool s.disk.dead, .int .i64 s.gen, .int .i64 s.half, .int .i64 s.next, .int .i64 s.frame, ev] ∧ OwnD w base x y s.disk.now s.disk.safe ∧ OwnE w base ev s.events
theorem OwnD.both {w : World} {base : Nat} {x y : Value} {now safe : List (List UInt8)} (h : OwnD w base x y now safe) : Slcs w x now ∧ Slcs w y safe := by
  obtain ⟨m, _, h1, _, h2⟩ := h
  exact ⟨h1.slcs, h2.slcs⟩
theorem StoO.stoV {w : World} {base : Nat} {v : Value} {s : Sto} (h : StoO w base v s) : StoV w v s := by
  obtain ⟨x, y, ev, rfl, h1, h2⟩ := h
  exact ⟨x, y, ev, rfl, h1.both.1, h1.both.2, h2.evs⟩
theorem StoO.zero (w : World) (base : Nat) : StoO w base (.agg #[.slice none 0 0, .slice none 0 0, .int .i64 0, .int .i64 0, .bool false, .int .i64 0, .int .i64 0, .int .i64 0, .int .i64 0, .slice none 0 0]) Sto.zero :=
  ⟨_, _, _, rfl, OwnD.zero _ _, OwnE.nil _ _⟩
theorem StoO.above {w w' : World} {base base' : Nat} {v : Value} {s : Sto} (h : StoO w base v s) (ha : Above base' w w') (hb : base' ≤ base) : StoO w' base v s := by
  obtain ⟨x, y, ev, rfl, h1, h2⟩ := h
  exact ⟨x, y, ev, rfl, h1.above ha hb, h2.above ha hb⟩
theorem StoO.mono {w w' : World} {base : Nat} {v : Value} {s : Sto} (h : StoO w base v s) (hb : Below w.heap.size w w') : StoO w' base v s := by
  obtain ⟨x, y, ev, rfl, h1, h2⟩ := h
  exact ⟨x, y, ev, rfl, h1.mono hb, h2.mono hb⟩
theorem StoO.lower {w : World} {base base' : Nat} {v : Value} {s : Sto} (h : StoO w base v s) (hb : base' ≤ base) : StoO w base' v s := by
  obtain ⟨x, y, ev, rfl, h1, h2⟩ := h
  exact ⟨x, y, ev, rfl, h1.lower hb, h2.lower hb⟩
/-- A store and an error. -/
def StoP (w : World) (s : Sto) (err : Int) (e : Ending) (w' : World) : Prop := (∃ v, e = .returned (.tuple #[v, .int .i64 err]) ∧ StoO w' w.heap.size v s) ∧ Below w.heap.size w w'
def failR (d : Dsk) (e : Int) : Sto × Int := if e = 40 then (⟨d, 0, 0, 0, 0, []⟩, 40) else (Sto.zero, e)
/-- What fail makes of a disk. -/
def failV (x y : Value) (d : Dsk) (err : Int) : Value :=
  if err = 40 then .agg #[x, y, .int .i64 d.fuse, .int .i64 d.ops, .bool d.dead, .int .i64 0, .int .i64 0, .int .i64 0, .int .i64 0, .slice none 0 0]
  else .agg #[.slice none 0 0, .slice none 0 0, .int .i64 0, .int .i64 0, .bool false, .int .i64 0, .int .i64 0, .int .i64 0, .int .i64 0, .slice none 0 0]
theorem failV_sto {w : World} {base : Nat} {x y : Value} {d : Dsk} {err : Int} (h : OwnD w base x y d.now d.safe) : StoO w base (failV x y d err) (failR d err).1 := by
  unfold failV failR
  by_cases he : err = 40
  · rw [if_pos he, if_pos he]; exact ⟨_, _, _, rfl, h, OwnE.nil _ _⟩
  · rw [if_neg he, if_neg he]; exact StoO.zero w base
theorem failR_err (d : Dsk) (err : Int) : (failR d err).2 = err := by
  unfold failR
  by_cases he : err = 40
  · rw [if_pos he, he]
  · rw [if_neg he]
set_option maxRecDepth 100000 in
set_option maxHeartbeats 1000000 in
theorem fail37 (xa ya : Option Addr) (xn xc yn yc : Nat) (d : Dsk) (err : Int) (w : World) : Calls Tryz.prog 37 #[.agg #[.slice xa xn xc, .slice ya yn yc, .int .i64 d.fuse, .int .i64 d.ops, .bool d.dead], .int .i64 err] w fun e w' => e = .returned (.tuple #[failV (.slice xa xn xc) (.slice ya yn yc) d err, .int .i64 err]) ∧ Below w.heap.size w w' := by
  obtain ⟨now, safe, fuse, ops, dead⟩ := d
  simp only
  by_cases he : err = 40
  · subst he
    have HF : Hid (failV (.slice xa xn xc) (.slice ya yn yc) ⟨now, safe, fuse, ops, dead⟩ 40 = .agg #[.slice xa xn xc, .slice ya yn yc, .int .i64 fuse, .int .i64 ops, .bool dead, .int .i64 0, .int .i64 0, .int .i64 0, .int .i64 0, .slice none 0 0]) := rfl
    go_enter Tryz.func37, Tryz.ntmps37
    go_wp2
    obtain ⟨k1, k2, k3, k4⟩ := box2 w (.cells #[.slice xa xn xc, .slice ya yn yc, .int .i64 fuse, .int .i64 ops, .bool dead] 36) (.cells #[.slice xa xn xc, .slice ya yn yc, .int .i64 fuse, .int .i64 ops, .bool dead, .int .i64 0, .int .i64 0, .int .i64 0, .int .i64 0, .slice none 0 0] 39)
    obtain ⟨e0, e1, e2, e3, e4, e5, e6, e7, e8, e9⟩ := cells10 k3
    rw [HF.out]
    exact bodyPost_ret (v := .tuple #[.agg #[.slice xa xn xc, .slice ya yn yc, .int .i64 fuse, .int .i64 ops, .bool dead, .int .i64 0, .int .i64 0, .int .i64 0, .int .i64 0, .slice none 0 0], .int .i64 40]) (by simp [results, Tryz.results37, go_sem, e0, e1, e2, e3, e4, e5, e6, e7, e8, e9]) rfl ⟨rfl, k1⟩
  · have HF : Hid (failV (.slice xa xn xc) (.slice ya yn yc) ⟨now, safe, fuse, ops, dead⟩ err = .agg #[.slice none 0 0, .slice none 0 0, .int .i64 0, .int .i64 0, .bool false, .int .i64 0, .int .i64 0, .int .i64 0, .int .i64 0, .slice none 0 0]) := if_neg he
    have hne : (err == 40) = false := by simpa using he
    clear he
    go_enter Tryz.func37, Tryz.ntmps37
    go_wp2
    obtain ⟨k1, k2, k3, k4⟩ := box2 w (.cells #[.slice xa xn xc, .slice ya yn yc, .int .i64 fuse, .int .i64 ops, .bool dead] 36) (.cells #[.slice none 0 0, .slice none 0 0, .int .i64 0, .int .i64 0, .bool false, .int .i64 0, .int .i64 0, .int .i64 0, .int .i64 0, .slice none 0 0] 39)
    obtain ⟨e0, e1, e2, e3, e4, e5, e6, e7, e8, e9⟩ := cells10 k3
    rw [HF.out]
    exact bodyPost_ret (v := .tuple #[.agg #[.slice none 0 0, .slice none 0 0, .int .i64 0, .int .i64 0, .bool false, .int .i64 0, .int .i64 0, .int .i64 0, .int .i64 0, .slice none 0 0], .int .i64 err]) (by simp [results, Tryz.results37, go_sem, e0, e1, e2, e3, e4, e5, e6, e7, e8, e9]) rfl ⟨rfl, k1⟩
end Go.Proofs.YtjkmbbnjiobckaaGreatDoor
