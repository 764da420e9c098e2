/-
  Events and stores: what reads as them; slices.Clone of events; store.fail.
-/
import Derived.Test.YtjkmbbnjiobckaaGreatDoorPut
namespace Go.Proofs.YtjkmbbnjiobckaaGreatDoor
open Go.RowKit
/-- An event. -/
structure Ev where
  client : ByteArray
  seq : Int
  kind : Int
  time : Int
  id : ByteArray
  name : ByteArray
  other : ByteArray
  version : Int
  arm : Int
  value : Int
def Ev.cells (e : Ev) : List Value := [.string e.client, .int .i64 e.seq, .int .i64 e.kind, .int .i64 e.time, .string e.id, .string e.name, .string e.other, .int .i64 e.version, .int .i64 e.arm, .int .i64 e.value]
def evVs (l : List Ev) : List Value := l.flatMap Ev.cells
theorem evVs_length (l : List Ev) : (evVs l).length = l.length * 10 := by
  induction l with
  | nil => rfl
  | cons e l ih => simp only [evVs, List.flatMap_cons, List.length_append, List.length_cons] at ih ⊢; rw [ih]; simp [Ev.cells]; omega
theorem evVs_append (l m : List Ev) : evVs (l ++ m) = evVs l ++ evVs m := by simp [evVs]
theorem evVs_one (l : List Ev) : ∀ u ∈ evVs l, u.oneCell' = true := by
  intro u hu
  obtain ⟨e, _, he⟩ := List.mem_flatMap.1 hu
  simp only [Ev.cells, List.mem_cons, List.not_mem_nil, or_false] at he
  rcases he with rfl | rfl | rfl | rfl | rfl | rfl | rfl | rfl | rfl | rfl <;> rfl
/-- A slice that reads as events. -/
def Evs (w : World) (v : Value) (l : List Ev) : Prop := ∃ a cap, v = .slice a l.length cap ∧ Row w a l.length cap (evVs l)
/-- Events of the call's own. -/
def OwnE (w : World) (base : Nat) (v : Value) (l : List Ev) : Prop := ∃ a cap, v = .slice a l.length cap ∧ w.ownsRow base 91 10 (.slice a l.length cap) l.length (evVs l)
theorem Evs.mono {w w' : World} {v : Value} {l : List Ev} (h : Evs w v l) (hb : Below w.heap.size w w') : Evs w' v l := by
  obtain ⟨a, cap, rfl, h⟩ := h
  exact ⟨a, cap, rfl, h.mono hb⟩
theorem Evs.drew {w : World} {v : Value} {l : List Ev} (h : Evs w v l) : Evs w.drew v l := h.mono (Below.refl _ _).drew
theorem Evs.nil (w : World) : Evs w (.slice none 0 0) [] := ⟨none, 0, rfl, Row.nil w (Nat.le_refl _) (by decide)⟩
theorem OwnE.nil (w : World) (base : Nat) : OwnE w base (.slice none 0 0) [] := ⟨none, 0, rfl, World.ownsRow_nil _ _ _ _⟩
theorem OwnE.evs {w : World} {base : Nat} {v : Value} {l : List Ev} (h : OwnE w base v l) : Evs w v l := by
  obtain ⟨a, cap, rfl, h⟩ := h
  exact ⟨a, cap, rfl, ownsRow_row h⟩
theorem OwnE.mono {w w' : World} {base : Nat} {v : Value} {l : List Ev} (h : OwnE w base v l) (hb : Below w.heap.size w w') : OwnE w' base v l := by
  obtain ⟨a, cap, rfl, h⟩ := h
  exact ⟨a, cap, rfl, ownsRow_below h hb⟩
theorem OwnE.lower {w : World} {base base' : Nat} {v : Value} {l : List Ev} (h : OwnE w base v l) (hb : base' ≤ base) : OwnE w base' v l := by
  obtain ⟨a, cap, rfl, h⟩ := h
  exact ⟨a, cap, rfl, ownsRow_lower h hb⟩
theorem OwnE.above {w w' : World} {base base' : Nat} {v : Value} {l : List Ev} (h : OwnE w base v l) (ha : Above base' w w') (hb : base' ≤ base) : OwnE w' base v l := by
  obtain ⟨a, cap, rfl, h⟩ := h
  exact ⟨a, cap, rfl, ownsRow_above h ha hb⟩
theorem Tryz.info91 : (Tryz.prog.info? 91).map (fun i => (i.zero, i.size, i.bytes)) = some (some (.agg #[.string ⟨#[]⟩, .int .i64 0, .int .i64 0, .int .i64 0, .string ⟨#[]⟩, .string ⟨#[]⟩, .string ⟨#[]⟩, .int .i64 0, .int .i64 0, .int .i64 0]), 10, 112) := by kernel_rfl
theorem OwnE.mk {w : World} {base : Nat} {a : Option Addr} {n cap : Nat} {l : List Ev} (h : w.ownsRow base 91 10 (.slice a n cap) n (evVs l)) (hn : l.length = n) : OwnE w base (.slice a n cap) l := by
  subst hn; exact ⟨a, cap, rfl, h⟩
/-- 'append(x, src...)' of events onto a slice of the call's own. -/
theorem append_evs {w : World} {ops : Array Oper} {rest : List Oper} {o : Oper} {ac : Act} {Q : Exit → Act → World → Prop} (hgd : o.guard = none) {s x : Operand}
    (ho : o.op = .call { callee := .builtin .append, args := #[s, x], argTypes := #[37, 37] }) {base : Nat} {v y : Value} {l m : List Ev}
    (hs : ac.eval s = v) (hx : ac.eval x = y) (hown : OwnE w base v l) (hsrc : Evs w y m) (hlen : l.length + m.length ≤ 1000000) (hbase : base ≤ w.heap.size)
    (h : ∀ za zn zc w', OwnE w' base (.slice za zn zc) (l ++ m) → w.grownBy w' v.ownBlock → wpList Tryz.prog ops Q rest (ac.put o.dst (.slice za zn zc)) w') :
    wpList Tryz.prog ops Q (o :: rest) ac w := by
  obtain ⟨a, cap, rfl, hown⟩ := hown
  obtain ⟨a2, cap2, rfl, hsrc⟩ := hsrc
  obtain ⟨i0, hi, hz0, hz1, hz2⟩ := info_parts Tryz.info91
  refine wpList_append_fresh w hgd s x 37 ho base 91 i0 _ 10 112 Tryz.underlying37 hi hz0 hz1 hz2 rfl (by decide) hs hx hown hsrc (evVs_length m) (evVs_one m) (by unfold maxLen; omega) (by omega) hbase ?_
  intro a' cap' w' h1 h2
  rw [← evVs_append] at h1
  exact h _ _ _ w' (OwnE.mk h1 (by simp)) h2
theorem eql37 : ∀ (W : World) (a : Option Addr) (n c n' c' : Nat), (binOp .eql 37 (.slice a n c) (.slice none n' c')).run Tryz.prog W = .ok (.bool a.isNone) W := fun W a n c n' c' => Lib.run_eql_slice_nil W _ _ a n c n' c' Tryz.underlying37
theorem OwnE.ge {w : World} {base : Nat} {v : Value} {l : List Ev} (h : OwnE w base v l) : ∀ k, v.ownBlock = some k → base ≤ k := by
  obtain ⟨a, cap, rfl, h⟩ := h
  exact fun k hk => (h.lt k hk).1
set_option maxRecDepth 100000 in
set_option maxHeartbeats 1000000 in
theorem clone74 (v : Value) (l : List Ev) (w : World) (hs : Evs w v l) (hl : l.length ≤ 1000000) : Calls Tryz.prog 74 #[v] w fun e w' => (∃ a n c, e = .returned (.slice a n c) ∧ OwnE w' w.heap.size (.slice a n c) l) ∧ Below w.heap.size w w' := by
  have HS := Lib.hid hs
  obtain ⟨a, cap, rfl, hr⟩ := hs
  have HE := @eql37
  cases a with
  | none =>
    have hl0 : l = [] := by
      rcases Nat.eq_zero_or_pos l.length with h | h
      · exact List.length_eq_zero_iff.1 h
      · obtain ⟨b, o, e, _⟩ := hr.addr (by rw [evVs_length]; omega)
        cases e
    subst hl0
    clear hr
    go_enter Tryz.func74, Tryz.ntmps74
    go_wp2
    go_ret
    exact ⟨⟨_, _, _, rfl, OwnE.nil _ _⟩, Below.refl _ _⟩
  | some ad =>
    have H0 : Hid (OwnE (w.alloc (.cells #[] 91)) w.heap.size (.slice (some ⟨w.heap.size, 0, none⟩) 0 0) []) := ⟨_, _, rfl, World.ownsRow_lit w #[] 0 (Nat.le_refl _) (by decide) rfl⟩
    clear hr
    go_enter Tryz.func74, Tryz.ntmps74
    go_wp2_with (at_builtin; refine append_evs rfl rfl rfl rfl H0.out (HS.out.mono ((Below.refl _ _).alloc (Nat.le_refl _) _)) ?d1 (le_alloc _ _) ?d2)
    case d1 => simpa using (by omega : l.length ≤ 1000000)
    case d2 =>
      intro za zn zc w4 g1 g2
      have H4 := Lib.hid g1
      have B4 := Lib.hid (((Below.refl w.heap.size w).alloc (Nat.le_refl _) (.cells #[] 91)).grown g2 (le_alloc _ _) (fun k hk => H0.out.ge k hk))
      clear g1 g2
      go_wp2
      go_ret
      exact ⟨⟨_, _, _, rfl, H4.out⟩, B4.out⟩
end Go.Proofs.YtjkmbbnjiobckaaGreatDoor
