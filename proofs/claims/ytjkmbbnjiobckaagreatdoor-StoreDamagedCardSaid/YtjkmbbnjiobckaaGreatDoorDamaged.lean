/-
  flagstonelaw33.StoreDamaged: the walk.
-/
import Derived.Test.YtjkmbbnjiobckaaGreatDoorAwake
import Derived.Test.YtjkmbbnjiobckaaGreatDoorPFrame
import Derived.Deep.CutBlock
import Derived.RegionTactic
import Derived.ChangeAlike
import Derived.BigRegion
import Derived.Laws.BitsAllLaws
import Derived.Deep.DeepCutAuto
namespace Go.Proofs.YtjkmbbnjiobckaaGreatDoor
open Go.RowKit
theorem set_row {w : World} {base g k n cap : Nat} {us : List Value} {ll : List (List UInt8)} {c : Value} {row : List UInt8} (hv : OwnVs w base (.slice (some ⟨g, 0, none⟩) n cap) us) (hl : us.length = ll.length)
    (hx : ∀ (i : Nat) (x : Value), us[i]? = some x → ∃ l : List UInt8, ll[i]? = some l ∧ FrB w base x l) (hk : k < ll.length) (hc : FrB w base c row) : OwnSs (w.setCell ⟨g, k, none⟩ c) base (.slice (some ⟨g, 0, none⟩) n cap) (ll.set k row) := by
  obtain ⟨a, cap', he, hown⟩ := hv
  cases he
  have hst := hown.stored k c
  exact OwnSs.set (OwnVs.mk hown rfl) hl hx hk hc (OwnVs.mk hst.1 (by simp)) hst.2
/-- 'append(x, src...)' of rows onto a list of the call's own. -/
theorem append_rows {w : World} {ops : Array Oper} {rest : List Oper} {o : Oper} {ac : Act} {Q : Exit → Act → World → Prop} (hgd : o.guard = none) {s x : Operand}
    (ho : o.op = .call { callee := .builtin .append, args := #[s, x], argTypes := #[25, 25] }) {base : Nat} {v y : Value} {ll mm : List (List UInt8)}
    (hs : ac.eval s = v) (hx : ac.eval x = y) (hown : OwnSs w base v ll) (hsrc : OwnSs w base y mm) (hlen : ll.length + mm.length ≤ 1000000) (hbase : base ≤ w.heap.size)
    (h : ∀ za zn zc w' us, OwnSs w' base (.slice za zn zc) (ll ++ mm) → OwnVs w base v us → w.grownBy w' v.ownBlock → Below base w w' → wpList Tryz.prog ops Q rest (ac.put o.dst (.slice za zn zc)) w') :
    wpList Tryz.prog ops Q (o :: rest) ac w := by
  obtain ⟨us, hv, hl, hx1⟩ := hown
  obtain ⟨vs, hv2, hl2, hx2⟩ := hsrc
  have hone : ∀ u ∈ vs, u.oneCell' = true := by
    intro u hu
    obtain ⟨i, hi, he⟩ := List.mem_iff_getElem.1 hu
    obtain ⟨l, _, a, cap, e, _⟩ := hx2 i u (by rw [List.getElem?_eq_getElem hi, he])
    rw [e]; rfl
  have hv2' := hv2
  obtain ⟨a2, cap2, rfl, ho2⟩ := hv2
  refine append_vs (w := w) hgd ho hs hx hv (ownsRow_row ho2) rfl hone (by omega) hbase ?_
  intro a' cap' w' g1 g2
  have hv' : OwnVs w' base (.slice a' (us.length + vs.length) cap') (us ++ vs) := OwnVs.mk g1 (by simp)
  refine h _ _ _ w' us ⟨us ++ vs, hv', by simp [hl, hl2], fun i z hi => ?_⟩ hv g2 ((Below.refl base w).grown g2 hbase (fun k hk => hv.ge k hk))
  rcases Nat.lt_or_ge i us.length with hlt | hge
  · rw [List.getElem?_append_left hlt] at hi
    obtain ⟨l, e1, e2⟩ := hx1 i z hi
    exact ⟨l, by rw [List.getElem?_append_left (by omega)]; exact e1, e2.kept hv g2⟩
  · rw [List.getElem?_append_right hge] at hi
    obtain ⟨l, e1, e2⟩ := hx2 _ z hi
    exact ⟨l, by rw [List.getElem?_append_right (by omega), ← hl]; exact e1, e2.kept hv g2⟩
theorem own_lit0 (w : World) : OwnSs (w.alloc (.cells #[] 22)) w.heap.size (.slice (some ⟨w.heap.size, 0, none⟩) 0 0) [] := by
  have := World.ownsRow_lit (base := w.heap.size) (e := 22) (size := 1) w #[] 0 (Nat.le_refl _) (by decide) rfl
  exact ⟨[], OwnVs.mk this rfl, rfl, fun i x hi => by simp at hi⟩
theorem setCell_comm (w : World) {p q : Nat} (hne : p ≠ q) (i j : Nat) (u v : Value) : (w.setCell ⟨p, i, none⟩ u).setCell ⟨q, j, none⟩ v = (w.setCell ⟨q, j, none⟩ v).setCell ⟨p, i, none⟩ u := by
  unfold World.setCell
  simp only [World.mk.injEq, and_true]
  apply Array.ext_getElem?
  intro k
  simp only [Array.getElem?_modify]
  by_cases h1 : p = k
  · by_cases h2 : q = k
    · omega
    · simp [h1, h2]
  · simp [h1]
theorem set_some {w : World} {p q : Addr} {x v : Value} (h : w.cell? q = some v) : ∃ v', (w.setCell p x).cell? q = some v' := by
  by_cases e : p = q
  · subst e; exact ⟨x, World.cell?_setCell_same w p x h⟩
  · exact ⟨v, (World.cell?_setCell_other w p q x e).trans h⟩
theorem run_append_none (w : World) (ty : TypeId) (g n cap : Nat) (h : n ≤ cap) (sa : Option Addr) (c : Nat) : (Builtin.append_ #[25, 25] ty #[.slice (some ⟨g, 0, none⟩) n cap, .slice sa 0 c]).run Tryz.prog w = .ok (.slice (some ⟨g, 0, none⟩) n cap) w := by
  obtain ⟨i0, hi, hz0, hz1, hz2⟩ := info_parts Tryz.info22
  cases sa <;> simp [Builtin.append_, run_underlying Tryz.underlying25, sizeOf, typeInfo, hi, Builtin.lenOf, Builtin.firstCells, loadCells, loadCellsFrom, h, storeCells]
set_option maxRecDepth 100000 in
/-- 'append(l[:k:k], l[k+1:]...)'. -/
theorem append_cut {w : World} {ops : Array Oper} {rest : List Oper} {o : Oper} {ac : Act} {Q : Exit → Act → World → Prop} (hgd : o.guard = none) {s x : Operand}
    (ho : o.op = .call { callee := .builtin .append, args := #[s, x], argTypes := #[25, 25] }) {base g k cap N : Nat} {us : List Value} {ll : List (List UInt8)}
    (hs : ac.eval s = .slice (some ⟨g, 0, none⟩) k k) (hx : ac.eval x = .slice (subAddr (some ⟨g, 0, none⟩) cap (k + 1) 1) (N - (k + 1)) (cap - (k + 1)))
    (hown : w.ownsRow base 22 1 (.slice (some ⟨g, 0, none⟩) N cap) N us) (hN : ll.length = N) (hk : k < N) (hN1 : N ≤ 1000) (hf : ∀ (i : Nat) (x : Value), us[i]? = some x → ∃ l : List UInt8, ll[i]? = some l ∧ FrB w base x l)
    (h : ∀ a n c w' L, Slcs w' (.slice a n c) L → L.length ≤ 1000 → Below w.heap.size w w' → wpList Tryz.prog ops Q rest (ac.put o.dst (.slice a n c)) w') :
    wpList Tryz.prog ops Q (o :: rest) ac w := by
  have hul : us.length = N := by have := hown.1; omega
  have hcap : N ≤ cap ∧ cap ≤ maxLen := ⟨(ownsRow_row hown).le, (ownsRow_row hown).most⟩
  have hm := hcap.2
  unfold maxLen at hm
  by_cases hlast : k + 1 = N
  · refine wpList_plain hgd fun K hK => ?_
    have hr := run_append_none w o.type g k k (Nat.le_refl _) (subAddr (some ⟨g, 0, none⟩) cap (k + 1) 1) (cap - (k + 1))
    unfold Oper.wp execOp
    simp only [ho, resolve, invoke, builtin, Sem.run_bind, Sem.run_pure, Result.andThen_ok, List.map_toArray, List.map_cons, List.map_nil, hs, hx, show N - (k + 1) = 0 by omega, hr]
    refine hK _ _ (h _ _ _ w (ll.take k) ⟨some ⟨g, 0, none⟩, k, us.take k, by rw [List.length_take]; congr 1; omega, ?_, by simp; omega, fun i z hi => ?_⟩ (by simp; omega) (Below.refl _ _))
    · have := (ownsRow_row hown).front (hi := k) (mx := k) (sz := 1) (Nat.le_refl _) (by omega)
      rw [List.length_take, show min k ll.length = k by omega]
      rw [Nat.mul_one] at this; exact this
    · rw [List.getElem?_take] at hi
      split at hi
      · rename_i hik
        obtain ⟨l, e1, e2⟩ := hf i z hi
        exact ⟨l, by rw [List.getElem?_take, if_pos hik]; exact e1, e2.slc⟩
      · cases hi
  · obtain ⟨i0, hi, hz0, hz1, hz2⟩ := info_parts Tryz.info22
    have hsa : subAddr (some ⟨g, 0, none⟩) cap (k + 1) 1 = some ⟨g, k + 1, none⟩ := by
      unfold subAddr
      rw [if_neg (by omega)]
      simp [Addr.add]
    have hone : ∀ u ∈ us.drop (k + 1), u.oneCell' = true := by
      intro u hu
      obtain ⟨i, hi', he⟩ := List.mem_iff_getElem.1 (List.mem_of_mem_drop hu)
      obtain ⟨l, _, a, cap', e, _⟩ := hf i u (by rw [List.getElem?_eq_getElem hi', he])
      rw [e]; rfl
    rw [hsa] at hx
    refine wpList_append_grows w hgd s x 25 ho 22 i0 (.slice none 0 0) 1 24 Tryz.underlying25 hi hz0 hz1 hz2 rfl (by decide) (some ⟨g, 0, none⟩) k k (us.take k) hs (fun e => by cases e) (by simp; omega)
      (fun b e j u hj => ?_) ⟨g, k + 1, none⟩ (N - (k + 1)) (cap - (k + 1)) (us.drop (k + 1)) hx (by simp; omega) (fun j u hj => ?_) hone (by omega) (by unfold maxLen; omega) (by omega) ?_
    · cases e
      rw [List.getElem?_take] at hj
      split at hj
      · rename_i hjk
        have := hown.cellAt j (by omega)
        rw [hj] at this
        rw [Addr.add_lit, Nat.zero_add]; exact this
      · cases hj
    · rw [List.getElem?_drop] at hj
      have hlt := (List.getElem?_eq_some_iff.1 hj).1
      have := hown.cellAt (k + 1 + j) (by omega)
      rw [hj] at this
      rw [Addr.add_lit]; exact this
    · intro v' w' h1 h2
      have hb : Below w.heap.size w w' := (Below.refl _ _).grown h2 (Nat.le_refl _) (fun k e => by cases e)
      have hv' : OwnVs w' w.heap.size v' (us.take k ++ us.drop (k + 1)) := by
        rcases h1.2 with ⟨rfl, h0⟩ | ⟨g', c', cur, rfl, r⟩
        · omega
        · exact OwnVs.mk h1 (by simp; omega)
      have hss : OwnSs w' w.heap.size v' (ll.take k ++ ll.drop (k + 1)) → Slcs w' v' (ll.take k ++ ll.drop (k + 1)) := OwnSs.slcs
      obtain ⟨a', c', rfl, hv''⟩ := hv'
      refine h _ _ _ w' (ll.take k ++ ll.drop (k + 1)) ?_ (by simp; omega) hb
      refine ⟨a', c', us.take k ++ us.drop (k + 1), by simp [hul, hN], ?_, by simp [hul, hN], fun i z hi => ?_⟩
      · have := ownsRow_row hv''
        rw [show (ll.take k ++ ll.drop (k + 1)).length = (us.take k ++ us.drop (k + 1)).length by simp [hul, hN]]; exact this
      · rcases Nat.lt_or_ge i k with hik | hik
        · rw [List.getElem?_append_left (by simp; omega), List.getElem?_take, if_pos hik] at hi
          obtain ⟨l, e1, e2⟩ := hf i z hi
          exact ⟨l, by rw [List.getElem?_append_left (by simp; omega), List.getElem?_take, if_pos hik]; exact e1, e2.slc.mono hb⟩
        · rw [List.getElem?_append_right (by simp; omega), List.getElem?_drop] at hi
          obtain ⟨l, e1, e2⟩ := hf _ z hi
          refine ⟨l, ?_, e2.slc.mono hb⟩
          rw [List.getElem?_append_right (by simp; omega), List.getElem?_drop]
          rw [← e1]; congr 1; simp; omega
theorem FrB.front {w : World} {base : Nat} {a : Option Addr} {n c : Nat} {l : List UInt8} (h : FrB w base (.slice a n c) l) {p : Nat} (hp : p ≤ n) : FrB w base (.slice a p c) (l.take p) := by
  obtain ⟨a', c', e, hr, k⟩ := h
  cases e
  refine ⟨a, c, by rw [List.length_take]; congr 1; omega, ?_, k⟩
  have := hr.front (hi := p) (mx := c) (sz := 1) (by have := hr.le; omega) (Nat.le_refl _)
  rw [List.length_take, show min p l.length = p by omega]
  rw [Nat.mul_one] at this
  simpa [bytesV] using this
/-- One byte of a row that has just been copied and laid into the list. -/
theorem flip_facts {w w5 : World} {base g k N zc : Nat} {L : List (List UInt8)} {row : List UInt8} {us : List Value} {ra a9 : Option Addr} {rc c9 : Nat} (hbase : base ≤ w.heap.size)
    (hv : OwnVs w base (.slice (some ⟨g, 0, none⟩) N zc) us) (hul : us.length = L.length) (hx : ∀ (i : Nat) (x : Value), us[i]? = some x → ∃ l : List UInt8, L[i]? = some l ∧ FrB w base x l) (hk : k < L.length)
    (hg1 : base ≤ g) (hg : g < w.heap.size) (hc : w.cell? ⟨g, k, none⟩ = some (.slice ra 64 rc)) (hf : w.frozen? ⟨g, k, none⟩ = false) (hb : Below w.heap.size w w5)
    (h5 : w5.ownsRow w.heap.size 5 1 (.slice a9 64 c9) 64 (bytesV row)) (hr : row.length = 64) {j : Nat} (hj : j < 64) :
    ∃ g9, a9 = some ⟨g9, 0, none⟩ ∧ (64 : Int) ≤ c9 ∧ w5.cell? ⟨g, k, none⟩ = some (.slice ra 64 rc) ∧ w5.frozen? ⟨g, k, none⟩ = false ∧
      (w5.setCell ⟨g, k, none⟩ (.slice (some ⟨g9, 0, none⟩) 64 c9)).cell? ⟨g9, j, none⟩ = some (.int .u8 (row.getD j 0).toNat) ∧ (w5.setCell ⟨g, k, none⟩ (.slice (some ⟨g9, 0, none⟩) 64 c9)).frozen? ⟨g9, j, none⟩ = false ∧
      ∀ (n : Nat), n < 256 → OwnSs ((w5.setCell ⟨g, k, none⟩ (.slice (some ⟨g9, 0, none⟩) 64 c9)).setCell ⟨g9, j, none⟩ (.int .u8 n)) base (.slice (some ⟨g, 0, none⟩) N zc) (L.set k (row.set j (UInt8.ofNat n))) ∧
        Below base w ((w5.setCell ⟨g, k, none⟩ (.slice (some ⟨g9, 0, none⟩) 64 c9)).setCell ⟨g9, j, none⟩ (.int .u8 n)) := by
  have hn : ∃ g9, a9 = some ⟨g9, 0, none⟩ ∧ w.heap.size ≤ g9 := by
    rcases h5.2 with ⟨h1, h2⟩ | ⟨g9, c, cur, h1, h2, h3, _⟩
    · omega
    · cases h1; exact ⟨g9, rfl, h2⟩
  obtain ⟨g9, rfl, h9⟩ := hn
  have hne : g9 ≠ g := by omega
  have e1 : w5.cell? ⟨g, k, none⟩ = some (.slice ra 64 rc) := (hb.cell (p := ⟨g, k, none⟩) hg).trans hc
  refine ⟨g9, rfl, by have := (ownsRow_row h5).le; omega, e1, (hb.frozen (p := ⟨g, k, none⟩) hg).trans hf, ?_, ?_, fun n hn => ?_⟩
  · rw [World.cell?_setCell_other _ _ _ _ (by intro e; cases e; exact hne rfl), h5.cellAt j hj]
    simp [bytesV, List.getD, List.getElem?_eq_getElem (show j < row.length by omega)]
  · rw [World.frozen?_setCell]; exact h5.frozenAt j
  · rw [setCell_comm w5 (Ne.symm hne)]
    have hst := h5.stored j (.int .u8 n)
    have hrow : OwnB (w5.setCell ⟨g9, j, none⟩ (.int .u8 n)) w.heap.size (.slice (some ⟨g9, 0, none⟩) 64 c9) (row.set j (UInt8.ofNat n)) := by
      refine OwnB.mk ?_ (by simp; omega)
      have := hst.1
      rw [show bytesV (row.set j (UInt8.ofNat n)) = (bytesV row).set j (.int .u8 n) by simp [bytesV, List.map_set, Nat.mod_eq_of_lt hn]]
      exact this
    have hb' : Below w.heap.size w (w5.setCell ⟨g9, j, none⟩ (.int .u8 n)) := hb.setCell h9 _
    have hx' : ∀ (i : Nat) (x : Value), us[i]? = some x → ∃ l : List UInt8, L[i]? = some l ∧ FrB (w5.setCell ⟨g9, j, none⟩ (.int .u8 n)) base x l := fun i x hi => let ⟨l, a, b⟩ := hx i x hi; ⟨l, a, b.mono hb'⟩
    exact ⟨set_row (hv.mono hb') hul hx' hk (hrow.fr.lower hbase), (hb'.mono hbase).setCell hg1 _⟩
theorem append_flip {w : World} {ops : Array Oper} {rest : List Oper} {o : Oper} {ac : Act} {Q : Exit → Act → World → Prop} (hgd : o.guard = none) {s x : Operand}
    (ho : o.op = .call { callee := .builtin .append, args := #[s, x], argTypes := #[22, 22] }) {base g k N zc : Nat} {L : List (List UInt8)} {row : List UInt8} {us : List Value} {ra : Option Addr} {rc j : Nat}
    (hs : ac.eval s = .slice (some ⟨w.heap.size, 0, none⟩) 0 0) (hx : ac.eval x = .slice ra 64 rc) (hfr : FrB w base (.slice ra 64 rc) row) (hr : row.length = 64) (hbase : base ≤ w.heap.size)
    (hv : OwnVs w base (.slice (some ⟨g, 0, none⟩) N zc) us) (hul : us.length = L.length) (hxs : ∀ (i : Nat) (x : Value), us[i]? = some x → ∃ l : List UInt8, L[i]? = some l ∧ FrB w base x l) (hk : k < L.length)
    (hg1 : base ≤ g) (hg : g < w.heap.size) (hc : w.cell? ⟨g, k, none⟩ = some (.slice ra 64 rc)) (hf : w.frozen? ⟨g, k, none⟩ = false) (hj : j < 64)
    (h : ∀ g9 c9 w5, (64 : Int) ≤ (c9 : Nat) → w5.cell? ⟨g, k, none⟩ = some (.slice ra 64 rc) → w5.frozen? ⟨g, k, none⟩ = false →
      (w5.setCell ⟨g, k, none⟩ (.slice (some ⟨g9, 0, none⟩) 64 c9)).cell? ⟨g9, j, none⟩ = some (.int .u8 (row.getD j 0).toNat) → (w5.setCell ⟨g, k, none⟩ (.slice (some ⟨g9, 0, none⟩) 64 c9)).frozen? ⟨g9, j, none⟩ = false →
      (∀ (n : Nat), n < 256 → OwnSs ((w5.setCell ⟨g, k, none⟩ (.slice (some ⟨g9, 0, none⟩) 64 c9)).setCell ⟨g9, j, none⟩ (.int .u8 n)) base (.slice (some ⟨g, 0, none⟩) N zc) (L.set k (row.set j (UInt8.ofNat n))) ∧
        Below base w ((w5.setCell ⟨g, k, none⟩ (.slice (some ⟨g9, 0, none⟩) 64 c9)).setCell ⟨g9, j, none⟩ (.int .u8 n))) → wpList Tryz.prog ops Q rest (ac.put o.dst (.slice (some ⟨g9, 0, none⟩) 64 c9)) w5) :
    wpList Tryz.prog ops Q (o :: rest) ac (w.alloc (.cells #[] 5)) := by
  refine append_bytes hgd ho hs hx (own_lit (w := w) (cs := #[]) (l := []) rfl rfl (by decide)) (hfr.slc.alloc _) (by simp; omega) (le_alloc _ _) ?_
  intro a9 c9 w5 h5 hg5
  have hB : Below w.heap.size w w5 := below_append (B := w.heap.size) ((Below.refl _ _).alloc (Nat.le_refl _) _) hg5 (own_lit (w := w) (cs := #[]) (l := []) rfl rfl (by decide)) (le_alloc _ _) (Nat.le_refl _)
  have h64 : ([] : List UInt8).length + row.length = 64 := by simp [hr]
  rw [h64] at h5 ⊢
  simp only [List.nil_append] at h5
  obtain ⟨g9, rfl, e1, e2, e3, e4, e5, e6⟩ := flip_facts hbase hv hul hxs hk hg1 hg hc hf hB h5 hr hj
  exact h g9 c9 w5 e1 e2 e3 e4 e5 e6
theorem flip_byte (x : UInt8) (b : Nat) (hb : b < 8) : ∃ n : Nat, n < 256 ∧ bits .xor .u8 (x.toNat : Int) (2 ^ b % 256) = (n : Int) := by
  have h : (2 : Int) ^ b % 256 = ((2 ^ b : Nat) : Int) ∧ 2 ^ b < 256 := by
    have : b = 0 ∨ b = 1 ∨ b = 2 ∨ b = 3 ∨ b = 4 ∨ b = 5 ∨ b = 6 ∨ b = 7 := by omega
    rcases this with rfl | rfl | rfl | rfl | rfl | rfl | rfl | rfl <;> decide
  have hx : x.toNat < 256 := x.toNat_lt
  refine ⟨x.toNat ^^^ 2 ^ b, Nat.xor_lt_two_pow (n := 8) hx h.2, ?_⟩
  rw [h.1, u8_xor_nat _ _ hx h.2]
theorem sectors_rows (g f : Nat) (b : List UInt8) : ∀ l ∈ sectorsOf g f b, l.length = 64 := by
  intro l hl
  unfold sectorsOf at hl
  obtain ⟨i, hi, rfl⟩ := List.mem_map.1 hl
  rw [sectorOf_length, partOf_length _ _ (List.mem_range.1 hi)]
set_option maxRecDepth 100000 in
set_option maxHeartbeats 4000000 in
theorem damaged_walk (b c : Value) (bl cl : List UInt8) (how at' bit : Nat) (w : World) (hb : Slc w b bl) (hc : Slc w c cl) (h1 : how ≤ 65535) (h2 : at' ≤ 65535) (h3 : bit ≤ 65535) :
    Calls Tryz.prog 3 #[b, c, .int .u16 how, .int .u16 at', .int .u16 bit] w fun e w' => e = .returned (.bool true) ∧ Below w.heap.size w w' := by
  have HB := Lib.hid hb
  have HC := Lib.hid hc
  obtain ⟨ba, bc, rfl, -⟩ := hb
  obtain ⟨ca, cc, rfl, -⟩ := hc
  have EA := Lib.hid (awake7 w)
  by_cases hb4 : 400 < bl.length
  · have hbI : (400 : Int) < bl.length := by omega
    go_enter Tryz.func3, Tryz.ntmps3
    go_wp2_with fail
    with_reducible refine EA.out.mono ?_
    rintro _ w1 ⟨rfl, hb1⟩
    have HB1 := Lib.hid hb1
    clear hb1
    go_wp2
    go_ret
    exact ⟨rfl, HB1.out⟩
  · have hbI : (bl.length : Int) ≤ 400 := by omega
    by_cases hc4 : 400 < cl.length
    · have hcI : (400 : Int) < cl.length := by omega
      go_enter Tryz.func3, Tryz.ntmps3
      go_wp2_with fail
      with_reducible refine EA.out.mono ?_
      rintro _ w1 ⟨rfl, hb1⟩
      have HB1 := Lib.hid hb1
      clear hb1
      go_wp2
      go_ret
      exact ⟨rfl, HB1.out⟩
    · have hcI : (cl.length : Int) ≤ 400 := by omega
      have hN1 : sectorCount bl ≤ 20 := by have := frameData_length bl (by omega); unfold sectorCount; omega
      have hN2 : sectorCount cl ≤ 20 := by have := frameData_length cl (by omega); unfold sectorCount; omega
      have hP1 := sectorCount_pos bl
      have hP2 := sectorCount_pos cl
      have EB := Lib.hid (fun W (hW : Below w.heap.size w W) => show Calls Tryz.prog 8 #[.int .i64 3, .int .i64 2, .slice ba bl.length bc] W (NewSsE W (sectorsOf 3 2 bl)) from rsectors_ok 3 2 _ bl W (HB.out.mono hW) (by omega) (by decide) (by decide) (by decide) (by omega))
      obtain ⟨f2, hf2⟩ : ∃ f2, f2 = 2 + how / 8 % 2 := ⟨_, rfl⟩
      have EC := Lib.hid (fun W (hW : Below w.heap.size w W) => show Calls Tryz.prog 8 #[.int .i64 3, .int .i64 f2, .slice ca cl.length cc] W (NewSsE W (sectorsOf 3 f2 cl)) from rsectors_ok 3 f2 _ cl W (HC.out.mono hW) (by omega) (by decide) (by decide) (by omega) (by omega))
      have hfI : (2 : Int) + (how : Int) / 8 % 2 = (f2 : Int) := by omega
      have hL1 : (sectorsOf 3 2 bl).length = sectorCount bl := by unfold sectorsOf; simp
      have hL2 : (sectorsOf 3 f2 cl).length = sectorCount cl := by unfold sectorsOf; simp
      obtain ⟨L1, hLL1⟩ : ∃ L, L = sectorsOf 3 2 bl := ⟨_, rfl⟩
      obtain ⟨L2, hLL2⟩ : ∃ L, L = sectorsOf 3 f2 cl := ⟨_, rfl⟩
      have HR1 := Lib.hid (sectors_rows 3 2 bl)
      have HR2 := Lib.hid (sectors_rows 3 f2 cl)
      rw [← hLL1] at EB hL1 HR1
      rw [← hLL2] at EC hL2 HR2
      obtain ⟨N1, hNN1⟩ : ∃ N, N = sectorCount bl := ⟨_, rfl⟩
      obtain ⟨N2, hNN2⟩ : ∃ N, N = sectorCount cl := ⟨_, rfl⟩
      rw [← hNN1] at hN1 hP1 hL1
      rw [← hNN2] at hN2 hP2 hL2
      have q1 : IntKind.i64.wrap (how : Int) = (how : Int) := IntWalk.i64_in _ (by omega)
      have q2 : IntKind.i64.wrap (at' : Int) = (at' : Int) := IntWalk.i64_in _ (by omega)
      have q3 : IntKind.i64.wrap (bit : Int) = (bit : Int) := IntWalk.i64_in _ (by omega)
      clear hb4 hc4 hLL1 hLL2 hNN1 hNN2 hf2
      go_enter Tryz.func3, Tryz.ntmps3
      go_wp2_with fail
      with_reducible refine EA.out.mono ?_
      rintro _ w1 ⟨rfl, hb1⟩
      have B1 := Lib.hid hb1
      clear hb1
      go_wp2_with fail
      with_reducible refine (EB.out _ B1.out).mono ?_
      rintro _ w2 ⟨lv, rfl, hol, hb2⟩
      have B2 := Lib.hid (B1.out.trans (hb2.mono B1.out.size))
      have HL := Lib.hid (hol.lower B1.out.size)
      obtain ⟨us, ⟨la, lc, rfl, -⟩, hul, -⟩ := hol
      rw [hul, hL1] at HL ⊢
      clear hb2 hul
      go_wp2_with fail
      with_reducible refine (EC.out _ B2.out).mono ?_
      rintro _ w3 ⟨mv, rfl, hom, hb3⟩
      have B3 := Lib.hid (B2.out.trans (hb3.mono B2.out.size))
      have HM := Lib.hid (hom.lower B2.out.size)
      have HL3 := Lib.hid (HL.out.mono hb3)
      obtain ⟨us2, ⟨ma, mc, rfl, -⟩, hum, -⟩ := hom
      rw [hum, hL2] at HM ⊢
      clear hb3 hum
      obtain ⟨k, hk⟩ : ∃ k, k = at' % N1 := ⟨_, rfl⟩
      have hkI : (at' : Int) % (N1 : Int) = (k : Int) := by rw [hk]; simp
      have hkl : k < N1 := by rw [hk]; exact Nat.mod_lt _ hP1
      have hne : ((N1 : Int) == 0) = false := by rw [beq_eq_false_iff_ne]; omega
      clear hk
      have HAL := Lib.hid (show Below w3.heap.size w3 (w3.alloc (.cells #[] 22)) from (Below.refl _ _).alloc (Nat.le_refl _) _)
      have hz3 : w.heap.size ≤ w3.heap.size := B3.out.size
      go_wp2_with (at_builtin; refine append_rows rfl rfl rfl rfl ((own_lit0 w3).lower hz3) (HL3.out.mono HAL.out) ?d1 (Nat.le_trans hz3 HAL.out.size) ?d2)
      case d1 => simp; omega
      case d2 =>
        intro za zn zc w4 us4 h4 hv4 hg4 hb4
        have HM4 := Lib.hid ((HM.out.mono HAL.out).kept hv4 hg4 (by
          cases hm : (Value.slice ma N2 mc).ownBlock with
          | none => exact .inl rfl
          | some k => exact .inr (by have := HM.out.block_lt k hm; simp [Value.ownBlock]; omega)))
        have HX := Lib.hid h4
        have B4 := Lib.hid ((B3.out.alloc hz3 (.cells #[] 22)).trans hb4)
        obtain ⟨zl, hzl⟩ : ∃ zl, (zn, zl) = (N1, zl) := by
          obtain ⟨us5, ⟨a5, c5, e5, -⟩, e6, -⟩ := h4
          cases e5
          exact ⟨(), by rw [e6]; simp [hL1]⟩
        obtain rfl : N1 = zn := (congrArg Prod.fst hzl).symm
        clear h4 hv4 hg4 hb4 hzl
        have hmod : (how : Int) % 8 = ((how % 8 : Nat) : Int) := by omega
        obtain ⟨d, hd⟩ : ∃ d, d = how % 8 := ⟨_, rfl⟩
        rw [← hd] at hmod
        have hd8 : d < 8 := by omega
        clear hd
        go_upto_block 0 with (fail)
        try rw [hmod]
        go_cut [11] (fun s11 wx => ∃ (L : List (List UInt8)) (a : Option Addr) (n c : Nat), s11 = .slice a n c ∧ Slcs wx s11 L ∧ L.length ≤ 1000 ∧ Below w.heap.size w wx)
        case first =>
          obtain ⟨us, hv, hul, hx⟩ := HX.out
          have hun : us.length = N1 := by omega
          obtain ⟨g, cap, e, hg1, hg2, hcap, hown, -⟩ := hv.head (by omega)
          rw [hun] at e hcap hown
          cases e
          have hus : k < us.length := by omega
          have hk1 : k < L1.length := by omega
          obtain ⟨row, hrow, hfr⟩ := hx k us[k] (List.getElem?_eq_getElem hus)
          have hrl : row.length = 64 := HR1.out row (List.mem_iff_getElem?.2 ⟨k, hrow⟩)
          have HFR := Lib.hid hfr
          obtain ⟨ra, rc, hrv, hrr, -⟩ := hfr
          rw [hrl] at hrv hrr
          have hrc := hrr.le
          have hcell : w4.cell? ⟨g, k, none⟩ = some (.slice ra 64 rc) := by
            rw [hown.cellAt k (by omega), List.getElem?_eq_getElem hus, hrv]
          have hfz := hown.frozenAt k
          rw [hrv] at HFR
          have HOWN := Lib.hid hown
          have HV := Lib.hid (show OwnVs w4 w.heap.size (.slice (some ⟨g, 0, none⟩) N1 zc) us from OwnVs.mk hown hun)
          have HU := Lib.hid hx
          have HRL := Lib.hid hrl
          have HROW := Lib.hid hrow
          have hkI2 : (k : Int) < N1 := by omega
          have hz4 : w.heap.size ≤ w4.heap.size := B4.out.size
          clear hv hx hown hrow hrr hrl
          rcases (show d ≤ 2 ∨ d = 3 ∨ d = 4 ∨ d = 5 ∨ d = 6 ∨ d = 7 by omega) with h | rfl | rfl | rfl | rfl | rfl
          · obtain ⟨b, hb⟩ : ∃ b, b = bit % 8 := ⟨_, rfl⟩
            obtain ⟨j, hj⟩ : ∃ j, j = bit / 8 % 64 := ⟨_, rfl⟩
            have hbI2 : (bit : Int) % 8 = (b : Int) := by omega
            have hjI : (bit : Int) / 8 % 64 = (j : Int) := by omega
            have hb8 : b < 8 := by omega
            have hj64 : j < 64 := by omega
            have hjI2 : (j : Int) < 64 := by omega
            clear hb hj
            obtain ⟨n, hn, hne9⟩ := flip_byte (row[j]?.getD 0) b hb8
            have hd012 : d = 0 ∨ d = 1 ∨ d = 2 := by omega
            clear h

            rcases hd012 with rfl | rfl | rfl
            all_goals
              go_wp2_with (at_builtin; refine append_flip rfl rfl rfl rfl HFR.out HRL.out hz4 HV.out hul HU.out hk1 hg1 hg2 hcell hfz hj64 ?_; intro g9 c9 w5 q5 c5 f5 c6 f6 hfin; replace hfin := Lib.hid hfin)
              go_meet
              case rel => exact ⟨L1.set k (row.set j (UInt8.ofNat n)), _, _, _, rfl, (hfin.out n hn).1.slcs, by simp; omega, B4.out.trans (hfin.out n hn).2⟩
          · obtain ⟨us2, hv2, hul2, hx2⟩ := HM4.out
            obtain ⟨gm, capm, em, hgm1, hgm2, hcapm, hownm, -⟩ := hv2.head (by omega)
            have hun2 : us2.length = N2 := by omega
            rw [hun2] at em hcapm hownm
            cases em
            obtain ⟨j, hj⟩ : ∃ j, j = bit % N2 := ⟨_, rfl⟩
            have hjI : (bit : Int) % (N2 : Int) = (j : Int) := by rw [hj]; simp
            have hjl : j < N2 := by rw [hj]; exact Nat.mod_lt _ hP2
            have hjI2 : (j : Int) < N2 := by omega
            have hn2 : ((N2 : Int) == 0) = false := by rw [beq_eq_false_iff_ne]; omega
            have hjus : j < us2.length := by omega
            obtain ⟨row2, hrow2, hfr2⟩ := hx2 j us2[j] (List.getElem?_eq_getElem hjus)
            have HFR2 := Lib.hid hfr2
            obtain ⟨ra2, rc2, hrv2, -⟩ := hfr2
            have hcell2 : w4.cell? ⟨gm, j, none⟩ = some (.slice ra2 row2.length rc2) := by
              rw [hownm.cellAt j (by omega), List.getElem?_eq_getElem hjus, hrv2]
            rw [hrv2] at HFR2
            clear hv2 hx2 hownm hrow2 hj hul2 hjus hcapm hrv2 hun2
            go_wp2_with fail
            go_meet
            case rel => exact ⟨L1.set k row2, _, _, _, rfl, (set_row HV.out hul HU.out hk1 HFR2.out).slcs, by simp; omega, B4.out.setCell hg1 _⟩
          · have hzc : (N1 : Int) ≤ zc := by omega
            have hkzc : (k : Int) ≤ zc := by omega
            have hwk : IntKind.i64.wrap ((k : Int) + 1) = ((k + 1 : Nat) : Int) := by rw [IntWalk.i64_in _ (by omega)]; simp
            have hkN : (k : Int) + 1 ≤ N1 := by omega
            have hk0 : (0 : Int) ≤ (k : Int) + 1 := by omega
            have htn : ((k + 1 : Nat) : Int).toNat = k + 1 := by omega
            go_wp2_with fail
            refine wp_region_same 8 [0, 1, 2, 3, 4, 5, 6, 7] (by kernel_rfl) (by kernel_rfl) (by intro c a d v w h; cases d <;> exact h) ?_
            simp only [List.filterMap_cons, List.filterMap_nil, List.getElem?_cons_zero, List.getElem?_cons_succ, List.drop_succ_cons, List.drop_zero]
            iterate 8 (refine Seg.takeK rfl rfl (fun K hK => ⟨_, fun ws hws => by go_simp; rfl, ?_⟩); go_simp; refine hK _ ?_; clear hK K)
            refine Seg.nil ?_
            have HUd := Lib.hid (show ∀ (i : Nat) (x : Value), us[i]? = some x → ∃ l : List UInt8, L1[i]? = some l ∧ FrB w4.drew w.heap.size x l from fun i x hi => by
              obtain ⟨l, e1, a', c', e, hr, kk⟩ := HU.out i x hi
              exact ⟨l, e1, a', c', e, hr.drew, kk⟩)
            go_wp2_with (at_builtin; refine append_cut rfl rfl rfl rfl HOWN.out.drew hL1 hkl (by omega) HUd.out ?c1)
            case c1 =>
              intro a n c w5 L hs5 hl5 hb5
              have HS5 := Lib.hid hs5
              have HB5 := Lib.hid (B4.out.drew.trans (hb5.mono hz4))
              clear hs5 hb5
              go_wp2_with fail
              go_meet
              case rel => exact ⟨L, _, _, _, rfl, HS5.out, hl5, HB5.out⟩
          · obtain ⟨row0, hrow0, hfr0⟩ := HU.out 0 us[0] (List.getElem?_eq_getElem (by omega))
            have HFR0 := Lib.hid hfr0
            obtain ⟨ra0, rc0, hrv0, -⟩ := hfr0
            have hcell0 : w4.cell? ⟨g, 0, none⟩ = some (.slice ra0 row0.length rc0) := by
              rw [HOWN.out.cellAt 0 (by omega), List.getElem?_eq_getElem (by omega), hrv0]
            have hfz0 := HOWN.out.frozenAt 0
            rw [hrv0] at HFR0
            have h0I : (0 : Int) < N1 := by omega
            obtain ⟨y0, hy0⟩ := set_some (w := w4) (p := ⟨g, k, none⟩) (x := .slice ra0 row0.length rc0) (q := ⟨g, 0, none⟩) (v := .slice ra0 row0.length rc0) hcell0
            have HSW := Lib.hid (show OwnSs ((w4.setCell ⟨g, k, none⟩ (.slice ra0 row0.length rc0)).setCell ⟨g, 0, none⟩ (.slice ra 64 rc)) w.heap.size (.slice (some ⟨g, 0, none⟩) N1 zc) ((L1.set k row0).set 0 row) from by
              obtain ⟨us', hv', hl', hx'⟩ := set_row HV.out hul HU.out hk1 HFR0.out
              exact set_row hv' hl' hx' (by simp; omega) (HFR.out.kept HV.out (HOWN.out.stored k _).2))
            have HBW := Lib.hid (show Below w.heap.size w ((w4.setCell ⟨g, k, none⟩ (.slice ra0 row0.length rc0)).setCell ⟨g, 0, none⟩ (.slice ra 64 rc)) from (B4.out.setCell hg1 _).setCell hg1 _)
            clear hrv0
            go_wp2_with fail
            go_region
            go_wp2_with fail
            go_meet
            case rel => exact ⟨(L1.set k row0).set 0 row, _, _, _, rfl, HSW.out.slcs.drew, by simp; omega, HBW.out.drew⟩
          · go_wp2_with (at_builtin; refine append_rows rfl rfl rfl rfl HX.out HM4.out ?e1 hz4 ?e2)
            case e1 => omega
            case e2 =>
              intro ya yn yc w5 us5 h5 _ _ hb5
              have H5 := Lib.hid h5
              have B5 := Lib.hid (B4.out.trans hb5)
              clear h5 hb5
              go_wp2_with fail
              go_meet
              case rel => exact ⟨L1 ++ L2, _, _, _, rfl, H5.out.slcs, by simp; omega, B5.out⟩
          · obtain ⟨p, hp⟩ : ∃ p, p = bit % 65 := ⟨_, rfl⟩
            have hpI : (bit : Int) % 65 = (p : Int) := by omega
            have hp64 : p ≤ 64 := by omega
            have hpc : (p : Int) ≤ rc := by omega
            have HFP := Lib.hid (HFR.out.front hp64)
            clear hp
            go_wp2_with fail
            go_meet
            case rel => exact ⟨L1.set k (row.take p), _, _, _, rfl, (set_row HV.out hul HU.out hk1 HFP.out).slcs, by simp; omega, B4.out.setCell hg1 _⟩
        case rest =>
          obtain ⟨L, xa, xn, xc, rfl, hsl, hll, hbx⟩ := hcut
          have HSL := Lib.hid hsl
          have HBX := Lib.hid hbx
          have EX := Lib.hid (bytes_any _ L wc HSL.out (by omega))
          have EY := Lib.hid (fun W (hW : Below wc.heap.size wc W) => rbytes_any _ L W (HSL.out.mono hW) (by omega))
          have hfa := frames_alike L
          obtain ⟨r, hr⟩ : ∃ r, r = refFrame L := ⟨_, rfl⟩
          rw [hfa, ← hr] at EX
          rw [← hr] at EY
          clear hsl hbx hr hfa
          go_wp2_with fail
          with_reducible refine EX.out.mono ?_
          rintro e5 w5 ⟨hret5, hb5⟩
          have HB5 := Lib.hid hb5
          have HBB := Lib.hid (HBX.out.trans (hb5.mono HBX.out.size))
          clear hb5
          cases r with
          | none =>
            obtain rfl : e5 = _ := hret5
            go_wp2_with fail
            with_reducible refine (EY.out _ HB5.out).mono ?_
            rintro e6 w6 ⟨hret6, hb6⟩
            have HB6 := Lib.hid (HBB.out.trans (hb6.mono HBB.out.size))
            clear hb6
            obtain rfl : e6 = _ := hret6
            have hcv := fun W => conv_string (w := W) (a := none) (n := 0) (cap := 0) (l := []) (Row.nil W (Nat.le_refl _) (by decide)) rfl
            go_wp2
            go_ret
            exact ⟨rfl, HB6.out⟩
          | some r =>
            obtain ⟨g, f, bb⟩ := r
            obtain ⟨v5, rfl, hf5⟩ := hret5
            have HF5 := Lib.hid hf5
            obtain ⟨a5, n5, c5, rfl⟩ := hf5.form
            clear hf5
            go_wp2_with fail
            with_reducible refine (EY.out _ HB5.out).mono ?_
            rintro e6 w6 ⟨hret6, hb6⟩
            have HB6 := Lib.hid (HBB.out.trans (hb6.mono HBB.out.size))
            obtain ⟨v6, rfl, hf6⟩ := hret6
            obtain ⟨hl5, hr5⟩ := (HF5.out.mono hb6).slc.row
            obtain ⟨a6, n6, c6, rfl⟩ := hf6.form
            obtain ⟨hl6, hr6⟩ := hf6.slc.row
            have hcv5 := conv_string hr5 hl5
            have hcv6 := conv_string hr6 hl6
            clear hb6 hf6 hr5 hr6
            go_wp2
            go_ret
            exact ⟨ret_bool (by simp), HB6.out⟩
end Go.Proofs.YtjkmbbnjiobckaaGreatDoor
