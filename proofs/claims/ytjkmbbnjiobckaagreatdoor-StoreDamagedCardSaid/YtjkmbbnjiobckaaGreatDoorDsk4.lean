/-
  disk: the two changes that are handed to done (Write$1, Flush$1).
-/
import Derived.Test.YtjkmbbnjiobckaaGreatDoorDsk3
namespace Go.Proofs.YtjkmbbnjiobckaaGreatDoor
open Go.RowKit
theorem below_of_drew {w w1 : World} (h : Below w.drew.heap.size w.drew w1) : Below w.heap.size w w1 := (Below.refl w.heap.size w).drew.trans h
/-- One row of a list of rows replaced. -/
theorem OwnSs.set {w w' : World} {base : Nat} {x c : Value} {us : List Value} {ll : List (List UInt8)} {l : List UInt8} {n : Nat} (hv : OwnVs w base x us) (hl : us.length = ll.length)
    (hx : ∀ (i : Nat) (x : Value), us[i]? = some x → ∃ l : List UInt8, ll[i]? = some l ∧ FrB w base x l) (hn : n < ll.length) (hc : FrB w base c l) (hv' : OwnVs w' base x (us.set n c)) (hg : w.grownBy w' x.ownBlock) : OwnSs w' base x (ll.set n l) := by
  refine ⟨us.set n c, hv', by simp [hl], fun i y hi => ?_⟩
  by_cases hin : i = n
  · subst hin
    rw [List.getElem?_set_self (by omega)] at hi
    cases hi
    exact ⟨l, List.getElem?_set_self hn, hc.kept hv hg⟩
  · rw [List.getElem?_set_ne (Ne.symm hin)] at hi
    obtain ⟨m, h1, h2⟩ := hx i y hi
    exact ⟨m, by rw [List.getElem?_set_ne (Ne.symm hin)]; exact h1, h2.kept hv hg⟩
theorem OwnSs.kept {w w' : World} {base base' : Nat} {x y : Value} {us : List Value} {ll : List (List UInt8)} (h : OwnSs w base y ll) (hv : OwnVs w base' x us) (hg : w.grownBy w' x.ownBlock) (hne : y.ownBlock = none ∨ y.ownBlock ≠ x.ownBlock) : OwnSs w' base y ll := by
  obtain ⟨vs, ⟨a, cap, rfl, h1⟩, h2, h3⟩ := h
  exact ⟨vs, ⟨a, cap, rfl, h1.kept hg hne⟩, h2, fun i z hi => let ⟨l, a, b⟩ := h3 i z hi; ⟨l, a, b.kept hv hg⟩⟩
theorem OwnSs.ge {w : World} {base : Nat} {x : Value} {ll : List (List UInt8)} (h : OwnSs w base x ll) : ∀ k, x.ownBlock = some k → base ≤ k := by
  obtain ⟨vs, ⟨a, cap, rfl, h⟩, _⟩ := h
  exact fun k hk => (h.lt k hk).1
/-- A list of rows that is not empty lies in one block, from its head on. -/
theorem OwnVs.head {w : World} {base : Nat} {x : Value} {us : List Value} (h : OwnVs w base x us) (h0 : 0 < us.length) : ∃ g cap, x = .slice (some ⟨g, 0, none⟩) us.length cap ∧ base ≤ g ∧ g < w.heap.size ∧ us.length ≤ cap ∧ w.ownsRow base 22 1 (.slice (some ⟨g, 0, none⟩) us.length cap) us.length us ∧ ∃ cur fr, w.heap[g]? = some (.cells cur 22 fr) := by
  obtain ⟨a, cap, rfl, h⟩ := h
  rcases h.2 with ⟨hn, h1⟩ | ⟨g, c, cur, hn, h1, h2, h3, _⟩
  · omega
  · cases hn
    exact ⟨g, cap, rfl, h1, (Array.getElem?_eq_some_iff.1 h2).1, h3, h, cur, _, h2⟩
/-- What holds rows is not the block of another type that is written. -/
theorem FrB.apart {w w' : World} {base p : Nat} {v : Value} {l : List UInt8} {cs : Array Value} {T : TypeId} {fr : Nat × Nat} (h : FrB w base v l) (hp : w.heap[p]? = some (.cells cs T fr)) (hT : T ≠ 5) (hg : w.grownBy w' (some p)) : FrB w' base v l := by
  obtain ⟨a, cap, rfl, h, k⟩ := h
  have hne : ∀ b o, a = some ⟨b, o, none⟩ → some b ≠ some p := by
    intro b o ha e
    obtain ⟨_, cur, fr, hh⟩ := k b o ha
    cases e
    rw [hp] at hh
    cases hh
    exact hT rfl
  refine ⟨a, cap, rfl, h.kept hg hne, fun b o ha => ?_⟩
  obtain ⟨h1, cur, fr, hh⟩ := k b o ha
  exact ⟨h1, cur, fr, by rw [hg.block b (Array.getElem?_eq_some_iff.1 hh).1 (hne b o ha)]; exact hh⟩
theorem ownsRow_apart {w w' : World} {base p : Nat} {e : TypeId} {sz n : Nat} {v : Value} {xs : List Value} {cs : Array Value} {T : TypeId} {fr : Nat × Nat} (h : w.ownsRow base e sz v n xs) (hp : w.heap[p]? = some (.cells cs T fr)) (hT : T ≠ e) (hg : w.grownBy w' (some p)) : w'.ownsRow base e sz v n xs := by
  refine h.kept hg ?_
  rcases h.2 with ⟨rfl, _⟩ | ⟨g, cap, cur, rfl, _, hh, _⟩
  · exact .inl rfl
  · refine .inr fun e' => ?_
    simp only [Value.ownBlock, Option.some.injEq] at e'
    subst e'
    rw [hp] at hh
    cases hh
    exact hT rfl
theorem OwnSs.apart {w w' : World} {base p : Nat} {x : Value} {ll : List (List UInt8)} {cs : Array Value} {T : TypeId} {fr : Nat × Nat} (h : OwnSs w base x ll) (hp : w.heap[p]? = some (.cells cs T fr)) (hT : T ≠ 22) (hT5 : T ≠ 5) (hg : w.grownBy w' (some p)) : OwnSs w' base x ll := by
  obtain ⟨vs, ⟨a, cap, rfl, h1⟩, h2, h3⟩ := h
  exact ⟨vs, ⟨a, cap, rfl, ownsRow_apart h1 hp hT hg⟩, h2, fun i z hi => let ⟨l, a, b⟩ := h3 i z hi; ⟨l, a, b.apart hp hT5 hg⟩⟩
theorem OwnD.apart {w w' : World} {base p : Nat} {x y : Value} {now safe : List (List UInt8)} {cs : Array Value} {T : TypeId} {fr : Nat × Nat} (h : OwnD w base x y now safe) (hp : w.heap[p]? = some (.cells cs T fr)) (hT : T ≠ 22) (hT5 : T ≠ 5) (hg : w.grownBy w' (some p)) : OwnD w' base x y now safe := by
  obtain ⟨m, h1, h2, h3, h4⟩ := h
  exact ⟨m, h1, h2.apart hp hT hT5 hg, h3, h4.apart hp hT hT5 hg⟩
set_option maxRecDepth 100000 in
set_option maxHeartbeats 2000000 in
theorem change121 (p pb pn n base : Nat) (x y b fu op de : Value) (now safe : List (List UInt8)) (l : List UInt8) (w : World) (hp : w.heap[p]? = some (.cells #[x, y, fu, op, de] 36 (0, 0)))
    (hb : w.heap[pb]? = some (.cells #[b] 22 (0, 0))) (hn : w.heap[pn]? = some (.cells #[.int .i64 n] 3 (0, 0))) (ho : OwnD w base x y now safe) (hl : Slc w b l) (hll : l.length ≤ 140737488000000) (hlt : n < now.length) (hbase : base ≤ w.heap.size) :
    Calls Tryz.prog 121 #[.pointer (some ⟨p, 0, none⟩), .pointer (some ⟨pb, 0, none⟩), .pointer (some ⟨pn, 0, none⟩)] w fun e w' => e = .returned (.tuple #[]) ∧ OwnD w' base x y (now.set n l) safe ∧ w.grownBy w' x.ownBlock ∧ w'.heap[p]? = some (.cells #[x, y, fu, op, de] 36 (0, 0)) := by
  obtain ⟨m, hm, ⟨us, hv, hul, hx⟩, hlm, hy⟩ := ho
  obtain ⟨g, cap, rfl, hg1, hg2, hcap, hown, cur, frg, hgh⟩ := hv.head (by omega)
  have hgm := hlm g rfl
  obtain ⟨c0, -⟩ := cells5 hp
  have cb := cells1 hb
  have cn := cells1 hn
  have hpl := (Array.getElem?_eq_some_iff.1 hp).1
  have hbl := (Array.getElem?_eq_some_iff.1 hb).1
  have hnl := (Array.getElem?_eq_some_iff.1 hn).1
  have hpg : p ≠ g := by rintro rfl; rw [hp] at hgh; cases hgh
  have HP := Lib.hid hp
  have HV := Lib.hid hv
  have HOWN := Lib.hid hown
  have HX := Lib.hid hx
  have HY := Lib.hid hy
  have HL := Lib.hid hl
  have HPG := Lib.hid hpg
  have HUL := Lib.hid hul
  obtain ⟨ba, bcap, rfl, -⟩ := hl
  have hlt1 : n < us.length := by omega
  have hltI : (n : Int) < us.length := by omega
  clear hp hb hn hx hy hul hv hown hgh hpg
  go_enter Tryz.func121, Tryz.ntmps121
  go_wp2_with fail
  refine wp_region_ext 8 [0, 1, 2, 3, 4, 5, 6, 7] (by kernel_rfl) (by kernel_rfl) (by intro c a d v w h; cases d <;> exact h) ?_
  simp only [List.filterMap_cons, List.filterMap_nil, List.getElem?_cons_zero, List.getElem?_cons_succ, List.drop_succ_cons, List.drop_zero]
  iterate 6 (refine Seg.takeK rfl rfl (fun K hK => ⟨_, fun ws hws => by go_simp; rfl, ?_⟩); go_simp; refine hK _ ?_; clear hK K)
  refine Seg.loud rfl rfl (fun K hK => ?_)
  go_wp2_with fail
  with_reducible refine (clone70 _ l _ HL.out.drew hll).mono ?_
  rintro _ w1 ⟨cv, rfl, hoc, hb1⟩
  have HOC := Lib.hid hoc
  have HB1 := Lib.hid (below_of_drew hb1)
  obtain ⟨ca, cc, rfl, -⟩ := hoc
  clear hb1
  refine hK _ _ (fun b o h => HB1.out.cell (p := ⟨b, o, none⟩) h) ?_
  have hown1 : w1.ownsRow base 22 1 (.slice (some ⟨g, 0, none⟩) us.length cap) us.length us := ownsRow_below HOWN.out HB1.out
  have hcell : w1.cell? ⟨g, n, none⟩ = some us[n] := by
    rw [hown1.cellAt n (by omega), List.getElem?_eq_getElem]
  have hfr := hown1.frozenAt n
  have HOWN1 := Lib.hid hown1
  clear hown1
  clear hK K
  iterate 1 (refine Seg.takeK rfl rfl (fun K hK => ⟨_, fun ws hws => by go_simp; rfl, ?_⟩); go_simp; refine hK _ ?_; clear hK K)
  refine Seg.nil ?_
  go_wp2
  go_end0
  have hst := HOWN1.out.stored n (.slice ca l.length cc)
  have hv1 : OwnVs w1 base (.slice (some ⟨g, 0, none⟩) us.length cap) us := OwnVs.mk HOWN1.out rfl
  have hv2 : OwnVs (w1.setCell ⟨g, n, none⟩ (.slice ca l.length cc)) base (.slice (some ⟨g, 0, none⟩) us.length cap) (us.set n (.slice ca l.length cc)) := OwnVs.mk hst.1 (by simp)
  have hb1 : Below w.heap.size w w1 := HB1.out
  refine ⟨rfl, ⟨m, hm, ?_, hlm, ?_⟩, grown_trans (grown_of_below hb1) hst.2, ?_⟩
  · exact OwnSs.set hv1 HUL.out (fun i z hi => let ⟨l', h1, h2⟩ := HX.out i z hi; ⟨l', h1, h2.mono hb1⟩) hlt (HOC.out.fr.lower hbase) hv2 hst.2
  · refine (HY.out.mono hb1).kept hv1 hst.2 ?_
    cases hyb : y.ownBlock with
    | none => exact .inl rfl
    | some k =>
      refine .inr ?_
      have := HY.out.ge k hyb
      simp [Value.ownBlock]; omega
  · rw [hst.2.block p (Nat.lt_of_lt_of_le hpl hb1.size) (by have := HPG.out; simpa using this)]
    exact block_below hb1 HP.out hpl
set_option maxRecDepth 100000 in
set_option maxHeartbeats 2000000 in
theorem change122 (p base : Nat) (x y fu op de : Value) (now safe : List (List UInt8)) (w : World) (hp : w.heap[p]? = some (.cells #[x, y, fu, op, de] 36 (0, 0)))
    (ho : OwnD w base x y now safe) (hlen : now.length ≤ 1000000) (hrow : ∀ l ∈ now, l.length ≤ 140737488000000) (hbase : base ≤ w.heap.size) :
    Calls Tryz.prog 122 #[.pointer (some ⟨p, 0, none⟩)] w fun e w' => ∃ y', e = .returned (.tuple #[]) ∧ OwnD w' base x y' now now ∧ w.grownBy w' (some p) ∧ w'.heap[p]? = some (.cells #[x, y', fu, op, de] 36 (0, 0)) := by
  obtain ⟨m, hm, hx, hlm, -⟩ := ho
  have HX := Lib.hid hx
  obtain ⟨us, ⟨a, cap, rfl, -⟩, hul, -⟩ := hx
  have HUL := Lib.hid hul
  have HLM := Lib.hid (HX.out.block_lt)
  obtain ⟨c0, c1, c2, c3, c4⟩ := cells5 hp
  have hpl := (Array.getElem?_eq_some_iff.1 hp).1
  have HP := Lib.hid hp
  have E := Lib.hid (cloned123 (.slice a us.length cap) now w HX.out.slcs hlen hrow)
  clear hp hlm hrow hul
  go_enter Tryz.func122, Tryz.ntmps122
  go_wp2_with fail
  with_reducible refine E.out.mono ?_
  rintro _ w1 ⟨y1, rfl, ho1, hb1⟩
  have HO1 := Lib.hid ho1
  have HB1 := Lib.hid hb1
  obtain ⟨us1, ⟨a1, cap1, rfl, -⟩, -, -⟩ := ho1
  have hh := block_below hb1 HP.out hpl
  obtain ⟨d0, d1, d2, d3, d4⟩ := cells5 hh
  have fr := free_all hh
  have HH := Lib.hid hh
  clear hb1 hh
  go_wp2
  go_end0
  refine ⟨_, rfl, ⟨w.heap.size, hbase, ?_, HLM.out, ?_⟩, grown_trans (grown_of_below HB1.out) (grown_set (grown_refl _ _) _), block_set' HH.out rfl⟩
  · exact (HX.out.mono HB1.out).apart HH.out (by decide) (by decide) (grown_set (grown_refl _ _) _)
  · exact HO1.out.apart HH.out (by decide) (by decide) (grown_set (grown_refl _ _) _)
end Go.Proofs.YtjkmbbnjiobckaaGreatDoor
