/-
  General laws on one region that draws its order: a plan of its operations (the calm ones as early as may be, the loud ones as they wait for one another), and one walk along that plan. No program is named here.
-/
import Derived.OrdersHeld
import Derived.StillTail
import Derived.Tactics
import Derived.Below
import Derived.Laws.AppendOwn
namespace Go
/-- An operation that the walk takes by its value in every world that meets the region's condition. -/
def Oper.calm (o : Oper) : Bool :=
  match o.op with
  | .move _ | .assign _ | .pick .. | .load .. | .nilCheck _ | .binOp .. | .unOp .. | .fieldAddr .. | .field .. | .indexAddr .. | .index .. | .extract .. | .makeInterface .. | .makeFunc .. | .slice .. | .build .. => true
  | .convert .. => true
  | .call { callee := .builtin .len, .. } | .call { callee := .builtin .cap, .. } | .call { callee := .builtin .min, .. } | .call { callee := .builtin .max, .. } => true
  | _ => false

section
variable {P : Program} {ops : Array Oper} {Q : Exit → Act → World → Prop} {md : Region.Mode} {S : World → Prop}

/-- The first f operations in whatever order, all of them below n, the condition shown behind each; then T. -/
def wpHt (P : Program) (md : Region.Mode) (ops : Array Oper) (Q : Exit → Act → World → Prop) (S : World → Prop) (n : Nat) (T : Array Bool → Act → World → Prop) : Nat → Array Bool → Act → World → Prop
  | 0, listed, a, w => T listed a w
  | f + 1, listed, a, w =>
    Region.ready md ops listed ≠ [] ∧ ∀ i ∈ Region.ready md ops listed, i < n ∧ wpOp P ops Q i (fun a' w' => S w' ∧ wpHt P md ops Q S n T f (listed.setIfInBounds i true) a' w') a w

theorem wpAny_of_ht {n g : Nat} {T : Array Bool → Act → World → Prop} (hT : ∀ listed a w, T listed a w → wpAny P md ops Q g listed a w) :
    ∀ (f : Nat) (listed : Array Bool) (a : Act) (w : World), wpHt P md ops Q S n T f listed a w → wpAny P md ops Q (f + g) listed a w
  | 0, listed, a, w, h => by rw [Nat.zero_add]; exact hT _ _ _ h
  | f + 1, listed, a, w, h => by
    rw [show f + 1 + g = (f + g) + 1 by omega]
    exact ⟨fun h0 => absurd h0 h.1, fun i hi => wpOp_mono (fun a' w' h' => wpAny_of_ht hT f _ a' w' h'.2) (h.2 i hi).2⟩

theorem wpHt_first {n i : Nat} {oi : Oper} {v : Value} {T : Array Bool → Act → World → Prop} (hi : ops[i]? = some oi) (hsel : ∀ (j : Nat) (o : Oper) cs b, ops[j]? = some o → o.op ≠ .select cs b)
    (hQ : ∀ c a w, Q (.panic c) (a.put oi.dst v) w → Q (.panic c) a w)
    (hwait : ∀ listed, HeadInv md ops n listed → ∀ i, i < n → listed.getD i true = false → ∀ t, n ≤ t → t ∉ Region.ready md ops listed) (hin : i < n)
    (hdone : ∀ listed a w, T listed a w → ∀ j ∈ Region.ready md ops listed, n ≤ j) :
    ∀ (f : Nat) (listed : Array Bool) (a : Act) (w : World), HeadInv md ops n listed →
      (∀ j oj, ops[j]? = some oj → j ≠ i → listed.getD j true = false → (∀ e ∈ oj.after, Region.binds md e = true → e.on ≠ i) → oi.apart ops oj = true) →
      i ∈ Region.ready md ops listed → YieldsIf P ops S oi v a → S w →
      wpHt P md ops Q S n T f (listed.setIfInBounds i true) (a.put oi.dst v) w → wpHt P md ops Q S n T (f + 1) listed a w := by
  intro f
  induction f with
  | zero =>
    intro listed a w inv _ hr hy hS H
    have hun := (mem_ready.1 hr).1
    refine ⟨fun h => (by rw [h] at hr; cases hr), fun j hj => ?_⟩
    have hjn : j < n := by
      rcases Nat.lt_or_ge j n with h | h
      · exact h
      · exact absurd hj (hwait listed inv i hin hun j h)
    refine ⟨hjn, ?_⟩
    by_cases hji : j = i
    · subst hji; exact hy.wpOp hi hS ⟨hS, H⟩
    · have := hdone _ _ _ H j (ready_mono hj hji)
      omega
  | succ f ih =>
    intro listed a w inv hfree hr hy hS H
    have hun := (mem_ready.1 hr).1
    refine ⟨fun h => (by rw [h] at hr; cases hr), fun j hj => ?_⟩
    have hjn : j < n := by
      rcases Nat.lt_or_ge j n with h | h
      · exact h
      · exact absurd hj (hwait listed inv i hin hun j h)
    refine ⟨hjn, ?_⟩
    by_cases hji : j = i
    · subst hji; exact hy.wpOp hi hS ⟨hS, H⟩
    · have h1 := (H.2 j (ready_mono hj hji)).2
      obtain ⟨hjun, oj, hoj, hall⟩ := mem_ready.1 hj
      have hnot : ∀ e ∈ oj.after, Region.binds md e = true → e.on ≠ i := fun e he hb heq => by
        have h1 := hall e he hb
        rw [heq, getD_both hun] at h1
        cases h1
      have h2 := wpOp_putIf hoj (hfree j oj hoj hji hjun hnot) (fun cs b => hsel i oi cs b hi) (fun cs b => hsel j oj cs b hoj) hQ hy h1
      have hfree' : ∀ k ok, ops[k]? = some ok → k ≠ i → (listed.setIfInBounds j true).getD k true = false →
          (∀ e ∈ ok.after, Region.binds md e = true → e.on ≠ i) → oi.apart ops ok = true := fun k ok hk hki hun hno => by
        refine hfree k ok hk hki ?_ hno
        by_cases hjk : j = k
        · subst hjk; exact hjun
        · rw [getD_set_ne true hjk] at hun; exact hun
      refine wpOp_mono (fun a' w' h3 => ⟨h3.2.1, ih (listed.setIfInBounds j true) a' w' (inv.set hj hjn) hfree' (ready_mono hr (Ne.symm hji)) h3.1 h3.2.1 ?_⟩) h2
      rw [Array.setIfInBounds_comm _ _ hji]
      exact h3.2.2

/-- The walk along a plan. -/
def Seg (P : Program) (ops : Array Oper) (S : World → Prop) (Q : Exit → Act → World → Prop) (T : Act → World → Prop) : List Oper → Act → World → Prop
  | [], a, w => T a w
  | o :: rest, a, w =>
    if o.calm = true then ∃ v, YieldsIf P ops S o v a ∧ Seg P ops S Q T rest (a.put o.dst v) w
    else if Region.wanted o (yielded ops a.tmps) then o.wp P a w (fun a' w' => S w' ∧ Seg P ops S Q T rest a' w') Q ∨ (o.asks P a w ∧ LetsOut Q)
    else Seg P ops S Q T rest (a.put o.dst undef) w

def Region.planGo (md : Region.Mode) (ops : Array Oper) (n g : Nat) : List Nat → Array Bool → Bool
  | [], listed => Region.seqB md ops g n listed
  | i :: pl, listed => decide (i < n) && (match ops[i]? with
      | none => false
      | some o => if o.calm then (Region.ready md ops listed).contains i && Region.free md ops listed i else decide (Region.ready md ops listed = [i])) && Region.planGo md ops n g pl (listed.setIfInBounds i true)
def Region.planB (md : Region.Mode) (ops : Array Oper) (n : Nat) (pl : List Nat) : Bool :=
  Region.noSelect ops && decide (n ≤ ops.size) && (decide (n = ops.size) || (Region.sinkB md ops n && Region.chainB md ops n)) && decide (pl.length = n) && Region.planGo md ops n (ops.size - n) pl (Array.replicate ops.size false)

theorem planGo_sound {n g : Nat} {T : Act → World → Prop} (hsel : Region.noSelect ops = true)
    (hQ : ∀ c a d v w, Q (.panic c) (a.put d v) w → Q (.panic c) a w)
    (hwait : ∀ listed, HeadInv md ops n listed → ∀ i, i < n → listed.getD i true = false → ∀ t, n ≤ t → t ∉ Region.ready md ops listed) :
    ∀ (pl : List Nat) (l : List Oper) (listed : Array Bool) (a : Act) (w : World), pl.map (ops[·]?) = l.map some → HeadInv md ops n listed → S w →
      Region.planGo md ops n g pl listed = true → Seg P ops S Q T l a w →
      wpHt P md ops Q S n (fun listed' a' w' => Region.seqB md ops g n listed' = true ∧ T a' w') pl.length listed a w
  | [], [], listed, a, w, _, _, _, hB, h => ⟨by simpa [Region.planGo] using hB, h⟩
  | [], _ :: _, _, _, _, hl, _, _, _, _ => by simp at hl
  | _ :: _, [], _, _, _, hl, _, _, _, _ => by simp at hl
  | i :: pl, o :: l, listed, a, w, hl, inv, hS, hB, h => by
    simp only [List.map_cons, List.cons.injEq] at hl
    obtain ⟨hi, hl⟩ := hl
    simp only [Region.planGo, hi, Bool.and_eq_true, decide_eq_true_eq] at hB
    obtain ⟨⟨hin, hk⟩, hB⟩ := hB
    simp only [List.length_cons]
    by_cases hc : o.calm = true
    · rw [if_pos hc] at hk
      simp only [Bool.and_eq_true] at hk
      unfold Seg at h
      rw [if_pos hc] at h
      obtain ⟨v, hy, hK⟩ := h
      have hr : i ∈ Region.ready md ops listed := by simpa using hk.1
      exact wpHt_first hi (Region.noSelect_spec hsel) (fun c a w => hQ c a _ _ w) hwait hin (fun listed' a' w' hL => seqB_ready hL.1) pl.length listed a w inv (Region.free_spec hi hk.2) hr hy hS
        (planGo_sound hsel hQ hwait pl l _ _ _ hl (inv.set hr hin) hS hB hK)
    · rw [if_neg hc] at hk
      have hk : Region.ready md ops listed = [i] := by simpa using hk
      have hr : i ∈ Region.ready md ops listed := by rw [hk]; simp
      unfold Seg at h
      rw [if_neg hc] at h
      refine ⟨by rw [hk]; simp, fun j hj => ?_⟩
      rw [hk] at hj
      obtain rfl : j = i := by simpa using hj
      refine ⟨hin, ?_⟩
      have key : ∀ a' w', S w' ∧ Seg P ops S Q T l a' w' → S w' ∧ wpHt P md ops Q S n (fun listed' a' w' => Region.seqB md ops g n listed' = true ∧ T a' w') pl.length (listed.setIfInBounds j true) a' w' := fun a' w' h' =>
        ⟨h'.1, planGo_sound hsel hQ hwait pl l _ _ _ hl (inv.set hr hin) h'.1 hB h'.2⟩
      unfold wpOp
      simp only [hi]
      split
      · rename_i hw
        rw [if_pos hw] at h
        exact h.imp (Oper.wp_mono key) id
      · rename_i hw
        rw [if_neg hw] at h
        exact (key _ _ ⟨hS, h⟩).2 |> fun x => ⟨hS, x⟩

/-- ONE WALK FOR A REGION THAT DRAWS ITS ORDER: the first n operations along a plan, under a condition on the world; the others, which come up one behind the other, as a list. -/
theorem wp_region_plan {id : Nat} {a : Act} {w : World} {l : List Oper} (S : World → Prop) (n : Nat) (pl : List Nat) (hm : P.follows .mixedOrders = true)
    (hB : Region.planB .any l.toArray n pl = true) (hQ : ∀ c a d v w, Q (.panic c) (a.put d v) w → Q (.panic c) a w) (hS : S w.drew)
    (h : Seg P l.toArray S Q (fun a' w' => wpList P l.toArray Q (l.drop n) a' w') (pl.filterMap (l[·]?)) a w.drew) : (Code.region id l.toArray true).wp P Q a w := by
  simp only [Region.planB, Bool.and_eq_true, Bool.or_eq_true, decide_eq_true_eq] at hB
  obtain ⟨⟨⟨⟨hsel, hn⟩, htail⟩, hlen⟩, hgo⟩ := hB
  have hn' : n ≤ l.length := by simpa using hn
  have hwait : ∀ listed, HeadInv .any l.toArray n listed → ∀ i, i < n → listed.getD i true = false → ∀ t, n ≤ t → t ∉ Region.ready .any l.toArray listed := by
    intro listed inv i hin hun t ht hr
    rcases htail with htail | ⟨hs, hc⟩
    · obtain ⟨_, ot, hot, _⟩ := mem_ready.1 hr
      have := (Array.getElem?_eq_some_iff.1 hot).1
      omega
    · rcases Nat.lt_or_ge n l.toArray.size with hlt | hge
      · exact tail_waits hs hc hlt inv _ i rfl hin hun t ht hr
      · obtain ⟨_, ot, hot, _⟩ := mem_ready.1 hr
        have := (Array.getElem?_eq_some_iff.1 hot).1
        omega
  have inv0 : HeadInv .any l.toArray n (Array.replicate l.toArray.size false) :=
    ⟨by simp, fun j oj _ hl => (by rw [getD_replicate_false] at hl; cases hl), fun t _ ht => getD_in (by simpa using ht) (getD_replicate_false _ _)⟩
  have hlt : ∀ (pl : List Nat) (listed : Array Bool), Region.planGo .any l.toArray n (l.toArray.size - n) pl listed = true → pl.map (l.toArray[·]?) = (pl.filterMap (l[·]?)).map some := by
    intro pl
    induction pl with
    | nil => intro _ _; rfl
    | cons i pl ih =>
      intro listed hb
      simp only [Region.planGo, Bool.and_eq_true, decide_eq_true_eq] at hb
      obtain ⟨⟨hi, _⟩, hb⟩ := hb
      have : i < l.length := by omega
      simp only [List.map_cons, List.filterMap_cons, List.getElem?_toArray, List.getElem?_eq_getElem this]
      rw [← ih _ hb]
      simp
  have H := planGo_sound (md := .any) (g := l.toArray.size - n) hsel hQ hwait pl _ _ a w.drew (hlt pl _ hgo) inv0 hS hgo h
  refine wp_region_any hm ?_
  have := wpAny_of_ht (Q := Q) (g := l.toArray.size - n) (fun listed a' w' (hL : Region.seqB .any l.toArray (l.toArray.size - n) n listed = true ∧ wpList P l.toArray Q (l.drop n) a' w') => by
    have hdl : (l.drop n).length = l.toArray.size - n := by simp
    have := wpAny_of_seq (md := .any) (Q' := Q) (l.drop n) n listed a' w' (fun j => by simp [List.getElem?_drop]) (by rw [hdl]; exact hL.1) hL.2
    rwa [hdl] at this) _ _ _ _ H
  rw [hlen, show n + (l.toArray.size - n) = l.toArray.size by simp; omega] at this
  exact this

/-! The steps -/
theorem Seg.nil {T : Act → World → Prop} {a : Act} {w : World} (h : T a w) : Seg P ops S Q T [] a w := h
theorem Seg.take {T : Act → World → Prop} {o : Oper} {rest : List Oper} {a : Act} {w : World} {v : Value} (hc : o.calm = true) (hw : Region.wanted o (yielded ops a.tmps) = true)
    (hy : ∀ ws, S ws → (execOp a.eval o).run P ws = .ok (.value v) ws) (h : Seg P ops S Q T rest (a.put o.dst v) w) : Seg P ops S Q T (o :: rest) a w := by
  unfold Seg; rw [if_pos hc]; exact ⟨v, .inl ⟨hw, hy⟩, h⟩
theorem Seg.takeK {T : Act → World → Prop} {o : Oper} {rest : List Oper} {a : Act} {w : World} (hc : o.calm = true) (hw : Region.wanted o (yielded ops a.tmps) = true)
    (h : ∀ K : Act → Prop, (∀ a, Seg P ops S Q T rest a w → K a) → ∃ v, (∀ ws, S ws → (execOp a.eval o).run P ws = .ok (.value v) ws) ∧ K (a.put o.dst v)) : Seg P ops S Q T (o :: rest) a w := by
  obtain ⟨v, hy, hK⟩ := h _ (fun _ h => h)
  exact Seg.take hc hw hy hK
theorem Seg.pass {T : Act → World → Prop} {o : Oper} {rest : List Oper} {a : Act} {w : World} (hw : Region.wanted o (yielded ops a.tmps) = false)
    (h : Seg P ops S Q T rest (a.put o.dst undef) w) : Seg P ops S Q T (o :: rest) a w := by
  unfold Seg
  split
  · exact ⟨undef, .inr ⟨hw, rfl⟩, h⟩
  · rw [if_neg (by simp [hw])]; exact h
theorem Seg.passK {T : Act → World → Prop} {o : Oper} {rest : List Oper} {a : Act} {w : World} (hw : Region.wanted o (yielded ops a.tmps) = false)
    (h : ∀ K : Act → Prop, (∀ a, Seg P ops S Q T rest a w → K a) → K (a.put o.dst undef)) : Seg P ops S Q T (o :: rest) a w := Seg.pass hw (h _ (fun _ h => h))
theorem Seg.loud {T : Act → World → Prop} {o : Oper} {rest : List Oper} {a : Act} {w : World} (hc : o.calm = false) (hw : Region.wanted o (yielded ops a.tmps) = true)
    (h : ∀ K : Act → World → Prop, (∀ a w, S w → Seg P ops S Q T rest a w → K a w) → o.wp P a w K Q) : Seg P ops S Q T (o :: rest) a w := by
  unfold Seg; rw [if_neg (by simp [hc]), if_pos hw]; exact .inl (h _ (fun _ _ h1 h2 => ⟨h1, h2⟩))

/-- The same, where nothing in the head changes a cell. -/
theorem wp_region_same {id : Nat} {a : Act} {w : World} {l : List Oper} (n : Nat) (pl : List Nat) (hm : P.follows .mixedOrders = true)
    (hB : Region.planB .any l.toArray n pl = true) (hQ : ∀ c a d v w, Q (.panic c) (a.put d v) w → Q (.panic c) a w)
    (h : Seg P l.toArray (fun ws => ∀ ad, ws.cell? ad = w.cell? ad) Q (fun a' w' => wpList P l.toArray Q (l.drop n) a' w') (pl.filterMap (l[·]?)) a w.drew) : (Code.region id l.toArray true).wp P Q a w :=
  wp_region_plan _ n pl hm hB hQ (fun _ => rfl) h
/-- The same, where the head only adds blocks. -/
theorem wp_region_ext {id : Nat} {a : Act} {w : World} {l : List Oper} (n : Nat) (pl : List Nat) (hm : P.follows .mixedOrders = true)
    (hB : Region.planB .any l.toArray n pl = true) (hQ : ∀ c a d v w, Q (.panic c) (a.put d v) w → Q (.panic c) a w)
    (h : Seg P l.toArray (fun ws => ∀ b o, b < w.heap.size → ws.cell? ⟨b, o, none⟩ = w.cell? ⟨b, o, none⟩) Q (fun a' w' => wpList P l.toArray Q (l.drop n) a' w') (pl.filterMap (l[·]?)) a w.drew) : (Code.region id l.toArray true).wp P Q a w :=
  wp_region_plan _ n pl hm hB hQ (fun _ _ _ => rfl) h
/-- The same, where the head adds blocks and writes block T. -/
theorem wp_region_but (T : Nat) {id : Nat} {a : Act} {w : World} {l : List Oper} (n : Nat) (pl : List Nat) (hm : P.follows .mixedOrders = true)
    (hB : Region.planB .any l.toArray n pl = true) (hQ : ∀ c a d v w, Q (.panic c) (a.put d v) w → Q (.panic c) a w)
    (h : Seg P l.toArray (fun ws => ∀ b o, b < w.heap.size → b ≠ T → ws.cell? ⟨b, o, none⟩ = w.cell? ⟨b, o, none⟩) Q (fun a' w' => wpList P l.toArray Q (l.drop n) a' w') (pl.filterMap (l[·]?)) a w.drew) : (Code.region id l.toArray true).wp P Q a w :=
  wp_region_plan _ n pl hm hB hQ (fun _ _ _ _ => rfl) h
open RowKit in
theorem set_but {T : Nat} {w : World} {i : Nat} {v : Value} {b o : Nat} (hb : b ≠ T) : (w.setCell ⟨T, i, none⟩ v).cell? ⟨b, o, none⟩ = w.cell? ⟨b, o, none⟩ :=
  World.cell?_of_block (Below.heap_setCell w _ v _ hb)
theorem seg_world {T : Act → World → Prop} {l : List Oper} {a : Act} {w : World} (H : World → Prop) (h : H w) (k : ∀ w', H w' → Seg P ops S Q T l a w') : Seg P ops S Q T l a w := k w h
theorem set_but4 {T : Nat} {w : World} {v0 v1 v2 v3 : Value} {b o : Nat} (hb : b ≠ T) : ((((w.setCell ⟨T, 0, none⟩ v0).setCell ⟨T, 1, none⟩ v1).setCell ⟨T, 2, none⟩ v2).setCell ⟨T, 3, none⟩ v3).cell? ⟨b, o, none⟩ = w.cell? ⟨b, o, none⟩ := by
  rw [set_but hb, set_but hb, set_but hb, set_but hb]
end
end Go
