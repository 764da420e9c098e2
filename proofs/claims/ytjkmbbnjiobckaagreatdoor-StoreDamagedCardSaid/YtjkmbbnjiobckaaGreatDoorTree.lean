/-
  General laws on one region that draws its order, along a tree of plans: where several loud operations may come next, one branch for each of them. No program is named here.
-/
import Derived.Test.YtjkmbbnjiobckaaGreatDoorPlan
namespace Go
/-- A tree of plans. -/
inductive Pl where
  | nil
  | one (i : Nat) (t : Pl)
  | alt (a b : Pl)
def Pl.heads : Pl → List Nat
  | .nil => []
  | .one i _ => [i]
  | .alt a b => a.heads ++ b.heads
section
variable {P : Program} {Q : Exit → Act → World → Prop} {md : Region.Mode} {S : World → Prop}
/-- The walk along a tree of plans. -/
def SegT (P : Program) (l : List Oper) (S : World → Prop) (Q : Exit → Act → World → Prop) (T : Act → World → Prop) : Pl → Act → World → Prop
  | .nil, a, w => T a w
  | .one i t, a, w => ∃ o, l[i]? = some o ∧
    (if o.calm = true then ∃ v, YieldsIf P l.toArray S o v a ∧ SegT P l S Q T t (a.put o.dst v) w
    else if Region.wanted o (yielded l.toArray a.tmps) then o.wp P a w (fun a' w' => S w' ∧ SegT P l S Q T t a' w') Q ∨ (o.asks P a w ∧ LetsOut Q)
    else SegT P l S Q T t (a.put o.dst undef) w)
  | .alt x y, a, w => SegT P l S Q T x a w ∧ SegT P l S Q T y a w

def Region.treeGo (md : Region.Mode) (ops : Array Oper) (n g : Nat) : Pl → Nat → Bool → Array Bool → Bool
  | .nil, f, alt, listed => !alt && decide (f = 0) && Region.seqB md ops g n listed
  | .one i t, f, alt, listed => decide (i < n) && decide (0 < f) && (match ops[i]? with
      | none => false
      | some o => if o.calm then !alt && (Region.ready md ops listed).contains i && Region.free md ops listed i else alt || decide (Region.ready md ops listed = [i])) && Region.treeGo md ops n g t (f - 1) false (listed.setIfInBounds i true)
  | .alt x y, f, alt, listed => (alt || (decide (Region.ready md ops listed ≠ []) && (Region.ready md ops listed).all (fun i => (x.heads ++ y.heads).contains i))) &&
      Region.treeGo md ops n g x f true listed && Region.treeGo md ops n g y f true listed
def Region.treeB (md : Region.Mode) (ops : Array Oper) (n : Nat) (t : Pl) : Bool :=
  Region.noSelect ops && decide (n ≤ ops.size) && (decide (n = ops.size) || (Region.sinkB md ops n && Region.chainB md ops n)) && Region.treeGo md ops n (ops.size - n) t n false (Array.replicate ops.size false)

theorem treeGo_sound {l : List Oper} {n g : Nat} {T : Act → World → Prop} (hsel : Region.noSelect l.toArray = true)
    (hQ : ∀ c a d v w, Q (.panic c) (a.put d v) w → Q (.panic c) a w)
    (hwait : ∀ listed, HeadInv md l.toArray n listed → ∀ i, i < n → listed.getD i true = false → ∀ t, n ≤ t → t ∉ Region.ready md l.toArray listed) :
    ∀ (t : Pl) (f : Nat) (alt : Bool) (listed : Array Bool) (a : Act) (w : World), HeadInv md l.toArray n listed → S w →
      Region.treeGo md l.toArray n g t f alt listed = true → SegT P l S Q T t a w →
      (alt = false → wpHt P md l.toArray Q S n (fun listed' a' w' => Region.seqB md l.toArray g n listed' = true ∧ T a' w') f listed a w) ∧
      (alt = true → 0 < f ∧ ∀ i ∈ t.heads, i ∈ Region.ready md l.toArray listed → i < n ∧ wpOp P l.toArray Q i (fun a' w' => S w' ∧ wpHt P md l.toArray Q S n (fun listed' a' w' => Region.seqB md l.toArray g n listed' = true ∧ T a' w') (f - 1) (listed.setIfInBounds i true) a' w') a w) := by
  intro t
  induction t with
  | nil =>
    intro f alt listed a w inv hS hB h
    simp only [Region.treeGo, Bool.and_eq_true, Bool.not_eq_true', decide_eq_true_eq] at hB
    obtain ⟨⟨rfl, rfl⟩, hB⟩ := hB
    exact ⟨fun _ => ⟨hB, h⟩, fun h => by cases h⟩
  | one i t ih =>
    intro f alt listed a w inv hS hB h
    simp only [Region.treeGo, Bool.and_eq_true, decide_eq_true_eq] at hB
    obtain ⟨⟨⟨hin, hf⟩, hk⟩, hB⟩ := hB
    obtain ⟨f, rfl⟩ : ∃ m, f = m + 1 := ⟨f - 1, by omega⟩
    simp only [Nat.add_sub_cancel] at hB ⊢
    obtain ⟨o, hi, h⟩ := h
    have hi' : l.toArray[i]? = some o := by simpa using hi
    simp only [hi'] at hk
    by_cases hc : o.calm = true
    · rw [if_pos hc] at hk h
      simp only [Bool.and_eq_true, Bool.not_eq_true'] at hk
      obtain ⟨v, hy, hK⟩ := h
      have hr : i ∈ Region.ready md l.toArray listed := by simpa using hk.1.2
      refine ⟨fun _ => ?_, fun h => by rw [hk.1.1] at h; cases h⟩
      exact wpHt_first hi' (Region.noSelect_spec hsel) (fun c a w => hQ c a _ _ w) hwait hin (fun listed' a' w' hL => seqB_ready hL.1) f listed a w inv (Region.free_spec hi' hk.2) hr hy hS
        ((ih f false _ _ _ (inv.set hr hin) hS hB hK).1 rfl)
    · rw [if_neg hc] at hk h
      have step : i ∈ Region.ready md l.toArray listed → wpOp P l.toArray Q i (fun a' w' => S w' ∧ wpHt P md l.toArray Q S n (fun listed' a' w' => Region.seqB md l.toArray g n listed' = true ∧ T a' w') f (listed.setIfInBounds i true) a' w') a w := by
        intro hr
        have key : ∀ a' w', S w' ∧ SegT P l S Q T t a' w' → S w' ∧ wpHt P md l.toArray Q S n (fun listed' a' w' => Region.seqB md l.toArray g n listed' = true ∧ T a' w') f (listed.setIfInBounds i true) a' w' := fun a' w' h' =>
          ⟨h'.1, (ih f false _ _ _ (inv.set hr hin) h'.1 hB h'.2).1 rfl⟩
        unfold wpOp
        simp only [hi']
        split
        · rename_i hw
          rw [if_pos hw] at h
          exact h.imp (Oper.wp_mono key) id
        · rename_i hw
          rw [if_neg hw] at h
          exact (key _ _ ⟨hS, h⟩).2 |> fun x => ⟨hS, x⟩
      refine ⟨fun ha => ?_, fun _ => ⟨Nat.succ_pos _, fun j hj hr => ?_⟩⟩
      · subst ha
        have hk : Region.ready md l.toArray listed = [i] := by simpa using hk
        have hr : i ∈ Region.ready md l.toArray listed := by rw [hk]; simp
        refine ⟨by rw [hk]; simp, fun j hj => ?_⟩
        rw [hk] at hj
        obtain rfl : j = i := by simpa using hj
        exact ⟨hin, step hr⟩
      · obtain rfl : j = i := by simpa [Pl.heads] using hj
        exact ⟨hin, step hr⟩
  | alt x y ihx ihy =>
    intro f alt listed a w inv hS hB h
    simp only [Region.treeGo, Bool.and_eq_true, Bool.or_eq_true] at hB
    obtain ⟨⟨hr, hx⟩, hy⟩ := hB
    obtain ⟨h1, h2⟩ := (ihx f true listed a w inv hS hx h.1).2 rfl
    obtain ⟨_, h3⟩ := (ihy f true listed a w inv hS hy h.2).2 rfl
    have both : ∀ i ∈ (x.heads ++ y.heads), i ∈ Region.ready md l.toArray listed → i < n ∧ wpOp P l.toArray Q i (fun a' w' => S w' ∧ wpHt P md l.toArray Q S n (fun listed' a' w' => Region.seqB md l.toArray g n listed' = true ∧ T a' w') (f - 1) (listed.setIfInBounds i true) a' w') a w := by
      intro i hi hr
      rcases List.mem_append.1 hi with h | h
      · exact h2 i h hr
      · exact h3 i h hr
    refine ⟨fun ha => ?_, fun _ => ⟨h1, both⟩⟩
    subst ha
    obtain ⟨f, rfl⟩ : ∃ m, f = m + 1 := ⟨f - 1, by omega⟩
    simp only [Bool.false_eq_true, false_or, decide_eq_true_eq, List.all_eq_true] at hr
    exact ⟨hr.1, fun i hi => both i (by simpa using hr.2 i hi) hi⟩

/-- ONE WALK FOR A REGION THAT DRAWS ITS ORDER, along a tree of plans. -/
theorem wp_region_tree {id : Nat} {a : Act} {w : World} {l : List Oper} (S : World → Prop) (n : Nat) (t : Pl) (hm : P.follows .mixedOrders = true)
    (hB : Region.treeB .any l.toArray n t = true) (hQ : ∀ c a d v w, Q (.panic c) (a.put d v) w → Q (.panic c) a w) (hS : S w.drew)
    (h : SegT P l S Q (fun a' w' => wpList P l.toArray Q (l.drop n) a' w') t a w.drew) : (Code.region id l.toArray true).wp P Q a w := by
  simp only [Region.treeB, Bool.and_eq_true, Bool.or_eq_true, decide_eq_true_eq] at hB
  obtain ⟨⟨⟨hsel, hn⟩, htail⟩, hgo⟩ := hB
  have hn' : n ≤ l.length := by simpa using hn
  have hwait : ∀ listed, HeadInv .any l.toArray n listed → ∀ i, i < n → listed.getD i true = false → ∀ t, n ≤ t → t ∉ Region.ready .any l.toArray listed := by
    intro listed inv i hin hun t ht hr
    rcases htail with htail | ⟨hs, hc⟩
    · obtain ⟨_, ot, hot, _⟩ := mem_ready.1 hr
      have := (Array.getElem?_eq_some_iff.1 hot).1
      omega
    · rcases Nat.lt_or_ge n l.toArray.size with hlt | hge
      · exact tail_waits hs hc hlt inv _ i rfl hin hun t ht hr
      · obtain ⟨_, ot, hot, _⟩ := mem_ready.1 hr
        have := (Array.getElem?_eq_some_iff.1 hot).1
        omega
  have inv0 : HeadInv .any l.toArray n (Array.replicate l.toArray.size false) :=
    ⟨by simp, fun j oj _ hl => (by rw [getD_replicate_false] at hl; cases hl), fun t _ ht => getD_in (by simpa using ht) (getD_replicate_false _ _)⟩
  have H := (treeGo_sound (md := .any) (g := l.toArray.size - n) hsel hQ hwait t n false _ a w.drew inv0 hS hgo h).1 rfl
  refine wp_region_any hm ?_
  have := wpAny_of_ht (Q := Q) (g := l.toArray.size - n) (fun listed a' w' (hL : Region.seqB .any l.toArray (l.toArray.size - n) n listed = true ∧ wpList P l.toArray Q (l.drop n) a' w') => by
    have hdl : (l.drop n).length = l.toArray.size - n := by simp
    have := wpAny_of_seq (md := .any) (Q' := Q) (l.drop n) n listed a' w' (fun j => by simp [List.getElem?_drop]) (by rw [hdl]; exact hL.1) hL.2
    rwa [hdl] at this) _ _ _ _ H
  rw [show n + (l.toArray.size - n) = l.toArray.size by simp; omega] at this
  exact this

/-! The steps -/
theorem SegT.nil {l : List Oper} {T : Act → World → Prop} {a : Act} {w : World} (h : T a w) : SegT P l S Q T .nil a w := h
theorem SegT.alt {l : List Oper} {T : Act → World → Prop} {x y : Pl} {a : Act} {w : World} (h1 : SegT P l S Q T x a w) (h2 : SegT P l S Q T y a w) : SegT P l S Q T (.alt x y) a w := ⟨h1, h2⟩
theorem SegT.takeK {l : List Oper} {T : Act → World → Prop} {o : Oper} {i : Nat} {t : Pl} {a : Act} {w : World} (ho : l[i]? = some o) (hc : o.calm = true) (hw : Region.wanted o (yielded l.toArray a.tmps) = true)
    (h : ∀ K : Act → Prop, (∀ a, SegT P l S Q T t a w → K a) → ∃ v, (∀ ws, S ws → (execOp a.eval o).run P ws = .ok (.value v) ws) ∧ K (a.put o.dst v)) : SegT P l S Q T (.one i t) a w := by
  obtain ⟨v, hy, hK⟩ := h _ (fun _ h => h)
  refine ⟨o, ho, ?_⟩
  rw [if_pos hc]; exact ⟨v, .inl ⟨hw, hy⟩, hK⟩
theorem SegT.passK {l : List Oper} {T : Act → World → Prop} {o : Oper} {i : Nat} {t : Pl} {a : Act} {w : World} (ho : l[i]? = some o) (hw : Region.wanted o (yielded l.toArray a.tmps) = false)
    (h : ∀ K : Act → Prop, (∀ a, SegT P l S Q T t a w → K a) → K (a.put o.dst undef)) : SegT P l S Q T (.one i t) a w := by
  have hK := h _ (fun _ h => h)
  refine ⟨o, ho, ?_⟩
  split
  · exact ⟨undef, .inr ⟨hw, rfl⟩, hK⟩
  · rw [if_neg (by simp [hw])]; exact hK
theorem SegT.loud {l : List Oper} {T : Act → World → Prop} {o : Oper} {i : Nat} {t : Pl} {a : Act} {w : World} (ho : l[i]? = some o) (hc : o.calm = false) (hw : Region.wanted o (yielded l.toArray a.tmps) = true)
    (h : ∀ K : Act → World → Prop, (∀ a w, S w → SegT P l S Q T t a w → K a w) → o.wp P a w K Q) : SegT P l S Q T (.one i t) a w := by
  refine ⟨o, ho, ?_⟩
  rw [if_neg (by simp [hc]), if_pos hw]; exact .inl (h _ (fun _ _ h1 h2 => ⟨h1, h2⟩))
/-- The same, where the head only adds blocks. -/
theorem wp_tree_ext {id : Nat} {a : Act} {w : World} {l : List Oper} (n : Nat) (t : Pl) (hm : P.follows .mixedOrders = true)
    (hB : Region.treeB .any l.toArray n t = true) (hQ : ∀ c a d v w, Q (.panic c) (a.put d v) w → Q (.panic c) a w)
    (h : SegT P l (fun ws => ∀ b o, b < w.heap.size → ws.cell? ⟨b, o, none⟩ = w.cell? ⟨b, o, none⟩) Q (fun a' w' => wpList P l.toArray Q (l.drop n) a' w') t a w.drew) : (Code.region id l.toArray true).wp P Q a w :=
  wp_region_tree _ n t hm hB hQ (fun _ _ _ => rfl) h
/-- The same, where nothing in the head changes a cell. -/
theorem wp_tree_same {id : Nat} {a : Act} {w : World} {l : List Oper} (n : Nat) (t : Pl) (hm : P.follows .mixedOrders = true)
    (hB : Region.treeB .any l.toArray n t = true) (hQ : ∀ c a d v w, Q (.panic c) (a.put d v) w → Q (.panic c) a w)
    (h : SegT P l (fun ws => ∀ ad, ws.cell? ad = w.cell? ad) Q (fun a' w' => wpList P l.toArray Q (l.drop n) a' w') t a w.drew) : (Code.region id l.toArray true).wp P Q a w :=
  wp_region_tree _ n t hm hB hQ (fun _ => rfl) h
end
end Go
