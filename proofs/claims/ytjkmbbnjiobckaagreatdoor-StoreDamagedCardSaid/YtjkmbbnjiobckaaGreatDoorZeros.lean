/-
  'append(x, make([]T, k)...)' on a slice of the call's own, at an element type of one cell: what it held, and k zero values. No function of the program is named here.
-/
import Derived.Test.YtjkmbbnjiobckaaGreatDoorBase
import Derived.Lib.AppendZerosOnto
namespace Go
open Go.RowKit
section
variable {P : Program} (w : World)
theorem zeroCells_list (z : Value) (n : Nat) : (Builtin.zeroCells #[z] n).toList = List.replicate n z := by
  apply List.ext_getElem?
  intro i
  by_cases h : i < n
  · simp [Builtin.zeroCells, h, Nat.mod_one]
  · simp [Builtin.zeroCells, h]
theorem run_append_zeros (base : Nat) (t tn ty e : TypeId) (i : TypeInfo) (z : Value) (bytes : Nat) (kq kn : IntKind) (ht : P.underlying t = some (.slice e)) (htn : P.underlying tn = some (.int kn)) (hi : P.info? e = some i) (hz : i.zero = some z)
    (hsize : i.size = 1) (hby : i.bytes = bytes) (hzs : z.cells = #[z]) (h1 : z.oneCell' = true)
    (a : Option Addr) (n cap : Nat) (xs : List Value) (hown : w.ownsRow base e 1 (.slice a n cap) n xs) (k : Nat)
    (h63 : n + k ≤ maxLen) (hbytes : (n + k) * bytes ≤ 140737488355328) (hbase : base ≤ w.heap.size) :
    ∃ a' cap' w', (Builtin.append_ #[t, tn] ty #[.slice a n cap, .int kq k]).run P w = .ok (.slice a' (n + k) cap') w' ∧ w'.ownsRow base e 1 (.slice a' (n + k) cap') (n + k) (xs ++ List.replicate k z) ∧ w.grownBy w' (Value.slice a n cap).ownBlock := by
  have hsmall : n + k ≤ 9223372036854775807 := by simp only [maxLen] at h63; omega
  have hxl : xs.length = n := by simpa using hown.1
  have hle : n ≤ cap := (ownsRow_row hown).le
  have hw : IntKind.i64.wrap (k : Int) = k := by rw [IntKind.wrap_i64]; omega
  have hneg : ¬ ((k : Int) < 0) := by omega
  have hkb : k * i.bytes ≤ 281474976710656 := by
    have : k * i.bytes ≤ (n + k) * i.bytes := Nat.mul_le_mul_right _ (by omega)
    rw [hby] at this ⊢; omega
  have h48i : ¬ (281474976710656 < (k : Int) * (i.bytes : Int)) := by
    rw [← Int.natCast_mul]; omega
  rcases Nat.eq_zero_or_pos k with rfl | hk
  · refine ⟨a, cap, w, ?_, by simpa using hown, grown_refl _ _⟩
    have hw0 : IntKind.i64.wrap 0 = 0 := by rw [IntKind.wrap_i64]; omega
    cases a <;> simp [Builtin.append_, run_underlying ht, run_underlying htn, sizeOf, typeInfo, hi, asInt, asIntOf, hw0, hle, storeCells]
  · have hlen : (xs ++ List.replicate k z).length = (n + k) * 1 := by simp [hxl]
    have hns : ¬ (k * i.size = 0) := by rw [hsize]; omega
    have hk0 : ¬ (k = 0) := by omega
    rcases hown.2 with ⟨hv, hn0⟩ | ⟨g, cap', cur, hv, hbg, hg, hnc, hcm, hcs, htake⟩
    · cases hv
      have hx : xs = [] := List.length_eq_zero_iff.1 hxl
      subst hx
      have hr := Lib.run_append_nil_zeros (P := P) w t tn ty e i z kq kn ht htn hi hz k hk (by omega) (by omega) hkb
      simp only [Nat.zero_add, List.nil_append] at hlen ⊢
      refine ⟨_, _, _, hr, ?_, ⟨rfl, rfl, rfl, by simp, fun j hj _ => Below.heap_alloc w.drew _ j hj⟩⟩
      have hge := grownCap_ge w k 0 e
      refine ⟨hlen, .inr ⟨w.heap.size, _, _, rfl, hbase, heap_alloc_new w.drew _, hge, grownCap_le_maxLen w k 0 e (by omega), ?_, ?_⟩⟩
      · simp only [Array.size_append, size_zeroCells, hzs]
        simp; omega
      · rw [hzs]
        simp only [Array.toList_append, zeroCells_list]
        rw [List.take_append_of_le_length (by simp)]
        simp
    · cases hv
      by_cases hroom : n + k ≤ cap
      · have hcs' : cur.size = cap := by simpa using hcs
        have hst := run_storeCells_at P g n e (List.replicate k z) 0 cur w hg (by simp; omega) (fun v hv => by rw [List.eq_of_mem_replicate hv]; exact h1)
        simp only [Nat.add_zero] at hst
        refine ⟨_, cap, w.setRow g (cur.toList.take n ++ List.replicate k z ++ cur.toList.drop (n + (List.replicate k z).length)).toArray, ?_, ⟨hlen, .inr ⟨g, cap, _, rfl, hbg, setRow_heap w g cur _ e _ hg, hroom, hcm, ?_, ?_⟩⟩, ⟨rfl, rfl, rfl, by simp, fun j _ hj => setRow_other w g j _ (fun e => hj (by simp [Value.ownBlock, e]))⟩⟩
        · simp [Builtin.append_, run_underlying ht, run_underlying htn, sizeOf, typeInfo, zeroValue, hi, hz, asInt, asIntOf, hw, hneg, h48i, hk0, hsize, hroom, Addr.add_lit, hzs, zeroCells_list, hst]
        · simp; omega
        · have ht' : cur.toList.take n = xs := by simpa using htake
          rw [ht', Nat.mul_one, show n + k = (xs ++ List.replicate k z).length by simp [hxl]]
          exact List.take_left
      · have hold : (Builtin.firstCells i.size n (.slice (some ⟨g, 0, none⟩) n cap)).run P w.drew = .ok xs.toArray w.drew :=
          run_firstCells_some w.drew i.size n _ n cap xs (by rw [hsize]; exact hown.1) (fun j u hj => by
            have := hown.cells (g := g) rfl j u hj
            simpa using this)
        have hr := Lib.run_append_grow_zeros (P := P) w t tn ty e i z kq kn ht htn hi hz (some ⟨g, 0, none⟩) n cap xs hold k hk (by omega) (by omega) (by omega) hkb (by rw [hby]; exact growslice_fits (by omega) hbytes)
        refine ⟨_, _, _, hr, ?_, ⟨rfl, rfl, rfl, by simp, fun j hj _ => Below.heap_alloc w.drew _ j hj⟩⟩
        have hge := grownCap_ge w (n + k) cap e
        refine ⟨hlen, .inr ⟨w.heap.size, _, _, rfl, hbase, heap_alloc_new w.drew _, hge, grownCap_le_maxLen w (n + k) cap e h63, ?_, ?_⟩⟩
        · simp only [Array.size_append, size_zeroCells, hzs]
          simp [hxl]; omega
        · rw [hzs]
          simp only [Array.toList_append, zeroCells_list]
          rw [List.take_append_of_le_length (by simp [hxl]), ← hlen]
          exact List.take_length
theorem wpList_append_zeros {ops : Array Oper} {rest : List Oper} {o : Oper} {ac : Act} {Q : Exit → Act → World → Prop} (hgd : o.guard = none) (s x : Operand) (t tn : TypeId)
    (ho : o.op = .call { callee := .builtin .append, args := #[s, x], argTypes := #[t, tn] })
    (base : Nat) (e : TypeId) (i : TypeInfo) (z : Value) (bytes : Nat) (kq kn : IntKind) (ht : P.underlying t = some (.slice e)) (htn : P.underlying tn = some (.int kn)) (hi : P.info? e = some i) (hz : i.zero = some z)
    (hsize : i.size = 1) (hby : i.bytes = bytes) (hzs : z.cells = #[z]) (h1 : z.oneCell' = true)
    {a : Option Addr} {n cap : Nat} {xs : List Value} {k : Nat} {kk : Int} (hs : ac.eval s = .slice a n cap) (hx : ac.eval x = .int kq kk) (hkk : kk = (k : Int)) (hown : w.ownsRow base e 1 (.slice a n cap) n xs)
    (h63 : n + k ≤ maxLen) (hbytes : (n + k) * bytes ≤ 140737488355328) (hbase : base ≤ w.heap.size)
    (h : ∀ a' cap' w', w'.ownsRow base e 1 (.slice a' (n + k) cap') (n + k) (xs ++ List.replicate k z) → w.grownBy w' (Value.slice a n cap).ownBlock → wpList P ops Q rest (ac.put o.dst (.slice a' (n + k) cap')) w') :
    wpList P ops Q (o :: rest) ac w :=
  wpList_plain hgd fun K hK => by
    subst hkk
    obtain ⟨a', cap', w', hr, h2, h3⟩ := run_append_zeros (P := P) w base t tn o.type e i z bytes kq kn ht htn hi hz hsize hby hzs h1 a n cap xs hown k h63 hbytes hbase
    unfold Oper.wp execOp
    simp only [ho, resolve, invoke, builtin, Sem.run_bind, Sem.run_pure, Result.andThen_ok, List.map_toArray, List.map_cons, List.map_nil, hs, hx, hr]
    exact hK _ _ (h a' cap' w' h2 h3)
end
end Go
