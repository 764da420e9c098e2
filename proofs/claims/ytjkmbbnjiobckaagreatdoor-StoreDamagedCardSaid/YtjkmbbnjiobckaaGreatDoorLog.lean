/-
  store.log: the frames of a half.
-/
import Derived.Test.YtjkmbbnjiobckaaGreatDoorNext
namespace Go.Proofs.YtjkmbbnjiobckaaGreatDoor
open Go.RowKit
/-- The frames that follow. -/
def logRest (gen : Nat) : Nat → Nat → List (List UInt8) → List (List UInt8)
  | 0, _, _ => []
  | m + 1, k, l => match nextOf l with
    | some (g, f, n, b) => if g = gen ∧ f = k then b :: logRest gen m (k + 1) (l.drop n) else []
    | none => []
/-- The log of a half: its gen and its frames. -/
def logFrom (half : List (List UInt8)) (r : Option (Nat × Nat × Nat × List UInt8)) : Option (Nat × List (List UInt8)) :=
  match r with
  | some (g, f, n, b) => if f = 0 then some (g, b :: logRest g half.length 1 (half.drop n)) else none
  | none => none
def logOf (half : List (List UInt8)) : Option (Nat × List (List UInt8)) := logFrom half (nextOf half)
def LogP (w : World) (r : Option (Nat × List (List UInt8))) (e : Ending) (w' : World) : Prop :=
  (match r with
    | none => e = .returned (.tuple #[.int .i64 0, .slice none 0 0, .bool false])
    | some (g, fr) => ∃ v, e = .returned (.tuple #[.int .i64 g, v, .bool true]) ∧ OwnSs w' w.heap.size v fr) ∧ Below w.heap.size w w'
theorem nextOf_some {ll : List (List UInt8)} {g f n : Nat} {b : List UInt8} (h : nextOf ll = some (g, f, n, b)) : 1 ≤ n ∧ n ≤ ll.length := by
  cases ll with
  | nil => cases h
  | cons s rest =>
    unfold nextOf at h
    simp only at h
    split at h
    · rename_i hc
      obtain ⟨h1, h2⟩ := hc
      have h3 : indexOf s < numberOf s := by
        unfold isSector at h1
        simp only [Bool.and_eq_true, decide_eq_true_eq] at h1
        omega
      cases hf : frameOfSectors (List.take (numberOf s) (s :: rest)) with
      | none => rw [hf] at h; cases h
      | some r =>
        rw [hf] at h
        simp only [Option.map_some, Option.some.injEq, Prod.mk.injEq] at h
        obtain ⟨-, -, rfl, -⟩ := h
        exact ⟨by omega, h2⟩
    · cases h
theorem own_row1 {w : World} {base : Nat} {v : Value} {l : List UInt8} (h : FrB w base v l) (hb : base ≤ w.heap.size) : OwnSs (w.alloc (.cells #[v] 22)) base (.slice (some ⟨w.heap.size, 0, none⟩) 1 1) [l] := by
  have := World.ownsRow_lit (base := base) (e := 22) (size := 1) w #[v] 1 hb (by decide) rfl
  refine ⟨[v], OwnVs.mk this rfl, rfl, fun i x hi => ?_⟩
  match i, hi with
  | 0, hi => cases hi; exact ⟨l, rfl, h.mono ((Below.refl _ _).alloc (Nat.le_refl _) _)⟩
set_option maxRecDepth 100000 in
set_option maxHeartbeats 2000000 in
theorem log39 (v : Value) (half : List (List UInt8)) (w : World) (hs : Slcs w v half) (hlen : half.length ≤ 1000000) : Calls Tryz.prog 39 #[v] w (LogP w (logOf half)) := by
  have HS := Lib.hid hs
  obtain ⟨a, cap, vs, rfl, hrow, -⟩ := hs
  have hlcap := hrow.le
  have E := Lib.hid (next72 (.slice a half.length cap) half w HS.out hlen)
  obtain ⟨r, hr⟩ : ∃ r, r = nextOf half := ⟨_, rfl⟩
  have HL : Hid (logOf half = logFrom half r) := by simp only [Hid]; rw [hr]; rfl
  rw [← hr] at E
  have HR := Lib.hid hr
  clear hrow hr
  cases r with
  | none =>
    go_enter Tryz.func39, Tryz.ntmps39
    go_wp2_with fail
    with_reducible refine E.out.mono ?_
    rintro e1 w1 ⟨hret, hb1⟩
    obtain ⟨n, rfl⟩ := hret
    have HB := Lib.hid hb1
    clear hb1
    go_wp2
    refine bodyPost_ret (v := .tuple #[.int .i64 0, .slice none 0 0, .bool false]) (by simp [results, Tryz.results39, go_sem]) rfl ?_
    rw [HL.out]
    exact ⟨rfl, HB.out⟩
  | some r =>
    obtain ⟨g, f, n, b⟩ := r
    obtain ⟨hn1, hn2⟩ := nextOf_some HR.out.symm
    by_cases hf : f = 0
    · subst hf
      have HL2 : Hid (logOf half = some (g, b :: logRest g half.length 1 (half.drop n))) := HL.out
      go_enter Tryz.func39, Tryz.ntmps39
      go_wp2_with fail
      with_reducible refine E.out.mono ?_
      rintro e1 w1 ⟨hret, hb1⟩
      obtain ⟨bv, rfl, hfr⟩ := hret
      have HB := Lib.hid hb1
      have HO1 := Lib.hid (own_row1 hfr hb1.size)
      obtain ⟨ba, bn, bc, rfl⟩ := hfr.form
      clear hfr hb1
      go_wp2
      go_loopw [10, 7, 11] (fun v i at' wr => ∃ (m A N : Nat) (cur : List (List UInt8)), A ≤ half.length ∧ at' = .int .i64 (A : Int) ∧ i = .int .i64 (N : Int) ∧ half.length - A ≤ m ∧ OwnSs wr w.heap.size v cur ∧ b :: logRest g half.length 1 (half.drop n) = cur ++ logRest g m cur.length (half.drop A) ∧ cur.length ≤ A ∧ Below w.heap.size w wr) (fun _ _ at' _ => half.length - (intOf at').toNat)
      case atStart => exact ⟨half.length, n, n, [b], hn2, rfl, rfl, by omega, HO1.out, rfl, hn1, HB.out.alloc HB.out.size _⟩
      case round =>
        obtain ⟨m, A, N, cur, hA, rfl, rfl, hm, ho, hlog, hcl, hb⟩ := hrel
        have HO := Lib.hid ho
        have HLG := Lib.hid hlog
        have HBR := Lib.hid hb
        obtain ⟨us, ⟨oa, ocap, rfl, -⟩, hul, -⟩ := ho
        have hAI : (A : Int) ≤ half.length := by omega
        have hAI2 : (A : Int) ≤ cap := by omega
        have HBK := Lib.hid ((HS.out.mono HBR.out).back hA)
        have EN := Lib.hid (next72 _ (half.drop A) wr HBK.out (by simp; omega))
        rw [hul] at HO ⊢
        clear hlog hb hul
        obtain ⟨r2, hr2⟩ : ∃ r, r = nextOf (half.drop A) := ⟨_, rfl⟩
        rw [← hr2] at EN
        have HR2 := Lib.hid hr2
        clear hr2
        cases r2 with
        | none =>
          have HFIN : Hid (b :: logRest g half.length 1 (half.drop n) = cur) := by
            simp only [Hid]; rw [HLG.out]
            cases m with
            | zero => simp [logRest]
            | succ m => rw [logRest, ← HR2.out]; simp
          go_wp2_with fail
          with_reducible refine EN.out.mono ?_
          rintro e2 w2 ⟨hret, hb2⟩
          obtain ⟨n2, rfl⟩ := hret
          have HB2 := Lib.hid (HBR.out.trans (hb2.mono HBR.out.size))
          have HO2 := Lib.hid (HO.out.mono hb2)
          clear hb2
          go_wp2
          refine bodyPost_ret (v := .tuple #[.int .i64 g, .slice oa cur.length ocap, .bool true]) (by simp [results, Tryz.results39, go_sem]) rfl ?_
          rw [HL2.out, HFIN.out]
          exact ⟨⟨_, rfl, HO2.out⟩, HB2.out⟩
        | some r2 =>
          obtain ⟨g2, f2, n2, b2⟩ := r2
          obtain ⟨hk1, hk2⟩ := nextOf_some HR2.out.symm
          rw [List.length_drop] at hk2
          obtain ⟨m, rfl⟩ : ∃ k, m = k + 1 := ⟨m - 1, by omega⟩
          by_cases hgf : g2 = g ∧ f2 = cur.length
          · have HNX : Hid (b :: logRest g half.length 1 (half.drop n) = (cur ++ [b2]) ++ logRest g m (cur ++ [b2]).length (half.drop (A + n2))) := by
              simp only [Hid]; rw [HLG.out, logRest, ← HR2.out]
              simp only [if_pos hgf]
              rw [List.drop_drop, List.append_assoc]; simp
            obtain ⟨rfl, rfl⟩ := hgf
            have q1 : IntKind.i64.wrap ((A : Int) + (n2 : Int)) = (A : Int) + (n2 : Int) := IntWalk.i64_in _ (by omega)
            go_wp2_with fail
            with_reducible refine EN.out.mono ?_
            rintro e2 w2 ⟨hret, hb2⟩
            obtain ⟨cv, rfl, hfr⟩ := hret
            have HB2 := Lib.hid (HBR.out.trans (hb2.mono HBR.out.size))
            have HO2 := Lib.hid (HO.out.mono hb2)
            have HFR := Lib.hid (hfr.lower HBR.out.size)
            obtain ⟨ca, cn, cc, rfl⟩ := hfr.form
            clear hfr hb2
            go_wp2_with (at_builtin; refine append_row rfl rfl rfl rfl HO2.out HFR.out (by omega) HB2.out.size ?d1)
            case d1 =>
              intro za zn zc w3 h3 hb3
              have HO3 := Lib.hid h3
              have HB3 := Lib.hid (HB2.out.trans hb3)
              clear h3 hb3
              go_wp2
              go_roundw
              case rel => exact ⟨m, A + n2, n2, cur ++ [b2], by omega, by go_num, rfl, by omega, HO3.out, HNX.out, by simp; omega, HB3.out⟩
              case measure => simp [intOf]; omega
          · have HFIN : Hid (b :: logRest g half.length 1 (half.drop n) = cur) := by
              simp only [Hid]; rw [HLG.out, logRest, ← HR2.out]
              simp only [if_neg hgf]; simp
            go_wp2_with fail
            with_reducible refine EN.out.mono ?_
            rintro e2 w2 ⟨hret, hb2⟩
            obtain ⟨cv, rfl, hfr⟩ := hret
            have HB2 := Lib.hid (HBR.out.trans (hb2.mono HBR.out.size))
            have HO2 := Lib.hid (HO.out.mono hb2)
            obtain ⟨ca, cn, cc, rfl⟩ := hfr.form
            clear hfr hb2
            by_cases hg : g2 = g
            · subst hg
              have hne : ((f2 : Int) != cur.length) = true := by simp; omega
              clear hgf
              go_wp2
              refine bodyPost_ret (v := .tuple #[.int .i64 g2, .slice oa cur.length ocap, .bool true]) (by simp [results, Tryz.results39, go_sem]) rfl ?_
              rw [HL2.out, HFIN.out]
              exact ⟨⟨_, rfl, HO2.out⟩, HB2.out⟩
            · have hne : ((g2 : Int) != g) = true := by simp; omega
              clear hgf hg
              go_wp2
              refine bodyPost_ret (v := .tuple #[.int .i64 g, .slice oa cur.length ocap, .bool true]) (by simp [results, Tryz.results39, go_sem]) rfl ?_
              rw [HL2.out, HFIN.out]
              exact ⟨⟨_, rfl, HO2.out⟩, HB2.out⟩
    · have HL2 : Hid (logOf half = none) := by
        simp only [Hid]; rw [HL.out]; simp only [logFrom, if_neg hf]
      have hne : ((f : Int) != 0) = true := by simp; omega
      clear hf
      go_enter Tryz.func39, Tryz.ntmps39
      go_wp2_with fail
      with_reducible refine E.out.mono ?_
      rintro e1 w1 ⟨hret, hb1⟩
      obtain ⟨bv, rfl, hfr⟩ := hret
      have HB := Lib.hid hb1
      obtain ⟨ba, bn, bc, rfl⟩ := hfr.form
      clear hfr hb1
      go_wp2
      refine bodyPost_ret (v := .tuple #[.int .i64 0, .slice none 0 0, .bool false]) (by simp [results, Tryz.results39, go_sem]) rfl ?_
      rw [HL2.out]
      exact ⟨rfl, HB.out⟩
end Go.Proofs.YtjkmbbnjiobckaaGreatDoor
