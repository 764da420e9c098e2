/-
  store.next, store.log: the frames at the beginning of some sectors.
-/
import Derived.Test.YtjkmbbnjiobckaaGreatDoorBytes
import Derived.Test.YtjkmbbnjiobckaaGreatDoorCopied
namespace Go.Proofs.YtjkmbbnjiobckaaGreatDoor
open Go.RowKit
/-- The frame at the beginning: gen, frame, the number of its sectors, its bytes. -/
def nextOf (ll : List (List UInt8)) : Option (Nat × Nat × Nat × List UInt8) :=
  match ll with
  | [] => none
  | s :: _ => if isSector s = true ∧ numberOf s ≤ ll.length then (frameOfSectors (ll.take (numberOf s))).map fun r => (r.1, r.2.1, numberOf s, r.2.2) else none
/-- What next hands back. -/
def NextP (w : World) (r : Option (Nat × Nat × Nat × List UInt8)) (e : Ending) (w' : World) : Prop :=
  (match r with
    | none => ∃ n : Int, e = .returned (.tuple #[.int .i64 0, .int .i64 0, .int .i64 n, .slice none 0 0, .bool false])
    | some (g, f, n, b) => ∃ v, e = .returned (.tuple #[.int .i64 g, .int .i64 f, .int .i64 n, v, .bool true]) ∧ FrB w' w.heap.size v b) ∧ Below w.heap.size w w'
theorem Slcs.front {w : World} {a : Option Addr} {n cap : Nat} {ll : List (List UInt8)} (h : Slcs w (.slice a n cap) ll) {k : Nat} (hk : k ≤ ll.length) : Slcs w (.slice a k cap) (ll.take k) := by
  obtain ⟨a', cap', vs, hv, hr, hl, hx⟩ := h
  cases hv
  refine ⟨a, cap, vs.take k, by rw [List.length_take]; congr 1; omega, ?_, by simp; omega, fun i x hi => ?_⟩
  · have := hr.front (sz := 1) (hi := k) (mx := cap) (by have := hr.le; omega) (Nat.le_refl _)
    rw [Nat.mul_one] at this
    rw [List.length_take, show min k ll.length = k by omega]; exact this
  · rw [List.getElem?_take] at hi
    split at hi
    · rename_i hik
      obtain ⟨l, h1, h2⟩ := hx i x hi
      exact ⟨l, by rw [List.getElem?_take, if_pos hik]; exact h1, h2⟩
    · cases hi
theorem Slcs.back {w : World} {a : Option Addr} {n cap : Nat} {ll : List (List UInt8)} (h : Slcs w (.slice a n cap) ll) {k : Nat} (hk : k ≤ ll.length) : Slcs w (.slice (subAddr a cap k 1) (n - k) (cap - k)) (ll.drop k) := by
  obtain ⟨a', cap', vs, hv, hr, hl, hx⟩ := h
  cases hv
  refine ⟨_, cap - k, vs.drop k, by rw [List.length_drop], ?_, by simp; omega, fun i x hi => ?_⟩
  · have := hr.sub (lo := k) (hi := ll.length) (mx := cap) (sz := 1) hk hr.le (Nat.le_refl _)
    rw [Nat.mul_one, Nat.mul_one, List.take_of_length_le (by rw [List.length_drop]; omega)] at this
    rw [List.length_drop]; exact this
  · rw [List.getElem?_drop] at hi
    obtain ⟨l, h1, h2⟩ := hx _ x hi
    exact ⟨l, by rw [List.getElem?_drop]; exact h1, h2⟩
theorem FrB.form {w : World} {base : Nat} {v : Value} {l : List UInt8} (h : FrB w base v l) : ∃ a n c, v = .slice a n c := by
  obtain ⟨a, cap, rfl, -⟩ := h
  exact ⟨_, _, _, rfl⟩
set_option maxRecDepth 100000 in
set_option maxHeartbeats 1000000 in
theorem next72 (v : Value) (ll : List (List UInt8)) (w : World) (hs : Slcs w v ll) (hlen : ll.length ≤ 1000000) : Calls Tryz.prog 72 #[v] w (NextP w (nextOf ll)) := by
  cases ll with
  | nil =>
    obtain ⟨a, cap, vs, rfl, -⟩ := hs
    go_enter Tryz.func72, Tryz.ntmps72
    go_wp2
    exact bodyPost_ret (v := .tuple #[.int .i64 0, .int .i64 0, .int .i64 0, .slice none 0 0, .bool false]) (by simp [results, Tryz.results72, go_sem]) rfl ⟨⟨_, rfl⟩, Below.refl _ _⟩
  | cons s rest =>
    obtain ⟨ll, hll⟩ : ∃ ll, ll = s :: rest := ⟨_, rfl⟩
    have hpos : 0 < ll.length := by rw [hll]; simp
    have hl0 : ll[0] = s := by simp [hll]
    have HN : Hid (nextOf ll = if isSector s = true ∧ numberOf s ≤ ll.length then (frameOfSectors (ll.take (numberOf s))).map fun r => (r.1, r.2.1, numberOf s, r.2.2) else none) := by
      simp only [Hid]; rw [hll]; rfl
    rw [← hll] at hs hlen ⊢
    have HS := Lib.hid hs
    obtain ⟨a, cap, vs, rfl, hrow, -⟩ := hs
    have hlcap := hrow.le
    obtain ⟨b, o, a', c', he, hc, hrw⟩ := HS.out.get 0 hpos
    rw [hl0] at hc hrw
    subst he
    simp only [Nat.add_zero] at hc
    have E := Lib.hid (read_any (.slice a' s.length c') s w (Slc.mk rfl hrw))
    have hnb : numberOf s ≤ 255 := by have := byteAt_lt s 7; unfold numberOf; omega
    have hpb : ((ll.length : Int) == 0) = false := by rw [beq_eq_false_iff_ne]; omega
    have hp1 : (0 : Int) < ll.length := by omega
    clear hrow hrw hll hl0
    cases hb : isSector s
    · have HN2 : Hid (nextOf ll = none) := by simp only [Hid]; rw [HN.out, hb]; simp
      rw [hb] at E
      obtain ⟨hv, hhv⟩ : ∃ x, x = readV s := ⟨_, rfl⟩
      have hform : ∃ g f i n : Int, hv = .agg #[.int .i64 g, .int .i64 f, .int .i64 i, .int .i64 n] := by
        rw [hhv]; unfold readV headV; split <;> exact ⟨_, _, _, _, rfl⟩
      rw [← hhv] at E
      obtain ⟨g, f, i, n, rfl⟩ := hform
      clear hb hhv
      go_enter Tryz.func72, Tryz.ntmps72
      go_wp2_with fail
      with_reducible refine E.out.mono ?_
      rintro _ w1 ⟨rfl, hb1⟩
      have HB := Lib.hid hb1
      clear hb1
      go_wp2
      refine bodyPost_ret (v := .tuple #[.int .i64 0, .int .i64 0, .int .i64 0, .slice none 0 0, .bool false]) (by simp [results, Tryz.results72, go_sem]) rfl ?_
      rw [HN2.out]
      exact ⟨⟨_, rfl⟩, HB.out.alloc HB.out.size _⟩
    · have hsl : s.length = 64 := by
        have := hb
        simp [isSector] at this
        exact this.1.1.1
      rw [hb, show readV s = headV (genOf s) (frameOf s) (indexOf s) (numberOf s) from if_pos hsl] at E
      unfold headV at E
      by_cases hnl : numberOf s ≤ ll.length
      · have HN2 : Hid (nextOf ll = (frameOfSectors (ll.take (numberOf s))).map fun r => (r.1, r.2.1, numberOf s, r.2.2)) := by
          simp only [Hid]; rw [HN.out, if_pos ⟨hb, hnl⟩]
        have hnI : ((numberOf s : Nat) : Int) ≤ ll.length := by omega
        have hnI2 : ((numberOf s : Nat) : Int) ≤ cap := by omega
        have HF := Lib.hid (HS.out.front hnl)
        obtain ⟨N, hN⟩ : ∃ N, N = numberOf s := ⟨_, rfl⟩
        rw [← hN] at E hnI hnI2 HF HN2 hnb hnl
        have hFl : (ll.take N).length = N := by simp; omega
        have EB := Lib.hid (fun W (hb : Below w.heap.size w W) => bytes_any (.slice (some ⟨b, o, none⟩) N cap) (ll.take N) W (HF.out.mono hb) (by omega))
        obtain ⟨r, hr⟩ : ∃ r, r = frameOfSectors (ll.take N) := ⟨_, rfl⟩
        rw [← hr] at EB HN2
        clear hb hsl hN hr hFl hnl
        go_enter Tryz.func72, Tryz.ntmps72
        go_wp2_with fail
        with_reducible refine E.out.mono ?_
        rintro _ w1 ⟨rfl, hb1⟩
        have HB := Lib.hid hb1
        have hz1 : w.heap.size ≤ w1.heap.size := hb1.size
        obtain ⟨k1, k2, k3⟩ := box1 w1 (.cells #[.int .i64 (genOf s), .int .i64 (frameOf s), .int .i64 (indexOf s), .int .i64 N] 56)
        have K1 := Lib.hid k1
        have K2 := Lib.hid k2
        have K3 := Lib.hid k3
        have HB2 := Lib.hid (hb1.trans (k1.mono hz1))
        clear hb1 k1 k2 k3
        go_wp2_with fail
        with_reducible refine (EB.out _ HB2.out).mono ?_
        rintro e2 w2 ⟨hret, hb2⟩
        obtain ⟨d0, d1, d2, d3⟩ := cells4 (block_below hb2 K2.out (by rw [K3.out]; omega))
        have HB3 := Lib.hid (HB2.out.trans (hb2.mono HB2.out.size))
        have HZ := Lib.hid HB2.out.size
        clear hb2
        cases r with
        | none =>
          obtain rfl : e2 = _ := hret
          go_wp2
          refine wp_region_same 11 [0, 1, 2, 3, 4, 5, 6, 7, 8, 9, 10] (by kernel_rfl) (by kernel_rfl) (by intro c a d v w h; cases d <;> exact h) ?_
          simp only [List.filterMap_cons, List.filterMap_nil, List.getElem?_cons_zero, List.getElem?_cons_succ, List.drop_succ_cons, List.drop_zero]
          iterate 11 (refine Seg.takeK rfl rfl (fun K hK => ⟨_, fun ws hws => by go_simp; rfl, ?_⟩); go_simp; refine hK _ ?_; clear hK K)
          refine Seg.nil ?_
          go_wp2
          refine bodyPost_ret (v := .tuple #[.int .i64 0, .int .i64 0, .int .i64 N, .slice none 0 0, .bool false]) (by simp [results, Tryz.results72, go_sem]) rfl ?_
          rw [HN2.out]
          exact ⟨⟨_, rfl⟩, HB3.out.drew⟩
        | some r =>
          obtain ⟨g, f, bb⟩ := r
          obtain ⟨bv, rfl, hfr⟩ := hret
          have HFR := Lib.hid (hfr.lower HZ.out)
          obtain ⟨ba, bn, bc, rfl⟩ := hfr.form
          clear hfr
          go_wp2
          refine wp_region_same 11 [0, 1, 2, 3, 4, 5, 6, 7, 8, 9, 10] (by kernel_rfl) (by kernel_rfl) (by intro c a d v w h; cases d <;> exact h) ?_
          simp only [List.filterMap_cons, List.filterMap_nil, List.getElem?_cons_zero, List.getElem?_cons_succ, List.drop_succ_cons, List.drop_zero]
          iterate 11 (refine Seg.takeK rfl rfl (fun K hK => ⟨_, fun ws hws => by go_simp; rfl, ?_⟩); go_simp; refine hK _ ?_; clear hK K)
          refine Seg.nil ?_
          go_wp2
          refine bodyPost_ret (v := .tuple #[.int .i64 g, .int .i64 f, .int .i64 N, .slice ba bn bc, .bool true]) (by simp [results, Tryz.results72, go_sem]) rfl ?_
          rw [HN2.out]
          exact ⟨⟨_, rfl, HFR.out.mono (Below.refl _ _).drew⟩, HB3.out.drew⟩
      · have HN2 : Hid (nextOf ll = none) := by simp only [Hid]; rw [HN.out, if_neg (fun h => hnl h.2)]
        have hnI : (ll.length : Int) < numberOf s := by omega
        clear hb hsl hnl
        go_enter Tryz.func72, Tryz.ntmps72
        go_wp2_with fail
        with_reducible refine E.out.mono ?_
        rintro _ w1 ⟨rfl, hb1⟩
        have HB := Lib.hid hb1
        clear hb1
        go_wp2
        refine bodyPost_ret (v := .tuple #[.int .i64 0, .int .i64 0, .int .i64 0, .slice none 0 0, .bool false]) (by simp [results, Tryz.results72, go_sem]) rfl ?_
        rw [HN2.out]
        exact ⟨⟨_, rfl⟩, HB.out.alloc HB.out.size _⟩
end Go.Proofs.YtjkmbbnjiobckaaGreatDoor
