/-
  store.copied and its closure; store.left; store.fail.
-/
import Derived.Test.YtjkmbbnjiobckaaGreatDoorNew32
namespace Go.Proofs.YtjkmbbnjiobckaaGreatDoor
open Go.RowKit
theorem OwnD.dskV {w : World} {base : Nat} {x y : Value} {d : Dsk} (h : OwnD w base x y d.now d.safe) : DskV w (.agg #[x, y, .int .i64 d.fuse, .int .i64 d.ops, .bool d.dead]) d := by
  obtain ⟨m, _, h1, _, h2⟩ := h
  exact ⟨x, y, rfl, h1.slcs, h2.slcs⟩
/-- 'append(list, row)' onto a list of rows of the call's own: the walk stands behind the literal of one row. -/
theorem append_row {w : World} {ops : Array Oper} {rest : List Oper} {o : Oper} {ac : Act} {Q : Exit → Act → World → Prop} (hgd : o.guard = none) {s x : Operand}
    (ho : o.op = .call { callee := .builtin .append, args := #[s, x], argTypes := #[25, 25] }) {base : Nat} {v c : Value} {l : List UInt8} {ll : List (List UInt8)}
    (hs : ac.eval s = v) (hx : ac.eval x = .slice (some ⟨w.heap.size, 0, none⟩) 1 1) (hown : OwnSs w base v ll) (hc : FrB w base c l) (hlen : ll.length ≤ 1000000) (hbase : base ≤ w.heap.size)
    (h : ∀ za zn zc w', OwnSs w' base (.slice za zn zc) (ll ++ [l]) → Below base w w' → wpList Tryz.prog ops Q rest (ac.put o.dst (.slice za zn zc)) w') :
    wpList Tryz.prog ops Q (o :: rest) ac (w.alloc (.cells #[c] 22)) := by
  obtain ⟨us, hv, hl, hx'⟩ := hown
  have hal : Below w.heap.size w (w.alloc (.cells #[c] 22)) := (Below.refl _ _).alloc (Nat.le_refl _) _
  have hv1 := hv.mono hal
  have h1 : ∀ u ∈ [c], u.oneCell' = true := by
    obtain ⟨a, cap, rfl, -⟩ := hc
    intro u hu
    obtain rfl := List.mem_singleton.1 hu
    rfl
  refine append_vs (w := w.alloc (.cells #[c] 22)) hgd ho hs hx hv1 row_one rfl h1 (by simp; omega) (Nat.le_trans hbase (le_alloc _ _)) ?_
  intro a' cap' w' g1 g2
  have hv' : OwnVs w' base (.slice a' (us.length + 1) cap') (us ++ [c]) := OwnVs.mk g1 (by simp)
  refine h _ _ _ w' (OwnSs.snoc hv1 hl (fun i z hi => let ⟨l, a, b⟩ := hx' i z hi; ⟨l, a, b.mono hal⟩) (hc.mono hal) hv' g2) ?_
  exact ((hal.mono hbase).grown g2 (Nat.le_trans hbase (le_alloc _ _)) (fun k hk => hv1.ge k hk))
set_option maxRecDepth 100000 in
set_option maxHeartbeats 1000000 in
theorem clone71 (v : Value) (ll : List (List UInt8)) (w : World) (hs : Slcs w v ll) (hlen : ll.length ≤ 1000000) (hrow : ∀ l ∈ ll, l.length ≤ 140737488000000) : Calls Tryz.prog 71 #[v] w (NewSs w ll) := by
  have HS := Lib.hid hs
  have HROW := Lib.hid hrow
  obtain ⟨a, cap, vs, rfl, hr, -, -⟩ := hs
  have hlc := hr.le
  clear hr hrow
  go_enter Tryz.func71, Tryz.ntmps71
  go_wp2
  go_loopw [3, 8, 5] (fun v i _ wr => ∃ k : Nat, k ≤ ll.length ∧ i = .int .i64 (k : Int) ∧ OwnSs wr w.heap.size v (ll.take k) ∧ (∃ a n c, v = .slice a n c) ∧ Below w.heap.size w wr) (fun _ i _ _ => ll.length - (intOf i).toNat)
  case atStart => exact ⟨0, by omega, rfl, OwnSs.nil _ _, ⟨_, _, _, rfl⟩, Below.refl _ _⟩
  case round =>
    obtain ⟨k, hk, rfl, ho, ⟨xa, xn, xc, rfl⟩, hb⟩ := hrel
    have HO := Lib.hid ho
    have HB := Lib.hid hb
    clear ho hb
    by_cases hlt : k < ll.length
    · obtain ⟨b, o, a', c', he, hc, hrw⟩ := (HS.out.mono HB.out).get k hlt
      cases he
      have hlt' : (k : Int) < ll.length := by omega
      have E := Lib.hid (clone70 (.slice a' ll[k].length c') ll[k] wr (Slc.mk rfl hrw) (HROW.out _ (List.getElem_mem _)))
      have HTK : Hid (ll.take (k + 1) = ll.take k ++ [ll[k]]) := by simp only [Hid]; rw [List.take_add_one, List.getElem?_eq_getElem hlt]; rfl
      clear hrw
      go_wp2_with fail
      with_reducible refine E.out.mono ?_
      rintro _ w2 ⟨x, rfl, hox, hb2⟩
      have HO2 := Lib.hid (HO.out.mono hb2)
      have HOX := Lib.hid (hox.fr.lower HB.out.size)
      have HB2 := Lib.hid (HB.out.trans (hb2.mono HB.out.size))
      obtain ⟨ya, yc, rfl, -⟩ := hox
      clear hb2
      go_wp2_with (at_builtin; refine append_row rfl rfl rfl rfl HO2.out HOX.out (by simp; omega) HB2.out.size ?d1)
      case d1 =>
        intro za zn zc w3 h3 hb3
        have HO3 := Lib.hid h3
        have HB3 := Lib.hid (HB2.out.trans hb3)
        clear h3 hb3
        go_wp2
        go_roundw
        case rel => exact ⟨k + 1, by omega, by go_num, (by first | exact HO3.out | (rw [HTK.out]; exact HO3.out)), ⟨_, _, _, rfl⟩, HB3.out⟩
        case measure => simp [intOf]; omega
    · obtain rfl : k = ll.length := by omega
      rw [List.take_length] at HO
      go_wp2
      go_ret
      exact ⟨_, rfl, HO.out, HB.out⟩
set_option maxRecDepth 100000 in
set_option maxHeartbeats 2000000 in
theorem copied38 (v : Value) (d : Dsk) (w : World) (h : DskV w v d) (hsm : d.small) :
    Calls Tryz.prog 38 #[v] w fun e w' => (∃ x y, e = .returned (.agg #[x, y, .int .i64 d.fuse, .int .i64 d.ops, .bool d.dead]) ∧ OwnD w' w.heap.size x y d.now d.safe) ∧ Below w.heap.size w w' := by
  obtain ⟨x, y, rfl, hx, hy⟩ := h
  obtain ⟨now, safe, fuse, ops, dead⟩ := d
  obtain ⟨s1, s2, s3, s4⟩ := hsm
  have HS3 := Lib.hid s3
  have HS4 := Lib.hid s4
  simp only at hx hy s1 s2 HS3 HS4
  have HX := Lib.hid hx
  have HY := Lib.hid hy
  obtain ⟨a, cap, vs, rfl, -⟩ := hx
  obtain ⟨a2, cap2, vs2, rfl, -⟩ := hy
  clear s3 s4
  go_enter Tryz.func38, Tryz.ntmps38
  go_wp2_with fail
  refine wp_world (fun w' => Below w.heap.size w w' ∧ w'.heap[w.heap.size]? = some _ ∧ w'.heap[w.heap.size + 1]? = some _ ∧ w'.heap.size = w.heap.size + 2) (box2 w _ _) ?_
  rintro w0 ⟨hb0, hh0, hh1, hz0⟩
  obtain ⟨c0, c1, c2, c3, c4⟩ := cells5 hh0
  have HB0 := Lib.hid hb0
  have HH0 := Lib.hid hh0
  have HH1 := Lib.hid hh1
  have hlt0 : w.heap.size < w0.heap.size := by omega
  have HZ0 := Lib.hid hz0
  clear hb0 hh0 hh1 hz0
  refine wp_region_ext 9 [0, 1, 2, 4, 5, 6, 3, 8, 7] (by kernel_rfl) (by kernel_rfl) (by intro c a d v w h; cases d <;> exact h) ?_
  simp only [List.filterMap_cons, List.filterMap_nil, List.getElem?_cons_zero, List.getElem?_cons_succ, List.drop_succ_cons, List.drop_zero]
  iterate 6 (refine Seg.takeK rfl rfl (fun K hK => ⟨_, fun ws hws => by go_simp; rfl, ?_⟩); go_simp; refine hK _ ?_; clear hK K)
  refine Seg.loud rfl rfl (fun K hK => ?_)
  go_wp2_with fail
  with_reducible refine (clone71 _ now _ (HX.out.mono HB0.out).drew s1 HS3.out).mono ?_
  rintro _ w1 ⟨x1, rfl, ho1, hb1⟩
  have HO1 := Lib.hid ho1
  have HB1 := Lib.hid hb1
  clear ho1 hb1
  refine hK _ _ (fun b o h => HB1.out.cell (p := ⟨b, o, none⟩) h) ?_
  clear hK K
  iterate 1 (refine Seg.takeK rfl rfl (fun K hK => ⟨_, fun ws hws => by go_simp; rfl, ?_⟩); go_simp; refine hK _ ?_; clear hK K)
  refine Seg.loud rfl rfl (fun K hK => ?_)
  go_wp2_with fail
  with_reducible refine (clone71 _ safe _ ((HY.out.mono HB0.out).drew.mono HB1.out) s2 HS4.out).mono ?_
  rintro _ w2 ⟨y1, rfl, ho2, hb2⟩
  have HO2 := Lib.hid ho2
  have HB2 := Lib.hid (HB1.out.trans (hb2.mono HB1.out.size))
  have HO12 := Lib.hid (HO1.out.mono hb2)
  clear ho2 hb2
  refine hK _ _ (fun b o h => HB2.out.cell (p := ⟨b, o, none⟩) h) ?_
  have hh := block_below HB2.out HH0.out hlt0
  have hh1 := block_below HB2.out HH1.out (show w.heap.size + 1 < w0.heap.size by have := HZ0.out; omega)
  have fr := free_all hh
  have fr1 := free_all hh1
  obtain ⟨d0, d1, d2, d3, d4⟩ := cells5 hh
  obtain ⟨e0, e1, e2, e3, e4⟩ := cells5 hh1
  have hlt2 : w.heap.size + 1 < w2.heap.size := (Array.getElem?_eq_some_iff.1 hh1).1
  have HHH := Lib.hid hh
  obtain ⟨us, ⟨xa, xc, rfl, -⟩, -, -⟩ := HO1.out
  obtain ⟨us2, ⟨xa2, xc2, rfl, -⟩, -, -⟩ := HO2.out
  have HH2 := Lib.hid hh1
  clear hh hh1
  clear hK K
  refine Seg.nil ?_
  go_wp2
  refine post_world (fun w' => w'.heap[w.heap.size + 1]? = some (.cells #[.slice xa us.length xc, .slice xa2 us2.length xc2, .int .i64 fuse, .int .i64 ops, .bool dead] 36 (0, 0)) ∧ OwnD w' w.heap.size (.slice xa us.length xc) (.slice xa2 us2.length xc2) now safe ∧ Below w.heap.size w w') ⟨?_, ?_, ?_⟩ ?_
  · exact set5 (other_set (other_set HH2.out (by omega)) (by omega))
  · have h0 : OwnD w2 w0.heap.size (.slice xa us.length xc) (.slice xa2 us2.length xc2) now safe := ⟨_, HB1.out.size, HO12.out, HO1.out.block_lt, HO2.out⟩
    exact (h0.above (((((Above.refl _ _).set hlt0 _).set hlt0 _).set5 (by have := HZ0.out; omega) _ _ _ _ _)) (Nat.le_refl _)).lower (by omega)
  · exact below_set5 (((HB0.out.drew.trans (HB2.out.mono HB0.out.size)).setCell (Nat.le_refl _) _).setCell (Nat.le_refl _) _) (Nat.le_succ _) _ _ _ _ _
  · rintro w9 ⟨hh9, ho9, hb9⟩
    obtain ⟨e0, e1, e2, e3, e4⟩ := cells5 hh9
    exact bodyPost_ret (v := .agg #[.slice xa us.length xc, .slice xa2 us2.length xc2, .int .i64 fuse, .int .i64 ops, .bool dead]) (by simp [results, Tryz.results38, go_sem, e0, e1, e2, e3, e4]) rfl ⟨⟨_, _, rfl, ho9⟩, hb9⟩
set_option maxRecDepth 100000 in
set_option maxHeartbeats 1000000 in
theorem left84 (v v2 : Value) (d d2 : Dsk) (w : World) (h : DskV w v d) (h2 : DskV w v2 d2) (hsm : d.small) :
    Calls Tryz.prog 84 #[v, v2] w fun e w' => (if d2.validB then e = .returned v2 else ∃ x y, e = .returned (.agg #[x, y, .int .i64 d.fuse, .int .i64 d.ops, .bool d.dead]) ∧ OwnD w' w.heap.size x y d.now d.safe) ∧ Below w.heap.size w w' := by
  have HD := Lib.hid h
  have HD2 := Lib.hid h2
  have HSM := Lib.hid hsm
  have E := fun W (hb : Below w.heap.size w W) => Lib.hid (valid78 v2 d2 W (h2.mono hb))
  obtain ⟨x, y, rfl, -, -⟩ := h
  obtain ⟨x2, y2, rfl, hx2, hy2⟩ := h2
  have HX2 := Lib.hid hx2
  have HY2 := Lib.hid hy2
  obtain ⟨xa, xc, xs, rfl, -⟩ := hx2
  obtain ⟨ya, yc, ys, rfl, -⟩ := hy2
  have K3 := Lib.hid (fun (d d2 : Dsk) => box3 w (.cells #[x, y, .int .i64 d.fuse, .int .i64 d.ops, .bool d.dead] 36) (.cells #[.slice xa d2.now.length xc, .slice ya d2.safe.length yc, .int .i64 d2.fuse, .int .i64 d2.ops, .bool d2.dead] 36) (.cells #[.slice none 0 0, .slice none 0 0, .int .i64 0, .int .i64 0, .bool false] 36))
  clear hsm
  cases hv : d2.validB
  · rw [hv] at E
    have HE := Lib.hid E
    clear E hv
    obtain ⟨now, safe, fuse, ops, dead⟩ := d
    obtain ⟨now2, safe2, fuse2, ops2, dead2⟩ := d2
    simp only [Bool.false_eq_true, if_false] at HE HX2 HY2 ⊢
    go_enter Tryz.func84, Tryz.ntmps84
    go_wp2_with fail
    with_reducible refine ((HE.out _ (box3 w _ _ _).1).out).mono ?_
    rintro _ w1 ⟨rfl, hb1⟩
    obtain ⟨k1, k2, k3, k4, k5⟩ := K3.out ⟨now, safe, fuse, ops, dead⟩ ⟨now2, safe2, fuse2, ops2, dead2⟩
    rw [k5] at hb1
    have hh := block_below hb1 k4 (by omega)
    have hh0 := block_below hb1 k2 (by omega)
    obtain ⟨c0, c1, c2, c3, c4⟩ := cells5 hh0
    have B1 := Lib.hid (k1.trans (hb1.mono (by omega)))
    have HH := Lib.hid hh
    have hsz : w.heap.size + 1 + 1 < w1.heap.size := (Array.getElem?_eq_some_iff.1 hh).1
    clear hb1 k1 k2 k3 k4 k5 hh hh0
    go_wp2_with fail
    with_reducible refine (copied38 _ ⟨now, safe, fuse, ops, dead⟩ _ (HD.out.mono B1.out) HSM.out).mono ?_
    rintro _ w2 ⟨⟨x3, y3, rfl, ho3⟩, hb2⟩
    have hh2 := block_below hb2 HH.out hsz
    obtain ⟨e0, e1, e2, e3, e4⟩ := cells5 hh2
    have fr := free_all hh2
    have B2 := Lib.hid (B1.out.trans (hb2.mono B1.out.size))
    have HO3 := Lib.hid ho3
    have HH2 := Lib.hid hh2
    obtain ⟨a1, n1, a2, n2, rfl, rfl⟩ := ho3.len
    clear hb2 hh2 ho3 c0 c1 c2 c3 c4
    go_wp2
    refine post_world (DskAt w (w.heap.size + 1 + 1) (.slice a1 now.length n1) (.slice a2 safe.length n2) ⟨now, safe, fuse, ops, dead⟩) (disk_end B2.out (by omega) HH2.out HO3.out hsz) ?_
    rintro w9 ⟨hh9, ho9, hb9⟩
    obtain ⟨e0, e1, e2, e3, e4⟩ := cells5 hh9
    exact bodyPost_ret (v := .agg #[.slice a1 now.length n1, .slice a2 safe.length n2, .int .i64 fuse, .int .i64 ops, .bool dead]) (by simp [results, Tryz.results84, go_sem, e0, e1, e2, e3, e4]) rfl ⟨⟨_, _, rfl, ho9⟩, hb9⟩
  · rw [hv] at E
    have HE := Lib.hid E
    clear E hv
    obtain ⟨now, safe, fuse, ops, dead⟩ := d
    obtain ⟨now2, safe2, fuse2, ops2, dead2⟩ := d2
    simp only [if_true] at HE HX2 HY2 ⊢
    go_enter Tryz.func84, Tryz.ntmps84
    go_wp2_with fail
    with_reducible refine ((HE.out _ (box3 w _ _ _).1).out).mono ?_
    rintro _ w1 ⟨rfl, hb1⟩
    obtain ⟨k1, k2, k3, k4, k5⟩ := K3.out ⟨now, safe, fuse, ops, dead⟩ ⟨now2, safe2, fuse2, ops2, dead2⟩
    rw [k5] at hb1
    have hh := block_below hb1 k4 (by omega)
    have hh0 := block_below hb1 k3 (by omega)
    obtain ⟨c0, c1, c2, c3, c4⟩ := cells5 hh0
    obtain ⟨e0, e1, e2, e3, e4⟩ := cells5 hh
    have fr := free_all hh
    have B1 := Lib.hid (k1.trans (hb1.mono (by omega)))
    have HH := Lib.hid hh
    have hsz : w.heap.size + 1 + 1 < w1.heap.size := (Array.getElem?_eq_some_iff.1 hh).1
    clear hb1 k1 k2 k3 k4 k5 hh hh0
    go_wp2
    refine post_world (fun w' => w'.heap[w.heap.size + 1 + 1]? = some (.cells #[.slice xa now2.length xc, .slice ya safe2.length yc, .int .i64 fuse2, .int .i64 ops2, .bool dead2] 36 (0, 0)) ∧ Below w.heap.size w w') ⟨set5 HH.out, below_set5 B1.out (by omega) _ _ _ _ _⟩ ?_
    rintro w9 ⟨hh9, hb9⟩
    obtain ⟨e0, e1, e2, e3, e4⟩ := cells5 hh9
    exact bodyPost_ret (v := .agg #[.slice xa now2.length xc, .slice ya safe2.length yc, .int .i64 fuse2, .int .i64 ops2, .bool dead2]) (by simp [results, Tryz.results84, go_sem, e0, e1, e2, e3, e4]) rfl ⟨rfl, hb9⟩
end Go.Proofs.YtjkmbbnjiobckaaGreatDoor
