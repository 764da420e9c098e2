/-
  disk: Flush, Read; store.left at a disk that is there.
-/
import Derived.Test.YtjkmbbnjiobckaaGreatDoorWrite
namespace Go.Proofs.YtjkmbbnjiobckaaGreatDoor
open Go.RowKit
set_option maxRecDepth 100000 in
set_option maxHeartbeats 1000000 in
theorem flush85 (v : Value) (d : Dsk) (w : World) (h : DskV w v d) (hf : d.fuse ≤ 9223372036854775807) :
    Calls Tryz.prog 85 #[v] w (DoneP w d.flushR.1 d.flushR.2) := by
  have E := fun W (hb : Below w.heap.size w W) => Lib.hid (ready69 v d W (h.mono hb))
  have HD := Lib.hid h
  obtain ⟨x, y, rfl, hx, -⟩ := h
  obtain ⟨xa, xc, xs, rfl, -⟩ := hx
  change ∀ W, Below w.heap.size w W → Hid (Calls Tryz.prog 69 _ W fun e w' => e = .returned (.int .i64 d.readyV) ∧ Below W.heap.size W w') at E
  have K2 := fun (d : Dsk) => Lib.hid (box2 w (.cells #[.slice xa d.now.length xc, y, .int .i64 d.fuse, .int .i64 d.ops, .bool d.dead] 36) (.cells #[.slice none 0 0, .slice none 0 0, .int .i64 0, .int .i64 0, .bool false] 36))
  by_cases hr : d.readyV = 0
  · rw [Dsk.flushR_ready hr]
    obtain ⟨s1, s2, s3, -⟩ := Dsk.valid_small (Dsk.readyV_zero hr).1
    rw [hr] at E
    have HE := Lib.hid E
    obtain ⟨R, hR⟩ : ∃ R : Dsk × Int, R = if d.fuse = 0 then (⟨d.now, d.safe, 0, d.ops, true⟩, 40) else (d.spent d.now d.now, 0) := ⟨_, rfl⟩
    rw [← hR]
    have HR : Hid (∀ w1 e w', (if d.fuse = 0 then DoneP w1 ⟨d.now, d.safe, 0, d.ops, true⟩ 40 e w' else DoneP w1 (d.spent d.now d.now) 0 e w') → DoneP w1 R.1 R.2 e w') := by
      intro w1 e w' h
      rw [hR]
      split at h <;> rename_i hc
      · rw [if_pos hc]; exact h
      · rw [if_neg hc]; exact h
    have HS1 := Lib.hid s1
    have HC := Lib.hid (fun w1 : World => change_flush (w := w1) (safe := d.safe) s1.1 s1.2.2.1)
    have HEG : Hid (∀ args w, (callFunc 122 args).run Tryz.prog w = .ok (.enter 122 args) w) := enters_of Tryz.func122 (by kernel_rfl) rfl
    have K := Lib.hid (K2 d)
    clear E hr hR s1 K2
    obtain ⟨now, safe, fuse, ops, dead⟩ := d
    obtain ⟨dR, eR⟩ := R
    simp only at hf s2 s3 HE HR HC K ⊢
    go_enter Tryz.func85, Tryz.ntmps85
    go_wp2_with fail
    with_reducible refine ((HE.out _ (box2 w _ _).1).out).mono ?_
    rintro _ w1 ⟨rfl, hb1⟩
    obtain ⟨k1, k2, k4, k5⟩ := K.out.out
    rw [k5] at hb1
    have hh := block_below hb1 k4 (by omega)
    have hh0 := block_below hb1 k2 (by omega)
    obtain ⟨e0, e1, e2, e3, e4⟩ := cells5 hh
    obtain ⟨c0, c1, c2, c3, c4⟩ := cells5 hh0
    have fr := free_all hh
    have B1 := Lib.hid (k1.trans (hb1.mono (by omega)))
    have HH := Lib.hid hh
    have hsz : w.heap.size + 1 < w1.heap.size := (Array.getElem?_eq_some_iff.1 hh).1
    clear hb1 k1 k2 k4 k5 hh hh0
    go_wp2_with fail
    with_reducible refine (done120 _ ⟨now, safe, fuse, ops, dead⟩ 122 _ _ _ w1 (HD.out.mono B1.out) HS1.out hf s2 s3 HEG.out (HC.out w1)).mono ?_
    rintro e w2 hd
    obtain ⟨⟨x2, y2, rfl, ho2⟩, hb2⟩ := HR.out _ _ _ hd
    have hh2 := block_below hb2 HH.out hsz
    have B2 := Lib.hid (B1.out.trans (hb2.mono B1.out.size))
    have HO2 := Lib.hid ho2
    have HH2 := Lib.hid hh2
    clear hd e0 e1 e2 e3 e4 fr c0 c1 c2 c3 c4
    obtain ⟨e0, e1, e2, e3, e4⟩ := cells5 hh2
    have fr := free_all hh2
    obtain ⟨a1, c1, a2, c2, rfl, rfl⟩ := ho2.len
    clear hb2 hh2 ho2
    go_wp2
    refine post_world (DskAt w (w.heap.size + 1) (.slice a1 dR.now.length c1) (.slice a2 dR.safe.length c2) dR) (disk_end B2.out (by omega) HH2.out HO2.out hsz) ?_
    rintro w9 ⟨hh9, ho9, hb9⟩
    obtain ⟨e0, e1, e2, e3, e4⟩ := cells5 hh9
    exact bodyPost_ret (v := .tuple #[.agg #[.slice a1 dR.now.length c1, .slice a2 dR.safe.length c2, .int .i64 dR.fuse, .int .i64 dR.ops, .bool dR.dead], .int .i64 eR]) (by simp [results, Tryz.results85, go_sem, e0, e1, e2, e3, e4]) rfl ⟨⟨_, _, rfl, ho9⟩, hb9⟩
  · rw [(Dsk.readyV_ne hr 0 []).2]
    have hne : (d.readyV != 0) = true := by simpa using hr
    obtain ⟨r, hr'⟩ : ∃ r, r = d.readyV := ⟨_, rfl⟩
    rw [← hr'] at E hne
    have HE := Lib.hid E
    simp only [← hr']
    have K := Lib.hid (K2 d)
    clear hr hr' E K2
    obtain ⟨now, safe, fuse, ops, dead⟩ := d
    simp only at HE K ⊢
    go_enter Tryz.func85, Tryz.ntmps85
    go_wp2_with fail
    with_reducible refine ((HE.out _ (box2 w _ _).1).out).mono ?_
    rintro _ w1 ⟨rfl, hb1⟩
    obtain ⟨k1, k2, k4, k5⟩ := K.out.out
    rw [k5] at hb1
    have hh := block_below hb1 k4 (by omega)
    obtain ⟨e0, e1, e2, e3, e4⟩ := cells5 hh
    have fr := free_all hh
    have B1 := Lib.hid (k1.trans (hb1.mono (by omega)))
    have HH := Lib.hid hh
    clear hb1 k1 k2 k4 k5 hh
    go_wp2
    refine post_world (ZeroAt w (w.heap.size + 1)) (zero_end B1.out (by omega) HH.out) ?_
    rintro w9 ⟨hh9, hb9⟩
    obtain ⟨e0, e1, e2, e3, e4⟩ := cells5 hh9
    exact bodyPost_ret (v := .tuple #[.agg #[.slice none 0 0, .slice none 0 0, .int .i64 0, .int .i64 0, .bool false], .int .i64 r]) (by simp [results, Tryz.results85, go_sem, e0, e1, e2, e3, e4]) rfl (DoneP.zero hb9)
/-- What Read hands back. -/
def Dsk.readR (d : Dsk) (n : Int) : List UInt8 × Int := if d.readyV ≠ 0 then ([], d.readyV) else if n < 0 ∨ (d.now.length : Int) ≤ n then ([], 3) else (d.now.getD n.toNat [], 0)
set_option maxRecDepth 100000 in
set_option maxHeartbeats 1000000 in
theorem read36 (v : Value) (d : Dsk) (n : Int) (w : World) (h : DskV w v d) :
    Calls Tryz.prog 36 #[v, .int .i64 n] w fun e w' => (∃ v, e = .returned (.tuple #[v, .int .i64 (d.readR n).2]) ∧ OwnB w' w.heap.size v (d.readR n).1) ∧ Below w.heap.size w w' := by
  have E := fun W (hb : Below w.heap.size w W) => Lib.hid (ready69 v d W (h.mono hb))
  have HD := Lib.hid h
  obtain ⟨x, y, rfl, hx, -⟩ := h
  have HX := Lib.hid hx
  obtain ⟨xa, xc, xs, rfl, -⟩ := hx
  change ∀ W, Below w.heap.size w W → Hid (Calls Tryz.prog 69 _ W fun e w' => e = .returned (.int .i64 d.readyV) ∧ Below W.heap.size W w') at E
  have K2 := fun (d : Dsk) => Lib.hid (box1 w (.cells #[.slice xa d.now.length xc, y, .int .i64 d.fuse, .int .i64 d.ops, .bool d.dead] 36))
  by_cases hr : d.readyV = 0
  · have h64 := (Dsk.valid_small (Dsk.readyV_zero hr).1).2.2.2.2.2.2.2.1
    have HRR : d.readR n = if n < 0 ∨ (d.now.length : Int) ≤ n then ([], 3) else (d.now.getD n.toNat [], 0) := by
      unfold Dsk.readR; rw [if_neg (by simp [hr])]
    rw [HRR]
    rw [hr] at E
    have HE := Lib.hid E
    have K := Lib.hid (K2 d)
    have H64 := Lib.hid h64
    clear E hr K2 HRR h64
    obtain ⟨now, safe, fuse, ops, dead⟩ := d
    simp only at HX HE K H64 ⊢
    by_cases h1 : n < 0
    · rw [if_pos (.inl h1)]
      go_enter Tryz.func36, Tryz.ntmps36
      go_wp2_with fail
      with_reducible refine ((HE.out _ (box1 w _).1).out).mono ?_
      rintro _ w1 ⟨rfl, hb1⟩
      obtain ⟨k1, k2, k5⟩ := K.out.out
      rw [k5] at hb1
      have hh0 := block_below hb1 k2 (by omega)
      obtain ⟨c0, c1, c2, c3, c4⟩ := cells5 hh0
      have B1 := Lib.hid (k1.trans (hb1.mono (by omega)))
      clear hb1 k1 k2 k5 hh0
      go_wp2
      go_ret2
      exact ⟨⟨_, rfl, OwnB.nil _ _⟩, B1.out⟩
    · by_cases h2 : (now.length : Int) ≤ n
      · rw [if_pos (.inr h2)]
        go_enter Tryz.func36, Tryz.ntmps36
        go_wp2_with fail
        with_reducible refine ((HE.out _ (box1 w _).1).out).mono ?_
        rintro _ w1 ⟨rfl, hb1⟩
        obtain ⟨k1, k2, k5⟩ := K.out.out
        rw [k5] at hb1
        have hh0 := block_below hb1 k2 (by omega)
        obtain ⟨c0, c1, c2, c3, c4⟩ := cells5 hh0
        have B1 := Lib.hid (k1.trans (hb1.mono (by omega)))
        clear hb1 k1 k2 k5 hh0
        go_wp2
        go_ret2
        exact ⟨⟨_, rfl, OwnB.nil _ _⟩, B1.out⟩
      · obtain ⟨m, rfl⟩ : ∃ m : Nat, n = m := ⟨n.toNat, by omega⟩
        have hm : m < now.length := by omega
        rw [if_neg (by omega), Int.toNat_natCast, List.getD_eq_getElem?_getD, List.getElem?_eq_getElem hm]
        simp only [Option.getD_some]
        obtain ⟨b, o, a', c', he, hc, hrw⟩ := HX.out.get m hm
        cases he
        have hlt := World.block_lt_of_cell? _ _ hc
        simp only at hlt
        have HRW := Lib.hid (Slc.mk rfl hrw)
        have HHC := Lib.hid hc
        have HLT := Lib.hid (H64.out _ (List.getElem_mem hm))
        clear hc hrw
        go_enter Tryz.func36, Tryz.ntmps36
        go_wp2_with fail
        with_reducible refine ((HE.out _ (box1 w _).1).out).mono ?_
        rintro _ w1 ⟨rfl, hb1⟩
        obtain ⟨k1, k2, k5⟩ := K.out.out
        rw [k5] at hb1
        have hh0 := block_below hb1 k2 (by omega)
        obtain ⟨c0, c1, c2, c3, c4⟩ := cells5 hh0
        have B1 := Lib.hid (k1.trans (hb1.mono (by omega)))
        have hbw := B1.out
        clear hb1 k1 k2 k5 hh0
        have hc1 := (hbw.cell (p := ⟨b, o + m, none⟩) hlt).trans HHC.out
        clear hbw
        go_wp2_with fail
        with_reducible refine (clone70 _ now[m] _ (HRW.out.mono B1.out) (by rw [HLT.out]; decide)).mono ?_
        rintro _ w2 ⟨v2, rfl, ho2, hb2⟩
        have HO2 := Lib.hid (ho2.lower B1.out.size)
        have B2 := Lib.hid (B1.out.trans (hb2.mono B1.out.size))
        obtain ⟨a2, c2, rfl, -⟩ := ho2
        clear hb2
        go_wp2
        go_ret2
        exact ⟨⟨_, rfl, HO2.out⟩, B2.out⟩
  · have hne : (d.readyV != 0) = true := by simpa using hr
    have HRR : d.readR n = ([], d.readyV) := by unfold Dsk.readR; rw [if_pos hr]
    rw [HRR]
    obtain ⟨r, hr'⟩ : ∃ r, r = d.readyV := ⟨_, rfl⟩
    rw [← hr'] at E hne
    have HE := Lib.hid E
    simp only [← hr']
    have K := Lib.hid (K2 d)
    clear hr hr' E K2 HRR
    obtain ⟨now, safe, fuse, ops, dead⟩ := d
    simp only at HE K ⊢
    go_enter Tryz.func36, Tryz.ntmps36
    go_wp2_with fail
    with_reducible refine ((HE.out _ (box1 w _).1).out).mono ?_
    rintro _ w1 ⟨rfl, hb1⟩
    obtain ⟨k1, k2, k5⟩ := K.out.out
    rw [k5] at hb1
    have hh0 := block_below hb1 k2 (by omega)
    obtain ⟨c0, c1, c2, c3, c4⟩ := cells5 hh0
    have B1 := Lib.hid (k1.trans (hb1.mono (by omega)))
    clear hb1 k1 k2 k5 hh0
    go_wp2
    go_ret2
    exact ⟨⟨_, rfl, OwnB.nil _ _⟩, B1.out⟩
end Go.Proofs.YtjkmbbnjiobckaaGreatDoor
