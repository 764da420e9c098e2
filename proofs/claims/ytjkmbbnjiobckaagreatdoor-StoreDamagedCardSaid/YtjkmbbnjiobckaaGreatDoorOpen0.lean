/-
  store.Open of a disk neither of whose halves begins; the law's awake.
-/
import Derived.Test.YtjkmbbnjiobckaaGreatDoorTable0
import Derived.Test.YtjkmbbnjiobckaaGreatDoorEmpty
namespace Go.Proofs.YtjkmbbnjiobckaaGreatDoor
open Go.RowKit
set_option maxRecDepth 100000 in
set_option maxHeartbeats 2000000 in
theorem open12_blank (v : Value) (d : Dsk) (w : World) (h : DskV w v d) (hsm : d.small) (hf : d.fuse ≤ 9223372036854775807) (hread : (d.readR 0).2 = 0)
    (hA : logOf (d.now.take (d.now.length / 2)) = none) (hB : logOf (d.now.drop (d.now.length / 2)) = none) :
    Calls Tryz.prog 12 #[v] w (StoP w (compactR d 0 1 [] (num 0) 0).1 (compactR d 0 1 [] (num 0) 0).2) := by
  have HD := Lib.hid h
  obtain ⟨x, y, rfl, hx, hy⟩ := h
  have HX := Lib.hid hx
  have HY := Lib.hid hy
  obtain ⟨xa, xc, xs, rfl, hxr, -⟩ := hx
  have hxc := hxr.le
  obtain ⟨ya, yc, ys, rfl, -⟩ := hy
  have HSM := Lib.hid hsm
  have hnl := hsm.1
  have ER := fun W (hb : Below w.heap.size w W) => Lib.hid (read36 _ d 0 W (HD.out.mono hb))
  rw [hread] at ER
  have HER := Lib.hid ER
  have hdiv : (d.now.length : Int) / 2 = ((d.now.length / 2 : Nat) : Int) := by omega
  obtain ⟨H, hH⟩ : ∃ H, H = d.now.length / 2 := ⟨_, rfl⟩
  rw [← hH] at hdiv hA hB
  have hHle : H ≤ d.now.length := by omega
  have hHI : (H : Int) ≤ d.now.length := by omega
  have hHI2 : (H : Int) ≤ xc := by omega
  have ELA := Lib.hid (fun W (hb : Below w.heap.size w W) => log39 _ _ W ((HX.out.mono hb).front hHle) (by simp; omega))
  have ELB := Lib.hid (fun W (hb : Below w.heap.size w W) => log39 _ _ W ((HX.out.mono hb).back hHle) (by simp; omega))
  rw [hA] at ELA
  rw [hB] at ELB
  have HC := Lib.hid (fun W (hb : Below w.heap.size w W) => compact41 _ _ (.slice none 0 0) d 0 1 0 0 [] (num 0) 0 W (HX.out.mono hb) (HY.out.mono hb) (Evs.nil W) HSM.out hf (by decide) (by decide) (by decide) (by decide +kernel) (fun W' _ => table52_nil W'))
  simp only [Int.natCast_zero, Int.natCast_one] at HC
  obtain ⟨R, hR⟩ : ∃ R, R = compactR d 0 1 [] (num 0) 0 := ⟨_, rfl⟩
  rw [← hR] at HC ⊢
  clear hR hH hA hB hread hsm hxr ER
  obtain ⟨now, safe, fuse, ops, dead⟩ := d
  simp only at hf hnl hdiv hHle hHI hxc HER ELA ELB HC ⊢
  have KB := Lib.hid (box2 w (.cells #[.slice xa now.length xc, .slice ya safe.length yc, .int .i64 fuse, .int .i64 ops, .bool dead] 36) (.cells #[.slice none 0 0, .slice none 0 0, .int .i64 0, .int .i64 0, .bool false, .int .i64 0, .int .i64 0, .int .i64 0, .int .i64 0, .slice none 0 0] 39))
  go_enter Tryz.func12, Tryz.ntmps12
  go_wp2_with fail
  with_reducible refine ((HER.out _ KB.out.1).out).mono ?_
  rintro _ w1 ⟨⟨rv, rfl, hrv⟩, hb1⟩
  obtain ⟨k1, k2, k3, k4⟩ := KB.out
  rw [k4] at hb1
  have hp := block_below hb1 k2 (by omega)
  have hq := block_below hb1 k3 (by omega)
  obtain ⟨c0, c1, c2, c3, c4⟩ := cells5 hp
  have B1 := Lib.hid (k1.trans (hb1.mono (by omega)))
  have HP := Lib.hid hp
  have HQ := Lib.hid hq
  have hlp : w.heap.size < w1.heap.size := (Array.getElem?_eq_some_iff.1 hp).1
  have hlq : w.heap.size + 1 < w1.heap.size := (Array.getElem?_eq_some_iff.1 hq).1
  obtain ⟨ra, rc, rfl, -⟩ := hrv
  clear hb1 k1 k2 k3 k4 hp hq
  go_wp2_with fail
  with_reducible refine (ELA.out _ B1.out).mono ?_
  rintro _ w2 ⟨hret, hb2⟩
  obtain rfl := hret
  have hp := block_below hb2 HP.out hlp
  have hq := block_below hb2 HQ.out hlq
  have B2 := Lib.hid (B1.out.trans (hb2.mono B1.out.size))
  clear c0 c1 c2 c3 c4 HP HQ hlp hlq
  obtain ⟨c0, c1, c2, c3, c4⟩ := cells5 hp
  have HP := Lib.hid hp
  have HQ := Lib.hid hq
  have hlp : w.heap.size < w2.heap.size := (Array.getElem?_eq_some_iff.1 hp).1
  have hlq : w.heap.size + 1 < w2.heap.size := (Array.getElem?_eq_some_iff.1 hq).1
  clear hb2 hp hq
  go_wp2_with fail
  with_reducible refine (ELB.out _ B2.out).mono ?_
  rintro _ w3 ⟨hret, hb3⟩
  obtain rfl := hret
  have hp := block_below hb3 HP.out hlp
  have hq := block_below hb3 HQ.out hlq
  have B3 := Lib.hid (B2.out.trans (hb3.mono B2.out.size))
  clear c0 c1 c2 c3 c4 HP HQ hlp hlq
  obtain ⟨c0, c1, c2, c3, c4⟩ := cells5 hp
  have HQ := Lib.hid hq
  have hlp : w.heap.size < w3.heap.size := (Array.getElem?_eq_some_iff.1 hp).1
  have hlq : w.heap.size + 1 < w3.heap.size := (Array.getElem?_eq_some_iff.1 hq).1
  clear hb3 hp hq
  go_wp2_with fail
  have B4 := Lib.hid (fun o => B3.out.alloc (by omega) o)
  with_reducible refine (HC.out _ (B4.out _)).mono ?_
  rintro _ w4 ⟨⟨sv, rfl, hst⟩, hb4⟩
  have hq4 := block_below hb4 ((Below.heap_alloc w3 _ _ hlq).trans HQ.out) (by simp; omega)
  have B5 := Lib.hid ((B4.out _).trans (hb4.mono (by simp; omega)))
  have HST := Lib.hid (hst.lower (show w.heap.size + 2 ≤ _ by simp; omega))
  obtain ⟨sx, sy, sev, rfl, hsd, hse⟩ := hst
  obtain ⟨s1, s2, s3, s4, rfl, rfl⟩ := hsd.len
  obtain ⟨s5, s6, rfl, -⟩ := hse
  clear c0 c1 c2 c3 c4 hsd hb4
  obtain ⟨e0, e1, e2, e3, e4, e5, e6, e7, e8, e9⟩ := cells10 hq4
  have frq := free_all hq4
  have HQ4 := Lib.hid hq4
  clear hq4
  obtain ⟨⟨⟨Rn, Rs, Rf, Ro, Rd⟩, Rg, Rh, Rx, Rr, Re⟩, Rerr⟩ := R
  simp only at HST ⊢
  go_wp2
  refine post_world (fun w' => w'.heap[w.heap.size + 1]? = some (.cells #[.slice s1 Rn.length s2, .slice s3 Rs.length s4, .int .i64 Rf, .int .i64 Ro, .bool Rd, .int .i64 Rg, .int .i64 Rh, .int .i64 Rx, .int .i64 Rr, .slice s5 Re.length s6] 39 (0, 0)) ∧ StoO w' w.heap.size (.agg #[.slice s1 Rn.length s2, .slice s3 Rs.length s4, .int .i64 Rf, .int .i64 Ro, .bool Rd, .int .i64 Rg, .int .i64 Rh, .int .i64 Rx, .int .i64 Rr, .slice s5 Re.length s6]) ⟨⟨Rn, Rs, Rf, Ro, Rd⟩, Rg, Rh, Rx, Rr, Re⟩ ∧ Below w.heap.size w w') ⟨set10 HQ4.out, (HST.out.above ((Above.refl _ _).set10 (by omega) _ _ _ _ _ _ _ _ _ _) (Nat.le_refl _)).lower (by omega), below_set10 B5.out (Nat.le_succ _) _ _ _ _ _ _ _ _ _ _⟩ ?_
  rintro w9 ⟨hh9, ho9, hb9⟩
  clear e0 e1 e2 e3 e4 e5 e6 e7 e8 e9
  obtain ⟨e0, e1, e2, e3, e4, e5, e6, e7, e8, e9⟩ := cells10 hh9
  exact bodyPost_ret (v := .tuple #[.agg #[.slice s1 Rn.length s2, .slice s3 Rs.length s4, .int .i64 Rf, .int .i64 Ro, .bool Rd, .int .i64 Rg, .int .i64 Rh, .int .i64 Rx, .int .i64 Rr, .slice s5 Re.length s6], .int .i64 Rerr]) (by simp [results, Tryz.results12, go_sem, e0, e1, e2, e3, e4, e5, e6, e7, e8, e9]) rfl ⟨⟨_, rfl, ho9⟩, hb9⟩
end Go.Proofs.YtjkmbbnjiobckaaGreatDoor
