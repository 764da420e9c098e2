/-
  store.compact, at whatever column.Table answers.
-/
import Derived.Test.YtjkmbbnjiobckaaGreatDoorSto
import Derived.Test.YtjkmbbnjiobckaaGreatDoorRead
import Derived.Test.YtjkmbbnjiobckaaGreatDoorSectors
import Derived.Test.YtjkmbbnjiobckaaGreatDoorLog
namespace Go.Proofs.YtjkmbbnjiobckaaGreatDoor
open Go.RowKit
def stepGen (g : Nat) (s : List UInt8) : Nat := if isSector s then max g (genOf s) else g
def maxGen (g : Nat) (rows : List (List UInt8)) : Nat := rows.foldl stepGen g
theorem maxGen_take (g : Nat) (rows : List (List UInt8)) (k : Nat) (h : k < rows.length) : maxGen g (rows.take (k + 1)) = stepGen (maxGen g (rows.take k)) rows[k] := by
  unfold maxGen
  rw [List.take_add_one, List.getElem?_eq_getElem h, List.foldl_append]
  rfl
theorem stepGen_le {g : Nat} {s : List UInt8} (h : g ≤ 9000000000000000000) : stepGen g s ≤ 9000000000000000000 := by
  have h0 := byteAt_lt s 0
  have h1 := byteAt_lt s 1
  have h2 := byteAt_lt s 2
  have h3 := byteAt_lt s 3
  have : genOf s ≤ 4294967295 := by unfold genOf; omega
  unfold stepGen; split <;> omega
theorem maxGen_le (rows : List (List UInt8)) : ∀ (g : Nat), g ≤ 9000000000000000000 → maxGen g rows ≤ 9000000000000000000 := by
  induction rows with
  | nil => intro g h; exact h
  | cons s rest ih => intro g h; exact ih _ (stepGen_le h)
/-- What column.Table hands back. -/
def TableP (w : World) (tb : List UInt8) (te : Int) (e : Ending) (w' : World) : Prop := (∃ v, e = .returned (.tuple #[v, .int .i64 te]) ∧ FrB w' w.heap.size v tb) ∧ Below w.heap.size w w'
/-- What compact hands back. -/
def compactR (d : Dsk) (gen half : Nat) (evs : List Ev) (tb : List UInt8) (te : Int) : Sto × Int :=
  if te ≠ 0 then (Sto.zero, te)
  else if 4294967295 < maxGen gen d.now + 1 ∨ 255 < sectorCount tb ∨ d.now.length / 2 < sectorCount tb then (Sto.zero, 19)
  else if (d.putAll ((1 - half) * (d.now.length / 2)) (sectorsOf (maxGen gen d.now + 1) 0 tb)).2 ≠ 0 then failR (d.putAll ((1 - half) * (d.now.length / 2)) (sectorsOf (maxGen gen d.now + 1) 0 tb)).1 (d.putAll ((1 - half) * (d.now.length / 2)) (sectorsOf (maxGen gen d.now + 1) 0 tb)).2
  else (⟨(d.putAll ((1 - half) * (d.now.length / 2)) (sectorsOf (maxGen gen d.now + 1) 0 tb)).1, (maxGen gen d.now + 1 : Nat), (1 - half : Nat), sectorCount tb, 1, evs⟩, 0)
/-- The result's block q holds a zero store. -/
def ZeroSto (w : World) (q : Nat) (w' : World) : Prop := w'.heap[q]? = some (.cells #[.slice none 0 0, .slice none 0 0, .int .i64 0, .int .i64 0, .bool false, .int .i64 0, .int .i64 0, .int .i64 0, .int .i64 0, .slice none 0 0] 39 (0, 0)) ∧ Below w.heap.size w w'
set_option maxRecDepth 100000 in
set_option maxHeartbeats 2000000 in
theorem compact41 (x y ev : Value) (d : Dsk) (gen half : Nat) (nx fr : Int) (evs : List Ev) (tb : List UInt8) (te : Int) (w : World) (hx : Slcs w x d.now) (hy : Slcs w y d.safe) (hev : Evs w ev evs)
    (hsm : d.small) (hf : d.fuse ≤ 9223372036854775807) (hg : gen ≤ 9000000000000000000) (hh : half ≤ 1) (hel : evs.length ≤ 1000000) (htl : tb.length ≤ 1000000000) (hT : ∀ W, Below w.heap.size w W → Calls Tryz.prog 52 #[ev] W (TableP W tb te)) :
    Calls Tryz.prog 41 #[.agg #[x, y, .int .i64 d.fuse, .int .i64 d.ops, .bool d.dead, .int .i64 gen, .int .i64 half, .int .i64 nx, .int .i64 fr, ev]] w (StoP w (compactR d gen half evs tb te).1 (compactR d gen half evs tb te).2) := by
  have HD : Hid (DskV w (.agg #[x, y, .int .i64 d.fuse, .int .i64 d.ops, .bool d.dead]) d) := ⟨x, y, rfl, hx, hy⟩
  have HX := Lib.hid hx
  have HEV := Lib.hid hev
  have HSM := Lib.hid hsm
  have HT := Lib.hid hT
  have hnl := hsm.1
  obtain ⟨xa, xc, xs, rfl, hxr, -⟩ := hx
  have hxc := hxr.le
  obtain ⟨ya, yc, ys, rfl, -⟩ := hy
  obtain ⟨ea, ec, rfl, -⟩ := hev
  obtain ⟨now, safe, fuse, ops, dead⟩ := d
  simp only at hf hnl hxc HX ⊢
  obtain ⟨R, hR⟩ : ∃ R, R = compactR ⟨now, safe, fuse, ops, dead⟩ gen half evs tb te := ⟨_, rfl⟩
  rw [← hR]
  have HR := Lib.hid hR
  have HMG := Lib.hid (fun k => maxGen_le (now.take k) gen hg)
  clear hR hsm hT hxr
  go_enter Tryz.func41, Tryz.ntmps41
  go_wp2
  refine wp_world (fun w' => Below w.heap.size w w' ∧ w'.heap[w.heap.size]? = some _ ∧ w'.heap[w.heap.size + 1]? = some _ ∧ w'.heap.size = w.heap.size + 2) (box2 w _ _) ?_
  rintro w0 ⟨hb0, hh0, hh1, hz0⟩
  have HB0 := Lib.hid hb0
  have HH0 := Lib.hid hh0
  have HH1 := Lib.hid hh1
  have HZ0 := Lib.hid hz0
  clear hb0 hh0 hh1 hz0
  go_loopw [4, 21, 6, 7, 8] (fun g i _ _ _ wr => ∃ k : Nat, k ≤ now.length ∧ i = .int .i64 (k : Int) ∧ g = .int .i64 ((maxGen gen (now.take k) : Nat) : Int) ∧ Below w0.heap.size w0 wr) (fun _ i _ _ _ _ => now.length - (intOf i).toNat)
  case atStart => exact ⟨0, by omega, rfl, rfl, Below.refl _ _⟩
  case round =>
    obtain ⟨k, hk, rfl, rfl, hb⟩ := hrel
    have HB := Lib.hid hb
    have HBW := Lib.hid (HB0.out.trans (hb.mono (by have := HZ0.out; omega)))
    clear hb
    by_cases hlt : k < now.length
    · obtain ⟨b, o, a', c', he, hc, hrw⟩ := (HX.out.mono HBW.out).get k hlt
      cases he
      have hltI : (k : Int) < now.length := by omega
      have HST := Lib.hid (maxGen_take gen now k hlt)
      obtain ⟨s, hs⟩ : ∃ s, s = now[k] := ⟨_, rfl⟩
      rw [← hs] at hc hrw HST
      obtain ⟨G, hG⟩ : ∃ G, G = maxGen gen (now.take k) := ⟨_, rfl⟩
      rw [← hG] at HST ⊢
      have hGle : G ≤ 9000000000000000000 := by rw [hG]; exact HMG.out k
      have E := Lib.hid (read_any (.slice a' s.length c') s wr (Slc.mk rfl hrw))
      have HHG := Lib.hid hG
      clear hs hrw hG
      cases hsb : isSector s
      · have HST2 : Hid (maxGen gen (now.take (k + 1)) = G) := by simp only [Hid]; rw [HST.out]; unfold stepGen; rw [hsb]; simp
        rw [hsb] at E
        obtain ⟨hv, hhv⟩ : ∃ x, x = readV s := ⟨_, rfl⟩
        have hform : ∃ g f i n : Int, hv = .agg #[.int .i64 g, .int .i64 f, .int .i64 i, .int .i64 n] := by
          rw [hhv]; unfold readV headV; split <;> exact ⟨_, _, _, _, rfl⟩
        rw [← hhv] at E
        obtain ⟨g, f, i, n, rfl⟩ := hform
        clear hsb hhv
        go_wp2_with fail
        with_reducible refine E.out.mono ?_
        rintro _ w1 ⟨rfl, hb1⟩
        have HB1 := Lib.hid (HB.out.trans (hb1.mono HB.out.size))
        clear hb1
        go_wp2
        go_roundw
        case rel => exact ⟨k + 1, by omega, by go_num, by rw [HST2.out], HB1.out.alloc HB1.out.size _⟩
        case measure => simp [intOf]; omega
      · have hsl : s.length = 64 := by
          have := hsb
          simp [isSector] at this
          exact this.1.1.1
        rw [hsb, show readV s = headV (genOf s) (frameOf s) (indexOf s) (numberOf s) from if_pos hsl] at E
        unfold headV at E
        by_cases hgs : genOf s ≤ G
        · have HST2 : Hid (maxGen gen (now.take (k + 1)) = G) := by simp only [Hid]; rw [HST.out]; unfold stepGen; rw [hsb]; simp; omega
          have hgI : ((genOf s : Nat) : Int) ≤ G := by omega
          clear hsb hgs hsl
          go_wp2_with fail
          with_reducible refine E.out.mono ?_
          rintro _ w1 ⟨rfl, hb1⟩
          have HB1 := Lib.hid (HB.out.trans (hb1.mono HB.out.size))
          clear hb1
          go_wp2
          all_goals
            go_roundw
            case rel => exact ⟨k + 1, by omega, by go_num, by rw [HST2.out], HB1.out.alloc HB1.out.size _⟩
            case measure => simp [intOf]; omega
        · have HST2 : Hid (maxGen gen (now.take (k + 1)) = genOf s) := by simp only [Hid]; rw [HST.out]; unfold stepGen; rw [hsb]; simp; omega
          have hgI : (G : Int) < ((genOf s : Nat) : Int) := by omega
          clear hsb hgs hsl
          go_wp2_with fail
          with_reducible refine E.out.mono ?_
          rintro _ w1 ⟨rfl, hb1⟩
          have HB1 := Lib.hid (HB.out.trans (hb1.mono HB.out.size))
          clear hb1
          go_wp2
          all_goals
            go_roundw
            case rel => exact ⟨k + 1, by omega, by go_num, by rw [HST2.out], HB1.out.alloc HB1.out.size _⟩
            case measure => simp [intOf]; omega
    · obtain rfl : k = now.length := by omega
      have hGle := maxGen_le now gen hg
      rw [List.take_length]
      obtain ⟨G, hG⟩ : ∃ G, G = maxGen gen now := ⟨_, rfl⟩
      rw [← hG] at hGle ⊢
      have HG := Lib.hid hG
      clear hG
      have hp := block_below HB.out HH0.out (by have := HZ0.out; omega)
      have hq := block_below HB.out HH1.out (by have := HZ0.out; omega)
      obtain ⟨c0, c1, c2, c3, c4, c5, c6, c7, c8, c9⟩ := cells10 hp
      obtain ⟨e0, e1, e2, e3, e4, e5, e6, e7, e8, e9⟩ := cells10 hq
      have frq := free_all hq
      have hlp : w.heap.size < wr.heap.size := (Array.getElem?_eq_some_iff.1 hp).1
      have hlq : w.heap.size + 1 < wr.heap.size := (Array.getElem?_eq_some_iff.1 hq).1
      have HP := Lib.hid hp
      have HQ := Lib.hid hq
      clear hp hq
      have ET := Lib.hid (HT.out wr HBW.out)
      go_wp2_with fail
      with_reducible refine ET.out.mono ?_
      rintro _ w1 ⟨⟨tv, rfl, htv⟩, hb1⟩
      obtain ⟨ta, tn, tc, rfl⟩ := htv.form
      clear c0 c1 c2 c3 c4 c5 c6 c7 c8 c9 e0 e1 e2 e3 e4 e5 e6 e7 e8 e9 frq
      have hp := block_below hb1 HP.out hlp
      have hq := block_below hb1 HQ.out hlq
      obtain ⟨c0, c1, c2, c3, c4, c5, c6, c7, c8, c9⟩ := cells10 hp
      obtain ⟨e0, e1, e2, e3, e4, e5, e6, e7, e8, e9⟩ := cells10 hq
      have frq := free_all hq
      clear hlp hlq
      have hlp : w.heap.size < w1.heap.size := (Array.getElem?_eq_some_iff.1 hp).1
      have hlq : w.heap.size + 1 < w1.heap.size := (Array.getElem?_eq_some_iff.1 hq).1
      clear HP HQ
      have HP := Lib.hid hp
      have HQ := Lib.hid hq
      clear hp hq
      have B1 := Lib.hid (HBW.out.trans (hb1.mono HBW.out.size))
      have HTV := Lib.hid htv.slc
      clear hb1 htv
      have q1 : IntKind.i64.wrap ((G : Int) + 1) = (G : Int) + 1 := IntWalk.i64_in _ (by omega)
      by_cases hte : te = 0
      · subst hte
        have HRW : Hid (R = if 4294967295 < G + 1 ∨ 255 < sectorCount tb ∨ now.length / 2 < sectorCount tb then (Sto.zero, 19) else if ((⟨now, safe, fuse, ops, dead⟩ : Dsk).putAll ((1 - half) * (now.length / 2)) (sectorsOf (G + 1) 0 tb)).2 ≠ 0 then failR ((⟨now, safe, fuse, ops, dead⟩ : Dsk).putAll ((1 - half) * (now.length / 2)) (sectorsOf (G + 1) 0 tb)).1 ((⟨now, safe, fuse, ops, dead⟩ : Dsk).putAll ((1 - half) * (now.length / 2)) (sectorsOf (G + 1) 0 tb)).2 else (⟨((⟨now, safe, fuse, ops, dead⟩ : Dsk).putAll ((1 - half) * (now.length / 2)) (sectorsOf (G + 1) 0 tb)).1, (G + 1 : Nat), (1 - half : Nat), sectorCount tb, 1, evs⟩, 0)) := by
          simp only [Hid]; rw [HR.out]; unfold compactR; rw [if_neg (by simp), HG.out]
        by_cases hG1 : 4294967295 < G + 1
        · have HRV : Hid (R = (Sto.zero, 19)) := HRW.out.trans (if_pos (.inl hG1))
          have ES := Lib.hid (sectors_range ((G : Int) + 1) 0 _ tb w1 HTV.out (by omega))
          clear hG1
          go_wp2_with fail
          with_reducible refine ES.out.mono ?_
          rintro _ _ ⟨rfl, rfl⟩
          go_wp2
          refine post_world (ZeroSto w (w.heap.size + 1)) ⟨set10 HQ.out, below_set10 B1.out (Nat.le_succ _) _ _ _ _ _ _ _ _ _ _⟩ ?_
          rintro w9 ⟨hh9, hb9⟩
          clear e0 e1 e2 e3 e4 e5 e6 e7 e8 e9
          obtain ⟨e0, e1, e2, e3, e4, e5, e6, e7, e8, e9⟩ := cells10 hh9
          refine bodyPost_ret (v := .tuple #[.agg #[.slice none 0 0, .slice none 0 0, .int .i64 0, .int .i64 0, .bool false, .int .i64 0, .int .i64 0, .int .i64 0, .int .i64 0, .slice none 0 0], .int .i64 19]) (by simp [results, Tryz.results41, go_sem, e0, e1, e2, e3, e4, e5, e6, e7, e8, e9]) rfl ?_
          rw [HRV.out]
          exact ⟨⟨_, rfl, StoO.zero _ _⟩, hb9⟩
        · by_cases hc255 : 255 < sectorCount tb
          · have HRV : Hid (R = (Sto.zero, 19)) := HRW.out.trans (if_pos (.inr (.inl hc255)))
            have ES := Lib.hid (sectors_long (G + 1) 0 _ tb w1 HTV.out htl (by omega) (by omega) (by omega) hc255)
            simp only [Int.natCast_add, Int.natCast_one, Int.natCast_zero] at ES
            clear hG1 hc255
            go_wp2_with fail
            with_reducible refine ES.out.mono ?_
            rintro _ w2 ⟨rfl, hb2⟩
            clear c0 c1 c2 c3 c4 c5 c6 c7 c8 c9 e0 e1 e2 e3 e4 e5 e6 e7 e8 e9 frq
            have hp := block_below hb2 HP.out hlp
            have hq := block_below hb2 HQ.out hlq
            obtain ⟨c0, c1, c2, c3, c4, c5, c6, c7, c8, c9⟩ := cells10 hp
            obtain ⟨e0, e1, e2, e3, e4, e5, e6, e7, e8, e9⟩ := cells10 hq
            have frq := free_all hq
            clear hlp hlq
            have hlp : w.heap.size < w2.heap.size := (Array.getElem?_eq_some_iff.1 hp).1
            have hlq : w.heap.size + 1 < w2.heap.size := (Array.getElem?_eq_some_iff.1 hq).1
            clear HP HQ
            have HP := Lib.hid hp
            have HQ := Lib.hid hq
            clear hp hq
            have B2 := Lib.hid (B1.out.trans (hb2.mono B1.out.size))
            clear hb2
            go_wp2
            refine post_world (ZeroSto w (w.heap.size + 1)) ⟨set10 HQ.out, below_set10 B2.out (Nat.le_succ _) _ _ _ _ _ _ _ _ _ _⟩ ?_
            rintro w9 ⟨hh9, hb9⟩
            clear e0 e1 e2 e3 e4 e5 e6 e7 e8 e9
            obtain ⟨e0, e1, e2, e3, e4, e5, e6, e7, e8, e9⟩ := cells10 hh9
            refine bodyPost_ret (v := .tuple #[.agg #[.slice none 0 0, .slice none 0 0, .int .i64 0, .int .i64 0, .bool false, .int .i64 0, .int .i64 0, .int .i64 0, .int .i64 0, .slice none 0 0], .int .i64 19]) (by simp [results, Tryz.results41, go_sem, e0, e1, e2, e3, e4, e5, e6, e7, e8, e9]) rfl ?_
            rw [HRV.out]
            exact ⟨⟨_, rfl, StoO.zero _ _⟩, hb9⟩
          · have ES := Lib.hid (sectors_ok (G + 1) 0 _ tb w1 HTV.out htl (by omega) (by omega) (by omega) (by omega))
            simp only [Int.natCast_add, Int.natCast_one, Int.natCast_zero] at ES
            have hlen : (sectorsOf (G + 1) 0 tb).length = sectorCount tb := by unfold sectorsOf; simp
            have HLEN := Lib.hid hlen
            obtain ⟨N, hN⟩ : ∃ N, N = sectorCount tb := ⟨_, rfl⟩
            rw [← hN] at HRW HLEN hc255
            have hdiv : (now.length : Int) / 2 = ((now.length / 2 : Nat) : Int) := by omega
            obtain ⟨H, hH⟩ : ∃ H, H = now.length / 2 := ⟨_, rfl⟩
            rw [← hH] at HRW hdiv
            have hHle : H ≤ 1000000 := by omega
            have HHH := Lib.hid hH
            clear hN hH hlen
            go_wp2_with fail
            with_reducible refine ES.out.mono ?_
            rintro _ w2 ⟨sv, rfl, hos, hb2⟩
            clear c0 c1 c2 c3 c4 c5 c6 c7 c8 c9 e0 e1 e2 e3 e4 e5 e6 e7 e8 e9 frq
            have hp := block_below hb2 HP.out hlp
            have hq := block_below hb2 HQ.out hlq
            obtain ⟨c0, c1, c2, c3, c4, c5, c6, c7, c8, c9⟩ := cells10 hp
            obtain ⟨e0, e1, e2, e3, e4, e5, e6, e7, e8, e9⟩ := cells10 hq
            have frq := free_all hq
            clear hlp hlq
            have hlp : w.heap.size < w2.heap.size := (Array.getElem?_eq_some_iff.1 hp).1
            have hlq : w.heap.size + 1 < w2.heap.size := (Array.getElem?_eq_some_iff.1 hq).1
            clear HP HQ
            have HP := Lib.hid hp
            have HQ := Lib.hid hq
            clear hp hq
            have B2 := Lib.hid (B1.out.trans (hb2.mono B1.out.size))
            have HSS := Lib.hid hos.slcs
            obtain ⟨us, ⟨sa, sc, rfl, -⟩, hul, -⟩ := hos
            have hun : us.length = N := by rw [hul, HLEN.out]
            rw [hun] at HSS ⊢
            clear hb2 hul hun
            by_cases hfit : H < N
            · have HRV : Hid (R = (Sto.zero, 19)) := HRW.out.trans (if_pos (.inr (.inr hfit)))
              have hfI : (H : Int) < N := by omega
              clear hG1 hc255 hfit
              go_wp2
              refine post_world (ZeroSto w (w.heap.size + 1)) ⟨set10 HQ.out, below_set10 B2.out (Nat.le_succ _) _ _ _ _ _ _ _ _ _ _⟩ ?_
              rintro w9 ⟨hh9, hb9⟩
              clear e0 e1 e2 e3 e4 e5 e6 e7 e8 e9
              obtain ⟨e0, e1, e2, e3, e4, e5, e6, e7, e8, e9⟩ := cells10 hh9
              refine bodyPost_ret (v := .tuple #[.agg #[.slice none 0 0, .slice none 0 0, .int .i64 0, .int .i64 0, .bool false, .int .i64 0, .int .i64 0, .int .i64 0, .int .i64 0, .slice none 0 0], .int .i64 19]) (by simp [results, Tryz.results41, go_sem, e0, e1, e2, e3, e4, e5, e6, e7, e8, e9]) rfl ?_
              rw [HRV.out]
              exact ⟨⟨_, rfl, StoO.zero _ _⟩, hb9⟩
            · have hfI : (N : Int) ≤ H := by omega
              have HRW2 := Lib.hid (HRW.out.trans (if_neg (by omega)))
              have hsub : (1 : Int) - (half : Int) = ((1 - half : Nat) : Int) := by omega
              obtain ⟨o, ho⟩ : ∃ o, o = 1 - half := ⟨_, rfl⟩
              rw [← ho] at hsub HRW2
              have ho1 : o ≤ 1 := by omega
              have hmul : (o : Int) * (H : Int) = ((o * H : Nat) : Int) := by simp
              have hoH : o * H ≤ 1000000 := Nat.le_trans (Nat.mul_le_mul ho1 (Nat.le_refl H)) (by omega)
              have q2 : IntKind.i64.wrap ((o : Int) * (H : Int)) = ((o * H : Nat) : Int) := by rw [hmul]; exact IntWalk.i64_in _ (by omega)
              have q3 : IntKind.i64.wrap (1 - (half : Int)) = (o : Int) := by rw [hsub]; exact IntWalk.i64_in _ (by omega)
              have EP := Lib.hid (put55 _ (.slice sa N sc) ⟨now, safe, fuse, ops, dead⟩ (o * H) (sectorsOf (G + 1) 0 tb) w2 (HD.out.mono B2.out) HSS.out HSM.out hf hoH (by rw [HLEN.out]; omega))
              obtain ⟨⟨dn, perr⟩, hPA⟩ : ∃ r, r = (⟨now, safe, fuse, ops, dead⟩ : Dsk).putAll (o * H) (sectorsOf (G + 1) 0 tb) := ⟨_, rfl⟩
              rw [← hPA] at EP HRW2
              simp only at EP HRW2
              clear hPA hG1 hc255 hfit hmul ho hsub
              simp only [Int.natCast_mul] at EP
              have hz2 : w.heap.size + 2 ≤ w2.heap.size := by omega
              go_wp2_with fail
              with_reducible refine EP.out.mono ?_
              rintro _ w3 ⟨⟨dx, dy, rfl, hod⟩, hb3⟩
              clear c0 c1 c2 c3 c4 c5 c6 c7 c8 c9 e0 e1 e2 e3 e4 e5 e6 e7 e8 e9 frq
              have hp := block_below hb3 HP.out hlp
              have hq := block_below hb3 HQ.out hlq
              obtain ⟨c0, c1, c2, c3, c4, c5, c6, c7, c8, c9⟩ := cells10 hp
              obtain ⟨e0, e1, e2, e3, e4, e5, e6, e7, e8, e9⟩ := cells10 hq
              have frq := free_all hq
              clear hlp hlq
              have hlp : w.heap.size < w3.heap.size := (Array.getElem?_eq_some_iff.1 hp).1
              have hlq : w.heap.size + 1 < w3.heap.size := (Array.getElem?_eq_some_iff.1 hq).1
              clear HP HQ
              have HP := Lib.hid hp
              have HQ := Lib.hid hq
              clear hp hq
              have B3 := Lib.hid (B2.out.trans (hb3.mono B2.out.size))
              obtain ⟨da, dc, ga, gc, rfl, rfl⟩ := hod.len
              have HOD := Lib.hid (hod.lower hz2)
              obtain ⟨dnn, dns, dnf, dno, dnd⟩ := dn
              simp only at HOD
              have HAL : Hid (∀ o, Below w3.heap.size w3 (w3.alloc o)) := fun o => (Below.refl _ _).alloc (Nat.le_refl _) o
              clear hb3 hod
              by_cases hpe : perr = 0
              · subst hpe
                have HRV : Hid (R = (⟨⟨dnn, dns, dnf, dno, dnd⟩, (G + 1 : Nat), (o : Nat), N, 1, evs⟩, 0)) := HRW2.out.trans (if_neg (by simp))
                have HEV3 := Lib.hid (HEV.out.mono B3.out)
                go_wp2_with fail
                refine wp_region_ext 10 [0, 1, 2, 3, 4, 5, 6, 7, 8, 9] (by kernel_rfl) (by kernel_rfl) (by intro c a d v w h; cases d <;> exact h) ?_
                simp only [List.filterMap_cons, List.filterMap_nil, List.getElem?_cons_zero, List.getElem?_cons_succ, List.drop_succ_cons, List.drop_zero]
                iterate 8 (refine Seg.takeK rfl rfl (fun K hK => ⟨_, fun ws hws => by go_simp; rfl, ?_⟩); go_simp; refine hK _ ?_; clear hK K)
                refine Seg.loud rfl rfl (fun K hK => ?_)
                go_wp2_with fail
                with_reducible refine (clone74 _ evs _ (HEV3.out.mono (HAL.out _)).drew hel).mono ?_
                rintro _ w4 ⟨⟨va, vn, vc, rfl, hev4⟩, hb4⟩
                have HB4 := Lib.hid hb4
                have HE4 := Lib.hid hev4
                refine hK _ _ (fun b o h => HB4.out.cell (p := ⟨b, o, none⟩) h) ?_
                have hq4 := block_below HB4.out ((Below.heap_alloc w3 _ _ hlq).trans HQ.out) (by simp; omega)
                have B4 := Lib.hid (((B3.out.alloc (by omega) _).drew).trans (hb4.mono (by simp; omega)))
                have HO4 := Lib.hid (((HOD.out.mono (HAL.out _)).mono (Below.refl _ _).drew).mono hb4)
                clear e0 e1 e2 e3 e4 e5 e6 e7 e8 e9 frq c0 c1 c2 c3 c4 c5 c6 c7 c8 c9
                obtain ⟨e0, e1, e2, e3, e4, e5, e6, e7, e8, e9⟩ := cells10 hq4
                have frq := free_all hq4
                have HQ4 := Lib.hid hq4
                have hzE : w.heap.size + 1 < w3.heap.size + 1 := by omega
                have HE5 := Lib.hid (hev4.lower (show w.heap.size + 1 + 1 ≤ _ by simp; omega))
                clear hq4 hb4 hev4
                clear hK K
                iterate 1 (refine Seg.takeK rfl rfl (fun K hK => ⟨_, fun ws hws => by go_simp; rfl, ?_⟩); go_simp; refine hK _ ?_; clear hK K)
                refine Seg.nil ?_
                go_wp2
                refine post_world (fun w' => w'.heap[w.heap.size + 1]? = some (.cells #[.slice da dnn.length dc, .slice ga dns.length gc, .int .i64 dnf, .int .i64 dno, .bool dnd, .int .i64 ((G : Int) + 1), .int .i64 o, .int .i64 N, .int .i64 1, .slice va vn vc] 39 (0, 0)) ∧ OwnD w' w.heap.size (.slice da dnn.length dc) (.slice ga dns.length gc) dnn dns ∧ OwnE w' w.heap.size (.slice va vn vc) evs ∧ Below w.heap.size w w') ⟨set10 HQ4.out, (HO4.out.above ((Above.refl _ _).set10 (by omega) _ _ _ _ _ _ _ _ _ _) (Nat.le_refl _)).lower (by omega), (HE5.out.above ((Above.refl _ _).set10 (Nat.lt_succ_self _) _ _ _ _ _ _ _ _ _ _) (Nat.le_refl _)).lower (by omega), below_set10 B4.out (Nat.le_succ _) _ _ _ _ _ _ _ _ _ _⟩ ?_
                rintro w9 ⟨hh9, ho9, he9, hb9⟩
                clear e0 e1 e2 e3 e4 e5 e6 e7 e8 e9
                obtain ⟨e0, e1, e2, e3, e4, e5, e6, e7, e8, e9⟩ := cells10 hh9
                refine bodyPost_ret (v := .tuple #[.agg #[.slice da dnn.length dc, .slice ga dns.length gc, .int .i64 dnf, .int .i64 dno, .bool dnd, .int .i64 ((G : Int) + 1), .int .i64 o, .int .i64 N, .int .i64 1, .slice va vn vc], .int .i64 0]) (by simp [results, Tryz.results41, go_sem, e0, e1, e2, e3, e4, e5, e6, e7, e8, e9]) rfl ?_
                rw [HRV.out]
                exact ⟨⟨_, rfl, _, _, _, by simp only [Int.natCast_add, Int.natCast_one], ho9, he9⟩, hb9⟩
              · have HRV : Hid (R = failR ⟨dnn, dns, dnf, dno, dnd⟩ perr) := HRW2.out.trans (if_pos hpe)
                have hne : (perr != 0) = true := by simpa using hpe
                have HPE := Lib.hid hpe
                clear hpe
                go_wp2_with fail
                with_reducible refine (fail37 _ _ _ _ _ _ ⟨dnn, dns, dnf, dno, dnd⟩ perr _).mono ?_
                rintro _ w4 ⟨rfl, hb4⟩
                have hq4 := block_below hb4 ((Below.heap_alloc w3 _ _ hlq).trans HQ.out) (by simp; omega)
                have B4 := Lib.hid ((B3.out.alloc (by omega) _).trans (hb4.mono (by simp; omega)))
                have HO4 := Lib.hid ((HOD.out.mono (HAL.out _)).mono hb4)
                clear e0 e1 e2 e3 e4 e5 e6 e7 e8 e9 frq c0 c1 c2 c3 c4 c5 c6 c7 c8 c9
                obtain ⟨e0, e1, e2, e3, e4, e5, e6, e7, e8, e9⟩ := cells10 hq4
                have frq := free_all hq4
                have HQ4 := Lib.hid hq4
                clear hq4 hb4
                have HFV : Hid (∃ (p0 p1 : Option Addr) (n0 k0 n1 k1 : Nat) (f0 o0 : Int) (b0 : Bool), failV (.slice da dnn.length dc) (.slice ga dns.length gc) ⟨dnn, dns, dnf, dno, dnd⟩ perr = .agg #[.slice p0 n0 k0, .slice p1 n1 k1, .int .i64 f0, .int .i64 o0, .bool b0, .int .i64 0, .int .i64 0, .int .i64 0, .int .i64 0, .slice none 0 0] ∧ ∀ W, OwnD W w.heap.size (.slice da dnn.length dc) (.slice ga dns.length gc) dnn dns → StoO W w.heap.size (.agg #[.slice p0 n0 k0, .slice p1 n1 k1, .int .i64 f0, .int .i64 o0, .bool b0, .int .i64 0, .int .i64 0, .int .i64 0, .int .i64 0, .slice none 0 0]) (failR ⟨dnn, dns, dnf, dno, dnd⟩ perr).1) := by
                  have hst := fun W (h : OwnD W w.heap.size (.slice da dnn.length dc) (.slice ga dns.length gc) dnn dns) => failV_sto (w := W) (err := perr) (d := ⟨dnn, dns, dnf, dno, dnd⟩) h
                  unfold failV at hst ⊢
                  by_cases h40 : perr = 40
                  · simp only [if_pos h40] at hst ⊢
                    exact ⟨_, _, _, _, _, _, _, _, _, rfl, hst⟩
                  · simp only [if_neg h40] at hst ⊢
                    exact ⟨_, _, _, _, _, _, _, _, _, rfl, hst⟩
                obtain ⟨p0, p1, n0, k0, n1, k1, f0, o0, b0, hfv, hst⟩ := HFV.out
                rw [hfv]
                have HSTO := Lib.hid hst
                clear hfv hst HFV
                go_wp2
                refine post_world (fun w' => w'.heap[w.heap.size + 1]? = some (.cells #[.slice p0 n0 k0, .slice p1 n1 k1, .int .i64 f0, .int .i64 o0, .bool b0, .int .i64 0, .int .i64 0, .int .i64 0, .int .i64 0, .slice none 0 0] 39 (0, 0)) ∧ OwnD w' w.heap.size (.slice da dnn.length dc) (.slice ga dns.length gc) dnn dns ∧ Below w.heap.size w w') ⟨set10 HQ4.out, (HO4.out.above ((Above.refl _ _).set10 (by omega) _ _ _ _ _ _ _ _ _ _) (Nat.le_refl _)).lower (by omega), below_set10 B4.out (Nat.le_succ _) _ _ _ _ _ _ _ _ _ _⟩ ?_
                rintro w9 ⟨hh9, ho9, hb9⟩
                clear e0 e1 e2 e3 e4 e5 e6 e7 e8 e9
                obtain ⟨e0, e1, e2, e3, e4, e5, e6, e7, e8, e9⟩ := cells10 hh9
                refine bodyPost_ret (v := .tuple #[.agg #[.slice p0 n0 k0, .slice p1 n1 k1, .int .i64 f0, .int .i64 o0, .bool b0, .int .i64 0, .int .i64 0, .int .i64 0, .int .i64 0, .slice none 0 0], .int .i64 perr]) (by simp [results, Tryz.results41, go_sem, e0, e1, e2, e3, e4, e5, e6, e7, e8, e9]) rfl ?_
                rw [HRV.out, failR_err]
                exact ⟨⟨_, rfl, HSTO.out _ ho9⟩, hb9⟩
      · have HRV : Hid (R = (Sto.zero, te)) := by simp only [Hid]; rw [HR.out]; unfold compactR; rw [if_pos hte]
        have hne : (te != 0) = true := by simpa using hte
        clear hte
        go_wp2
        refine post_world (ZeroSto w (w.heap.size + 1)) ⟨set10 HQ.out, below_set10 B1.out (Nat.le_succ _) _ _ _ _ _ _ _ _ _ _⟩ ?_
        rintro w9 ⟨hh9, hb9⟩
        clear e0 e1 e2 e3 e4 e5 e6 e7 e8 e9
        obtain ⟨e0, e1, e2, e3, e4, e5, e6, e7, e8, e9⟩ := cells10 hh9
        refine bodyPost_ret (v := .tuple #[.agg #[.slice none 0 0, .slice none 0 0, .int .i64 0, .int .i64 0, .bool false, .int .i64 0, .int .i64 0, .int .i64 0, .int .i64 0, .slice none 0 0], .int .i64 te]) (by simp [results, Tryz.results41, go_sem, e0, e1, e2, e3, e4, e5, e6, e7, e8, e9]) rfl ?_
        rw [HRV.out]
        exact ⟨⟨_, rfl, StoO.zero _ _⟩, hb9⟩
end Go.Proofs.YtjkmbbnjiobckaaGreatDoor
