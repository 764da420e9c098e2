/-
  store.write: the sectors of a frame, and a flush.
-/
import Derived.Test.YtjkmbbnjiobckaaGreatDoorCopied
namespace Go.Proofs.YtjkmbbnjiobckaaGreatDoor
open Go.RowKit
/-- What reads is read still where all that lay lies unturned. -/
def Agree (w w' : World) : Prop := ∀ b, b < w.heap.size → w'.heap[b]? = w.heap[b]?
theorem Row.agree {w w' : World} {a : Option Addr} {n cap : Nat} {xs : List Value} (h : Row w a n cap xs) (hb : Agree w w') : Row w' a n cap xs :=
  ⟨h.le, h.most, fun j x hj => by
    obtain ⟨b, o, ha, hc⟩ := h.at' j x hj
    exact ⟨b, o, ha, by rw [World.cell?_of_block (a := ⟨b, o + j, none⟩) (hb b (World.block_lt_of_cell? w _ hc))]; exact hc⟩⟩
theorem Slc.agree {w w' : World} {v : Value} {l : List UInt8} (h : Slc w v l) (hb : Agree w w') : Slc w' v l := by
  obtain ⟨a, cap, rfl, h⟩ := h
  exact ⟨a, cap, rfl, Row.agree h hb⟩
theorem Slcs.agree {w w' : World} {v : Value} {ll : List (List UInt8)} (h : Slcs w v ll) (hb : Agree w w') : Slcs w' v ll := by
  obtain ⟨a, cap, vs, rfl, hr, hl, hx⟩ := h
  exact ⟨a, cap, vs, rfl, Row.agree hr hb, hl, fun i x hi => let ⟨l, h1, h2⟩ := hx i x hi; ⟨l, h1, h2.agree hb⟩⟩
theorem DskV.agree {w w' : World} {v : Value} {d : Dsk} (h : DskV w v d) (hb : Agree w w') : DskV w' v d := by
  obtain ⟨x, y, rfl, h1, h2⟩ := h
  exact ⟨x, y, rfl, h1.agree hb, h2.agree hb⟩
/-- A disk that reads as d whatever is written in the blocks p and p + 1. -/
def DskR (p : Nat) (w : World) (v : Value) (d : Dsk) : Prop := ∀ w', (∀ b, b ≠ p → b ≠ p + 1 → b < w.heap.size → w'.heap[b]? = w.heap[b]?) → DskV w' v d
theorem DskR.dskV {p : Nat} {w : World} {v : Value} {d : Dsk} (h : DskR p w v d) : DskV w v d := h w (fun _ _ _ _ => rfl)
theorem DskR.mono {p : Nat} {w w' : World} {v : Value} {d : Dsk} (h : DskR p w v d) (hb : Below w.heap.size w w') : DskR p w' v d :=
  fun W hW => h W (fun b h1 h2 h3 => (hW b h1 h2 (Nat.lt_of_lt_of_le h3 hb.size)).trans (hb.block b h3))
theorem DskR.old {w w' : World} {v : Value} {d : Dsk} (h : DskV w v d) (hb : Below w.heap.size w w') : DskR w.heap.size w' v d :=
  fun W hW => h.agree (fun b hb' => (hW b (by omega) (by omega) (Nat.lt_of_lt_of_le hb' hb.size)).trans (hb.block b hb'))
theorem OwnD.slcs {w : World} {base : Nat} {x y : Value} {now safe : List (List UInt8)} (h : OwnD w base x y now safe) : Slcs w x now ∧ Slcs w y safe := by
  obtain ⟨m, _, h1, _, h2⟩ := h
  exact ⟨h1.slcs, h2.slcs⟩
theorem FrB.off {p base : Nat} {w W : World} {v : Value} {l : List UInt8} (h : FrB w base v l) (hp : p + 2 ≤ base) (hW : ∀ b, b ≠ p → b ≠ p + 1 → b < w.heap.size → W.heap[b]? = w.heap[b]?) : FrB W base v l := by
  obtain ⟨a, cap, rfl, hr, k⟩ := h
  refine ⟨a, cap, rfl, ⟨hr.le, hr.most, fun j x hj => ?_⟩, fun b o e => ?_⟩
  · obtain ⟨b, o, e, hc⟩ := hr.at' j x hj
    have := (k b o e).1
    exact ⟨b, o, e, by rw [World.cell?_of_block (a := ⟨b, o + j, none⟩) (hW b (by omega) (by omega) (World.block_lt_of_cell? w _ hc))]; exact hc⟩
  · obtain ⟨h1, cur, fr, h2⟩ := k b o e
    exact ⟨h1, cur, fr, (hW b (by omega) (by omega) (Array.getElem?_eq_some_iff.1 h2).1).trans h2⟩
theorem OwnD.dskR {p base : Nat} {w : World} {x y : Value} {d : Dsk} (h : OwnD w base x y d.now d.safe) (hp : p + 2 ≤ base) : DskR p w (.agg #[x, y, .int .i64 d.fuse, .int .i64 d.ops, .bool d.dead]) d := by
  intro W hW
  have hlt := h
  obtain ⟨m, h0, h1, h2, h3⟩ := h
  refine OwnD.dskV (base := base) ⟨m, h0, ?_, h2, ?_⟩
  · obtain ⟨vs, ⟨a, cap, rfl, g⟩, k2, k3⟩ := h1
    refine ⟨vs, ⟨a, cap, rfl, ?_⟩, k2, fun i z hi => ?_⟩
    · exact ⟨g.1, g.2.imp id fun ⟨c, cp, cur, e1, e2, e3, r⟩ => ⟨c, cp, cur, e1, e2, (hW c (by omega) (by omega) (Array.getElem?_eq_some_iff.1 e3).1).trans e3, r⟩⟩
    · obtain ⟨l, e1, e2⟩ := k3 i z hi
      exact ⟨l, e1, e2.off hp hW⟩
  · obtain ⟨vs, ⟨a, cap, rfl, g⟩, k2, k3⟩ := h3
    refine ⟨vs, ⟨a, cap, rfl, ?_⟩, k2, fun i z hi => ?_⟩
    · exact ⟨g.1, g.2.imp id fun ⟨c, cp, cur, e1, e2, e3, r⟩ => ⟨c, cp, cur, e1, e2, (hW c (by omega) (by omega) (Array.getElem?_eq_some_iff.1 e3).1).trans e3, r⟩⟩
    · obtain ⟨l, e1, e2⟩ := k3 i z hi
      exact ⟨l, e1, e2.off (by omega) hW⟩
theorem write83_any (v b : Value) (d : Dsk) (n : Int) (l : List UInt8) (w : World) (h : DskV w v d) (hb : Slc w b l) (hf : d.fuse ≤ 9223372036854775807) :
    Calls Tryz.prog 83 #[v, .int .i64 n, b] w (DoneP w (d.writeR n l).1 (d.writeR n l).2) := by
  by_cases hr : d.readyV = 0
  · by_cases hbad : (n < 0 ∨ (d.now.length : Int) ≤ n) ∨ l.length ≠ 64
    · obtain ⟨ba, bc, rfl, -⟩ := hb
      exact write83_bad v ba bc d n l w h hr hbad
    · obtain ⟨m, rfl⟩ : ∃ m : Nat, n = m := ⟨n.toNat, by omega⟩
      exact write83_good v b d m l w h hr hb hf (by omega) (by omega)
  · obtain ⟨ba, bc, rfl, -⟩ := hb
    exact write83_not v ba _ bc d n l w h hr
/-- Rows written one behind the other: the disk that is left, and the first error. -/
def putRows : Dsk → Nat → List (List UInt8) → Dsk × Int
  | d, _, [] => (d, 0)
  | d, at', s :: rest => if (d.writeR at' s).2 = 0 then putRows (d.writeR at' s).1 (at' + 1) rest else (if (d.writeR at' s).1.validB then (d.writeR at' s).1 else d, (d.writeR at' s).2)
/-- And a flush. -/
def Dsk.putAll (d : Dsk) (at' : Nat) (l : List (List UInt8)) : Dsk × Int :=
  if (putRows d at' l).2 = 0 then (if (putRows d at' l).1.flushR.1.validB then (putRows d at' l).1.flushR.1 else (putRows d at' l).1, (putRows d at' l).1.flushR.2) else putRows d at' l
theorem downFuse_le {n : Int} (h : n ≤ 9223372036854775807) : downFuse n ≤ 9223372036854775807 := by unfold downFuse; split <;> omega
theorem writeR_ok {d : Dsk} {n : Int} {l : List UInt8} (h : (d.writeR n l).2 = 0) : d.readyV = 0 ∧ 0 ≤ n ∧ n < d.now.length ∧ l.length = 64 ∧ d.fuse ≠ 0 ∧ (d.writeR n l).1 = d.spent (d.now.set n.toNat l) d.safe := by
  by_cases hr : d.readyV = 0
  · rw [Dsk.writeR_ready hr] at h ⊢
    by_cases h1 : n < 0 ∨ (d.now.length : Int) ≤ n
    · rw [if_pos h1] at h; cases h
    · rw [if_neg h1] at h ⊢
      by_cases h2 : l.length ≠ 64
      · rw [if_pos h2] at h; cases h
      · rw [if_neg h2] at h ⊢
        by_cases h3 : d.fuse = 0
        · rw [if_pos h3] at h; cases h
        · rw [if_neg h3]
          exact ⟨hr, by omega, by omega, by omega, h3, rfl⟩
  · rw [(Dsk.readyV_ne hr n l).1] at h
    exact absurd h hr
theorem mem_set_len {ll : List (List UInt8)} {n : Nat} {l : List UInt8} (h : ∀ x ∈ ll, x.length = 64) (hl : l.length = 64) : ∀ x ∈ ll.set n l, x.length = 64 := by
  intro x hx
  rcases List.mem_or_eq_of_mem_set hx with h1 | rfl
  · exact h x h1
  · exact hl
theorem wrongIn_false {ll : List (List UInt8)} (h : ∀ x ∈ ll, x.length = 64) : wrongIn ll = false := by
  unfold wrongIn
  rw [List.any_eq_false]
  intro x hx
  simpa using h x hx
/-- An operation keeps a disk valid. -/
theorem spent_valid {d : Dsk} {now safe : List (List UInt8)} (h : d.validB = true) (h1 : now.length = d.now.length) (h2 : safe.length = d.now.length) (h3 : ∀ x ∈ now, x.length = 64) (h4 : ∀ x ∈ safe, x.length = 64) : (d.spent now safe).validB = true := by
  obtain ⟨-, v1, v2, v3, v4, v5, v6, -, -, v7⟩ := Dsk.valid_small h
  unfold Dsk.validB Dsk.spent sectorsB
  simp only [Bool.and_eq_true, decide_eq_true_eq, Bool.not_eq_true']
  refine ⟨⟨⟨⟨⟨⟨⟨⟨?_, ?_⟩, ?_⟩, ?_⟩, ?_⟩, ?_⟩, ?_⟩, wrongIn_false h3⟩, wrongIn_false h4⟩
  · omega
  · omega
  · omega
  · omega
  · unfold downFuse; split <;> omega
  · unfold moreOps; omega
  · unfold moreOps; omega
theorem writeR_valid {d : Dsk} {n : Int} {l : List UInt8} (h : (d.writeR n l).2 = 0) : (d.writeR n l).1.validB = true ∧ (d.writeR n l).1.dead = false ∧ (d.writeR n l).1.now.length = d.now.length := by
  obtain ⟨h1, h2, h3, h4, h5, h6⟩ := writeR_ok h
  obtain ⟨hv, hd⟩ := Dsk.readyV_zero h1
  obtain ⟨-, v1, v2, v3, v4, v5, v6, r1, r2, v7⟩ := Dsk.valid_small hv
  rw [h6]
  exact ⟨spent_valid hv (by simp) v3.symm (mem_set_len r1 h4) r2, hd, by simp [Dsk.spent]⟩
theorem writeR_fuse {d : Dsk} {n : Int} {l : List UInt8} (h : (d.writeR n l).2 = 0) (hf : d.fuse ≤ 9223372036854775807) : (d.writeR n l).1.fuse ≤ 9223372036854775807 := by
  rw [(writeR_ok h).2.2.2.2.2]
  exact downFuse_le hf
set_option maxRecDepth 100000 in
set_option maxHeartbeats 2000000 in
theorem put55 (v b : Value) (d : Dsk) (at' : Nat) (l : List (List UInt8)) (w : World) (h : DskV w v d) (hb : Slcs w b l) (hsm : d.small) (hf : d.fuse ≤ 9223372036854775807) (hat : at' ≤ 1000000) (hl : l.length ≤ 1000000) :
    Calls Tryz.prog 55 #[v, .int .i64 at', b] w fun e w' => (∃ x y, e = .returned (.tuple #[.agg #[x, y, .int .i64 (d.putAll at' l).1.fuse, .int .i64 (d.putAll at' l).1.ops, .bool (d.putAll at' l).1.dead], .int .i64 (d.putAll at' l).2]) ∧ OwnD w' w.heap.size x y (d.putAll at' l).1.now (d.putAll at' l).1.safe) ∧ Below w.heap.size w w' := by
  have HD := Lib.hid h
  have HL := Lib.hid hb
  have HSM := Lib.hid hsm
  obtain ⟨x, y, rfl, hx, hy⟩ := h
  obtain ⟨xa, xc, xs, rfl, -⟩ := hx
  obtain ⟨ya, yc, ys, rfl, -⟩ := hy
  obtain ⟨ba, bc, bs, rfl, hbr, -, -⟩ := hb
  have hbc := hbr.le
  obtain ⟨now, safe, fuse, ops, dead⟩ := d
  simp only at hf ⊢
  obtain ⟨R, hR⟩ : ∃ R, R = (⟨now, safe, fuse, ops, dead⟩ : Dsk).putAll at' l := ⟨_, rfl⟩
  rw [← hR]
  have HR := Lib.hid hR
  clear hR hsm hbr
  go_enter Tryz.func55, Tryz.ntmps55
  go_wp2
  refine wp_world (fun w' => Below w.heap.size w w' ∧ w'.heap[w.heap.size]? = some _ ∧ w'.heap[w.heap.size + 1]? = some _ ∧ w'.heap.size = w.heap.size + 2) (box2 w _ _) ?_
  rintro w0 ⟨hb0, hh0, hh1, hz0⟩
  have HB0 := Lib.hid hb0
  have HH0 := Lib.hid hh0
  have HH1 := Lib.hid hh1
  have HZ0 := Lib.hid hz0
  clear hb0 hh0 hh1 hz0
  go_loopw [16, 8, 9, 10, 11] (fun i _ _ _ _ wr => ∃ (k : Nat) (xa ya : Option Addr) (xc yc : Nat) (c : Dsk), k ≤ l.length ∧ i = .int .i64 (k : Int) ∧ wr.heap[w.heap.size]? = some (.cells #[.slice xa c.now.length xc, .slice ya c.safe.length yc, .int .i64 c.fuse, .int .i64 c.ops, .bool c.dead] 36 (0, 0)) ∧ wr.heap[w.heap.size + 1]? = some (.cells #[.slice none 0 0, .slice none 0 0, .int .i64 0, .int .i64 0, .bool false] 36 (0, 0)) ∧ DskR w.heap.size wr (.agg #[.slice xa c.now.length xc, .slice ya c.safe.length yc, .int .i64 c.fuse, .int .i64 c.ops, .bool c.dead]) c ∧ putRows ⟨now, safe, fuse, ops, dead⟩ at' l = putRows c (at' + k) (l.drop k) ∧ c.small ∧ c.fuse ≤ 9223372036854775807 ∧ Below w.heap.size w wr ∧ w.heap.size + 2 ≤ wr.heap.size) (fun i _ _ _ _ _ => l.length - (intOf i).toNat)
  case atStart => exact ⟨0, _, _, _, _, ⟨now, safe, fuse, ops, dead⟩, by omega, rfl, HH0.out, HH1.out, DskR.old HD.out HB0.out, by simp, HSM.out, hf, HB0.out, by have := HZ0.out; omega⟩
  case round =>
    obtain ⟨k, xa', ya', xc', yc', ⟨cn, cs, cf, co, cd⟩, hk, rfl, hp, hq, hr, hput, hcs, hcf, hb, hz⟩ := hrel
    simp only at hp hq hr hcf
    obtain ⟨c0, c1, c2, c3, c4⟩ := cells5 hp
    have frp := free_all hp
    have HP := Lib.hid hp
    have HQ := Lib.hid hq
    have HRD := Lib.hid hr
    have HPUT := Lib.hid hput
    have HCS := Lib.hid hcs
    have HB := Lib.hid hb
    clear hp hq hr hput hcs hb
    by_cases hlt : k < l.length
    · obtain ⟨b1, o1, a1, e1, he, hc, hrw⟩ := (HL.out.mono HB.out).get k hlt
      cases he
      have hltI : (k : Int) < l.length := by omega
      have q1 : IntKind.i64.wrap ((at' : Int) + (k : Int)) = (at' : Int) + (k : Int) := IntWalk.i64_in _ (by omega)
      have HRW := Lib.hid (Slc.mk rfl hrw)
      obtain ⟨s, hs⟩ : ∃ s, s = l[k] := ⟨_, rfl⟩
      have HST : Hid (putRows ⟨cn, cs, cf, co, cd⟩ (at' + k) (l.drop k) = if ((⟨cn, cs, cf, co, cd⟩ : Dsk).writeR ((at' + k : Nat) : Int) s).2 = 0 then putRows ((⟨cn, cs, cf, co, cd⟩ : Dsk).writeR ((at' + k : Nat) : Int) s).1 (at' + (k + 1)) (l.drop (k + 1)) else (if ((⟨cn, cs, cf, co, cd⟩ : Dsk).writeR ((at' + k : Nat) : Int) s).1.validB then ((⟨cn, cs, cf, co, cd⟩ : Dsk).writeR ((at' + k : Nat) : Int) s).1 else ⟨cn, cs, cf, co, cd⟩, ((⟨cn, cs, cf, co, cd⟩ : Dsk).writeR ((at' + k : Nat) : Int) s).2)) := by
        simp only [Hid]
        rw [List.drop_eq_getElem_cons hlt, putRows, ← hs]; rfl
      rw [← hs] at HRW hc
      have E := Lib.hid (write83_any _ (.slice a1 s.length e1) ⟨cn, cs, cf, co, cd⟩ ((at' + k : Nat) : Int) s wr HRD.out.dskV HRW.out hcf)
      have HWV : Hid (((⟨cn, cs, cf, co, cd⟩ : Dsk).writeR ((at' + k : Nat) : Int) s).2 = 0 → ((⟨cn, cs, cf, co, cd⟩ : Dsk).writeR ((at' + k : Nat) : Int) s).1.small ∧ ((⟨cn, cs, cf, co, cd⟩ : Dsk).writeR ((at' + k : Nat) : Int) s).1.fuse ≤ 9223372036854775807) := fun h => ⟨(Dsk.valid_small (writeR_valid h).1).1, writeR_fuse h hcf⟩
      obtain ⟨⟨dn, err⟩, hN⟩ : ∃ r, r = (⟨cn, cs, cf, co, cd⟩ : Dsk).writeR ((at' + k : Nat) : Int) s := ⟨_, rfl⟩
      rw [← hN] at E HST HWV
      rw [Int.natCast_add] at E
      simp only at E HST HWV
      clear hs hrw hN
      go_wp2_with fail
      with_reducible refine E.out.mono ?_
      rintro _ w1 ⟨⟨x1, y1, rfl, ho1⟩, hb1⟩
      have hp1 := block_below hb1 HP.out (by omega)
      have hq1 := block_below hb1 HQ.out (by omega)
      have hsz1 : w.heap.size + 2 ≤ w1.heap.size := Nat.le_trans hz hb1.size
      have hsp : w.heap.size < w1.heap.size := by omega
      have hsq : w.heap.size + 1 < w1.heap.size := by omega
      have B1 := Lib.hid (HB.out.trans (hb1.mono HB.out.size))
      have HO1 := Lib.hid (ho1.lower hz)
      have HRD1 := Lib.hid (HRD.out.mono hb1)
      obtain ⟨za, zc, ta, tc, rfl, rfl⟩ := ho1.len
      have HP1 := Lib.hid hp1
      have HQ1 := Lib.hid hq1
      clear c0 c1 c2 c3 c4 frp
      obtain ⟨c0, c1, c2, c3, c4⟩ := cells5 hp1
      have frp := free_all hp1
      obtain ⟨e0, e1, e2, e3, e4⟩ := cells5 hq1
      have frq := free_all hq1
      clear hp1 hq1 hb1 ho1
      obtain ⟨dnn, dns, dnf, dno, dnd⟩ := dn
      simp only at HO1
      by_cases herr : err = 0
      · subst herr
        obtain ⟨hs1, hs2⟩ := HWV.out rfl
        have HS1 := Lib.hid hs1
        have HS2 := Lib.hid hs2
        have HST2 : Hid (putRows ⟨now, safe, fuse, ops, dead⟩ at' l = putRows ⟨dnn, dns, dnf, dno, dnd⟩ (at' + (k + 1)) (l.drop (k + 1))) := HPUT.out.trans (HST.out.trans (if_pos rfl))
        clear hs1 hs2
        go_wp2
        go_roundw
        case rel =>
          have hal : Below w1.heap.size w1 (w1.alloc (.cells #[.slice za dnn.length zc, .slice ta dns.length tc, .int .i64 dnf, .int .i64 dno, .bool dnd] 36)) := (Below.refl _ _).alloc (Nat.le_refl _) _
          refine ⟨k + 1, _, _, _, _, ⟨dnn, dns, dnf, dno, dnd⟩, by omega, by go_num, (Below.heap_alloc _ _ _ (by simpa using hsp)).trans (set5 HP1.out), (Below.heap_alloc _ _ _ (by simpa using hsq)).trans (other_set5 HQ1.out (by omega)), OwnD.dskR (d := ⟨dnn, dns, dnf, dno, dnd⟩) ((HO1.out.above ((Above.refl _ _).set5 (by omega) _ _ _ _ _) (Nat.le_refl _)).mono ((Below.refl _ _).alloc (Nat.le_refl _) _)) (Nat.le_refl _), HST2.out, HS1.out, HS2.out, (below_set5 B1.out (Nat.le_refl _) _ _ _ _ _).alloc (by simp; omega) _, by simp; omega⟩
        case measure => simp [intOf]; omega
      · have hne : (err != 0) = true := by simpa using herr
        have HST2 : Hid (putRows ⟨now, safe, fuse, ops, dead⟩ at' l = (if Dsk.validB ⟨dnn, dns, dnf, dno, dnd⟩ then ⟨dnn, dns, dnf, dno, dnd⟩ else ⟨cn, cs, cf, co, cd⟩, err)) := HPUT.out.trans (HST.out.trans (if_neg herr))
        have HR2 : Hid (R = (if Dsk.validB ⟨dnn, dns, dnf, dno, dnd⟩ then ⟨dnn, dns, dnf, dno, dnd⟩ else ⟨cn, cs, cf, co, cd⟩, err)) := by
          simp only [Hid]
          rw [HR.out]; unfold Dsk.putAll
          rw [HST2.out]; simp only [if_neg herr]
        have HAL : Hid (∀ o, Below w1.heap.size w1 (w1.alloc o)) := fun o => (Below.refl _ _).alloc (Nat.le_refl _) o
        have HRD2 : Hid (∀ o, DskR w.heap.size (w1.alloc o) (.agg #[.slice za dnn.length zc, .slice ta dns.length tc, .int .i64 dnf, .int .i64 dno, .bool dnd]) ⟨dnn, dns, dnf, dno, dnd⟩) := fun o => OwnD.dskR (d := ⟨dnn, dns, dnf, dno, dnd⟩) (HO1.out.mono (HAL.out o)) (Nat.le_refl _)
        clear herr
        go_wp2_with fail
        with_reducible refine (left84 _ _ ⟨cn, cs, cf, co, cd⟩ ⟨dnn, dns, dnf, dno, dnd⟩ _ (HRD1.out.mono (HAL.out _)).dskV (HRD2.out _).dskV HCS.out).mono ?_
        rintro eR w2 ⟨hret, hb2⟩
        have hq2 := block_below hb2 ((Below.heap_alloc w1 _ _ hsq).trans HQ1.out) (by simp; omega)
        have B2 := Lib.hid ((B1.out.alloc (by omega) _).trans (hb2.mono (by simp; omega)))
        have hform : ∃ (D : Dsk) (ra sa : Option Addr) (rc sc : Nat), eR = .returned (.agg #[.slice ra D.now.length rc, .slice sa D.safe.length sc, .int .i64 D.fuse, .int .i64 D.ops, .bool D.dead]) ∧ OwnD w2 (w.heap.size + 2) (.slice ra D.now.length rc) (.slice sa D.safe.length sc) D.now D.safe ∧ D = if Dsk.validB ⟨dnn, dns, dnf, dno, dnd⟩ then ⟨dnn, dns, dnf, dno, dnd⟩ else ⟨cn, cs, cf, co, cd⟩ := by
          cases hv : Dsk.validB ⟨dnn, dns, dnf, dno, dnd⟩
          · rw [hv] at hret
            obtain ⟨xx, yy, rfl, ho⟩ := hret
            obtain ⟨ra, rc, sa, sc, rfl, rfl⟩ := ho.len
            exact ⟨⟨cn, cs, cf, co, cd⟩, ra, sa, rc, sc, rfl, ho.lower (by simp; omega), rfl⟩
          · rw [hv] at hret
            exact ⟨⟨dnn, dns, dnf, dno, dnd⟩, za, ta, zc, tc, hret, (HO1.out.mono (HAL.out _)).mono hb2, rfl⟩
        obtain ⟨⟨Dn, Ds, Df, Do, Dd⟩, ra, sa, rc, sc, rfl, hrd, hD⟩ := hform
        have HQ2 := Lib.hid hq2
        have HRD3 := Lib.hid hrd
        have HDD := Lib.hid hD
        clear c0 c1 c2 c3 c4 frp e0 e1 e2 e3 e4 frq
        obtain ⟨e0, e1, e2, e3, e4⟩ := cells5 hq2
        have frq := free_all hq2
        simp only at HRD3
        clear hret hb2 hrd hD hq2
        go_wp2
        refine post_world (fun w' => w'.heap[w.heap.size + 1]? = some (.cells #[.slice ra Dn.length rc, .slice sa Ds.length sc, .int .i64 Df, .int .i64 Do, .bool Dd] 36 (0, 0)) ∧ OwnD w' w.heap.size (.slice ra Dn.length rc) (.slice sa Ds.length sc) Dn Ds ∧ Below w.heap.size w w') ⟨set5 HQ2.out, (HRD3.out.above ((Above.refl _ _).set5 (by omega) _ _ _ _ _) (Nat.le_refl _)).lower (by omega), below_set5 B2.out (Nat.le_succ _) _ _ _ _ _⟩ ?_
        rintro w9 ⟨hh9, hd9, hb9⟩
        obtain ⟨e0, e1, e2, e3, e4⟩ := cells5 hh9
        refine bodyPost_ret (v := .tuple #[.agg #[.slice ra Dn.length rc, .slice sa Ds.length sc, .int .i64 Df, .int .i64 Do, .bool Dd], .int .i64 err]) (by simp [results, Tryz.results55, go_sem, e0, e1, e2, e3, e4]) rfl ?_
        rw [HR2.out, ← HDD.out]
        exact ⟨⟨_, _, rfl, hd9⟩, hb9⟩
    · obtain rfl : k = l.length := by omega
      have HST2 : Hid (putRows ⟨now, safe, fuse, ops, dead⟩ at' l = (⟨cn, cs, cf, co, cd⟩, 0)) := by
        simp only [Hid]
        rw [HPUT.out, List.drop_length]; rfl
      have E := Lib.hid (flush85 _ ⟨cn, cs, cf, co, cd⟩ wr HRD.out.dskV hcf)
      obtain ⟨⟨⟨dnn, dns, dnf, dno, dnd⟩, err⟩, hN⟩ : ∃ r, r = (⟨cn, cs, cf, co, cd⟩ : Dsk).flushR := ⟨_, rfl⟩
      have HR2 : Hid (R = (if Dsk.validB ⟨dnn, dns, dnf, dno, dnd⟩ then ⟨dnn, dns, dnf, dno, dnd⟩ else ⟨cn, cs, cf, co, cd⟩, err)) := by
        simp only [Hid]
        rw [HR.out]; unfold Dsk.putAll
        rw [HST2.out]; simp only [if_true]; rw [← hN]
      rw [← hN] at E
      simp only at E
      clear hN
      go_wp2_with fail
      with_reducible refine E.out.mono ?_
      rintro _ w1 ⟨⟨x1, y1, rfl, ho1⟩, hb1⟩
      have hp1 := block_below hb1 HP.out (by omega)
      have hq1 := block_below hb1 HQ.out (by omega)
      have hsz1 : w.heap.size + 2 ≤ w1.heap.size := Nat.le_trans hz hb1.size
      have hsp : w.heap.size < w1.heap.size := by omega
      have hsq : w.heap.size + 1 < w1.heap.size := by omega
      have B1 := Lib.hid (HB.out.trans (hb1.mono HB.out.size))
      have HO1 := Lib.hid (ho1.lower hz)
      have HRD1 := Lib.hid (HRD.out.mono hb1)
      obtain ⟨za, zc, ta, tc, rfl, rfl⟩ := ho1.len
      have HP1 := Lib.hid hp1
      have HQ1 := Lib.hid hq1
      clear c0 c1 c2 c3 c4 frp
      obtain ⟨c0, c1, c2, c3, c4⟩ := cells5 hp1
      have frp := free_all hp1
      obtain ⟨e0, e1, e2, e3, e4⟩ := cells5 hq1
      have frq := free_all hq1
      clear hp1 hq1 hb1 ho1
      simp only at HO1
      have HAL : Hid (∀ o, Below w1.heap.size w1 (w1.alloc o)) := fun o => (Below.refl _ _).alloc (Nat.le_refl _) o
      have HRD2 : Hid (∀ o, DskR w.heap.size (w1.alloc o) (.agg #[.slice za dnn.length zc, .slice ta dns.length tc, .int .i64 dnf, .int .i64 dno, .bool dnd]) ⟨dnn, dns, dnf, dno, dnd⟩) := fun o => OwnD.dskR (d := ⟨dnn, dns, dnf, dno, dnd⟩) (HO1.out.mono (HAL.out o)) (Nat.le_refl _)
      go_wp2_with fail
      with_reducible refine (left84 _ _ ⟨cn, cs, cf, co, cd⟩ ⟨dnn, dns, dnf, dno, dnd⟩ _ (HRD1.out.mono (HAL.out _)).dskV (HRD2.out _).dskV HCS.out).mono ?_
      rintro eR w2 ⟨hret, hb2⟩
      have hq2 := block_below hb2 ((Below.heap_alloc w1 _ _ hsq).trans HQ1.out) (by simp; omega)
      have B2 := Lib.hid ((B1.out.alloc (by omega) _).trans (hb2.mono (by simp; omega)))
      have hform : ∃ (D : Dsk) (ra sa : Option Addr) (rc sc : Nat), eR = .returned (.agg #[.slice ra D.now.length rc, .slice sa D.safe.length sc, .int .i64 D.fuse, .int .i64 D.ops, .bool D.dead]) ∧ OwnD w2 (w.heap.size + 2) (.slice ra D.now.length rc) (.slice sa D.safe.length sc) D.now D.safe ∧ D = if Dsk.validB ⟨dnn, dns, dnf, dno, dnd⟩ then ⟨dnn, dns, dnf, dno, dnd⟩ else ⟨cn, cs, cf, co, cd⟩ := by
        cases hv : Dsk.validB ⟨dnn, dns, dnf, dno, dnd⟩
        · rw [hv] at hret
          obtain ⟨xx, yy, rfl, ho⟩ := hret
          obtain ⟨ra, rc, sa, sc, rfl, rfl⟩ := ho.len
          exact ⟨⟨cn, cs, cf, co, cd⟩, ra, sa, rc, sc, rfl, ho.lower (by simp; omega), rfl⟩
        · rw [hv] at hret
          exact ⟨⟨dnn, dns, dnf, dno, dnd⟩, za, ta, zc, tc, hret, (HO1.out.mono (HAL.out _)).mono hb2, rfl⟩
      obtain ⟨⟨Dn, Ds, Df, Do, Dd⟩, ra, sa, rc, sc, rfl, hrd, hD⟩ := hform
      have HQ2 := Lib.hid hq2
      have HRD3 := Lib.hid hrd
      have HDD := Lib.hid hD
      clear c0 c1 c2 c3 c4 frp e0 e1 e2 e3 e4 frq
      obtain ⟨e0, e1, e2, e3, e4⟩ := cells5 hq2
      have frq := free_all hq2
      simp only at HRD3
      clear hret hb2 hrd hD hq2
      go_wp2
      refine post_world (fun w' => w'.heap[w.heap.size + 1]? = some (.cells #[.slice ra Dn.length rc, .slice sa Ds.length sc, .int .i64 Df, .int .i64 Do, .bool Dd] 36 (0, 0)) ∧ OwnD w' w.heap.size (.slice ra Dn.length rc) (.slice sa Ds.length sc) Dn Ds ∧ Below w.heap.size w w') ⟨set5 HQ2.out, (HRD3.out.above ((Above.refl _ _).set5 (by omega) _ _ _ _ _) (Nat.le_refl _)).lower (by omega), below_set5 B2.out (Nat.le_succ _) _ _ _ _ _⟩ ?_
      rintro w9 ⟨hh9, hd9, hb9⟩
      obtain ⟨e0, e1, e2, e3, e4⟩ := cells5 hh9
      refine bodyPost_ret (v := .tuple #[.agg #[.slice ra Dn.length rc, .slice sa Ds.length sc, .int .i64 Df, .int .i64 Do, .bool Dd], .int .i64 err]) (by simp [results, Tryz.results55, go_sem, e0, e1, e2, e3, e4]) rfl ?_
      rw [HR2.out, ← HDD.out]
      exact ⟨⟨_, _, rfl, hd9⟩, hb9⟩
end Go.Proofs.YtjkmbbnjiobckaaGreatDoor
