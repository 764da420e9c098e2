/-
  flagstoneref32.New: a disk of zeros; the law's own 'empty'.
-/
import Derived.Test.YtjkmbbnjiobckaaGreatDoorFlush
import Derived.Maps.AppendAt
namespace Go.Proofs.YtjkmbbnjiobckaaGreatDoor
open Go.RowKit
/-- 'append(x, row)' onto a list of rows of the call's own, as one operation; where the longer list lies. -/
theorem append_row_wp {w : World} {K : Act → World → Prop} {o : Oper} {ac : Act} {Q : Exit → Act → World → Prop} {s x : Operand}
    (ho : o.op = .call { callee := .builtin .append, args := #[s, x], argTypes := #[25, 25] }) {base : Nat} {v : Value} {vs news : List Value} {ad : Addr} {m c : Nat}
    (hs : ac.eval s = v) (hx : ac.eval x = .slice (some ad) m c) (hown : OwnVs w base v vs) (hsrc : Row w (some ad) m c news) (hl : news.length = m) (hm : 0 < m) (h1 : ∀ u ∈ news, u.oneCell' = true) (hlen : vs.length + m ≤ 5864062014805) (hbase : base ≤ w.heap.size)
    (h : ∀ v' w', OwnVs w' base v' (vs ++ news) → w.grownBy w' v.ownBlock → (v'.ownBlock = v.ownBlock ∨ v'.ownBlock = some w.heap.size) → K (ac.put o.dst v') w') :
    o.wp Tryz.prog ac w K Q := by
  obtain ⟨a, cap, rfl, hown⟩ := hown
  obtain ⟨i0, hi, hz0, hz1, hz2⟩ := info_parts Tryz.info22
  obtain ⟨b, of, e, hc⟩ := hsrc.addr (by omega)
  cases e
  obtain ⟨v', w', hr, h2, h3, -, h4⟩ := run_append_own_at (P := Tryz.prog) w base 25 o.type 22 i0 (.slice none 0 0) 1 24 Tryz.underlying25 hi hz0 hz1 hz2 rfl (by decide) _ vs.length vs hown ⟨b, of, none⟩ m c news (by omega)
    (fun j u hj => by
      have := hc j u hj
      simp only [Addr.add]
      split
      · rename_i h0; rw [h0] at this; exact this
      · exact this) h1 (by unfold maxLen; omega) (by omega) hbase
  have h2' : OwnVs w' base v' (vs ++ news) := by
    rcases h2.2 with ⟨rfl, h0⟩ | ⟨g, c', cur, rfl, r⟩
    · omega
    · exact OwnVs.mk h2 (by rw [List.length_append, hl])
  unfold Oper.wp execOp
  simp only [ho, resolve, invoke, builtin, Sem.run_bind, Sem.run_pure, Result.andThen_ok, List.map_toArray, List.map_cons, List.map_nil, hs, hx, hr]
  exact h v' w' h2' h3 h4
/-- A row of zeros. -/
def zeros64 : List UInt8 := List.replicate 64 0
theorem make64 (W : World) : (Instr.makeSlice 22 (.int .i64 64) (.int .i64 64)).run Tryz.prog W = .ok (.slice (some ⟨W.heap.size, 0, none⟩) 64 64) (W.alloc (.cells (Array.replicate 64 (.int .u8 0)) 5)) := by
  obtain ⟨i0, hi, hz0, hz1, hz2⟩ := info_parts Tryz.info5
  have h2 : madeCells #[Value.int .u8 0] 64 = Array.replicate 64 (.int .u8 0) := Array.toList_inj.1 (by rw [Array.toList_replicate]; exact toList_madeCells_one _ 64)
  have := run_make (P := Tryz.prog) W 22 5 i0 (.int .u8 0) Tryz.underlying22 hi hz0 .i64 .i64 64 64 (by omega) (by omega) (by rw [hz2]; omega) (by omega)
  rw [this, hz1]
  exact congrArg (fun c => Result.ok _ (W.alloc (.cells c 5))) h2
/-- A disk of zeros. -/
def Dsk.blank (n : Nat) : Dsk := ⟨List.replicate n zeros64, List.replicate n zeros64, -1, 0, false⟩
/-- Two lists of rows, each of the call's own, in different blocks. -/
def TwoSs (w : World) (base : Nat) (x y : Value) (ll mm : List (List UInt8)) : Prop := OwnSs w base x ll ∧ OwnSs w base y mm ∧ ∀ k, x.ownBlock = some k → y.ownBlock ≠ some k
theorem OwnVs.ge {w : World} {base : Nat} {x : Value} {vs : List Value} (h : OwnVs w base x vs) : ∀ k, x.ownBlock = some k → base ≤ k := by
  obtain ⟨a, cap, rfl, h⟩ := h
  exact fun k hk => (h.lt k hk).1
theorem OwnVs.form {w : World} {base : Nat} {x : Value} {vs : List Value} (h : OwnVs w base x vs) : ∃ a n c, x = .slice a n c := by
  obtain ⟨a, cap, rfl, -⟩ := h
  exact ⟨_, _, _, rfl⟩
theorem TwoSs.symm {w : World} {base : Nat} {x y : Value} {ll mm : List (List UInt8)} (h : TwoSs w base x y ll mm) : TwoSs w base y x mm ll := ⟨h.2.1, h.1, fun k hk e => h.2.2 k e hk⟩
theorem TwoSs.mono {w w' : World} {base : Nat} {x y : Value} {ll mm : List (List UInt8)} (h : TwoSs w base x y ll mm) (hb : Below w.heap.size w w') : TwoSs w' base x y ll mm := ⟨h.1.mono hb, h.2.1.mono hb, h.2.2⟩
theorem two_append {w w' : World} {base : Nat} {x x' y c : Value} {us : List Value} {ll mm : List (List UInt8)} {l : List UInt8} (h : TwoSs w base x y ll mm) (hv : OwnVs w base x us) (hl : us.length = ll.length)
    (hx : ∀ (i : Nat) (x : Value), us[i]? = some x → ∃ l : List UInt8, ll[i]? = some l ∧ FrB w base x l) (hc : FrB w base c l) (hv' : OwnVs w' base x' (us ++ [c])) (hg : w.grownBy w' x.ownBlock) (hb : x'.ownBlock = x.ownBlock ∨ x'.ownBlock = some w.heap.size) :
    TwoSs w' base x' y (ll ++ [l]) mm := by
  refine ⟨OwnSs.snoc hv hl hx hc hv' hg, h.2.1.kept hv hg ?_, fun k hk e => ?_⟩
  · cases hy : y.ownBlock with
    | none => exact .inl rfl
    | some k => exact .inr fun e => h.2.2 k e.symm hy
  · rcases hb with hb | hb
    · exact h.2.2 k (hb ▸ hk) e
    · have := h.2.1.block_lt k e
      rw [hb] at hk
      cases hk
      omega
theorem TwoSs.apart {w w' : World} {base p : Nat} {x y : Value} {ll mm : List (List UInt8)} {cs : Array Value} {T : TypeId} {fr : Nat × Nat} (h : TwoSs w base x y ll mm) (hp : w.heap[p]? = some (.cells cs T fr)) (hT : T ≠ 22) (hT5 : T ≠ 5) (hg : w.grownBy w' (some p)) : TwoSs w' base x y ll mm :=
  ⟨h.1.apart hp hT hT5 hg, h.2.1.apart hp hT hT5 hg, h.2.2⟩
/-- A region in whose head one block stands. -/
theorem wp_region_at (T : Nat) {id : Nat} {a : Act} {w : World} {l : List Oper} {P : Program} {Q : Exit → Act → World → Prop} (n : Nat) (pl : List Nat) (hm : P.follows .mixedOrders = true)
    (hB : Region.planB .any l.toArray n pl = true) (hQ : ∀ c a d v w, Q (.panic c) (a.put d v) w → Q (.panic c) a w)
    (h : Seg P l.toArray (fun ws => ∀ o, ws.cell? ⟨T, o, none⟩ = w.cell? ⟨T, o, none⟩) Q (fun a' w' => wpList P l.toArray Q (l.drop n) a' w') (pl.filterMap (l[·]?)) a w.drew) : (Code.region id l.toArray true).wp P Q a w :=
  wp_region_plan _ n pl hm hB hQ (fun _ => rfl) h
theorem zeros_fr (w : World) : FrB (w.alloc (.cells (Array.replicate 64 (.int .u8 0)) 5)) w.heap.size (.slice (some ⟨w.heap.size, 0, none⟩) 64 64) zeros64 :=
  (own_lit (cs := Array.replicate 64 (.int .u8 0)) (l := zeros64) (by simp [zeros64, bytesV]) (by simp [zeros64]) (by decide)).fr
/-- The world in which a new row of zeros is about to be appended. -/
def zeroRow (w : World) : World := ((w.alloc (.cells (Array.replicate 64 (.int .u8 0)) 5)).alloc (.cells #[.slice (some ⟨w.heap.size, 0, none⟩) 64 64] 22)).drew
theorem zero_row (w : World) : Below w.heap.size w (zeroRow w) ∧ Row (zeroRow w) (some ⟨w.heap.size + 1, 0, none⟩) 1 1 [.slice (some ⟨w.heap.size, 0, none⟩) 64 64] ∧ FrB (zeroRow w) w.heap.size (.slice (some ⟨w.heap.size, 0, none⟩) 64 64) zeros64 := by
  obtain ⟨h1, h2, h3, h4⟩ := box2 w (.cells (Array.replicate 64 (.int .u8 0)) 5) (.cells #[.slice (some ⟨w.heap.size, 0, none⟩) 64 64] 22)
  have hr := row_one (w := w.alloc (.cells (Array.replicate 64 (.int .u8 0)) 5)) (x := .slice (some ⟨w.heap.size, 0, none⟩) 64 64) (T := 22)
  rw [World.size_alloc] at hr
  exact ⟨h1.drew, hr.drew, ((zeros_fr w).mono ((Below.refl _ _).alloc (Nat.le_refl _) _)).mono (Below.refl _ _).drew⟩
set_option maxRecDepth 100000 in
set_option maxHeartbeats 1000000 in
theorem new42 (n : Nat) (w : World) (h : sectorsB n = true) :
    Calls Tryz.prog 42 #[.int .i64 n] w fun e w' => (∃ x y, e = .returned (.tuple #[.agg #[x, y, .int .i64 (-1), .int .i64 0, .bool false], .int .i64 0]) ∧ OwnSs w' w.heap.size x (List.replicate n zeros64) ∧ OwnSs w' w.heap.size y (List.replicate n zeros64)) ∧ Below w.heap.size w w' := by
  unfold sectorsB at h
  simp only [Bool.and_eq_true, decide_eq_true_eq] at h
  obtain ⟨⟨h1, h2⟩, h3⟩ := h
  have hm : ((n : Int) % 2 != 0) = false := by simp; omega
  have hmk := make64
  clear h1
  go_enter Tryz.func42, Tryz.ntmps42
  go_wp2
  refine wp_world (fun w' => Below w.heap.size w w' ∧ w'.heap[w.heap.size]? = some _ ∧ w'.heap[w.heap.size + 1]? = some _ ∧ w'.heap.size = w.heap.size + 2) (box2 w _ _) ?_
  rintro w0 ⟨hb0, hh0, hh1, hz0⟩
  have HB0 := Lib.hid hb0
  have HH0 := Lib.hid hh0
  have HH1 := Lib.hid hh1
  have HZ0 := Lib.hid hz0
  clear hb0 hh0 hh1 hz0
  go_loopw [5] (fun i wr => ∃ (k : Nat) (x y : Value), k ≤ n ∧ i = .int .i64 (k : Int) ∧ wr.heap[w.heap.size + 1]? = some (.cells #[x, y, .int .i64 (-1), .int .i64 0, .bool false] 36 (0, 0)) ∧ wr.heap[w.heap.size]? = some (.cells #[.slice none 0 0, .slice none 0 0, .int .i64 0, .int .i64 0, .bool false] 36 (0, 0)) ∧ TwoSs wr (w.heap.size + 2) x y (List.replicate k zeros64) (List.replicate k zeros64) ∧ Below w.heap.size w wr ∧ w.heap.size + 2 ≤ wr.heap.size) (fun i _ => n - (intOf i).toNat)
  case atStart => exact ⟨0, _, _, by omega, rfl, HH1.out, HH0.out, ⟨OwnSs.nil _ _, OwnSs.nil _ _, fun k hk => by simp [Value.ownBlock] at hk⟩, HB0.out, by have := HZ0.out; omega⟩
  case round =>
    obtain ⟨k, x, y, hk, rfl, hp, hq, ht, hb, hz⟩ := hrel
    obtain ⟨c0, c1, c2, c3, c4⟩ := cells5 hp
    have HP := Lib.hid hp
    have HQ := Lib.hid hq
    have HT := Lib.hid ht
    have HB := Lib.hid hb
    clear hp hq hb
    by_cases hlt : k < n
    · have hltI : (k : Int) < n := by omega
      obtain ⟨us, hux, hul, hu⟩ := ht.1
      have HUX := Lib.hid hux
      have HUL := Lib.hid hul
      have HU := Lib.hid hu
      obtain ⟨xa, xc, rfl, -⟩ := hux
      clear ht hul hu
      go_wp2_with fail
      have hlp : w.heap.size + 1 < wr.heap.size := by omega
      obtain ⟨z1, z2, z3⟩ := zero_row wr
      have HZ1 := Lib.hid z1
      have HZ2 := Lib.hid z2
      have HZ3 := Lib.hid z3
      have HT1 := Lib.hid (HT.out.mono z1)
      clear z1 z2 z3
      refine wp_region_at (w.heap.size + 1) 6 [0, 1, 2, 3, 4, 5] (by kernel_rfl) (by kernel_rfl) (by intro c a d v w h; cases d <;> exact h) ?_
      simp only [List.filterMap_cons, List.filterMap_nil, List.getElem?_cons_zero, List.getElem?_cons_succ, List.drop_succ_cons, List.drop_zero]
      iterate 2 (refine Seg.takeK rfl rfl (fun K hK => ⟨_, fun ws hws => by go_simp; rfl, ?_⟩); go_simp; refine hK _ ?_; clear hK K)
      refine Seg.loud rfl rfl (fun K hK => ?_)
      go_wp2_with fail
      refine hK _ _ (fun o => (((Below.refl wr.heap.size wr).alloc (Nat.le_refl _) _).drew).cell (p := ⟨w.heap.size + 1, o, none⟩) hlp) ?_
      clear hK K
      refine Seg.loud rfl rfl (fun K hK => ?_)
      go_wp2_with fail
      refine hK _ _ (fun o => HZ1.out.cell (p := ⟨w.heap.size + 1, o, none⟩) hlp) ?_
      clear hK K
      refine Seg.loud rfl rfl (fun K hK => ?_)
      refine append_row_wp (w := zeroRow wr) (base := w.heap.size + 2) rfl rfl rfl (HUX.out.mono HZ1.out) HZ2.out rfl (by decide) (by simp [Value.oneCell']) (by rw [HUL.out]; simp; omega) (Nat.le_trans hz HZ1.out.size) ?_
      intro x1 w1 hx1 hg1 hbx1
      have HT2 := Lib.hid (two_append HT1.out (HUX.out.mono HZ1.out) HUL.out (fun i z hi => let ⟨l, a, b⟩ := HU.out i z hi; ⟨l, a, b.mono HZ1.out⟩) (HZ3.out.lower hz) hx1 hg1 hbx1)
      have HB1 := Lib.hid ((HB.out.trans (HZ1.out.mono HB.out.size)).grown hg1 (Nat.le_trans (by omega) HZ1.out.size) (fun k hk => by have := (HUX.out.mono HZ1.out).ge k hk; omega))
      have hp1 : w1.heap[w.heap.size + 1]? = _ := (hg1.block (w.heap.size + 1) (Nat.lt_of_lt_of_le hlp HZ1.out.size) (fun e => by have := (HUX.out.mono HZ1.out).ge _ e.symm; omega)).trans (block_below HZ1.out HP.out hlp)
      have hq1 : w1.heap[w.heap.size]? = _ := (hg1.block w.heap.size (Nat.lt_of_lt_of_le (by omega) HZ1.out.size) (fun e => by have := (HUX.out.mono HZ1.out).ge _ e.symm; omega)).trans (block_below HZ1.out HQ.out (by omega))
      refine hK _ _ (fun o => by rw [World.cell?_of_block (a := ⟨w.heap.size + 1, o, none⟩) (hp1.trans HP.out.symm)]) ?_
      have fr1 := free_all hp1
      obtain ⟨d0, d1, d2, d3, d4⟩ := cells5 hp1
      have HP1 := Lib.hid hp1
      have HQ1 := Lib.hid hq1
      have hsz1 : w.heap.size + 2 ≤ w1.heap.size := by have := hg1.size; have := HZ1.out.size; omega
      obtain ⟨xa1, xn1, xc1, rfl⟩ := hx1.form
      clear hg1 hbx1 hp1 hq1 hx1
      clear hK K
      iterate 1 (refine Seg.takeK rfl rfl (fun K hK => ⟨_, fun ws hws => by go_simp; rfl, ?_⟩); go_simp; refine hK _ ?_; clear hK K)
      refine Seg.nil ?_
      go_wp2_with fail
      refine wp_world (fun w' => w'.heap[w.heap.size + 1]? = some (.cells #[.slice xa1 xn1 xc1, y, .int .i64 (-1), .int .i64 0, .bool false] 36 (0, 0)) ∧ w'.heap[w.heap.size]? = some (.cells #[.slice none 0 0, .slice none 0 0, .int .i64 0, .int .i64 0, .bool false] 36 (0, 0)) ∧ TwoSs w' (w.heap.size + 2) (.slice xa1 xn1 xc1) y (List.replicate k zeros64 ++ [zeros64]) (List.replicate k zeros64) ∧ Below w.heap.size w w' ∧ w.heap.size + 2 ≤ w'.heap.size) ⟨block_set' HP1.out rfl, other_set HQ1.out (by omega), HT2.out.apart HP1.out (by decide) (by decide) (grown_set (grown_refl _ _) _), HB1.out.setCell (Nat.le_succ _) _, by simpa using hsz1⟩ ?_
      clear d0 d1 d2 d3 d4 fr1 c0 c1 c2 c3 c4 hsz1
      rintro wm ⟨hpm, hqm, htm, hbm, hzm⟩
      obtain ⟨c0, c1, c2, c3, c4⟩ := cells5 hpm
      have HPM := Lib.hid hpm
      have HQM := Lib.hid hqm
      have HTM := Lib.hid htm.symm
      have HBM := Lib.hid hbm
      obtain ⟨vs, hvy, hvl, hvf⟩ := htm.2.1
      have HVY := Lib.hid hvy
      have HVL := Lib.hid hvl
      have HVF := Lib.hid hvf
      obtain ⟨ya, yc, rfl, -⟩ := hvy
      have hlm : w.heap.size + 1 < wm.heap.size := by omega
      obtain ⟨z1, z2, z3⟩ := zero_row wm
      have HZ4 := Lib.hid z1
      have HZ5 := Lib.hid z2
      have HZ6 := Lib.hid z3
      have HT4 := Lib.hid (HTM.out.mono z1)
      clear z1 z2 z3 hpm hqm htm hbm hvl hvf
      refine wp_region_at (w.heap.size + 1) 6 [0, 1, 2, 3, 4, 5] (by kernel_rfl) (by kernel_rfl) (by intro c a d v w h; cases d <;> exact h) ?_
      simp only [List.filterMap_cons, List.filterMap_nil, List.getElem?_cons_zero, List.getElem?_cons_succ, List.drop_succ_cons, List.drop_zero]
      iterate 2 (refine Seg.takeK rfl rfl (fun K hK => ⟨_, fun ws hws => by go_simp; rfl, ?_⟩); go_simp; refine hK _ ?_; clear hK K)
      refine Seg.loud rfl rfl (fun K hK => ?_)
      go_wp2_with fail
      refine hK _ _ (fun o => (((Below.refl wm.heap.size wm).alloc (Nat.le_refl _) _).drew).cell (p := ⟨w.heap.size + 1, o, none⟩) hlm) ?_
      clear hK K
      refine Seg.loud rfl rfl (fun K hK => ?_)
      go_wp2_with fail
      refine hK _ _ (fun o => HZ4.out.cell (p := ⟨w.heap.size + 1, o, none⟩) hlm) ?_
      clear hK K
      refine Seg.loud rfl rfl (fun K hK => ?_)
      refine append_row_wp (w := zeroRow wm) (base := w.heap.size + 2) rfl rfl rfl (HVY.out.mono HZ4.out) HZ5.out rfl (by decide) (by simp [Value.oneCell']) (by rw [HVL.out]; simp; omega) (Nat.le_trans hzm HZ4.out.size) ?_
      intro x2 w2 hx2 hg2 hbx2
      have HT5 := Lib.hid (two_append HT4.out (HVY.out.mono HZ4.out) HVL.out (fun i z hi => let ⟨l, a, b⟩ := HVF.out i z hi; ⟨l, a, b.mono HZ4.out⟩) (HZ6.out.lower hzm) hx2 hg2 hbx2)
      have HB2 := Lib.hid ((HBM.out.trans (HZ4.out.mono HBM.out.size)).grown hg2 (Nat.le_trans (by omega) HZ4.out.size) (fun k hk => by have := (HVY.out.mono HZ4.out).ge k hk; omega))
      have hp1 : w2.heap[w.heap.size + 1]? = _ := (hg2.block (w.heap.size + 1) (Nat.lt_of_lt_of_le hlm HZ4.out.size) (fun e => by have := (HVY.out.mono HZ4.out).ge _ e.symm; omega)).trans (block_below HZ4.out HPM.out hlm)
      have hq1 : w2.heap[w.heap.size]? = _ := (hg2.block w.heap.size (Nat.lt_of_lt_of_le (by omega) HZ4.out.size) (fun e => by have := (HVY.out.mono HZ4.out).ge _ e.symm; omega)).trans (block_below HZ4.out HQM.out (by omega))
      refine hK _ _ (fun o => by rw [World.cell?_of_block (a := ⟨w.heap.size + 1, o, none⟩) (hp1.trans HPM.out.symm)]) ?_
      have fr1 := free_all hp1
      obtain ⟨d0, d1, d2, d3, d4⟩ := cells5 hp1
      have HP2 := Lib.hid hp1
      have HQ2 := Lib.hid hq1
      have hsz2 : w.heap.size + 2 ≤ w2.heap.size := by have := hg2.size; have := HZ4.out.size; omega
      obtain ⟨ya1, yn1, yc1, rfl⟩ := hx2.form
      clear hg2 hbx2 hp1 hq1 hx2
      clear hK K
      iterate 1 (refine Seg.takeK rfl rfl (fun K hK => ⟨_, fun ws hws => by go_simp; rfl, ?_⟩); go_simp; refine hK _ ?_; clear hK K)
      refine Seg.nil ?_
      go_wp2
      go_roundw
      case rel => exact ⟨k + 1, _, _, by omega, by go_num, block_set' HP2.out rfl, other_set HQ2.out (by omega), (by rw [List.replicate_succ']; exact (HT5.out.apart HP2.out (by decide) (by decide) (grown_set (grown_refl _ _) _)).symm), HB2.out.setCell (Nat.le_succ _) _, by simpa using hsz2⟩
      case measure => simp [intOf]; omega
    · obtain rfl : k = n := by omega
      have fr := free_all HQ.out
      obtain ⟨d0, d1, d2, d3, d4⟩ := cells5 HQ.out
      obtain ⟨us, ⟨xa, xc, rfl, -⟩, -, -⟩ := HT.out.1
      obtain ⟨us2, ⟨ya, yc, rfl, -⟩, -, -⟩ := HT.out.2.1
      clear ht
      go_wp2
      refine post_world (fun w' => w'.heap[w.heap.size]? = some (.cells #[.slice xa us.length xc, .slice ya us2.length yc, .int .i64 (-1), .int .i64 0, .bool false] 36 (0, 0)) ∧ OwnSs w' w.heap.size (.slice xa us.length xc) (List.replicate k zeros64) ∧ OwnSs w' w.heap.size (.slice ya us2.length yc) (List.replicate k zeros64) ∧ Below w.heap.size w w') ⟨?_, ?_, ?_, ?_⟩ ?_
      · exact set5 HQ.out
      · exact (HT.out.1.above ((Above.refl _ _).set5 (by omega) _ _ _ _ _) (Nat.le_refl _)).lower (by omega)
      · exact (HT.out.2.1.above ((Above.refl _ _).set5 (by omega) _ _ _ _ _) (Nat.le_refl _)).lower (by omega)
      · exact below_set5 HB.out (Nat.le_refl _) _ _ _ _ _
      · rintro w9 ⟨hh9, h91, h92, hb9⟩
        obtain ⟨e0, e1, e2, e3, e4⟩ := cells5 hh9
        exact bodyPost_ret (v := .tuple #[.agg #[.slice xa us.length xc, .slice ya us2.length yc, .int .i64 (-1), .int .i64 0, .bool false], .int .i64 0]) (by simp [results, Tryz.results42, go_sem, e0, e1, e2, e3, e4]) rfl ⟨⟨_, _, rfl, h91, h92⟩, hb9⟩
end Go.Proofs.YtjkmbbnjiobckaaGreatDoor
