/-
  store.Bytes: what is stored in the sectors of a frame.
-/
import Derived.Test.YtjkmbbnjiobckaaGreatDoorRead
import Derived.Test.YtjkmbbnjiobckaaGreatDoorSectors
import Derived.Test.YtjkmbbnjiobckaaGreatDoorReader2
import Derived.Test.YtjkmbbnjiobckaaGreatDoorEqFn
namespace Go.Proofs.YtjkmbbnjiobckaaGreatDoor
open Go.RowKit

/-- '[]byte(s)': a new block. -/
theorem conv_bytes (w : World) (l : List UInt8) (hl : l.length ≤ 140737488000000) : ∃ a cap w', (convert 9 22 (.string (str l))).run Tryz.prog w = .ok (.slice a l.length cap) w' ∧ FrB w' w.heap.size (.slice a l.length cap) l ∧ Below w.heap.size w w' := by
  refine ⟨_, _, _, run_bytes_of_string w 9 22 5 (str l) Tryz.underlying9 Tryz.underlying22 Tryz.underlying5, ?_, (Below.refl _ _).drew.alloc (Nat.le_refl _) _⟩
  have hs : (str l).size = l.length := by simp [str, ByteArray.size]
  have hge := grownCap_ge w (str l).size 0 5
  have hle : grownCap w (str l).size 0 5 ≤ maxLen := grownCap_le_maxLen w _ 0 5 (by rw [hs]; unfold maxLen; omega)
  have hh := heap_alloc_new w.drew (.cells (bytesRow (str l) (grownCap w (str l).size 0 5)) 5 ((bytesRow (str l) (grownCap w (str l).size 0 5)).size, (bytesRow (str l) (grownCap w (str l).size 0 5)).size + 1))
  have hcs : ∀ (j : Nat) (x : Value), (bytesV l)[j]? = some x → (bytesRow (str l) (grownCap w (str l).size 0 5))[j]? = some x := by
    intro j x hj
    have hj' : j < l.length := by
      rcases Nat.lt_or_ge j l.length with h | h
      · exact h
      · rw [List.getElem?_eq_none (by rw [bytesV_length]; exact h)] at hj; cases hj
    unfold bytesRow
    rw [Array.getElem?_append_left (by simp [str, hj'])]
    simpa [bytesV, str] using hj
  rw [hs] at hge hle hh hcs ⊢
  refine ⟨_, _, rfl, ⟨hge, hle, fun j x hj => ⟨_, 0, rfl, ?_⟩⟩, fun b o ha => ?_⟩
  · rw [Nat.zero_add]
    exact cell_of_block hh (hcs j x hj)
  · cases ha
    exact ⟨Nat.le_refl _, _, _, hh⟩
/-- The bytes behind the heads. -/
def dataOf (ll : List (List UInt8)) : List UInt8 := ll.flatMap (List.drop 16)
def textOf (d : List UInt8) : List UInt8 := (rdText d.length d 0).1
/-- What Bytes hands back: gen, frame and the bytes, if these are the sectors of a frame. -/
def frameOfSectors (ll : List (List UInt8)) : Option (Nat × Nat × List UInt8) :=
  match ll with
  | [] => none
  | s :: _ => if isSector s = true ∧ (∀ t ∈ ll, t.length = 64) ∧ sectorCount (textOf (dataOf ll)) ≤ 255 ∧ sectorsOf (genOf s) (frameOf s) (textOf (dataOf ll)) = ll
    then some (genOf s, frameOf s, textOf (dataOf ll)) else none
/-- The tuple for it. -/
def BytesP (w : World) (r : Option (Nat × Nat × List UInt8)) (e : Ending) (w' : World) : Prop :=
  (match r with
    | none => e = .returned (.tuple #[.int .i64 0, .int .i64 0, .slice none 0 0, .bool false])
    | some (g, f, b) => ∃ v, e = .returned (.tuple #[.int .i64 g, .int .i64 f, v, .bool true]) ∧ FrB w' w.heap.size v b) ∧ Below w.heap.size w w'

set_option maxRecDepth 100000 in
set_option maxHeartbeats 1000000 in
theorem bytes_nil (a : Option Addr) (cap : Nat) (w : World) : Calls Tryz.prog 9 #[.slice a 0 cap] w (BytesP w none) := by
  go_enter Tryz.func9, Tryz.ntmps9
  go_wp2
  exact bodyPost_ret (v := .tuple #[.int .i64 0, .int .i64 0, .slice none 0 0, .bool false]) (by simp [results, Tryz.results9, go_sem]) rfl ⟨rfl, Below.refl _ _⟩
set_option maxRecDepth 100000 in
set_option maxHeartbeats 2000000 in
theorem bytes_bad (v : Value) (s : List UInt8) (ll : List (List UInt8)) (w : World) (hs : Slcs w v (s :: ll)) (hb : isSector s = false) : Calls Tryz.prog 9 #[v] w (BytesP w none) := by
  have HS := Lib.hid hs
  obtain ⟨a, cap, vs, rfl, -⟩ := hs
  obtain ⟨b, o, a', c', rfl, hc, hrw⟩ := HS.out.get 0 (by simp)
  have E := Lib.hid (read_any (.slice a' s.length c') s w ⟨_, _, rfl, hrw⟩)
  rw [hb] at E
  simp only [Nat.add_zero, List.getElem_cons_zero, List.length_cons] at hc ⊢
  obtain ⟨hv, hhv⟩ : ∃ x, x = readV s := ⟨_, rfl⟩
  have hform : ∃ g f i n : Int, hv = .agg #[.int .i64 g, .int .i64 f, .int .i64 i, .int .i64 n] := by
    rw [hhv]; unfold readV headV; split <;> exact ⟨_, _, _, _, rfl⟩
  rw [← hhv] at E
  obtain ⟨g, f, i, n, rfl⟩ := hform
  have HS2 := Lib.hid HS.out
  clear hrw hhv hb
  go_enter Tryz.func9, Tryz.ntmps9
  go_wp2_with fail
  refine E.out.mono ?_
  rintro _ w1 ⟨rfl, hb1⟩
  have HB := Lib.hid hb1
  clear hb1
  go_wp2
  exact bodyPost_ret (v := .tuple #[.int .i64 0, .int .i64 0, .slice none 0 0, .bool false]) (by simp [results, Tryz.results9, go_sem]) rfl ⟨rfl, HB.out.alloc HB.out.size _⟩

theorem dataOf_take (ll : List (List UInt8)) (k : Nat) (h : k < ll.length) : dataOf (ll.take (k + 1)) = dataOf (ll.take k) ++ ll[k].drop 16 := by
  unfold dataOf
  rw [List.take_add_one, List.getElem?_eq_getElem h, List.flatMap_append]
  simp
theorem numGo_length : ∀ (l : List UInt8) (i u : Nat), (numGo l i u).2.2.length ≤ l.length
  | [], _, _ => by simp [numGo]
  | c :: cs, i, u => by
    unfold numGo
    split
    · simp
    · split
      · have := numGo_length cs (i + 1) (u + c.toNat % 128 * 2 ^ (7 * i))
        simp only [List.length_cons]; omega
      · split <;> simp
theorem rdNum_length (l : List UInt8) (err : Int) : (rdNum l err).2.2.length ≤ l.length := by
  unfold rdNum
  split
  · split
    · exact numGo_length l 0 0
    · exact Nat.le_refl _
  · exact Nat.le_refl _
theorem textOf_length (d : List UInt8) : (textOf d).length ≤ d.length := by
  unfold textOf rdText rdTake
  split
  · split
    · simp
    · simp only [List.length_take]
      have : (rdLen d.length 4 d 0).2.2.length ≤ d.length := by
        unfold rdLen
        exact rdNum_length d 0
      omega
  · simp
theorem frame_none_of (ll : List (List UInt8)) (k : Nat) (h : k < ll.length) (h64 : ¬ ll[k].length = 64) : frameOfSectors ll = none := by
  cases ll with
  | nil => rfl
  | cons s rest =>
    unfold frameOfSectors
    simp only
    rw [if_neg]
    rintro ⟨_, h3, _⟩
    exact h64 (h3 _ (List.getElem_mem _))
theorem frame_some_of (s : List UInt8) (rest ll : List (List UInt8)) (hll : ll = s :: rest) (hb : isSector s = true) (h64 : ∀ t ∈ ll, t.length = 64) :
    frameOfSectors ll = if sectorCount (textOf (dataOf ll)) ≤ 255 ∧ sectorsOf (genOf s) (frameOf s) (textOf (dataOf ll)) = ll then some (genOf s, frameOf s, textOf (dataOf ll)) else none := by
  subst hll
  unfold frameOfSectors
  simp only
  by_cases h : sectorCount (textOf (dataOf (s :: rest))) ≤ 255 ∧ sectorsOf (genOf s) (frameOf s) (textOf (dataOf (s :: rest))) = s :: rest
  · rw [if_pos ⟨hb, h64, h⟩, if_pos h]
  · rw [if_neg (fun k => h k.2.2), if_neg h]
theorem genOf_le (s : List UInt8) : genOf s ≤ 4294967295 := by
  have h0 := byteAt_lt s 0
  have h1 := byteAt_lt s 1
  have h2 := byteAt_lt s 2
  have h3 := byteAt_lt s 3
  unfold genOf; omega
theorem frameOf_le (s : List UInt8) : frameOf s ≤ 65535 := by
  have h0 := byteAt_lt s 4
  have h1 := byteAt_lt s 5
  unfold frameOf; omega
set_option maxRecDepth 100000 in
set_option maxHeartbeats 4000000 in
theorem bytes_good (v : Value) (s : List UInt8) (rest ll : List (List UInt8)) (w : World) (hll : ll = s :: rest) (hs : Slcs w v ll) (hb : isSector s = true) (hlen : ll.length ≤ 1000000) : Calls Tryz.prog 9 #[v] w (BytesP w (frameOfSectors ll)) := by
  have HS := Lib.hid hs
  obtain ⟨a, cap, vs, rfl, hrow, -⟩ := hs
  have hlcap := hrow.le
  have hpos : 0 < ll.length := by rw [hll]; simp
  obtain ⟨b, o, a', c', rfl, hc, hrw⟩ := HS.out.get 0 hpos
  have hl0 : ll[0] = s := by simp [hll]
  rw [hl0] at hc hrw
  have hsl : s.length = 64 := by
    have := hb
    simp [isSector] at this
    exact this.1.1.1
  have hg1 : 1 ≤ genOf s := by
    have := hb
    simp [isSector] at this
    omega
  have E := Lib.hid (read_any (.slice a' s.length c') s w ⟨_, _, rfl, hrw⟩)
  rw [hb, show readV s = headV (genOf s) (frameOf s) (indexOf s) (numberOf s) from if_pos hsl] at E
  simp only [Nat.add_zero] at hc
  have HLL := Lib.hid hll
  have HB0 := Lib.hid hb
  have hpb : ((ll.length : Int) == 0) = false := by rw [beq_eq_false_iff_ne]; omega
  have hp1 : (0 : Int) < ll.length := by omega
  clear hrw hl0 hll hb hrow hsl
  go_enter Tryz.func9, Tryz.ntmps9
  go_wp2_with fail
  refine E.out.mono ?_
  rintro _ w1 ⟨rfl, hb1⟩
  have HB := Lib.hid hb1
  clear hb1 hc
  unfold headV
  go_wp2
  refine wp_world (fun w' => Below w.heap.size w w' ∧ w'.heap[w1.heap.size]? = some (.cells #[.int .i64 (genOf s), .int .i64 (frameOf s), .int .i64 (indexOf s), .int .i64 (numberOf s)] 56 (0, 0))) ⟨HB.out.alloc HB.out.size _, heap_alloc_new _ _⟩ ?_
  rintro w2 ⟨hB2, hh2⟩
  have HB2 := Lib.hid hB2
  have HH2 := Lib.hid hh2
  clear hB2 hh2
  go_loopw [7, 26] (fun v i wr => ∃ (k : Nat) (cur : List UInt8), k ≤ ll.length ∧ i = .int .i64 (k : Int) ∧ OwnB wr w.heap.size v cur ∧ cur = dataOf (ll.take k) ∧ cur.length = 48 * k ∧ (∀ t ∈ ll.take k, t.length = 64) ∧ Below w.heap.size w wr ∧ wr.heap[w1.heap.size]? = some (.cells #[.int .i64 (genOf s), .int .i64 (frameOf s), .int .i64 (indexOf s), .int .i64 (numberOf s)] 56 (0, 0))) (fun _ i _ => ll.length - (intOf i).toNat)
  case atStart => exact ⟨0, [], by omega, rfl, OwnB.nil _ _, rfl, rfl, by simp, HB2.out, HH2.out⟩
  case round =>
    obtain ⟨k, cur, hk, rfl, ho, hcur, hcl, hall, hbr, hhr⟩ := hrel
    have HO := Lib.hid ho
    have HCUR := Lib.hid hcur
    have HCL := Lib.hid hcl
    have HALL := Lib.hid hall
    have HBR := Lib.hid hbr
    have HHR := Lib.hid hhr
    obtain ⟨oa, ocap, rfl, _⟩ := ho
    have hcl' : cur.length ≤ 48 * k := by omega
    clear hcur hcl hall hbr hhr
    by_cases hlt : k < ll.length
    · obtain ⟨b1, o1, a1, c1, he, hc1, hr1⟩ := (HS.out.mono HBR.out).get k hlt
      cases he
      obtain ⟨t, ht⟩ : ∃ t, t = ll[k] := ⟨_, rfl⟩
      rw [← ht] at hc1 hr1
      have HT := Lib.hid ht
      have HR1 := Lib.hid (Slc.mk rfl hr1)
      have hlt' : (k : Int) < ll.length := by omega
      clear ht hr1
      by_cases h64 : t.length = 64
      · have hb64 : ((t.length : Int) != 64) = false := by simp; omega
        rw [h64] at hc1 hb64 HR1
        have hcap1 := HR1.out.row.2.le
        have H64 := Lib.hid h64
        clear h64
        go_wp2_with (at_builtin; refine append_bytes rfl rfl rfl rfl HO.out (HR1.out.drop (lo := 16) (by omega)) ?d1 HBR.out.size ?d2)
        case d1 => have := H64.out; simp; omega
        case d2 =>
          intro a4 cap4 w4 g1 g2
          have H4 := Lib.hid (OwnB.mk g1 (by rw [List.length_append, List.length_drop, H64.out]))
          have B4 := Lib.hid (below_append HBR.out g2 HO.out HBR.out.size (Nat.le_refl _))
          have HH4 := Lib.hid (blk_kept HHR.out (by decide) HO.out g2)
          clear g1 g2
          go_wp2
          go_roundw
          case rel =>
            refine ⟨k + 1, cur ++ t.drop 16, by omega, by go_num, H4.out, ?_, ?_, ?_, B4.out, HH4.out⟩
            · rw [dataOf_take ll k hlt, HCUR.out, HT.out]
            · rw [List.length_append, List.length_drop, H64.out, HCL.out]; omega
            · intro u hu
              rw [List.take_add_one, List.getElem?_eq_getElem hlt] at hu
              rcases List.mem_append.1 hu with h | h
              · exact HALL.out u h
              · obtain rfl : u = ll[k] := by simpa using h
                rw [← HT.out]; exact H64.out
          case measure => simp [intOf]; omega
      · have hne : ((t.length : Int) != 64) = true := by simp; omega
        have HF : Hid (frameOfSectors ll = none) := by
          exact frame_none_of ll k hlt (by rw [← HT.out]; exact h64)
        clear h64
        go_wp2
        exact bodyPost_ret (v := .tuple #[.int .i64 0, .int .i64 0, .slice none 0 0, .bool false]) (by simp [results, Tryz.results9, go_sem]) rfl (by rw [HF.out]; exact ⟨rfl, HBR.out⟩)
    · obtain rfl : k = ll.length := by omega
      rw [List.take_length] at HCUR HALL
      have hDl : cur.length ≤ 48000000 := by omega
      obtain ⟨D, hD⟩ : ∃ D, D = cur := ⟨_, rfl⟩
      go_wp2_with fail
      refine (new_any _ cur wr HO.out.slc (by omega)).mono ?_
      rintro _ w3 ⟨⟨p, rfl, hp, hrd⟩, hb3⟩
      have HB3 := Lib.hid hb3
      have HRD := Lib.hid hrd
      have HP := Lib.hid hp
      clear hb3 hrd hp
      go_wp2_with fail
      refine (text_any p cur.length cur 0 w3 HRD.out (by omega)).mono ?_
      rintro _ w4 ⟨rfl, hr4, hg4⟩
      obtain ⟨tx, htx⟩ : ∃ x, x = (rdText cur.length cur 0).1 := ⟨_, rfl⟩
      rw [← htx]
      have HTX : Hid (tx = textOf cur) := htx
      have htl : tx.length ≤ 48000000 := by rw [HTX.out]; have := textOf_length cur; omega
      obtain ⟨ca, cc, w5, hcv, hfr, hb5⟩ := conv_bytes w4 tx (by omega)
      have HG4 := Lib.hid hg4
      have HF5 := Lib.hid hfr
      have HB5 := Lib.hid hb5
      clear htx hr4 hg4 hfr hb5
      have hgl := genOf_le s
      have hfl := frameOf_le s
      have hh5 : w5.heap[w1.heap.size]? = some (.cells #[.int .i64 (genOf s), .int .i64 (frameOf s), .int .i64 (indexOf s), .int .i64 (numberOf s)] 56 (0, 0)) := by
        have hlt1 : w1.heap.size < wr.heap.size := (Array.getElem?_eq_some_iff.1 HHR.out).1
        have h3 := block_below HB3.out HHR.out hlt1
        have hlt3 : w1.heap.size < w3.heap.size := (Array.getElem?_eq_some_iff.1 h3).1
        have h4 : w4.heap[w1.heap.size]? = _ := (HG4.out.block _ hlt3 (by have := HP.out; simp; omega)).trans h3
        exact block_below HB5.out h4 (Array.getElem?_eq_some_iff.1 h4).1
      have BA := Lib.hid (show Below w.heap.size w w5 from by
        have h3 : Below w.heap.size w w3 := HBR.out.trans (HB3.out.mono HBR.out.size)
        have h4 : Below w.heap.size w w4 := below_of_grown h3 HG4.out h3.size (by have := HP.out; have := HBR.out.size; omega)
        exact h4.trans (HB5.out.mono h4.size))
      have BS := Lib.hid (show w.heap.size ≤ w4.heap.size from by
        have h3 : Below w.heap.size w w3 := HBR.out.trans (HB3.out.mono HBR.out.size)
        have h4 : Below w.heap.size w w4 := below_of_grown h3 HG4.out h3.size (by have := HP.out; have := HBR.out.size; omega)
        exact h4.size)
      have HFS : Hid (frameOfSectors ll = if sectorCount tx ≤ 255 ∧ sectorsOf (genOf s) (frameOf s) tx = ll then some (genOf s, frameOf s, tx) else none) := by
        rw [HTX.out, HCUR.out]
        exact frame_some_of s rest ll HLL.out HB0.out HALL.out
      obtain ⟨d0, d1, d2, d3⟩ := cells4 hh5
      have HH5 := Lib.hid hh5
      clear hh5
      by_cases h255 : sectorCount tx ≤ 255
      · go_wp2_with fail
        refine (sectors_ok (genOf s) (frameOf s) _ tx w5 HF5.out.slc (by omega) hg1 hgl hfl h255).mono ?_
        rintro _ w6 ⟨v6, rfl, ho6, hb6⟩
        have HS6 := Lib.hid ho6.slcs
        obtain ⟨vs6, ⟨a6, cap6, rfl, -⟩, -, -⟩ := ho6
        have HB6 := Lib.hid hb6
        clear hb6
        have hh6 := block_below HB6.out HH5.out (Array.getElem?_eq_some_iff.1 HH5.out).1
        clear d0 d1 d2 d3
        obtain ⟨d0, d1, d2, d3⟩ := cells4 hh6
        have hsz6 : w1.heap.size < w6.heap.size := (Array.getElem?_eq_some_iff.1 hh6).1
        have B6 := Lib.hid (BA.out.trans (HB6.out.mono BA.out.size))
        have E6 := Lib.hid (equalFunc_any (.slice a6 vs6.length cap6) (.slice (some ⟨b, o, none⟩) ll.length cap) (sectorsOf (genOf s) (frameOf s) tx) ll w6 HS6.out (HS.out.mono B6.out) (by unfold sectorsOf; simp; omega))
        clear hh6
        by_cases heq : sectorsOf (genOf s) (frameOf s) tx = ll
        · rw [decide_eq_true heq] at E6
          have HR : Hid (frameOfSectors ll = some (genOf s, frameOf s, tx)) := HFS.out.trans (if_pos ⟨h255, heq⟩)
          have HF6 := Lib.hid ((HF5.out.mono HB6.out).lower BS.out)
          clear heq
          go_wp2_with fail
          refine E6.out.mono ?_
          rintro _ _ ⟨rfl, rfl⟩
          go_wp2
          refine wp_region_same 9 [0, 1, 2, 3, 4, 5, 6, 7, 8] (by kernel_rfl) (by kernel_rfl) (by intro c a d v w h; cases d <;> exact h) ?_
          simp only [List.filterMap_cons, List.filterMap_nil, List.getElem?_cons_zero, List.getElem?_cons_succ, List.drop_succ_cons, List.drop_zero]
          iterate 9 (refine Seg.takeK rfl rfl (fun K hK => ⟨_, fun ws hws => by go_simp; rfl, ?_⟩); go_simp; refine hK _ ?_; clear hK K)
          refine Seg.nil ?_
          go_wp2
          refine bodyPost_ret (v := .tuple #[.int .i64 (genOf s), .int .i64 (frameOf s), .slice ca tx.length cc, .bool true]) (by simp [results, Tryz.results9, go_sem]) rfl ?_
          rw [HR.out]
          exact ⟨⟨_, rfl, HF6.out.mono (Below.refl _ _).drew⟩, B6.out.drew⟩
        · rw [decide_eq_false heq] at E6
          have HR : Hid (frameOfSectors ll = none) := HFS.out.trans (if_neg (fun h => heq h.2))
          clear heq
          go_wp2_with fail
          refine E6.out.mono ?_
          rintro _ _ ⟨rfl, rfl⟩
          go_wp2
          refine bodyPost_ret (v := .tuple #[.int .i64 0, .int .i64 0, .slice none 0 0, .bool false]) (by simp [results, Tryz.results9, go_sem]) rfl ?_
          rw [HR.out]
          exact ⟨rfl, B6.out⟩
      · have HR : Hid (frameOfSectors ll = none) := HFS.out.trans (if_neg (fun h => h255 h.1))
        go_wp2_with fail
        refine (sectors_long (genOf s) (frameOf s) _ tx w5 HF5.out.slc (by omega) hg1 hgl hfl (by omega)).mono ?_
        rintro _ w6 ⟨rfl, hb6⟩
        have B6 := Lib.hid (BA.out.trans (hb6.mono BA.out.size))
        clear hb6 d0 d1 d2 d3
        go_wp2
        refine bodyPost_ret (v := .tuple #[.int .i64 0, .int .i64 0, .slice none 0 0, .bool false]) (by simp [results, Tryz.results9, go_sem]) rfl ?_
        rw [HR.out]
        exact ⟨rfl, B6.out⟩
theorem bytes_any (v : Value) (ll : List (List UInt8)) (w : World) (hs : Slcs w v ll) (hlen : ll.length ≤ 1000000) : Calls Tryz.prog 9 #[v] w (BytesP w (frameOfSectors ll)) := by
  cases ll with
  | nil =>
    obtain ⟨a, cap, vs, rfl, -⟩ := hs
    exact bytes_nil a cap w
  | cons s rest =>
    cases hb : isSector s
    · have : frameOfSectors (s :: rest) = none := by
        unfold frameOfSectors
        simp [hb]
      rw [this]
      exact bytes_bad v s rest w hs hb
    · exact bytes_good v s rest _ w rfl hs hb hlen
end Go.Proofs.YtjkmbbnjiobckaaGreatDoor
