/-
  flagstoneref33.Bytes.
-/
import Derived.Test.YtjkmbbnjiobckaaGreatDoorRReader
import Derived.Test.YtjkmbbnjiobckaaGreatDoorBytes
import Derived.Test.YtjkmbbnjiobckaaGreatDoorMore
import Derived.Deep.DeepCutAuto
namespace Go.Proofs.YtjkmbbnjiobckaaGreatDoor
open Go.RowKit

theorem number34_v (v : Value) (l : List UInt8) (w : World) (hs : Slc w v l) (h0 : 0 < l.length) (hl : l.length ≤ 7) :
    Calls Tryz.prog 34 #[v] w fun e w' => e = .returned (.int .u64 ((beNat l 0 : Nat) : Int)) ∧ w' = w := by
  obtain ⟨a, cap, rfl, hr⟩ := hs
  obtain ⟨b, o, rfl, _⟩ := hr.addr (by rw [bytesV_length]; exact h0)
  exact number34_any b o cap l w (Slc.mk rfl hr) hl
/-- The text that the reference reads. -/
def refText (d : List UInt8) : Option (List UInt8) :=
  if (numGo d 0 0).2.1 = 0 ∧ 0 ≤ (numGo d 0 0).1 ∧ (numGo d 0 0).1 ≤ (d.length : Int) - r4pos d then some ((d.drop (r4pos d).toNat).take (numGo d 0 0).1.toNat) else none
/-- What the reference's Bytes hands back. -/
def refFrame (ll : List (List UInt8)) : Option (Nat × Nat × List UInt8) :=
  match ll with
  | [] => none
  | s :: _ => if ∀ t ∈ ll, t.length = 64 then
      match refText (dataOf ll) with
      | none => none
      | some b => if 1 ≤ genOf s ∧ sectorCount b ≤ 255 ∧ sectorsOf (genOf s) (frameOf s) b = ll then some (genOf s, frameOf s, b) else none
    else none
theorem r4pos_bd (d : List UInt8) : 0 ≤ r4pos d ∧ r4pos d ≤ d.length := by
  have := numGo_length d 0 0
  unfold r4pos
  split <;> omega
theorem beNat_gen (s : List UInt8) (h : s.length = 64) : beNat (s.take 4) 0 = genOf s := by
  match s, h with
  | a :: b :: c :: d :: rest, _ => simp [beNat, genOf, byteAt]; omega
theorem beNat_frame (s : List UInt8) (h : s.length = 64) : beNat ((s.drop 4).take 2) 0 = frameOf s := by
  match s, h with
  | a :: b :: c :: d :: e :: f :: rest, _ => simp [beNat, frameOf, byteAt]
theorem refFrame_short (ll : List (List UInt8)) (k : Nat) (h : k < ll.length) (h64 : ¬ ll[k].length = 64) : refFrame ll = none := by
  cases ll with
  | nil => rfl
  | cons s rest =>
    unfold refFrame
    simp only
    rw [if_neg]
    intro h3
    exact h64 (h3 _ (List.getElem_mem _))
theorem refFrame_none (s : List UInt8) (rest ll : List (List UInt8)) (hll : ll = s :: rest) (h : refText (dataOf ll) = none) : refFrame ll = none := by
  subst hll
  unfold refFrame
  simp only [h]
  split <;> rfl
theorem refFrame_some (s : List UInt8) (rest ll : List (List UInt8)) (b : List UInt8) (hll : ll = s :: rest) (h64 : ∀ t ∈ ll, t.length = 64) (h : refText (dataOf ll) = some b) :
    refFrame ll = if 1 ≤ genOf s ∧ sectorCount b ≤ 255 ∧ sectorsOf (genOf s) (frameOf s) b = ll then some (genOf s, frameOf s, b) else none := by
  subst hll
  unfold refFrame
  simp only [h]
  rw [if_pos h64]
set_option maxRecDepth 100000 in
set_option maxHeartbeats 1000000 in
theorem rbytes_nil (a : Option Addr) (cap : Nat) (w : World) : Calls Tryz.prog 10 #[.slice a 0 cap] w (BytesP w none) := by
  go_enter Tryz.func10, Tryz.ntmps10
  go_wp2
  exact bodyPost_ret (v := .tuple #[.int .i64 0, .int .i64 0, .slice none 0 0, .bool false]) (by simp [results, Tryz.results10, go_sem]) rfl ⟨rfl, Below.refl _ _⟩
set_option maxRecDepth 100000 in
set_option maxHeartbeats 4000000 in
theorem rbytes_cons (v : Value) (s : List UInt8) (rest ll : List (List UInt8)) (w : World) (hll : ll = s :: rest) (hs : Slcs w v ll) (hlen : ll.length ≤ 1000000) : Calls Tryz.prog 10 #[v] w (BytesP w (refFrame ll)) := by
  have HS := Lib.hid hs
  obtain ⟨a, cap, vs, rfl, hrow, -⟩ := hs
  have hlcap := hrow.le
  have hpos : 0 < ll.length := by rw [hll]; simp
  have HLL := Lib.hid hll
  have hpb : ((ll.length : Int) == 0) = false := by rw [beq_eq_false_iff_ne]; omega
  clear hrow hll
  go_enter Tryz.func10, Tryz.ntmps10
  go_wp2
  go_loopw [6, 7] (fun v i wr => ∃ (k : Nat) (cur : List UInt8), k ≤ ll.length ∧ i = .int .i64 (k : Int) ∧ OwnB wr w.heap.size v cur ∧ cur = dataOf (ll.take k) ∧ cur.length = 48 * k ∧ (∀ t ∈ ll.take k, t.length = 64) ∧ Below w.heap.size w wr) (fun _ i _ => ll.length - (intOf i).toNat)
  case atStart => exact ⟨0, [], by omega, rfl, OwnB.nil _ _, rfl, rfl, by simp, Below.refl _ _⟩
  case round =>
    obtain ⟨k, cur, hk, rfl, ho, hcur, hcl, hall, hbr⟩ := hrel
    have HO := Lib.hid ho
    have HCUR := Lib.hid hcur
    have HCL := Lib.hid hcl
    have HALL := Lib.hid hall
    have HBR := Lib.hid hbr
    obtain ⟨oa, ocap, rfl, _⟩ := ho
    have hcl' : cur.length ≤ 48 * k := by omega
    clear hcur hcl hall hbr
    by_cases hlt : k < ll.length
    · obtain ⟨b1, o1, a1, c1, he, hc1, hr1⟩ := (HS.out.mono HBR.out).get k hlt
      cases he
      obtain ⟨t, ht⟩ : ∃ t, t = ll[k] := ⟨_, rfl⟩
      rw [← ht] at hc1 hr1
      have HT := Lib.hid ht
      have HR1 := Lib.hid (Slc.mk rfl hr1)
      have hlt' : (k : Int) < ll.length := by omega
      clear ht hr1
      by_cases h64 : t.length = 64
      · have hb64 : ((t.length : Int) != 64) = false := by simp; omega
        rw [h64] at hc1 hb64 HR1
        have hcap1 := HR1.out.row.2.le
        have H64 := Lib.hid h64
        clear h64
        go_wp2_with (at_builtin; refine append_bytes rfl rfl rfl rfl HO.out (HR1.out.drop (lo := 16) (by omega)) ?d1 HBR.out.size ?d2)
        case d1 => have := H64.out; simp; omega
        case d2 =>
          intro a4 cap4 w4 g1 g2
          have H4 := Lib.hid (OwnB.mk g1 (by rw [List.length_append, List.length_drop, H64.out]))
          have B4 := Lib.hid (below_append HBR.out g2 HO.out HBR.out.size (Nat.le_refl _))
          clear g1 g2
          go_wp2
          go_roundw
          case rel =>
            refine ⟨k + 1, cur ++ t.drop 16, by omega, by go_num, H4.out, ?_, ?_, ?_, B4.out⟩
            · rw [dataOf_take ll k hlt, HCUR.out, HT.out]
            · rw [List.length_append, List.length_drop, H64.out, HCL.out]; omega
            · intro u hu
              rw [List.take_add_one, List.getElem?_eq_getElem hlt] at hu
              rcases List.mem_append.1 hu with h | h
              · exact HALL.out u h
              · obtain rfl : u = ll[k] := by simpa using h
                rw [← HT.out]; exact H64.out
          case measure => simp [intOf]; omega
      · have hne : ((t.length : Int) != 64) = true := by simp; omega
        have HF : Hid (refFrame ll = none) := by
          exact refFrame_short ll k hlt (by rw [← HT.out]; exact h64)
        clear h64
        go_wp2
        exact bodyPost_ret (v := .tuple #[.int .i64 0, .int .i64 0, .slice none 0 0, .bool false]) (by simp [results, Tryz.results10, go_sem]) rfl (by rw [HF.out]; exact ⟨rfl, HBR.out⟩)
    · obtain rfl : k = ll.length := by omega
      rw [List.take_length] at HCUR HALL
      have hDl : cur.length ≤ 48000000 := by omega
      have hDp : 0 < cur.length := by have := HCL.out; omega
      obtain ⟨ob, oo, rfl, -⟩ := (ownsRow_row HO.out.own.2).addr (by rw [bytesV_length]; exact hDp)
      have hoc := HO.out.slc.row.2.le
      go_wp2_with fail
      with_reducible refine (rnew_any _ _ _ wr).mono ?_
      rintro _ w3 ⟨rfl, hr3, hb3⟩
      have HB3 := Lib.hid hb3
      have HR3 := Lib.hid hr3
      clear hb3 hr3
      go_wp2_with fail
      with_reducible refine (rnumber_go _ _ _ _ cur w3 HR3.out (HO.out.slc.mono HB3.out) (by omega)).mono ?_
      rintro _ w4 ⟨rfl, hr4, hg4⟩
      have hpb2 := r4pos_bd cur
      have HTX : Hid (refText cur = if (numGo cur 0 0).2.1 = 0 ∧ 0 ≤ (numGo cur 0 0).1 ∧ (numGo cur 0 0).1 ≤ (cur.length : Int) - r4pos cur then some ((cur.drop (r4pos cur).toNat).take (numGo cur 0 0).1.toNat) else none) := rfl
      have hsz3 : w.heap.size ≤ wr.heap.size := HBR.out.size
      have B3 := Lib.hid (HBR.out.trans (HB3.out.mono hsz3))
      have B4 := Lib.hid (below_of_grown B3.out hg4 B3.out.size hsz3)
      have HO4 : Hid (Slc w4 (.slice (some ⟨ob, oo, none⟩) cur.length ocap) cur) := by
        obtain ⟨_, hr⟩ := HO.out.slc.row
        refine Slc.mk rfl ((hr.mono HB3.out).kept hg4 ?_)
        intro b o e
        have := (ownsRow_block HO.out.own.2 b o e).2
        simp; omega
      generalize (numGo cur 0 0).2.1 = E at hr4 HTX
      generalize (numGo cur 0 0).1 = N at hr4 HTX ⊢
      generalize r4pos cur = P at hr4 HTX hpb2
      obtain ⟨d0, d1, d2⟩ := cells3 hr4
      have HR4 := Lib.hid hr4
      clear hr4 hg4
      by_cases hE : E = 0
      · subst hE
        by_cases hN : 0 ≤ N
        · by_cases hNP : N ≤ (cur.length : Int) - P
          · obtain ⟨p, rfl⟩ : ∃ p : Nat, P = p := ⟨P.toNat, by omega⟩
            obtain ⟨m, rfl⟩ : ∃ m : Nat, N = m := ⟨N.toNat, by omega⟩
            obtain ⟨tx, htx⟩ : ∃ tx, tx = (cur.drop p).take m := ⟨_, rfl⟩
            have htl : tx.length = m := by rw [htx]; simp; omega
            have HTX2 : Hid (refText cur = some tx) := by
              have := HTX.out
              rw [if_pos ⟨rfl, hN, hNP⟩] at this
              simp only [Hid]; rw [this, htx]; rfl
            have HTXE := Lib.hid htx
            have HTL := Lib.hid htl
            clear htx htl
            obtain ⟨b1, o1, a1, c1, he, hc1, hr1⟩ := (HS.out.mono B4.out).get 0 hpos
            cases he
            have hl0 : ll[0] = s := by simp [HLL.out]
            have h64 : s.length = 64 := HALL.out s (by rw [HLL.out]; simp)
            rw [hl0, h64] at hc1
            rw [hl0, h64] at hr1
            simp only [Nat.add_zero] at hc1
            have hcap1 := hr1.le
            have HR1 : Hid (Slc w4 (.slice a1 64 c1) s) := Slc.mk h64 hr1
            have HA : Hid (Slc w4 (.slice a1 4 c1) (s.take 4)) := by
              have := HR1.out.sub (lo := 0) (hi := 4) (mx := c1) (by omega) (by omega) (by omega) (by omega)
              rw [subAddr_zero] at this; exact this
            have HA2 : Hid (Slc w4 (.slice (subAddr a1 c1 4 1) 2 (c1 - 4)) ((s.drop 4).take 2)) := HR1.out.sub (lo := 4) (hi := 6) (mx := c1) (by omega) (by omega) (by omega) (by omega)
            have HT4 : Hid (Slc w4 (.slice (subAddr (some ⟨ob, oo, none⟩) ocap p 1) (p + m - p) (ocap - p)) tx) := by
              have := HO4.out.sub (lo := p) (hi := p + m) (mx := ocap) (by omega) (by omega) (by omega) (by omega)
              rw [Nat.add_sub_cancel_left] at this ⊢
              rw [HTXE.out]; exact this
            have hg1 := genOf_le s
            have hf1 := frameOf_le s
            have q1 : IntKind.i64.wrap (genOf s : Int) = (genOf s : Int) := IntWalk.i64_in _ (by omega)
            have q2 : IntKind.i64.wrap (frameOf s : Int) = (frameOf s : Int) := IntWalk.i64_in _ (by omega)
            have q3 : IntKind.i64.wrap ((p : Int) + (m : Int)) = (p : Int) + (m : Int) := IntWalk.i64_in _ (by omega)
            have L1 : Hid ((s.take 4).length = 4) := by simp [Hid, h64]
            have L2 : Hid (((s.drop 4).take 2).length = 2) := by simp [Hid, h64]
            have H64 := Lib.hid h64
            have G1 := Lib.hid (beNat_gen s h64)
            have G2 := Lib.hid (beNat_frame s h64)
            clear hr1 hl0 h64
            have hbl : b1 < w4.heap.size := World.block_lt_of_cell? _ _ hc1
            have hbl2 : wr.heap.size < w4.heap.size := World.block_lt_of_cell? _ _ d1
            have i1 : (4 : Int) ≤ c1 := by omega
            have i2 : (6 : Int) ≤ c1 := by omega
            have i3 : (p : Int) + (m : Int) ≤ ocap := by omega
            have i4 : (p : Int) ≤ (p : Int) + (m : Int) := by omega
            go_upto_region 14 with fail
            go_cut [2, 3, 4] (fun s2 s3 s4 wx => ∃ v, s2 = .int .i64 (genOf s) ∧ s3 = .int .i64 (frameOf s) ∧ s4 = v ∧ OwnB wx w4.heap.size v tx ∧ Below w4.heap.size w4 wx)
            case first =>
              refine wp_tree_ext 29 (.one 0 (.one 1 (.one 2 (.one 3 (.one 6 (.one 7 (.one 8 (.one 9 (.one 13 (.one 14 (.one 15 (.one 16 (.one 17 (.one 18 (.one 19 (.one 20 (.one 21 (.one 22 (.one 23 (.one 24 (.alt (.one 4 (.one 5 (.alt (.one 10 (.one 11 (.one 12 (.one 25 (.one 26 (.one 27 (.one 28 (.nil)))))))) (.one 12 (.one 10 (.one 11 (.one 25 (.one 26 (.one 27 (.one 28 (.nil))))))))))) (.one 12 (.one 4 (.one 5 (.one 10 (.one 11 (.one 25 (.one 26 (.one 27 (.one 28 (.nil))))))))))))))))))))))))))))))) (by kernel_rfl) (by kernel_rfl) (by intro c a d v w h; cases d <;> exact h) ?_
              iterate 20 (refine SegT.takeK rfl rfl rfl (fun K hK => ⟨_, fun ws hws => by go_simp; rfl, ?_⟩); go_simp; refine hK _ ?_; clear hK K)
              refine SegT.alt ?_ ?_
              · skip
                refine SegT.loud rfl rfl rfl (fun K hK => ?_)
                go_wp2_with fail
                with_reducible refine (number34_v _ (s.take 4) _ (by first | exact HA.out.drew | exact (HA.out.alloc _).drew) (by rw [L1.out]; omega) (by rw [L1.out]; omega)).mono ?_
                rintro _ _ ⟨rfl, rfl⟩
                rw [G1.out]
                refine hK _ _ (fun b o h => by first | rfl | exact World.cell?_alloc_past _ _ _ h) ?_
                clear hK K
                iterate 1 (refine SegT.takeK rfl rfl rfl (fun K hK => ⟨_, fun ws hws => by go_simp; rfl, ?_⟩); go_simp; refine hK _ ?_; clear hK K)
                refine SegT.alt ?_ ?_
                · skip
                  refine SegT.loud rfl rfl rfl (fun K hK => ?_)
                  go_wp2_with fail
                  with_reducible refine (number34_v _ ((s.drop 4).take 2) _ (by first | exact HA2.out.drew | exact (HA2.out.alloc _).drew) (by rw [L2.out]; omega) (by rw [L2.out]; omega)).mono ?_
                  rintro _ _ ⟨rfl, rfl⟩
                  rw [G2.out]
                  refine hK _ _ (fun b o h => by first | rfl | exact World.cell?_alloc_past _ _ _ h) ?_
                  clear hK K
                  iterate 1 (refine SegT.takeK rfl rfl rfl (fun K hK => ⟨_, fun ws hws => by go_simp; rfl, ?_⟩); go_simp; refine hK _ ?_; clear hK K)
                  refine SegT.loud rfl rfl rfl (fun K hK => ?_)
                  go_wp2_with fail
                  refine hK _ _ (fun b o h => World.cell?_alloc_past _ _ _ h) ?_
                  clear hK K
                  refine SegT.loud rfl rfl rfl (fun K hK => ?_)
                  refine append_bytes_wp rfl rfl rfl (own_lit (w := w4.drew) (cs := #[]) (l := []) rfl rfl (by decide)) (HT4.out.drew.alloc _) (by have := HTL.out; simp; omega) (le_alloc _ _) ?_
                  intro a9 cap9 w9 g1 g2
                  have H9 := Lib.hid (OwnB.mk g1 (by simp))
                  have B9 := Lib.hid (below_append (B := w4.heap.size) (((Below.refl _ _).drew.alloc (Nat.le_refl _) _)) g2 (own_lit (w := w4.drew) (cs := #[]) (l := []) rfl rfl (by decide)) (le_alloc _ _) (Nat.le_refl _))
                  clear g1 g2
                  refine hK _ _ (fun b o h => B9.out.cell (p := ⟨b, o, none⟩) h) ?_
                  clear hK K
                  iterate 3 (refine SegT.takeK rfl rfl rfl (fun K hK => ⟨_, fun ws hws => by go_simp; rfl, ?_⟩); go_simp; refine hK _ ?_; clear hK K)
                  refine SegT.nil ?_
                  go_wp2_with fail
                  refine (by assumption : ∀ (a' : Act) (w' : World), Met _ a' w' → _) _ _ ?_
                  go_meet
                  case rel => exact ⟨_, rfl, rfl, rfl, (by have := H9.out; simp only [List.length_nil, Nat.zero_add, List.nil_append] at this; exact this), B9.out⟩
                · skip
                  refine SegT.loud rfl rfl rfl (fun K hK => ?_)
                  go_wp2_with fail
                  refine hK _ _ (fun b o h => World.cell?_alloc_past _ _ _ h) ?_
                  clear hK K
                  refine SegT.loud rfl rfl rfl (fun K hK => ?_)
                  go_wp2_with fail
                  with_reducible refine (number34_v _ ((s.drop 4).take 2) _ (by first | exact HA2.out.drew | exact (HA2.out.alloc _).drew) (by rw [L2.out]; omega) (by rw [L2.out]; omega)).mono ?_
                  rintro _ _ ⟨rfl, rfl⟩
                  rw [G2.out]
                  refine hK _ _ (fun b o h => by first | rfl | exact World.cell?_alloc_past _ _ _ h) ?_
                  clear hK K
                  iterate 1 (refine SegT.takeK rfl rfl rfl (fun K hK => ⟨_, fun ws hws => by go_simp; rfl, ?_⟩); go_simp; refine hK _ ?_; clear hK K)
                  refine SegT.loud rfl rfl rfl (fun K hK => ?_)
                  refine append_bytes_wp rfl rfl rfl (own_lit (w := w4.drew) (cs := #[]) (l := []) rfl rfl (by decide)) (HT4.out.drew.alloc _) (by have := HTL.out; simp; omega) (le_alloc _ _) ?_
                  intro a9 cap9 w9 g1 g2
                  have H9 := Lib.hid (OwnB.mk g1 (by simp))
                  have B9 := Lib.hid (below_append (B := w4.heap.size) (((Below.refl _ _).drew.alloc (Nat.le_refl _) _)) g2 (own_lit (w := w4.drew) (cs := #[]) (l := []) rfl rfl (by decide)) (le_alloc _ _) (Nat.le_refl _))
                  clear g1 g2
                  refine hK _ _ (fun b o h => B9.out.cell (p := ⟨b, o, none⟩) h) ?_
                  clear hK K
                  iterate 3 (refine SegT.takeK rfl rfl rfl (fun K hK => ⟨_, fun ws hws => by go_simp; rfl, ?_⟩); go_simp; refine hK _ ?_; clear hK K)
                  refine SegT.nil ?_
                  go_wp2_with fail
                  refine (by assumption : ∀ (a' : Act) (w' : World), Met _ a' w' → _) _ _ ?_
                  go_meet
                  case rel => exact ⟨_, rfl, rfl, rfl, (by have := H9.out; simp only [List.length_nil, Nat.zero_add, List.nil_append] at this; exact this), B9.out⟩
              · skip
                refine SegT.loud rfl rfl rfl (fun K hK => ?_)
                go_wp2_with fail
                refine hK _ _ (fun b o h => World.cell?_alloc_past _ _ _ h) ?_
                clear hK K
                refine SegT.loud rfl rfl rfl (fun K hK => ?_)
                go_wp2_with fail
                with_reducible refine (number34_v _ (s.take 4) _ (by first | exact HA.out.drew | exact (HA.out.alloc _).drew) (by rw [L1.out]; omega) (by rw [L1.out]; omega)).mono ?_
                rintro _ _ ⟨rfl, rfl⟩
                rw [G1.out]
                refine hK _ _ (fun b o h => by first | rfl | exact World.cell?_alloc_past _ _ _ h) ?_
                clear hK K
                iterate 1 (refine SegT.takeK rfl rfl rfl (fun K hK => ⟨_, fun ws hws => by go_simp; rfl, ?_⟩); go_simp; refine hK _ ?_; clear hK K)
                refine SegT.loud rfl rfl rfl (fun K hK => ?_)
                go_wp2_with fail
                with_reducible refine (number34_v _ ((s.drop 4).take 2) _ (by first | exact HA2.out.drew | exact (HA2.out.alloc _).drew) (by rw [L2.out]; omega) (by rw [L2.out]; omega)).mono ?_
                rintro _ _ ⟨rfl, rfl⟩
                rw [G2.out]
                refine hK _ _ (fun b o h => by first | rfl | exact World.cell?_alloc_past _ _ _ h) ?_
                clear hK K
                iterate 1 (refine SegT.takeK rfl rfl rfl (fun K hK => ⟨_, fun ws hws => by go_simp; rfl, ?_⟩); go_simp; refine hK _ ?_; clear hK K)
                refine SegT.loud rfl rfl rfl (fun K hK => ?_)
                refine append_bytes_wp rfl rfl rfl (own_lit (w := w4.drew) (cs := #[]) (l := []) rfl rfl (by decide)) (HT4.out.drew.alloc _) (by have := HTL.out; simp; omega) (le_alloc _ _) ?_
                intro a9 cap9 w9 g1 g2
                have H9 := Lib.hid (OwnB.mk g1 (by simp))
                have B9 := Lib.hid (below_append (B := w4.heap.size) (((Below.refl _ _).drew.alloc (Nat.le_refl _) _)) g2 (own_lit (w := w4.drew) (cs := #[]) (l := []) rfl rfl (by decide)) (le_alloc _ _) (Nat.le_refl _))
                clear g1 g2
                refine hK _ _ (fun b o h => B9.out.cell (p := ⟨b, o, none⟩) h) ?_
                clear hK K
                iterate 3 (refine SegT.takeK rfl rfl rfl (fun K hK => ⟨_, fun ws hws => by go_simp; rfl, ?_⟩); go_simp; refine hK _ ?_; clear hK K)
                refine SegT.nil ?_
                go_wp2_with fail
                refine (by assumption : ∀ (a' : Act) (w' : World), Met _ a' w' → _) _ _ ?_
                go_meet
                case rel => exact ⟨_, rfl, rfl, rfl, (by have := H9.out; simp only [List.length_nil, Nat.zero_add, List.nil_append] at this; exact this), B9.out⟩
            case rest =>
              obtain ⟨v, rfl, rfl, rfl, ho9, hb9⟩ := hcut
              have H9 := Lib.hid ho9
              have B9 := Lib.hid hb9
              obtain ⟨a9, cap9, rfl, -⟩ := ho9
              have hs4 : w.heap.size ≤ w4.heap.size := B4.out.size
              have BA := Lib.hid (B4.out.trans (B9.out.mono hs4))
              have htl : tx.length ≤ 48000000 := by have := HTL.out; omega
              have HFS := Lib.hid (refFrame_some s rest ll tx HLL.out HALL.out (by rw [← HCUR.out]; exact HTX2.out))
              clear hb9 hc1 d0 d1 d2 q1 q2 q3 i1 i2 i3 i4 hbl hbl2
              by_cases hg0 : genOf s = 0
              · have HR : Hid (refFrame ll = none) := HFS.out.trans (if_neg (fun h => by omega))
                have HG0 := Lib.hid hg0
                clear hg1 hf1 hg0
                go_wp2_with fail
                with_reducible refine (rsectors_range (genOf s) (frameOf s) _ tx wc H9.out.slc (by have := HG0.out; omega)).mono ?_
                rintro _ _ ⟨rfl, rfl⟩
                go_wp2
                refine bodyPost_ret (v := .tuple #[.int .i64 0, .int .i64 0, .slice none 0 0, .bool false]) (by simp [results, Tryz.results10, go_sem]) rfl ?_
                rw [HR.out]
                exact ⟨rfl, BA.out⟩
              · have hg2 : 1 ≤ genOf s := by omega
                clear hg0
                by_cases h255 : sectorCount tx ≤ 255
                · go_wp2_with fail
                  with_reducible refine (rsectors_ok (genOf s) (frameOf s) _ tx wc H9.out.slc (by omega) hg2 hg1 hf1 h255).mono ?_
                  rintro _ w6 ⟨v6, rfl, ho6, hb6⟩
                  have HS6 := Lib.hid ho6.slcs
                  obtain ⟨vs6, ⟨a6, cap6, rfl, -⟩, -, -⟩ := ho6
                  have HB6 := Lib.hid hb6
                  clear hb6
                  have B6 := Lib.hid (BA.out.trans (HB6.out.mono BA.out.size))
                  have E6 := Lib.hid (sameSectors_any (.slice a6 vs6.length cap6) (.slice (some ⟨b1, o1, none⟩) ll.length cap) (sectorsOf (genOf s) (frameOf s) tx) ll w6 HS6.out (HS.out.mono B6.out) (by unfold sectorsOf; simp; omega))
                  by_cases heq : sectorsOf (genOf s) (frameOf s) tx = ll
                  · rw [decide_eq_true heq] at E6
                    have HR : Hid (refFrame ll = some (genOf s, frameOf s, tx)) := HFS.out.trans (if_pos ⟨hg2, h255, heq⟩)
                    clear heq
                    go_wp2_with fail
                    with_reducible refine E6.out.mono ?_
                    rintro _ w7 ⟨rfl, hb7⟩
                    have B7 := Lib.hid (B6.out.trans (hb7.mono B6.out.size))
                    have HF7 := Lib.hid ((((H9.out.mono HB6.out).mono hb7).lower hs4).fr)
                    clear hb7
                    go_wp2
                    refine bodyPost_ret (v := .tuple #[.int .i64 (genOf s), .int .i64 (frameOf s), .slice a9 tx.length cap9, .bool true]) (by simp [results, Tryz.results10, go_sem]) rfl ?_
                    rw [HR.out]
                    exact ⟨⟨_, rfl, HF7.out⟩, B7.out⟩
                  · rw [decide_eq_false heq] at E6
                    have HR : Hid (refFrame ll = none) := HFS.out.trans (if_neg (fun h => heq h.2.2))
                    clear heq
                    go_wp2_with fail
                    with_reducible refine E6.out.mono ?_
                    rintro _ w7 ⟨rfl, hb7⟩
                    have B7 := Lib.hid (B6.out.trans (hb7.mono B6.out.size))
                    clear hb7
                    go_wp2
                    refine bodyPost_ret (v := .tuple #[.int .i64 0, .int .i64 0, .slice none 0 0, .bool false]) (by simp [results, Tryz.results10, go_sem]) rfl ?_
                    rw [HR.out]
                    exact ⟨rfl, B7.out⟩
                · have HR : Hid (refFrame ll = none) := HFS.out.trans (if_neg (fun h => h255 h.2.1))
                  go_wp2_with fail
                  with_reducible refine (rsectors_long (genOf s) (frameOf s) _ tx wc H9.out.slc (by omega) hg2 hg1 hf1 (by omega)).mono ?_
                  rintro _ w6 ⟨rfl, hb6⟩
                  have B6 := Lib.hid (BA.out.trans (hb6.mono BA.out.size))
                  clear hb6
                  go_wp2
                  refine bodyPost_ret (v := .tuple #[.int .i64 0, .int .i64 0, .slice none 0 0, .bool false]) (by simp [results, Tryz.results10, go_sem]) rfl ?_
                  rw [HR.out]
                  exact ⟨rfl, B6.out⟩
          · have HR : Hid (refFrame ll = none) := by
              simp only [Hid]
              refine refFrame_none s rest ll HLL.out ?_
              rw [← HCUR.out, HTX.out, if_neg (fun h => hNP h.2.2)]
            have hNP' : (cur.length : Int) - P < N := by omega
            clear hNP
            go_wp2
            refine bodyPost_ret (v := .tuple #[.int .i64 0, .int .i64 0, .slice none 0 0, .bool false]) (by simp [results, Tryz.results10, go_sem]) rfl ?_
            rw [HR.out]
            exact ⟨rfl, B4.out⟩
        · have HR : Hid (refFrame ll = none) := by
            simp only [Hid]
            refine refFrame_none s rest ll HLL.out ?_
            rw [← HCUR.out, HTX.out, if_neg (fun h => hN h.2.1)]
          have hN' : N < 0 := by omega
          clear hN
          go_wp2
          refine bodyPost_ret (v := .tuple #[.int .i64 0, .int .i64 0, .slice none 0 0, .bool false]) (by simp [results, Tryz.results10, go_sem]) rfl ?_
          rw [HR.out]
          exact ⟨rfl, B4.out⟩
      · have HR : Hid (refFrame ll = none) := by
          simp only [Hid]
          refine refFrame_none s rest ll HLL.out ?_
          rw [← HCUR.out, HTX.out, if_neg (fun h => hE h.1)]
        have hE' : (E != 0) = true := by simpa using hE
        clear hE
        go_wp2
        refine bodyPost_ret (v := .tuple #[.int .i64 0, .int .i64 0, .slice none 0 0, .bool false]) (by simp [results, Tryz.results10, go_sem]) rfl ?_
        rw [HR.out]
        exact ⟨rfl, B4.out⟩
theorem rbytes_any (v : Value) (ll : List (List UInt8)) (w : World) (hs : Slcs w v ll) (hlen : ll.length ≤ 1000000) : Calls Tryz.prog 10 #[v] w (BytesP w (refFrame ll)) := by
  cases ll with
  | nil =>
    obtain ⟨a, cap, vs, rfl, -⟩ := hs
    exact rbytes_nil a cap w
  | cons s rest => exact rbytes_cons v s rest _ w rfl hs hlen
end Go.Proofs.YtjkmbbnjiobckaaGreatDoor
