/-
  The plain law of frames: what the program's Bytes reads of some sectors is what the reference's reads. No code is walked here.
-/
import Derived.Test.YtjkmbbnjiobckaaGreatDoorRBytes
namespace Go.Proofs.YtjkmbbnjiobckaaGreatDoor
open Go.RowKit

theorem numGo_suffix : ∀ (l : List UInt8) (i u : Nat), (numGo l i u).2.1 = 0 → ∃ k, k ≤ l.length ∧ (numGo l i u).2.2 = l.drop k
  | [], _, _, h => by simp [numGo] at h
  | c :: cs, i, u, h => by
    unfold numGo at h ⊢
    split
    · rename_i h1; rw [if_pos h1] at h; simp at h
    · rename_i h1
      rw [if_neg h1] at h
      split
      · rename_i h2
        rw [if_pos h2] at h
        obtain ⟨k, h3, h4⟩ := numGo_suffix cs _ _ h
        exact ⟨k + 1, by simp; omega, by rw [h4, List.drop_succ_cons]⟩
      · rename_i h2
        rw [if_neg h2] at h
        split
        · rename_i h3; rw [if_pos h3] at h; simp at h
        · exact ⟨1, by simp, rfl⟩
theorem numGo_drop (l : List UInt8) (h : (numGo l 0 0).2.1 = 0) : (numGo l 0 0).2.2 = l.drop (r4pos l).toNat := by
  obtain ⟨k, h1, h2⟩ := numGo_suffix l 0 0 h
  have : r4pos l = (k : Int) := by
    unfold r4pos
    rw [if_pos h, h2, List.length_drop]; omega
  rw [this, h2]; rfl
theorem rdNum_ok (d : List UInt8) (h : (numGo d 0 0).2.1 = 0) : rdNum d 0 = numGo d 0 0 := by
  unfold rdNum; rw [if_pos rfl, if_pos h]
theorem rdNum_bad (d : List UInt8) (h : ¬ (numGo d 0 0).2.1 = 0) : rdNum d 0 = (0, (numGo d 0 0).2.1, d) := by
  unfold rdNum; rw [if_pos rfl, if_neg h]
theorem rdText_of (most : Int) (d rs : List UInt8) (N E : Int) (hr : rdNum d 0 = (N, E, rs)) :
    (rdText most d 0).1 = if E = 0 ∧ 0 ≤ N ∧ N ≤ most ∧ N ≤ rs.length then rs.take N.toNat else [] := by
  unfold rdText rdLen
  simp only [hr]
  by_cases hE : E = 0
  · subst hE
    by_cases hN : N < 0
    · rw [if_neg (show ¬ (_ ∧ _) by rintro ⟨_, h, _⟩; omega)]
      simp [rdTake, hN]
    · by_cases hm : most < N
      · rw [if_neg (show ¬ ((0 : Int) = 0 ∧ _) by rintro ⟨_, _, h, _⟩; omega)]
        simp [rdTake, hN, hm]
      · simp only [if_neg hN, if_neg hm, if_true]
        unfold rdTake
        rw [if_pos rfl]
        by_cases hl : N ≤ rs.length
        · rw [if_neg (show ¬ rs.length < N.toNat by omega), if_pos ⟨trivial, by omega, by omega, hl⟩]
        · rw [if_pos (show rs.length < N.toNat by omega), if_neg (by rintro ⟨_, _, _, h⟩; omega)]
  · rw [if_neg (show ¬ (E = 0 ∧ _) by rintro ⟨h, _⟩; exact hE h)]
    simp [rdTake, hE]
theorem textOf_some (d b : List UInt8) (h : refText d = some b) : textOf d = b := by
  unfold refText at h
  split at h
  · rename_i hc
    obtain ⟨h1, h2, h3⟩ := hc
    cases h
    have hd := numGo_drop d h1
    have hb := r4pos_bd d
    unfold textOf
    rw [rdText_of d.length d (numGo d 0 0).2.2 (numGo d 0 0).1 0 (by rw [rdNum_ok d h1, ← h1]), hd, if_pos ⟨rfl, h2, by omega, by rw [List.length_drop]; omega⟩]
  · cases h
theorem textOf_none (d : List UInt8) (h : refText d = none) : textOf d = [] := by
  unfold refText at h
  split at h
  · cases h
  · rename_i hc
    have hb := r4pos_bd d
    unfold textOf
    by_cases h1 : (numGo d 0 0).2.1 = 0
    · have hd := numGo_drop d h1
      rw [rdText_of d.length d (numGo d 0 0).2.2 (numGo d 0 0).1 0 (by rw [rdNum_ok d h1, ← h1]), if_neg]
      rintro ⟨_, h2, _, h3⟩
      refine hc ⟨h1, h2, ?_⟩
      rw [hd, List.length_drop] at h3; omega
    · rw [rdText_of d.length d d 0 _ (rdNum_bad d h1), if_neg]
      rintro ⟨h2, _⟩
      exact h1 h2
theorem chunks_flat : ∀ (n : Nat) (p : List UInt8), p.length = n * 48 → ((List.range n).flatMap fun i => (p.drop (i * 48)).take 48) = p := by
  intro n
  induction n with
  | zero => intro p h; simp at h; simp [h]
  | succ n ih =>
    intro p h
    rw [List.range_succ_eq_map, List.flatMap_cons, List.flatMap_map]
    have h1 := ih (p.drop 48) (by rw [List.length_drop]; omega)
    have h3 : (fun i => List.take 48 (List.drop (Nat.succ i * 48) p)) = fun i => List.take 48 (List.drop (i * 48) (List.drop 48 p)) := by
      funext i; rw [List.drop_drop]; congr 2; omega
    rw [h3, h1]
    simp
theorem headB_split (gen frame i n : Nat) (part : List UInt8) : ∃ a0 a1 a2 a3 a4 a5 a6 a7 b0 b1 b2 b3 b4 b5 b6 b7, sectorOf gen frame i n part = a0 :: a1 :: a2 :: a3 :: a4 :: a5 :: a6 :: a7 :: b0 :: b1 :: b2 :: b3 :: b4 :: b5 :: b6 :: b7 :: part ∧ a6 = UInt8.ofNat (i / 256 ^ 0) ∧ a7 = UInt8.ofNat (n / 256 ^ 0) :=
  ⟨_, _, _, _, _, _, _, _, _, _, _, _, _, _, _, _, rfl, rfl, rfl⟩
theorem sectorOf_drop (gen frame i n : Nat) (part : List UInt8) : (sectorOf gen frame i n part).drop 16 = part := by
  obtain ⟨_, _, _, _, _, _, _, _, _, _, _, _, _, _, _, _, h, _⟩ := headB_split gen frame i n part
  rw [h]; rfl
theorem sectorOf_index (gen frame i n : Nat) (part : List UInt8) (h : i < 256) : indexOf (sectorOf gen frame i n part) = i := by
  obtain ⟨_, _, _, _, _, _, _, _, _, _, _, _, _, _, _, _, h1, h2, _⟩ := headB_split gen frame i n part
  rw [h1]; simp [indexOf, byteAt, h2]; omega
theorem sectorOf_number (gen frame i n : Nat) (part : List UInt8) (h : n < 256) : numberOf (sectorOf gen frame i n part) = n := by
  obtain ⟨_, _, _, _, _, _, _, _, _, _, _, _, _, _, _, _, h1, _, h2⟩ := headB_split gen frame i n part
  rw [h1]; simp [numberOf, byteAt, h2]; omega
theorem dataOf_sectors (g f : Nat) (b : List UInt8) : dataOf (sectorsOf g f b) = padded b := by
  unfold dataOf sectorsOf
  rw [List.flatMap_map]
  rw [show (fun i => List.drop 16 (sectorOf g f i (sectorCount b) (partOf b i))) = fun i => ((padded b).drop (i * 48)).take 48 by
    funext i; rw [sectorOf_drop]; rfl]
  exact chunks_flat _ _ (padded_length b)
theorem sectorCount_pos (b : List UInt8) : 0 < sectorCount b := by
  have h2 : 1 ≤ (num (b.length : Int)).length := Lib.uvarint_pos _
  unfold sectorCount frameData
  rw [List.length_append]
  omega
theorem refText_empty : refText (padded []) = some [] := by
  have h : padded [] = 0 :: List.replicate 47 0 := by decide +kernel
  rw [h]
  decide +kernel
theorem sectors_first (g f : Nat) (b s : List UInt8) (rest : List (List UInt8)) (h255 : sectorCount b ≤ 255) (h : sectorsOf g f b = s :: rest) :
    s = sectorOf g f 0 (sectorCount b) (partOf b 0) := by
  unfold sectorsOf at h
  have hp := sectorCount_pos b
  obtain ⟨n, hn⟩ : ∃ n, sectorCount b = n + 1 := ⟨sectorCount b - 1, by omega⟩
  rw [hn] at h
  rw [List.range_succ_eq_map, List.map_cons] at h
  injection h with h1 _
  rw [hn]; exact h1.symm
theorem sector_of_frame (b s : List UInt8) (rest : List (List UInt8)) (h1 : 1 ≤ genOf s) (h255 : sectorCount b ≤ 255) (hl : s.length = 64) (h : sectorsOf (genOf s) (frameOf s) b = s :: rest) : isSector s = true := by
  have hs := sectors_first _ _ b s rest h255 h
  have hp := sectorCount_pos b
  have hi : indexOf s = 0 := by rw [hs]; exact sectorOf_index _ _ _ _ _ (by omega)
  have hn : numberOf s = sectorCount b := by
    have := sectorOf_number (genOf s) (frameOf s) 0 (sectorCount b) (partOf b 0) (by omega)
    rw [← hs] at this; exact this
  have hd : s.drop 16 = partOf b 0 := by
    have := sectorOf_drop (genOf s) (frameOf s) 0 (sectorCount b) (partOf b 0)
    rw [← hs] at this; exact this
  unfold isSector
  simp only [Bool.and_eq_true, decide_eq_true_eq]
  exact ⟨⟨⟨hl, by omega⟩, by omega⟩, by rw [hi, hn, hd]; exact hs⟩
theorem frames_alike (ll : List (List UInt8)) : frameOfSectors ll = refFrame ll := by
  cases ll with
  | nil => rfl
  | cons s rest =>
    by_cases h64 : ∀ t ∈ s :: rest, t.length = 64
    · have hl : s.length = 64 := h64 s (by simp)
      cases ht : refText (dataOf (s :: rest)) with
      | none =>
        rw [refFrame_none s rest _ rfl ht]
        unfold frameOfSectors
        simp only
        rw [if_neg]
        rintro ⟨_, _, h3, h4⟩
        rw [textOf_none _ ht] at h4
        have := dataOf_sectors (genOf s) (frameOf s) []
        rw [h4] at this
        rw [this, refText_empty] at ht
        cases ht
      | some b =>
        rw [refFrame_some s rest _ b rfl h64 ht]
        unfold frameOfSectors
        simp only [textOf_some _ _ ht]
        by_cases hc : 1 ≤ genOf s ∧ sectorCount b ≤ 255 ∧ sectorsOf (genOf s) (frameOf s) b = s :: rest
        · rw [if_pos hc, if_pos ⟨sector_of_frame b s rest hc.1 hc.2.1 hl hc.2.2, h64, hc.2⟩]
        · rw [if_neg hc, if_neg]
          rintro ⟨h1, _, h3⟩
          refine hc ⟨?_, h3⟩
          unfold isSector at h1
          simp only [Bool.and_eq_true, decide_eq_true_eq] at h1
          omega
    · unfold frameOfSectors refFrame
      simp only
      rw [if_neg h64, if_neg (fun h => h64 h.2.1)]
end Go.Proofs.YtjkmbbnjiobckaaGreatDoor
