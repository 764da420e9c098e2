/-
  The law's awake: the store of a new disk.
-/
import Derived.Test.YtjkmbbnjiobckaaGreatDoorOpen0
namespace Go.Proofs.YtjkmbbnjiobckaaGreatDoor
open Go.RowKit
theorem zeros64_length : zeros64.length = 64 := by simp [zeros64]
theorem blank_rows (n : Nat) : ∀ x ∈ List.replicate n zeros64, x.length = 64 := by
  intro x hx
  rw [(List.mem_replicate.1 hx).2, zeros64_length]
theorem blank_valid {n : Nat} (h : sectorsB n = true) : (Dsk.blank n).validB = true := by
  unfold Dsk.validB Dsk.blank
  simp [List.length_replicate, h, wrongIn_false (blank_rows n)]
theorem zeros_no_sector : isSector zeros64 = false := by
  have h : genOf zeros64 = 0 := by decide +kernel
  unfold isSector
  rw [h]; simp
theorem next_zeros (k : Nat) : nextOf (List.replicate k zeros64) = none := by
  cases k with
  | zero => rfl
  | succ k =>
    rw [List.replicate_succ]
    unfold nextOf
    simp only
    rw [if_neg (by rw [zeros_no_sector]; simp)]
theorem log_zeros (k : Nat) : logOf (List.replicate k zeros64) = none := by
  unfold logOf logFrom
  rw [next_zeros]
theorem maxGen_zeros (g k : Nat) : maxGen g (List.replicate k zeros64) = g := by
  induction k with
  | zero => rfl
  | succ k ih =>
    rw [List.replicate_succ]
    have hs : stepGen g zeros64 = g := by unfold stepGen; rw [zeros_no_sector]; rfl
    unfold maxGen at ih ⊢
    rw [List.foldl_cons, hs]
    exact ih
theorem ready_of {d : Dsk} (h : d.validB = true) (hd : d.dead = false) : d.readyV = 0 := by unfold Dsk.readyV; rw [h, hd]; rfl
/-- One sector and a flush, on a disk that does not fail. -/
theorem putAll_one {d : Dsk} (hv : d.validB = true) (hd : d.dead = false) (hf : d.fuse = -1) (at' : Nat) (hat : at' < d.now.length) (s : List UInt8) (hs : s.length = 64) :
    d.putAll at' [s] = (⟨d.now.set at' s, d.now.set at' s, -1, moreOps (moreOps d.ops), false⟩, 0) := by
  obtain ⟨-, v1, v2, v3, v4, v5, v6, r1, r2, v7⟩ := Dsk.valid_small hv
  have h1 : d.writeR at' s = (d.spent (d.now.set at' s) d.safe, 0) := by
    rw [Dsk.writeR_ready (ready_of hv hd), if_neg (by omega), if_neg (by omega), if_neg (by omega)]; simp
  have hv1 : (d.spent (d.now.set at' s) d.safe).validB = true := spent_valid hv (by simp) v3.symm (mem_set_len r1 hs) r2
  have hp : putRows d at' [s] = (d.spent (d.now.set at' s) d.safe, 0) := by
    rw [putRows, h1]; simp [putRows]
  have hf1 : (d.spent (d.now.set at' s) d.safe).fuse = -1 := by simp [Dsk.spent, downFuse, hf]
  have h2 : (d.spent (d.now.set at' s) d.safe).flushR = ((d.spent (d.now.set at' s) d.safe).spent (d.now.set at' s) (d.now.set at' s), 0) := by
    rw [Dsk.flushR_ready (ready_of hv1 (by simp [Dsk.spent, hd])), if_neg (by rw [hf1]; decide)]; rfl
  have hv2 : ((d.spent (d.now.set at' s) d.safe).spent (d.now.set at' s) (d.now.set at' s)).validB = true := spent_valid hv1 (by simp [Dsk.spent]) (by simp [Dsk.spent]) (mem_set_len r1 hs) (mem_set_len r1 hs)
  unfold Dsk.putAll
  rw [hp]
  simp only [if_true]
  rw [h2]
  simp only [hv2, if_true]
  simp [Dsk.spent, hd, downFuse, hf]
theorem count_empty : sectorCount (num 0) = 1 := by decide +kernel
/-- What Open makes of a new disk. -/
theorem compact_blank {n : Nat} (h : sectorsB n = true) : ∃ d : Dsk, compactR (Dsk.blank n) 0 1 [] (num 0) 0 = (⟨d, 1, 0, 1, 1, []⟩, 0) ∧ d.ops = 2 := by
  have hn : 8 ≤ n := by
    unfold sectorsB at h
    simp only [Bool.and_eq_true, decide_eq_true_eq] at h
    exact h.1.2
  have hv := blank_valid h
  have hg : maxGen 0 (Dsk.blank n).now = 0 := maxGen_zeros 0 n
  have hl : (Dsk.blank n).now.length = n := by simp [Dsk.blank]
  have hso : sectorsOf 1 0 (num 0) = [sectorOf 1 0 0 1 (partOf (num 0) 0)] := by unfold sectorsOf; rw [count_empty]; rfl
  have h64 : (sectorOf 1 0 0 1 (partOf (num 0) 0)).length = 64 := by rw [sectorOf_length, partOf_length _ _ (by rw [count_empty]; decide)]
  have hp := putAll_one hv rfl rfl 0 (by rw [hl]; omega) _ h64
  refine ⟨⟨(Dsk.blank n).now.set 0 (sectorOf 1 0 0 1 (partOf (num 0) 0)), (Dsk.blank n).now.set 0 (sectorOf 1 0 0 1 (partOf (num 0) 0)), -1, moreOps (moreOps (Dsk.blank n).ops), false⟩, ?_, ?_⟩
  · unfold compactR
    rw [if_neg (by simp), hg, hl, count_empty, if_neg (by omega), show (1 - 1) * (n / 2) = 0 by simp, hso, hp, if_neg (by simp)]
    rfl
  · show moreOps (moreOps 0) = 2
    decide
set_option maxRecDepth 100000 in
set_option maxHeartbeats 2000000 in
theorem awake7 (w : World) : Calls Tryz.prog 7 #[] w fun e w' => e = .returned (.bool true) ∧ Below w.heap.size w w' := by
  have hB : sectorsB 8 = true := by decide
  obtain ⟨d, hd, hops⟩ := compact_blank hB
  have EE := Lib.hid (empty13 0 w (by decide))
  simp only [Int.natCast_zero, Nat.mul_zero, Nat.zero_mod, Nat.add_zero] at EE
  have EO := Lib.hid (fun v W (h : DskV W v (Dsk.blank 8)) => open12_blank v (Dsk.blank 8) W h (Dsk.valid_small (blank_valid hB)).1 (by decide) (by unfold Dsk.readR; rw [if_neg (by simp [ready_of (blank_valid hB) rfl]), if_neg (by simp [Dsk.blank])]) (by simp only [Dsk.blank, List.take_replicate]; exact log_zeros _) (by simp only [Dsk.blank, List.drop_replicate]; exact log_zeros _))
  rw [hd] at EO
  simp only at EO
  have HOPS := Lib.hid hops
  clear hd hB hops
  go_enter Tryz.func7, Tryz.ntmps7
  go_wp2_with fail
  with_reducible refine EE.out.mono ?_
  rintro _ w1 ⟨⟨dv, rfl, hdv⟩, hb1⟩
  have HB1 := Lib.hid hb1
  have HDV := Lib.hid hdv
  clear hb1
  obtain ⟨x, y, rfl, -, -⟩ := hdv
  go_wp2_with fail
  with_reducible refine (EO.out _ w1 HDV.out).mono ?_
  rintro _ w2 ⟨⟨sv, rfl, hst⟩, hb2⟩
  have HB2 := Lib.hid (HB1.out.trans (hb2.mono HB1.out.size))
  obtain ⟨sx, sy, sev, rfl, hsd, hse⟩ := hst
  obtain ⟨s1, s2, s3, s4, rfl, rfl⟩ := hsd.len
  obtain ⟨s5, s6, rfl, -⟩ := hse
  obtain ⟨Rn, Rs, Rf, Ro, Rd⟩ := d
  obtain rfl : Ro = 2 := HOPS.out
  clear hb2 hsd
  go_wp2
  go_ret
  exact ⟨rfl, HB2.out.alloc HB2.out.size _⟩
end Go.Proofs.YtjkmbbnjiobckaaGreatDoor
