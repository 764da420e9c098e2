/-
  wire.Reader: take, length, Text, Count, Err: what they read.
-/
import Derived.Test.YtjkmbbnjiobckaaGreatDoorReader
namespace Go.Proofs.YtjkmbbnjiobckaaGreatDoor
open Go.RowKit
/-- What take hands back, what error it leaves, what is left. -/
def rdTake (n : Nat) (l : List UInt8) (err : Int) : List UInt8 × Int × List UInt8 :=
  if err = 0 then (if l.length < n then ([], 16, l) else (l.take n, 0, l.drop n)) else ([], err, l)
set_option maxRecDepth 100000 in
set_option maxHeartbeats 1000000 in
theorem take_any (p n : Nat) (l : List UInt8) (err : Int) (w : World) (h : RdAt w p l err) :
    Calls Tryz.prog 65 #[.pointer (some ⟨p, 0, none⟩), .int .i64 n] w fun e w' => (∃ v, e = .returned v ∧ Slc w' v (rdTake n l err).1) ∧ RdAt w' p (rdTake n l err).2.2 (rdTake n l err).2.1 ∧ w.grownBy w' (some p) := by
  have H := Lib.hid h
  obtain ⟨a, m, cap, h1, h2⟩ := h
  obtain ⟨hn, hr⟩ := h2.row
  have hcap := hr.le
  obtain ⟨c0, c1⟩ := cells2 h1
  have fr := free_all h1
  have HP := Lib.hid h1
  have HS := Lib.hid h2
  clear hr
  by_cases he : err = 0
  · subst he
    by_cases hlt : l.length < n
    · have HRN : Hid (rdTake n l 0 = ([], 16, l)) := by simp [rdTake, hlt, Hid]
      have hmn : (m : Int) < n := by omega
      clear h1 h2 hn hlt
      go_enter Tryz.func65, Tryz.ntmps65
      go_wp2
      go_ret
      exact ⟨⟨_, rfl, by rw [HRN.out]; exact Slc.nil _⟩, by rw [HRN.out]; exact H.out.setErr 16, grown_set (grown_refl w _) _⟩
    · have HRN : Hid (rdTake n l 0 = (l.take n, 0, l.drop n)) := by simp [rdTake, hlt, Hid]
      have hmn : (n : Int) ≤ m := by omega
      have S1 := Lib.hid (h2.sub (lo := 0) (hi := n) (mx := n) (by omega) (by omega) (Nat.le_refl _) (by omega))
      have S2 := Lib.hid (h2.drop (lo := n) (by omega))
      clear h1 h2 hn hlt
      go_enter Tryz.func65, Tryz.ntmps65
      go_wp2
      go_ret
      rw [HRN.out]
      refine ⟨⟨_, rfl, ?_⟩, H.out.setRest S2.out, grown_set (grown_refl w _) _⟩
      have := slc_rd S1.out HP.out (by simp) (grown_set (grown_refl w (some p)) (.slice (subAddr a cap n 1) (m - n) (cap - n)) (i := 0))
      simpa [subAddr_zero] using this
  · have HRN : Hid (rdTake n l err = ([], err, l)) := by simp [rdTake, he, Hid]
    clear h1 h2 hn
    go_enter Tryz.func65, Tryz.ntmps65
    go_wp2
    go_ret
    exact ⟨⟨_, rfl, by rw [HRN.out]; exact Slc.nil _⟩, by rw [HRN.out]; exact H.out, grown_refl w _⟩

/-- What length hands back, the error, what is left. -/
def rdLen (most e : Int) (l : List UInt8) (err : Int) : Int × Int × List UInt8 :=
  let r := rdNum l err
  let err2 := if r.1 < 0 then (if r.2.1 = 0 then 3 else r.2.1) else if most < r.1 then (if r.2.1 = 0 then e else r.2.1) else r.2.1
  (if err2 = 0 then r.1 else 0, err2, r.2.2)
set_option maxRecDepth 100000 in
set_option maxHeartbeats 1000000 in
theorem length_any (p : Nat) (most e : Int) (l : List UInt8) (err : Int) (w : World) (h : RdAt w p l err) (hl : l.length ≤ 140737488000000) :
    Calls Tryz.prog 66 #[.pointer (some ⟨p, 0, none⟩), .int .i64 most, .int .i64 e] w fun en w' => en = .returned (.int .i64 (rdLen most e l err).1) ∧ RdAt w' p (rdLen most e l err).2.2 (rdLen most e l err).2.1 ∧ w.grownBy w' (some p) := by
  obtain ⟨⟨v, er, rs⟩, hN⟩ : ∃ r, r = rdNum l err := ⟨_, rfl⟩
  have HRL : Hid (rdLen most e l err = (if (if v < 0 then (if er = 0 then 3 else er) else if most < v then (if er = 0 then e else er) else er) = 0 then v else 0, if v < 0 then (if er = 0 then 3 else er) else if most < v then (if er = 0 then e else er) else er, rs)) := by
    unfold rdLen; rw [← hN]; exact rfl
  have hc := number_any p l err w h hl
  rw [← hN] at hc
  have HC := Lib.hid hc
  clear hN h hc
  by_cases hv : v < 0
  · rw [if_pos hv] at HRL
    go_enter Tryz.func66, Tryz.ntmps66
    go_wp2_with fail
    refine HC.out.mono ?_
    rintro _ w1 ⟨rfl, hr, hg⟩
    have HG := Lib.hid hg
    have HR := Lib.hid hr
    clear hg hr
    go_wp2_with fail
    refine (fail_any p rs er 3 w1 HR.out).mono ?_
    rintro _ w2 ⟨rfl, hr, hg⟩
    obtain ⟨x, hx⟩ : ∃ x, x = if er = 0 then (3 : Int) else er := ⟨_, rfl⟩
    have hx0 : ¬ x = 0 := by rw [hx]; split <;> omega
    rw [← hx] at HRL hr
    rw [if_neg hx0] at HRL
    have HG2 := Lib.hid hg
    have HR2 := Lib.hid hr
    obtain ⟨a, n, cap, h1, _⟩ := hr
    obtain ⟨c0, c1⟩ := cells2 h1
    have hb : (x != 0) = true := by simp [hx0]
    clear hg h1 hx hx0
    go_wp2
    go_ret
    exact ⟨ret_i64 (by rw [HRL.out]), by rw [HRL.out]; exact HR2.out, grown_trans HG.out HG2.out⟩
  · rw [if_neg hv] at HRL
    by_cases hm : most < v
    · rw [if_pos hm] at HRL
      go_enter Tryz.func66, Tryz.ntmps66
      go_wp2_with fail
      refine HC.out.mono ?_
      rintro _ w1 ⟨rfl, hr, hg⟩
      have HG := Lib.hid hg
      have HR := Lib.hid hr
      clear hg hr
      go_wp2_with fail
      refine (fail_any p rs er e w1 HR.out).mono ?_
      rintro _ w2 ⟨rfl, hr, hg⟩
      obtain ⟨x, hx⟩ : ∃ x, x = if er = 0 then e else er := ⟨_, rfl⟩
      rw [← hx] at HRL hr
      have HG2 := Lib.hid hg
      have HR2 := Lib.hid hr
      obtain ⟨a, n, cap, h1, _⟩ := hr
      obtain ⟨c0, c1⟩ := cells2 h1
      clear hg h1 hx
      by_cases hx0 : x = 0
      · rw [if_pos hx0] at HRL
        have hb : (x != 0) = false := by simp [hx0]
        clear hx0
        go_wp2
        go_ret
        exact ⟨ret_i64 (by rw [HRL.out]), by rw [HRL.out]; exact HR2.out, grown_trans HG.out HG2.out⟩
      · rw [if_neg hx0] at HRL
        have hb : (x != 0) = true := by simp [hx0]
        clear hx0
        go_wp2
        go_ret
        exact ⟨ret_i64 (by rw [HRL.out]), by rw [HRL.out]; exact HR2.out, grown_trans HG.out HG2.out⟩
    · rw [if_neg hm] at HRL
      go_enter Tryz.func66, Tryz.ntmps66
      go_wp2_with fail
      refine HC.out.mono ?_
      rintro _ w1 ⟨rfl, hr, hg⟩
      have HG := Lib.hid hg
      have HR := Lib.hid hr
      obtain ⟨a, n, cap, h1, _⟩ := hr
      obtain ⟨c0, c1⟩ := cells2 h1
      clear hg h1
      by_cases hx0 : er = 0
      · rw [if_pos hx0] at HRL
        have hb : (er != 0) = false := by simp [hx0]
        clear hx0
        go_wp2
        go_ret
        exact ⟨ret_i64 (by rw [HRL.out]), by rw [HRL.out]; exact HR.out, HG.out⟩
      · rw [if_neg hx0] at HRL
        have hb : (er != 0) = true := by simp [hx0]
        clear hx0
        go_wp2
        go_ret
        exact ⟨ret_i64 (by rw [HRL.out]), by rw [HRL.out]; exact HR.out, HG.out⟩
/-- What length hands back is not negative. -/
theorem rdLen_nonneg (most e : Int) (l : List UInt8) (err : Int) : 0 ≤ (rdLen most e l err).1 := by
  unfold rdLen
  obtain ⟨⟨v, er, rs⟩, hN⟩ : ∃ r, r = rdNum l err := ⟨_, rfl⟩
  rw [← hN]
  show 0 ≤ if (if v < 0 then (if er = 0 then 3 else er) else if most < v then (if er = 0 then e else er) else er) = 0 then v else 0
  by_cases h1 : v < 0
  · rw [if_pos h1]
    by_cases h2 : er = 0
    · rw [if_pos h2, if_neg (by omega)]; omega
    · rw [if_neg h2, if_neg h2]; omega
  · split <;> omega
/-- What Text hands back, the error, what is left. -/
def rdText (most : Int) (l : List UInt8) (err : Int) : List UInt8 × Int × List UInt8 :=
  rdTake (rdLen most 4 l err).1.toNat (rdLen most 4 l err).2.2 (rdLen most 4 l err).2.1
set_option maxRecDepth 100000 in
set_option maxHeartbeats 1000000 in
theorem text_any (p : Nat) (most : Int) (l : List UInt8) (err : Int) (w : World) (h : RdAt w p l err) (hl : l.length ≤ 140737488000000) :
    Calls Tryz.prog 28 #[.pointer (some ⟨p, 0, none⟩), .int .i64 most] w fun en w' => en = .returned (.string (str (rdText most l err).1)) ∧ RdAt w' p (rdText most l err).2.2 (rdText most l err).2.1 ∧ w.grownBy w' (some p) := by
  have hc := length_any p most 4 l err w h hl
  have hn := rdLen_nonneg most 4 l err
  have HT : Hid (rdText most l err = rdTake (rdLen most 4 l err).1.toNat (rdLen most 4 l err).2.2 (rdLen most 4 l err).2.1) := rfl
  obtain ⟨⟨v, er, rs⟩, hN⟩ : ∃ r, r = rdLen most 4 l err := ⟨_, rfl⟩
  rw [← hN] at hc hn HT
  obtain ⟨k, rfl⟩ := Int.eq_ofNat_of_zero_le hn
  have HC := Lib.hid hc
  clear hc hn hN h
  go_enter Tryz.func28, Tryz.ntmps28
  go_wp2_with fail
  refine HC.out.mono ?_
  rintro _ w1 ⟨rfl, hr, hg⟩
  have HG := Lib.hid hg
  have HR := Lib.hid hr
  clear hg hr
  go_wp2_with fail
  refine (take_any p k rs er w1 HR.out).mono ?_
  rintro _ w2 ⟨⟨v2, rfl, hs⟩, hr, hg⟩
  have HT2 : Hid (rdText most l err = rdTake k rs er) := HT.out
  obtain ⟨⟨x, er2, rs2⟩, hT⟩ : ∃ r, r = rdTake k rs er := ⟨_, rfl⟩
  rw [← hT] at hs hr HT2
  have HG2 := Lib.hid hg
  have HR2 := Lib.hid hr
  obtain ⟨a, cap, rfl, hrow⟩ := hs
  have cv := conv_string hrow rfl
  clear hg hr hrow hT
  go_wp2
  go_ret
  rw [HT2.out]
  exact ⟨rfl, HR2.out, grown_trans HG.out HG2.out⟩
end Go.Proofs.YtjkmbbnjiobckaaGreatDoor
