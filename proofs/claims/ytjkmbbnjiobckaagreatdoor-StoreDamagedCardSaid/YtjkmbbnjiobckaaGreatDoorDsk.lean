/-
  disk: sectors, Valid, ready; slices.Clone of bytes; what a disk reads as.
-/
import Derived.Test.YtjkmbbnjiobckaaGreatDoorEqFn
import Derived.Test.YtjkmbbnjiobckaaGreatDoorMore
import Derived.WalkSpells
namespace Go.Proofs.YtjkmbbnjiobckaaGreatDoor
open Go.RowKit
/-- A disk. -/
structure Dsk where
  now : List (List UInt8)
  safe : List (List UInt8)
  fuse : Int
  ops : Int
  dead : Bool
def sectorsB (n : Nat) : Bool := decide (n % 2 = 0) && decide (8 ≤ n) && decide (n ≤ 256)
def wrongIn (ll : List (List UInt8)) : Bool := ll.any fun s => decide (s.length ≠ 64)
def Dsk.validB (d : Dsk) : Bool := sectorsB d.now.length && decide (d.safe.length = d.now.length) && decide (-1 ≤ d.fuse) && decide (0 ≤ d.ops) && decide (d.ops ≤ 4611686018427387904) && !wrongIn d.now && !wrongIn d.safe
/-- A value that reads as a disk. -/
def DskV (w : World) (v : Value) (d : Dsk) : Prop := ∃ x y, v = .agg #[x, y, .int .i64 d.fuse, .int .i64 d.ops, .bool d.dead] ∧ Slcs w x d.now ∧ Slcs w y d.safe
theorem ret_bool {a b : Bool} (h : a = b) : Ending.returned (.bool a) = .returned (.bool b) := by rw [h]
theorem DskV.mono {w w' : World} {v : Value} {d : Dsk} (h : DskV w v d) (hb : Below w.heap.size w w') : DskV w' v d := by
  obtain ⟨x, y, rfl, h1, h2⟩ := h
  exact ⟨x, y, rfl, h1.mono hb, h2.mono hb⟩
set_option maxRecDepth 100000 in
set_option maxHeartbeats 1000000 in
theorem sectors111 (n : Nat) (w : World) : Calls Tryz.prog 111 #[.int .i64 n] w fun e w' => e = .returned (.bool (sectorsB n)) ∧ w' = w := by
  have hm : ((n : Int) % 2 == 0) = decide (n % 2 = 0) := by
    rw [Bool.eq_iff_iff]; simp; omega
  by_cases h1 : n % 2 = 0
  · have e1 : ((n : Int) % 2 == 0) = true := by rw [hm]; simpa using h1
    by_cases h2 : 8 ≤ n
    · by_cases h3 : n ≤ 256
      · have : Hid (sectorsB n = true) := by simp [Hid, sectorsB, h1, h2, h3]
        clear hm h1
        go_enter Tryz.func111, Tryz.ntmps111
        go_wp2
        go_ret
        exact ⟨ret_bool (by rw [this.out] <;> (simp <;> omega)), rfl⟩
      · have : Hid (sectorsB n = false) := by simp [Hid, sectorsB, h1, h2, h3]
        have h3' : (256 : Int) < n := by omega
        clear hm h1 h3
        go_enter Tryz.func111, Tryz.ntmps111
        go_wp2
        go_ret
        exact ⟨ret_bool (by rw [this.out] <;> (simp <;> omega)), rfl⟩
    · have : Hid (sectorsB n = false) := by simp [Hid, sectorsB, h1, h2]
      have h2' : (n : Int) < 8 := by omega
      clear hm h1 h2
      go_enter Tryz.func111, Tryz.ntmps111
      go_wp2
      go_ret
      exact ⟨ret_bool (by rw [this.out] <;> (simp <;> omega)), rfl⟩
  · have : Hid (sectorsB n = false) := by simp [Hid, sectorsB, h1]
    have e1 : ((n : Int) % 2 == 0) = false := by rw [hm]; simpa using h1
    clear hm h1
    go_enter Tryz.func111, Tryz.ntmps111
    go_wp2
    go_ret
    exact ⟨ret_bool (by rw [this.out] <;> (simp <;> omega)), rfl⟩
set_option maxRecDepth 100000 in
set_option maxHeartbeats 1000000 in
theorem wrong112 (a : Option Addr) (n cap : Nat) (w : World) : Calls Tryz.prog 112 #[.slice a n cap] w fun e w' => e = .returned (.bool (decide (n ≠ 64))) ∧ w' = w := by
  by_cases h : n = 64
  · subst h
    go_enter Tryz.func112, Tryz.ntmps112
    go_wp2
    go_ret
    exact ⟨rfl, rfl⟩
  · have h1 : ((n : Int) != 64) = true := by simp; omega
    have h2 : Hid (decide (n ≠ 64) = true) := by simp [Hid, h]
    clear h
    go_enter Tryz.func112, Tryz.ntmps112
    go_wp2
    go_ret
    exact ⟨ret_bool (by rw [h2.out]), rfl⟩
set_option maxRecDepth 100000 in
set_option maxHeartbeats 1000000 in
theorem indexFunc137 (v : Value) (ll : List (List UInt8)) (w : World) (hs : Slcs w v ll) (hlen : ll.length ≤ 140737488000000) :
    Calls Tryz.prog 137 #[v, .func (.func 112) #[] #[]] w fun e w' => (∃ n : Int, e = .returned (.int .i64 n) ∧ decide (0 ≤ n) = wrongIn ll) ∧ w' = w := by
  have HS := Lib.hid hs
  obtain ⟨a, cap, vs, rfl, hr, -, -⟩ := hs
  have hlc := hr.le
  clear hr
  go_enter Tryz.func137, Tryz.ntmps137
  go_wp2
  go_loop [8, 5] (fun i _ => ∃ k : Nat, k ≤ ll.length ∧ i = .int .i64 (k : Int) ∧ wrongIn (ll.take k) = false) (fun i _ => ll.length - (intOf i).toNat)
  case atStart => exact ⟨0, by omega, rfl, rfl⟩
  case round =>
    obtain ⟨k, hk, rfl, hw⟩ := hrel
    have HW := Lib.hid hw
    clear hw
    by_cases hlt : k < ll.length
    · obtain ⟨b, o, a', c', he, hc, hrw⟩ := HS.out.get k hlt
      cases he
      have hlt' : (k : Int) < ll.length := by omega
      by_cases h64 : ll[k].length = 64
      · have HW2 : Hid (wrongIn (ll.take (k + 1)) = false) := by
          simp only [Hid, wrongIn]
          rw [List.take_add_one, List.getElem?_eq_getElem hlt, List.any_append]
          have := HW.out
          unfold wrongIn at this
          rw [this]; simp [h64]
        have E := Lib.hid (wrong112 a' ll[k].length c' w)
        have hd : decide (ll[k].length ≠ 64) = false := by simp [h64]
        rw [hd] at E
        clear h64 hrw hd
        go_wp2_with (with_reducible refine E.out.mono ?_; rintro _ _ ⟨rfl, rfl⟩)
        go_round
        case rel => exact ⟨k + 1, by omega, by go_num, HW2.out⟩
        case measure => simp [intOf]; omega
      · have HW2 : Hid (wrongIn ll = true) := by
          simp only [Hid, wrongIn, List.any_eq_true]
          exact ⟨ll[k], List.getElem_mem _, by simp [h64]⟩
        have E := Lib.hid (wrong112 a' ll[k].length c' w)
        have hd : decide (ll[k].length ≠ 64) = true := by simp [h64]
        rw [hd] at E
        clear h64 hrw hd
        go_wp2_with (with_reducible refine E.out.mono ?_; rintro _ _ ⟨rfl, rfl⟩)
        go_ret
        exact ⟨⟨k, rfl, by rw [HW2.out]; simp⟩, rfl⟩
    · obtain rfl : k = ll.length := by omega
      rw [List.take_length] at HW
      go_wp2
      go_ret
      exact ⟨⟨-1, rfl, by rw [HW.out]; rfl⟩, rfl⟩
set_option maxRecDepth 100000 in
set_option maxHeartbeats 1000000 in
theorem contains113 (v : Value) (ll : List (List UInt8)) (w : World) (hs : Slcs w v ll) (hlen : ll.length ≤ 140737488000000) :
    Calls Tryz.prog 113 #[v, .func (.func 112) #[] #[]] w fun e w' => e = .returned (.bool (wrongIn ll)) ∧ w' = w := by
  have E := Lib.hid (indexFunc137 v ll w hs hlen)
  obtain ⟨a, cap, vs, rfl, -⟩ := hs
  go_enter Tryz.func113, Tryz.ntmps113
  go_wp2_with fail
  with_reducible refine E.out.mono ?_
  rintro _ _ ⟨⟨n, rfl, hn⟩, rfl⟩
  have HN := Lib.hid hn
  clear hn
  go_wp2
  go_ret
  exact ⟨ret_bool (by rw [← HN.out]), rfl⟩
end Go.Proofs.YtjkmbbnjiobckaaGreatDoor
