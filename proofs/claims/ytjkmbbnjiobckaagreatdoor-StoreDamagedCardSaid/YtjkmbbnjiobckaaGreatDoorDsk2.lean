/-
  disk: Valid, ready; slices.Clone of bytes.
-/
import Derived.Test.YtjkmbbnjiobckaaGreatDoorDsk
namespace Go.Proofs.YtjkmbbnjiobckaaGreatDoor
open Go.RowKit
set_option maxRecDepth 100000 in
set_option maxHeartbeats 4000000 in
theorem valid78 (v : Value) (d : Dsk) (w : World) (h : DskV w v d) : Calls Tryz.prog 78 #[v] w fun e w' => e = .returned (.bool d.validB) ∧ Below w.heap.size w w' := by
  obtain ⟨x, y, rfl, hx, hy⟩ := h
  have HX := Lib.hid hx
  have HY := Lib.hid hy
  obtain ⟨a, cap, vs, rfl, -⟩ := hx
  obtain ⟨a2, cap2, vs2, rfl, -⟩ := hy
  obtain ⟨now, safe, fuse, ops, dead⟩ := d
  simp only at HX HY ⊢
  have ES := Lib.hid (sectors111 now.length)
  have BA : Hid (∀ o, Below w.heap.size w (w.alloc o)) := fun o => (Below.refl _ _).alloc (Nat.le_refl _) o
  by_cases h1 : sectorsB now.length = true
  · by_cases h2 : safe.length = now.length
    · by_cases h3 : -1 ≤ fuse
      · by_cases h4 : 0 ≤ ops
        · by_cases h5 : ops ≤ 4611686018427387904
          · rw [h1] at ES
            have e2 : ((safe.length : Int) != now.length) = false := by simp; omega
            have h256 : now.length ≤ 256 := by
              simp [sectorsB] at h1; omega
            have h256' : safe.length ≤ 256 := by omega
            cases hw : wrongIn now
            · cases hw2 : wrongIn safe
              · have HV : Hid (Dsk.validB ⟨now, safe, fuse, ops, dead⟩ = true) := by
                  simp [Hid, Dsk.validB, h1, h2, h3, h4, h5, hw, hw2]
                have EN := fun o => Lib.hid (contains113 (.slice a now.length cap) now (w.alloc o) (HX.out.mono (BA.out o)) (by omega))
                have EN2 := fun o => Lib.hid (contains113 (.slice a2 safe.length cap2) safe (w.alloc o) (HY.out.mono (BA.out o)) (by omega))
                rw [hw] at EN
                rw [hw2] at EN2
                have HEN := Lib.hid EN
                have HEN2 := Lib.hid EN2
                clear h1 h2 hw hw2 EN EN2
                go_enter Tryz.func78, Tryz.ntmps78
                go_wp2_with fail
                with_reducible refine (ES.out _).mono ?_
                rintro _ _ ⟨rfl, rfl⟩
                go_wp2_with fail
                with_reducible refine (HEN.out _).out.mono ?_
                rintro _ _ ⟨rfl, rfl⟩
                go_wp2_with fail
                with_reducible refine (HEN2.out _).out.mono ?_
                rintro _ _ ⟨rfl, rfl⟩
                go_wp2
                go_ret
                exact ⟨ret_bool (by rw [HV.out]), BA.out _⟩
              · have HW2 := Lib.hid hw2
                have HV : Hid (Dsk.validB ⟨now, safe, fuse, ops, dead⟩ = false) := by
                  simp [Hid, Dsk.validB, h1, h2, h3, h4, h5, hw, hw2]
                have EN := fun o => Lib.hid (contains113 (.slice a now.length cap) now (w.alloc o) (HX.out.mono (BA.out o)) (by omega))
                have EN2 := fun o => Lib.hid (contains113 (.slice a2 safe.length cap2) safe (w.alloc o) (HY.out.mono (BA.out o)) (by omega))
                rw [hw] at EN
                rw [hw2] at EN2
                have HEN := Lib.hid EN
                have HEN2 := Lib.hid EN2
                clear h1 h2 hw hw2 EN EN2
                go_enter Tryz.func78, Tryz.ntmps78
                go_wp2_with fail
                with_reducible refine (ES.out _).mono ?_
                rintro _ _ ⟨rfl, rfl⟩
                go_wp2_with fail
                with_reducible refine ((HEN.out _).out).mono ?_
                rintro _ _ ⟨rfl, rfl⟩
                go_wp2_with fail
                with_reducible refine ((HEN2.out _).out).mono ?_
                rintro _ _ ⟨rfl, rfl⟩
                go_wp2
                go_ret
                exact ⟨ret_bool (by rw [HV.out]), BA.out _⟩
            · skip
              have HV : Hid (Dsk.validB ⟨now, safe, fuse, ops, dead⟩ = false) := by
                simp [Hid, Dsk.validB, h1, h2, h3, h4, h5, hw]
              have EN := fun o => Lib.hid (contains113 (.slice a now.length cap) now (w.alloc o) (HX.out.mono (BA.out o)) (by omega))
              rw [hw] at EN
              have HEN := Lib.hid EN
              clear h1 h2 hw EN
              go_enter Tryz.func78, Tryz.ntmps78
              go_wp2_with fail
              with_reducible refine (ES.out _).mono ?_
              rintro _ _ ⟨rfl, rfl⟩
              go_wp2_with fail
              with_reducible refine ((HEN.out _).out).mono ?_
              rintro _ _ ⟨rfl, rfl⟩
              go_wp2
              go_ret
              exact ⟨ret_bool (by rw [HV.out]), BA.out _⟩
          · skip
            have HV : Hid (Dsk.validB ⟨now, safe, fuse, ops, dead⟩ = false) := by
              simp [Hid, Dsk.validB, h1, h2, h3, h4, h5]
            rw [h1] at ES
            have e2 : ((safe.length : Int) != now.length) = false := by simp; omega
            have e5 : 4611686018427387904 < ops := by omega
            clear h1 h2 h5
            go_enter Tryz.func78, Tryz.ntmps78
            go_wp2_with fail
            with_reducible refine (ES.out _).mono ?_
            rintro _ _ ⟨rfl, rfl⟩
            go_wp2
            go_ret
            exact ⟨ret_bool (by rw [HV.out]), BA.out _⟩
        · skip
          have HV : Hid (Dsk.validB ⟨now, safe, fuse, ops, dead⟩ = false) := by
            simp [Hid, Dsk.validB, h1, h2, h3, h4]
          rw [h1] at ES
          have e2 : ((safe.length : Int) != now.length) = false := by simp; omega
          have e5 : ops < 0 := by omega
          clear h1 h2 h4
          go_enter Tryz.func78, Tryz.ntmps78
          go_wp2_with fail
          with_reducible refine (ES.out _).mono ?_
          rintro _ _ ⟨rfl, rfl⟩
          go_wp2
          go_ret
          exact ⟨ret_bool (by rw [HV.out]), BA.out _⟩
      · skip
        have HV : Hid (Dsk.validB ⟨now, safe, fuse, ops, dead⟩ = false) := by
          simp [Hid, Dsk.validB, h1, h2, h3]
        rw [h1] at ES
        have e2 : ((safe.length : Int) != now.length) = false := by simp; omega
        have e5 : fuse < -1 := by omega
        clear h1 h2 h3
        go_enter Tryz.func78, Tryz.ntmps78
        go_wp2_with fail
        with_reducible refine (ES.out _).mono ?_
        rintro _ _ ⟨rfl, rfl⟩
        go_wp2
        go_ret
        exact ⟨ret_bool (by rw [HV.out]), BA.out _⟩
    · skip
      have HV : Hid (Dsk.validB ⟨now, safe, fuse, ops, dead⟩ = false) := by
        simp [Hid, Dsk.validB, h1, h2]
      rw [h1] at ES
      have e2 : ((safe.length : Int) != now.length) = true := by simp; omega
      clear h1 h2
      go_enter Tryz.func78, Tryz.ntmps78
      go_wp2_with fail
      with_reducible refine (ES.out _).mono ?_
      rintro _ _ ⟨rfl, rfl⟩
      go_wp2
      go_ret
      exact ⟨ret_bool (by rw [HV.out]), BA.out _⟩
  · have h1' : sectorsB now.length = false := by simpa using h1
    have HV : Hid (Dsk.validB ⟨now, safe, fuse, ops, dead⟩ = false) := by
      simp [Hid, Dsk.validB, h1']
    rw [h1'] at ES
    clear h1 h1'
    go_enter Tryz.func78, Tryz.ntmps78
    go_wp2_with fail
    with_reducible refine (ES.out _).mono ?_
    rintro _ _ ⟨rfl, rfl⟩
    go_wp2
    go_ret
    exact ⟨ret_bool (by rw [HV.out]), BA.out _⟩
set_option maxRecDepth 100000 in
set_option maxHeartbeats 1000000 in
theorem ready69 (v : Value) (d : Dsk) (w : World) (h : DskV w v d) : Calls Tryz.prog 69 #[v] w fun e w' => e = .returned (.int .i64 (if d.validB then (if d.dead then 40 else 0) else 25)) ∧ Below w.heap.size w w' := by
  have HD := Lib.hid h
  obtain ⟨x, y, rfl, -⟩ := h
  have BA : Hid (∀ o, Below w.heap.size w (w.alloc o)) := fun o => (Below.refl _ _).alloc (Nat.le_refl _) o
  have E := fun o => Lib.hid (valid78 _ d (w.alloc o) (HD.out.mono (BA.out o)))
  cases hv : d.validB
  · rw [hv] at E
    have HE := Lib.hid E
    clear hv E
    go_enter Tryz.func69, Tryz.ntmps69
    go_wp2_with fail
    with_reducible refine (HE.out _).out.mono ?_
    rintro _ w1 ⟨rfl, hb1⟩
    have B1 := Lib.hid ((BA.out _).trans (hb1.mono (BA.out _).size))
    clear hb1
    go_wp2
    go_ret
    exact ⟨rfl, B1.out⟩
  · rw [hv] at E
    have HE := Lib.hid E
    clear hv E
    obtain ⟨now, safe, fuse, ops, dead⟩ := d
    go_enter Tryz.func69, Tryz.ntmps69
    go_wp2_with fail
    with_reducible refine (HE.out _).out.mono ?_
    rintro _ w1 ⟨rfl, hb1⟩
    obtain ⟨c0, c1, c2, c3, c4⟩ := cells5 (block_below hb1 (heap_alloc_new w _) (by simp))
    have B1 := Lib.hid ((BA.out _).trans (hb1.mono (BA.out _).size))
    clear hb1
    cases dead
    · go_wp2
      go_ret
      exact ⟨rfl, B1.out⟩
    · go_wp2
      go_ret
      exact ⟨rfl, B1.out⟩
end Go.Proofs.YtjkmbbnjiobckaaGreatDoor
