import Derived.Test.YtjninhbdcllofaaFa0
import Derived.Test.YtjninhbdcllofaaFa3
namespace Go.Proofs.Ytjninhbdcllofaa.Fa
open Go.RowKit Go.Proofs.YtjninhbdcllofaaW.PrintWords Go.Proofs.YtjninhbdcllofaaW.PrintLast Go.Proofs.YtjninhbdcllofaaW.PrintMore
attribute [local go_sem] max2_int min2_int max_two min_two max_three min_three max_four min_four   -- for this text's walks alone
set_option linter.unusedVariables false
set_option linter.unusedSimpArgs false

/-! ### fair_times: function 19 -/
def fair_times.f (a0 : Int) (a1 : Int) : Option (Int) := if a1 = 0 then (none) else (if a0 > (IntKind.u64.wrap ((4611686018427387904 : Int) / a1)) then (some 4611686018427387904) else (some (IntKind.u64.wrap (a0 * a1))))
set_option maxHeartbeats 8000000 in
set_option maxRecDepth 100000 in
theorem fair_times.calls (a0 : Int) (a1 : Int) (r : Int) (w : World) (h : fair_times.f a0 a1 = some r) :
    Calls Try.prog 19 #[.int .u64 a0, .int .u64 a1] w fun e w' => e = .returned (.int .u64 r) ∧ Drawn0 w w' := by
  have H : (if a1 = 0 then (none) else (if a0 > (IntKind.u64.wrap ((4611686018427387904 : Int) / a1)) then (some 4611686018427387904) else (some (IntKind.u64.wrap (a0 * a1))))) = some r := h
  clear h
  by_cases c3 : a1 = 0
  · rw [if_pos c3] at H
    exact absurd H (by simp)
  · rw [if_neg c3] at H
    have c3b0 : (a1 == 0) = false := beq_eq_false_iff_ne.mpr c3
    have c3b1 : (a1 != 0) = true := bne_iff_ne.mpr c3
    have et : Int.tdiv (4611686018427387904 : Int) a1 = (4611686018427387904 : Int) / a1 := Int.tdiv_eq_ediv_of_nonneg (by omega)
    by_cases c4 : a0 > (IntKind.u64.wrap ((4611686018427387904 : Int) / a1))
    · rw [if_pos c4] at H
      have c4b0 : decide ((IntKind.u64.wrap ((4611686018427387904 : Int) / a1)) < a0) = true := decide_eq_true c4
      clear c4
      obtain rfl := Option.some.inj H
      go_enter Try.func19, Try.ntmps19
      go_wp2
      go_ret
      exact ⟨by first | rfl | (simp; done) | (simp [*]; done), by repeat (first | exact Drawn0.refl _ | apply Drawn0.step)⟩
    · rw [if_neg c4] at H
      have c4b0 : decide ((IntKind.u64.wrap ((4611686018427387904 : Int) / a1)) < a0) = false := decide_eq_false c4
      clear c4
      obtain rfl := Option.some.inj H
      go_enter Try.func19, Try.ntmps19
      go_wp2
      go_ret
      exact ⟨by first | rfl | (simp; done) | (simp [*]; done), by repeat (first | exact Drawn0.refl _ | apply Drawn0.step)⟩

/-! ### fair_Bound: function 16 -/
def fair_Bound.f (a0 : Int) (a1 : Int) (a2 : Int) : Option (Int) := (fair_times.f (IntKind.u64.wrap (mx a2 1)) (IntKind.u64.wrap (mx a0 1))).bind fun t155 => ((fair_times.f t155 (IntKind.u64.wrap ((IntKind.u64.wrap (mx a1 1)) + 2))).bind fun t156 => ((fair_times.f t156 (IntKind.u64.wrap ((IntKind.u64.wrap (mx a1 1)) + 2))).bind fun t157 => ((fair_times.f t157 (IntKind.u64.wrap (300 + (IntKind.u64.wrap (1300 * (IntKind.u64.wrap ((mn (IntKind.u64.wrap (mx a0 1)) 1125899906842624) - 1))))))).bind fun t158 => (some (wrap64 (t158))))))
set_option maxHeartbeats 8000000 in
set_option maxRecDepth 100000 in
theorem fair_Bound.calls (a0 : Int) (a1 : Int) (a2 : Int) (r : Int) (w : World) (h : fair_Bound.f a0 a1 a2 = some r) :
    Calls Try.prog 16 #[.int .i64 a0, .int .i64 a1, .int .i64 a2] w fun e w' => e = .returned (.int .i64 r) ∧ Below w.heap.size w w' := by
  have HB := Aside0.mk (Below.refl w.heap.size w)
  have H : ((fair_times.f (IntKind.u64.wrap (mx a2 1)) (IntKind.u64.wrap (mx a0 1))).bind fun t155 => ((fair_times.f t155 (IntKind.u64.wrap ((IntKind.u64.wrap (mx a1 1)) + 2))).bind fun t156 => ((fair_times.f t156 (IntKind.u64.wrap ((IntKind.u64.wrap (mx a1 1)) + 2))).bind fun t157 => ((fair_times.f t157 (IntKind.u64.wrap (300 + (IntKind.u64.wrap (1300 * (IntKind.u64.wrap ((mn (IntKind.u64.wrap (mx a0 1)) 1125899906842624) - 1))))))).bind fun t158 => (some (wrap64 (t158))))))) = some r := h
  clear h
  obtain ⟨ji4, hji4⟩ : ∃ j_ : Int, (mx a0 1) = j_ := ⟨_, rfl⟩
  replace H : ((fair_times.f (IntKind.u64.wrap (mx a2 1)) (IntKind.u64.wrap (ji4))).bind fun t155 => ((fair_times.f t155 (IntKind.u64.wrap ((IntKind.u64.wrap (mx a1 1)) + 2))).bind fun t156 => ((fair_times.f t156 (IntKind.u64.wrap ((IntKind.u64.wrap (mx a1 1)) + 2))).bind fun t157 => ((fair_times.f t157 (IntKind.u64.wrap (300 + (IntKind.u64.wrap (1300 * (IntKind.u64.wrap ((mn (IntKind.u64.wrap (ji4)) 1125899906842624) - 1))))))).bind fun t158 => (some (wrap64 (t158))))))) = some r := by first | (rw [hji4] at H; exact H) | (simp only [hji4] at H ⊢; exact H)
  (try (have hji4l : 1 ≤ ji4 := by (rw [← hji4]; unfold mx; (repeat' split) <;> omega)))
  (try (have hji4m : 0 ≤ ji4 := by omega))
  have hji4_ : (if a0 < 1 then 1 else a0) = ji4 := hji4
  obtain ⟨ji5, hji5⟩ : ∃ j_ : Int, (mx a1 1) = j_ := ⟨_, rfl⟩
  replace H : ((fair_times.f (IntKind.u64.wrap (mx a2 1)) (IntKind.u64.wrap (ji4))).bind fun t155 => ((fair_times.f t155 (IntKind.u64.wrap ((IntKind.u64.wrap (ji5)) + 2))).bind fun t156 => ((fair_times.f t156 (IntKind.u64.wrap ((IntKind.u64.wrap (ji5)) + 2))).bind fun t157 => ((fair_times.f t157 (IntKind.u64.wrap (300 + (IntKind.u64.wrap (1300 * (IntKind.u64.wrap ((mn (IntKind.u64.wrap (ji4)) 1125899906842624) - 1))))))).bind fun t158 => (some (wrap64 (t158))))))) = some r := by first | (rw [hji5] at H; exact H) | (simp only [hji5] at H ⊢; exact H)
  (try (have hji5l : 1 ≤ ji5 := by (rw [← hji5]; unfold mx; (repeat' split) <;> omega)))
  (try (have hji5m : 0 ≤ ji5 := by omega))
  have hji5_ : (if a1 < 1 then 1 else a1) = ji5 := hji5
  obtain ⟨ji6, hji6⟩ : ∃ j_ : Int, (mn (IntKind.u64.wrap (ji4)) 1125899906842624) = j_ := ⟨_, rfl⟩
  replace H : ((fair_times.f (IntKind.u64.wrap (mx a2 1)) (IntKind.u64.wrap (ji4))).bind fun t155 => ((fair_times.f t155 (IntKind.u64.wrap ((IntKind.u64.wrap (ji5)) + 2))).bind fun t156 => ((fair_times.f t156 (IntKind.u64.wrap ((IntKind.u64.wrap (ji5)) + 2))).bind fun t157 => ((fair_times.f t157 (IntKind.u64.wrap (300 + (IntKind.u64.wrap (1300 * (IntKind.u64.wrap ((ji6) - 1))))))).bind fun t158 => (some (wrap64 (t158))))))) = some r := by first | (rw [hji6] at H; exact H) | (simp only [hji6] at H ⊢; exact H)
  have hji6_ : (if 1125899906842624 < (IntKind.u64.wrap (ji4)) then 1125899906842624 else (IntKind.u64.wrap (ji4))) = ji6 := hji6
  obtain ⟨ji7, hji7⟩ : ∃ j_ : Int, (mx a2 1) = j_ := ⟨_, rfl⟩
  replace H : ((fair_times.f (IntKind.u64.wrap (ji7)) (IntKind.u64.wrap (ji4))).bind fun t155 => ((fair_times.f t155 (IntKind.u64.wrap ((IntKind.u64.wrap (ji5)) + 2))).bind fun t156 => ((fair_times.f t156 (IntKind.u64.wrap ((IntKind.u64.wrap (ji5)) + 2))).bind fun t157 => ((fair_times.f t157 (IntKind.u64.wrap (300 + (IntKind.u64.wrap (1300 * (IntKind.u64.wrap ((ji6) - 1))))))).bind fun t158 => (some (wrap64 (t158))))))) = some r := by first | (rw [hji7] at H; exact H) | (simp only [hji7] at H ⊢; exact H)
  (try (have hji7l : 1 ≤ ji7 := by (rw [← hji7]; unfold mx; (repeat' split) <;> omega)))
  (try (have hji7m : 0 ≤ ji7 := by omega))
  have hji7_ : (if a2 < 1 then 1 else a2) = ji7 := hji7
  replace H := Option.bind_eq_some_iff.mp H
  obtain ⟨t155, A80, H⟩ := H
  replace H : ((fair_times.f t155 (IntKind.u64.wrap ((IntKind.u64.wrap (ji5)) + 2))).bind fun t156 => ((fair_times.f t156 (IntKind.u64.wrap ((IntKind.u64.wrap (ji5)) + 2))).bind fun t157 => ((fair_times.f t157 (IntKind.u64.wrap (300 + (IntKind.u64.wrap (1300 * (IntKind.u64.wrap ((ji6) - 1))))))).bind fun t158 => (some (wrap64 (t158)))))) = some r := H
  have A8 := Aside0.mk A80
  clear A80
  replace H := Option.bind_eq_some_iff.mp H
  obtain ⟨t156, A90, H⟩ := H
  replace H : ((fair_times.f t156 (IntKind.u64.wrap ((IntKind.u64.wrap (ji5)) + 2))).bind fun t157 => ((fair_times.f t157 (IntKind.u64.wrap (300 + (IntKind.u64.wrap (1300 * (IntKind.u64.wrap ((ji6) - 1))))))).bind fun t158 => (some (wrap64 (t158))))) = some r := H
  have A9 := Aside0.mk A90
  clear A90
  replace H := Option.bind_eq_some_iff.mp H
  obtain ⟨t157, A100, H⟩ := H
  replace H : ((fair_times.f t157 (IntKind.u64.wrap (300 + (IntKind.u64.wrap (1300 * (IntKind.u64.wrap ((ji6) - 1))))))).bind fun t158 => (some (wrap64 (t158)))) = some r := H
  have A10 := Aside0.mk A100
  clear A100
  replace H := Option.bind_eq_some_iff.mp H
  obtain ⟨t158, A110, H⟩ := H
  replace H : (some (wrap64 (t158))) = some r := H
  have A11 := Aside0.mk A110
  clear A110
  obtain rfl := Option.some.inj H
  go_enter Try.func16, Try.ntmps16
  go_wp2_with (first | ((with_reducible refine gate_callee (f := 19) rfl ?_); refine goesL_ (some 25) rfl rfl Try.func19 (by kernel_rfl) rfl #[.int .u64 (IntKind.u64.wrap (ji7)), .int .u64 (IntKind.u64.wrap (ji4))] rfl (by (try simp only [List.map_toArray, List.map_cons, List.map_nil]); first | done | (simp only [hji4, hji7]; rfl) | rfl | (simp only [List.length_drop, List.length_take]; rfl)) ?_; (with_reducible refine (fair_times.calls (IntKind.u64.wrap (ji7)) (IntKind.u64.wrap (ji4)) t155 _ A8.out).mono ?_); rintro e w' ⟨rfl, ⟨nd, rfl⟩⟩; refine ⟨_, rfl, ?_⟩) | ((with_reducible refine gate_callee (f := 19) rfl ?_); refine goesL_ (some 28) rfl rfl Try.func19 (by kernel_rfl) rfl #[.int .u64 t155, .int .u64 (IntKind.u64.wrap ((IntKind.u64.wrap (ji5)) + 2))] rfl (by (try simp only [List.map_toArray, List.map_cons, List.map_nil]); first | done | (simp only [hji5]; rfl) | rfl | (simp only [List.length_drop, List.length_take]; rfl)) ?_; (with_reducible refine (fair_times.calls t155 (IntKind.u64.wrap ((IntKind.u64.wrap (ji5)) + 2)) t156 _ A9.out).mono ?_); rintro e w' ⟨rfl, ⟨nd, rfl⟩⟩; refine ⟨_, rfl, ?_⟩) | ((with_reducible refine gate_callee (f := 19) rfl ?_); refine goesL_ (some 31) rfl rfl Try.func19 (by kernel_rfl) rfl #[.int .u64 t156, .int .u64 (IntKind.u64.wrap ((IntKind.u64.wrap (ji5)) + 2))] rfl (by (try simp only [List.map_toArray, List.map_cons, List.map_nil]); first | done | (simp only [hji5]; rfl) | rfl | (simp only [List.length_drop, List.length_take]; rfl)) ?_; (with_reducible refine (fair_times.calls t156 (IntKind.u64.wrap ((IntKind.u64.wrap (ji5)) + 2)) t157 _ A10.out).mono ?_); rintro e w' ⟨rfl, ⟨nd, rfl⟩⟩; refine ⟨_, rfl, ?_⟩) | ((with_reducible refine gate_callee (f := 19) rfl ?_); refine goesL_ (some 33) rfl rfl Try.func19 (by kernel_rfl) rfl #[.int .u64 t157, .int .u64 (IntKind.u64.wrap (300 + (IntKind.u64.wrap (1300 * (IntKind.u64.wrap ((ji6) - 1))))))] rfl (by (try simp only [List.map_toArray, List.map_cons, List.map_nil]); first | done | (simp only [hji6]; rfl) | rfl | (simp only [List.length_drop, List.length_take]; rfl)) ?_; (with_reducible refine (fair_times.calls t157 (IntKind.u64.wrap (300 + (IntKind.u64.wrap (1300 * (IntKind.u64.wrap ((ji6) - 1)))))) t158 _ A11.out).mono ?_); rintro e w' ⟨rfl, ⟨nd, rfl⟩⟩; refine ⟨_, rfl, ?_⟩))
  go_ret
  exact ⟨by first | rfl | (simp [errW_none, errW_some] <;> rfl) | (simp only [← hji4, ← hji5, ← hji6, ← hji7]; first | rfl | (simp [errW_none, errW_some] <;> rfl)) | (simp [*, errW_none, errW_some] <;> rfl), by repeat (first | (with_reducible first | exact HB.out | apply below_alloc | apply pw_below_drewN | apply below_drew1) | exact HB.out)⟩

/-! ### distaffref26_times: function 20 -/
def distaffref26_times.f (a0 : Int) (a1 : Int) : Option (Int) := if a1 = 0 then (none) else (if a0 > (wrap64 ((4611686018427387904 : Int) / a1)) then (some 4611686018427387904) else (some (wrap64 (a0 * a1))))
set_option maxHeartbeats 8000000 in
set_option maxRecDepth 100000 in
theorem distaffref26_times.calls (a0 : Int) (a1 : Int) (r : Int) (w : World) (h : distaffref26_times.f a0 a1 = some r) :
    Calls Try.prog 20 #[.int .i64 a0, .int .i64 a1] w fun e w' => e = .returned (.int .i64 r) ∧ Drawn0 w w' := by
  have H : (if a1 = 0 then (none) else (if a0 > (wrap64 ((4611686018427387904 : Int) / a1)) then (some 4611686018427387904) else (some (wrap64 (a0 * a1))))) = some r := h
  clear h
  by_cases c3 : a1 = 0
  · rw [if_pos c3] at H
    exact absurd H (by simp)
  · rw [if_neg c3] at H
    have c3b0 : (a1 == 0) = false := beq_eq_false_iff_ne.mpr c3
    have c3b1 : (a1 != 0) = true := bne_iff_ne.mpr c3
    have et : Int.tdiv (4611686018427387904 : Int) a1 = (4611686018427387904 : Int) / a1 := Int.tdiv_eq_ediv_of_nonneg (by omega)
    by_cases c4 : a0 > (wrap64 ((4611686018427387904 : Int) / a1))
    · rw [if_pos c4] at H
      have c4b0 : decide ((wrap64 ((4611686018427387904 : Int) / a1)) < a0) = true := decide_eq_true c4
      clear c4
      obtain rfl := Option.some.inj H
      go_enter Try.func20, Try.ntmps20
      go_wp2
      go_ret
      exact ⟨by first | rfl | (simp; done) | (simp [*]; done), by repeat (first | exact Drawn0.refl _ | apply Drawn0.step)⟩
    · rw [if_neg c4] at H
      have c4b0 : decide ((wrap64 ((4611686018427387904 : Int) / a1)) < a0) = false := decide_eq_false c4
      clear c4
      obtain rfl := Option.some.inj H
      go_enter Try.func20, Try.ntmps20
      go_wp2
      go_ret
      exact ⟨by first | rfl | (simp; done) | (simp [*]; done), by repeat (first | exact Drawn0.refl _ | apply Drawn0.step)⟩

/-! ### distaffref26_Bound: function 17 -/
def distaffref26_Bound.f (a0 : Int) (a1 : Int) (a2 : Int) : Option (Int) := (distaffref26_times.f (mn (mx 1 a2) 4611686018427387904) (mn (mx 1 a0) 1152921504606846976)).bind fun t159 => ((distaffref26_times.f t159 ((mn (mx 1 a1) 1152921504606846976) + 2)).bind fun t160 => ((distaffref26_times.f t160 ((mn (mx 1 a1) 1152921504606846976) + 2)).bind fun t161 => ((distaffref26_times.f t161 (300 + (1300 * ((mn (mn (mx 1 a0) 1152921504606846976) 1099511627776) - 1)))).bind fun t162 => (some t162))))
set_option maxHeartbeats 8000000 in
set_option maxRecDepth 100000 in
theorem distaffref26_Bound.calls (a0 : Int) (a1 : Int) (a2 : Int) (r : Int) (w : World) (h : distaffref26_Bound.f a0 a1 a2 = some r) :
    Calls Try.prog 17 #[.int .i64 a0, .int .i64 a1, .int .i64 a2] w fun e w' => e = .returned (.int .i64 r) ∧ Below w.heap.size w w' := by
  have HB := Aside0.mk (Below.refl w.heap.size w)
  have H : ((distaffref26_times.f (mn (mx 1 a2) 4611686018427387904) (mn (mx 1 a0) 1152921504606846976)).bind fun t159 => ((distaffref26_times.f t159 ((mn (mx 1 a1) 1152921504606846976) + 2)).bind fun t160 => ((distaffref26_times.f t160 ((mn (mx 1 a1) 1152921504606846976) + 2)).bind fun t161 => ((distaffref26_times.f t161 (300 + (1300 * ((mn (mn (mx 1 a0) 1152921504606846976) 1099511627776) - 1)))).bind fun t162 => (some t162))))) = some r := h
  clear h
  obtain ⟨ji4, hji4⟩ : ∃ j_ : Int, (mx 1 a0) = j_ := ⟨_, rfl⟩
  replace H : ((distaffref26_times.f (mn (mx 1 a2) 4611686018427387904) (mn (ji4) 1152921504606846976)).bind fun t159 => ((distaffref26_times.f t159 ((mn (mx 1 a1) 1152921504606846976) + 2)).bind fun t160 => ((distaffref26_times.f t160 ((mn (mx 1 a1) 1152921504606846976) + 2)).bind fun t161 => ((distaffref26_times.f t161 (300 + (1300 * ((mn (mn (ji4) 1152921504606846976) 1099511627776) - 1)))).bind fun t162 => (some t162))))) = some r := by first | (rw [hji4] at H; exact H) | (simp only [hji4] at H ⊢; exact H)
  (try (have hji4l : 1 ≤ ji4 := by (rw [← hji4]; unfold mx; (repeat' split) <;> omega)))
  (try (have hji4m : 0 ≤ ji4 := by omega))
  have hji4_ : (if 1 < a0 then a0 else 1) = ji4 := hji4
  obtain ⟨ji5, hji5⟩ : ∃ j_ : Int, (mx 1 a1) = j_ := ⟨_, rfl⟩
  replace H : ((distaffref26_times.f (mn (mx 1 a2) 4611686018427387904) (mn (ji4) 1152921504606846976)).bind fun t159 => ((distaffref26_times.f t159 ((mn (ji5) 1152921504606846976) + 2)).bind fun t160 => ((distaffref26_times.f t160 ((mn (ji5) 1152921504606846976) + 2)).bind fun t161 => ((distaffref26_times.f t161 (300 + (1300 * ((mn (mn (ji4) 1152921504606846976) 1099511627776) - 1)))).bind fun t162 => (some t162))))) = some r := by first | (rw [hji5] at H; exact H) | (simp only [hji5] at H ⊢; exact H)
  (try (have hji5l : 1 ≤ ji5 := by (rw [← hji5]; unfold mx; (repeat' split) <;> omega)))
  (try (have hji5m : 0 ≤ ji5 := by omega))
  have hji5_ : (if 1 < a1 then a1 else 1) = ji5 := hji5
  obtain ⟨ji6, hji6⟩ : ∃ j_ : Int, (mx 1 a2) = j_ := ⟨_, rfl⟩
  replace H : ((distaffref26_times.f (mn (ji6) 4611686018427387904) (mn (ji4) 1152921504606846976)).bind fun t159 => ((distaffref26_times.f t159 ((mn (ji5) 1152921504606846976) + 2)).bind fun t160 => ((distaffref26_times.f t160 ((mn (ji5) 1152921504606846976) + 2)).bind fun t161 => ((distaffref26_times.f t161 (300 + (1300 * ((mn (mn (ji4) 1152921504606846976) 1099511627776) - 1)))).bind fun t162 => (some t162))))) = some r := by first | (rw [hji6] at H; exact H) | (simp only [hji6] at H ⊢; exact H)
  (try (have hji6l : 1 ≤ ji6 := by (rw [← hji6]; unfold mx; (repeat' split) <;> omega)))
  (try (have hji6m : 0 ≤ ji6 := by omega))
  have hji6_ : (if 1 < a2 then a2 else 1) = ji6 := hji6
  obtain ⟨ji7, hji7⟩ : ∃ j_ : Int, (mn (ji4) 1152921504606846976) = j_ := ⟨_, rfl⟩
  replace H : ((distaffref26_times.f (mn (ji6) 4611686018427387904) (ji7)).bind fun t159 => ((distaffref26_times.f t159 ((mn (ji5) 1152921504606846976) + 2)).bind fun t160 => ((distaffref26_times.f t160 ((mn (ji5) 1152921504606846976) + 2)).bind fun t161 => ((distaffref26_times.f t161 (300 + (1300 * ((mn (ji7) 1099511627776) - 1)))).bind fun t162 => (some t162))))) = some r := by first | (rw [hji7] at H; exact H) | (simp only [hji7] at H ⊢; exact H)
  have hji7_ : (if 1152921504606846976 < (ji4) then 1152921504606846976 else (ji4)) = ji7 := hji7
  obtain ⟨ji8, hji8⟩ : ∃ j_ : Int, (mn (ji5) 1152921504606846976) = j_ := ⟨_, rfl⟩
  replace H : ((distaffref26_times.f (mn (ji6) 4611686018427387904) (ji7)).bind fun t159 => ((distaffref26_times.f t159 ((ji8) + 2)).bind fun t160 => ((distaffref26_times.f t160 ((ji8) + 2)).bind fun t161 => ((distaffref26_times.f t161 (300 + (1300 * ((mn (ji7) 1099511627776) - 1)))).bind fun t162 => (some t162))))) = some r := by first | (rw [hji8] at H; exact H) | (simp only [hji8] at H ⊢; exact H)
  have hji8_ : (if 1152921504606846976 < (ji5) then 1152921504606846976 else (ji5)) = ji8 := hji8
  obtain ⟨ji9, hji9⟩ : ∃ j_ : Int, (mn (ji6) 4611686018427387904) = j_ := ⟨_, rfl⟩
  replace H : ((distaffref26_times.f (ji9) (ji7)).bind fun t159 => ((distaffref26_times.f t159 ((ji8) + 2)).bind fun t160 => ((distaffref26_times.f t160 ((ji8) + 2)).bind fun t161 => ((distaffref26_times.f t161 (300 + (1300 * ((mn (ji7) 1099511627776) - 1)))).bind fun t162 => (some t162))))) = some r := by first | (rw [hji9] at H; exact H) | (simp only [hji9] at H ⊢; exact H)
  have hji9_ : (if 4611686018427387904 < (ji6) then 4611686018427387904 else (ji6)) = ji9 := hji9
  replace H := Option.bind_eq_some_iff.mp H
  obtain ⟨t159, A100, H⟩ := H
  replace H : ((distaffref26_times.f t159 ((ji8) + 2)).bind fun t160 => ((distaffref26_times.f t160 ((ji8) + 2)).bind fun t161 => ((distaffref26_times.f t161 (300 + (1300 * ((mn (ji7) 1099511627776) - 1)))).bind fun t162 => (some t162)))) = some r := H
  have A10 := Aside0.mk A100
  clear A100
  replace H := Option.bind_eq_some_iff.mp H
  obtain ⟨t160, A110, H⟩ := H
  replace H : ((distaffref26_times.f t160 ((ji8) + 2)).bind fun t161 => ((distaffref26_times.f t161 (300 + (1300 * ((mn (ji7) 1099511627776) - 1)))).bind fun t162 => (some t162))) = some r := H
  have A11 := Aside0.mk A110
  clear A110
  replace H := Option.bind_eq_some_iff.mp H
  obtain ⟨t161, A120, H⟩ := H
  replace H : ((distaffref26_times.f t161 (300 + (1300 * ((mn (ji7) 1099511627776) - 1)))).bind fun t162 => (some t162)) = some r := H
  have A12 := Aside0.mk A120
  clear A120
  obtain ⟨ji13, hji13⟩ : ∃ j_ : Int, (mn (ji7) 1099511627776) = j_ := ⟨_, rfl⟩
  replace H : ((distaffref26_times.f t161 (300 + (1300 * ((ji13) - 1)))).bind fun t162 => (some t162)) = some r := by first | (rw [hji13] at H; exact H) | (simp only [hji13] at H ⊢; exact H)
  (try rw [hji13] at A10)
  (try rw [hji13] at A11)
  (try rw [hji13] at A12)
  have hji13_ : (if 1099511627776 < (ji7) then 1099511627776 else (ji7)) = ji13 := hji13
  replace H := Option.bind_eq_some_iff.mp H
  obtain ⟨t162, A140, H⟩ := H
  replace H : (some t162) = some r := H
  have A14 := Aside0.mk A140
  clear A140
  obtain rfl := Option.some.inj H
  go_enter Try.func17, Try.ntmps17
  go_wp2_with (first | ((with_reducible refine gate_callee (f := 20) rfl ?_); refine goesL_ (some 24) rfl rfl Try.func20 (by kernel_rfl) rfl #[.int .i64 ji9, .int .i64 ji7] rfl (by (try simp only [List.map_toArray, List.map_cons, List.map_nil]); first | done | (simp only [hji7, hji9]; rfl) | rfl | (simp only [List.length_drop, List.length_take]; rfl)) ?_; (with_reducible refine (distaffref26_times.calls ji9 ji7 t159 _ A10.out).mono ?_); rintro e w' ⟨rfl, ⟨nd, rfl⟩⟩; refine ⟨_, rfl, ?_⟩) | ((with_reducible refine gate_callee (f := 20) rfl ?_); refine goesL_ (some 27) rfl rfl Try.func20 (by kernel_rfl) rfl #[.int .i64 t159, .int .i64 ((ji8) + 2)] rfl (by (try simp only [List.map_toArray, List.map_cons, List.map_nil]); first | done | (simp only [hji8]; rfl) | rfl | (simp only [List.length_drop, List.length_take]; rfl)) ?_; (with_reducible refine (distaffref26_times.calls t159 ((ji8) + 2) t160 _ A11.out).mono ?_); rintro e w' ⟨rfl, ⟨nd, rfl⟩⟩; refine ⟨_, rfl, ?_⟩) | ((with_reducible refine gate_callee (f := 20) rfl ?_); refine goesL_ (some 30) rfl rfl Try.func20 (by kernel_rfl) rfl #[.int .i64 t160, .int .i64 ((ji8) + 2)] rfl (by (try simp only [List.map_toArray, List.map_cons, List.map_nil]); first | done | (simp only [hji8]; rfl) | rfl | (simp only [List.length_drop, List.length_take]; rfl)) ?_; (with_reducible refine (distaffref26_times.calls t160 ((ji8) + 2) t161 _ A12.out).mono ?_); rintro e w' ⟨rfl, ⟨nd, rfl⟩⟩; refine ⟨_, rfl, ?_⟩) | ((with_reducible refine gate_callee (f := 20) rfl ?_); refine goesL_ (some 36) rfl rfl Try.func20 (by kernel_rfl) rfl #[.int .i64 t161, .int .i64 (300 + (1300 * ((ji13) - 1)))] rfl (by (try simp only [List.map_toArray, List.map_cons, List.map_nil]); first | done | (simp only [hji13]; rfl) | rfl | (simp only [List.length_drop, List.length_take]; rfl)) ?_; (with_reducible refine (distaffref26_times.calls t161 (300 + (1300 * ((ji13) - 1))) t162 _ A14.out).mono ?_); rintro e w' ⟨rfl, ⟨nd, rfl⟩⟩; refine ⟨_, rfl, ?_⟩))
  go_ret
  exact ⟨by first | rfl | (simp [errW_none, errW_some] <;> rfl) | (simp only [← hji4, ← hji5, ← hji6, ← hji7, ← hji8, ← hji9, ← hji13]; first | rfl | (simp [errW_none, errW_some] <;> rfl)) | (simp [*, errW_none, errW_some] <;> rfl), by repeat (first | (with_reducible first | exact HB.out | apply below_alloc | apply pw_below_drewN | apply below_drew1) | exact HB.out)⟩

/-! ### distafflaw27_FairBounds: function 7 -/
def distafflaw27_FairBounds.f (k : Nat) (a0 : Int) (a1 : Int) (a2 : Int) : Option (Bool) := (fair_Bound.f a0 a1 a2).bind fun t163 => ((distaffref26_Bound.f a0 a1 a2).bind fun t164 => (if t163 = t164 then ((distafflaw27_awake.f k).bind fun t165 => (some t165)) else (some false)))
theorem distafflaw27_FairBounds.mono : ∀ a0 a1 a2 k, LeO (distafflaw27_FairBounds.f k a0 a1 a2) (distafflaw27_FairBounds.f (k + 1) a0 a1 a2) := by
  intro a0 a1 a2 k
  unfold distafflaw27_FairBounds.f
  repeat' first
      | (with_reducible exact distafflaw27_awake.mono _)
      | (with_reducible exact LeO.refl _)
      | (with_reducible exact LeO.none _)
      | (with_reducible refine LeO.ite ?_ ?_)
      | (with_reducible refine LeO.bind ?_ (fun _ => ?_))
      | exact distafflaw27_awake.mono _
      | exact LeO.none _
      | refine LeO.ite ?_ ?_
      | refine LeO.bind ?_ (fun _ => ?_)
set_option maxHeartbeats 8000000 in
set_option maxRecDepth 100000 in
theorem distafflaw27_FairBounds.calls (k : Nat) (a0 : Int) (a1 : Int) (a2 : Int) (r : Bool) (w : World) (h : distafflaw27_FairBounds.f k a0 a1 a2 = some r) :
    Calls Try.prog 7 #[.int .i64 a0, .int .i64 a1, .int .i64 a2] w fun e w' => e = .returned (.bool r) ∧ Below w.heap.size w w' := by
  have HB := Aside0.mk (Below.refl w.heap.size w)
  have H : ((fair_Bound.f a0 a1 a2).bind fun t163 => ((distaffref26_Bound.f a0 a1 a2).bind fun t164 => (if t163 = t164 then ((distafflaw27_awake.f k).bind fun t165 => (some t165)) else (some false)))) = some r := h
  clear h
  replace H := Option.bind_eq_some_iff.mp H
  obtain ⟨t163, A40, H⟩ := H
  replace H : ((distaffref26_Bound.f a0 a1 a2).bind fun t164 => (if t163 = t164 then ((distafflaw27_awake.f k).bind fun t165 => (some t165)) else (some false))) = some r := H
  have A4 := Aside0.mk A40
  clear A40
  replace H := Option.bind_eq_some_iff.mp H
  obtain ⟨t164, A50, H⟩ := H
  replace H : (if t163 = t164 then ((distafflaw27_awake.f k).bind fun t165 => (some t165)) else (some false)) = some r := H
  have A5 := Aside0.mk A50
  clear A50
  by_cases c6 : t163 = t164
  · rw [if_pos c6] at H
    have c6b0 : (t163 == t164) = true := beq_iff_eq.mpr c6
    have c6b1 : (t163 != t164) = false := bne_eq_false_iff_eq.mpr c6
    clear c6
    replace H := Option.bind_eq_some_iff.mp H
    obtain ⟨t165, A70, H⟩ := H
    replace H : (some t165) = some r := H
    have A7 := Aside0.mk A70
    clear A70
    obtain rfl := Option.some.inj H
    go_enter Try.func7, Try.ntmps7
    go_wp2_with (first | ((with_reducible refine gate_callee (f := 16) rfl ?_); refine goesL_ (some 10) rfl rfl Try.func16 (by kernel_rfl) rfl #[.int .i64 a0, .int .i64 a1, .int .i64 a2] rfl (by (try simp only [List.map_toArray, List.map_cons, List.map_nil]); first | done | rfl | (simp only [List.length_drop, List.length_take]; rfl)) ?_; (with_reducible refine (fair_Bound.calls a0 a1 a2 t163 _ A4.out).mono ?_); rintro e w8 ⟨rfl, hb⟩; refine ⟨_, rfl, ?_⟩; have n0_ := Aside0.mk (below_step (by repeat (first | (with_reducible first | exact HB.out | apply below_alloc | apply pw_below_drewN | apply below_drew1) | exact HB.out)) hb); clear HB; have HB := n0_; clear n0_; (try clear hb); (try clear hb2); (try clear hk); (try clear hi)) | ((with_reducible refine gate_callee (f := 17) rfl ?_); refine goesL_ (some 14) rfl rfl Try.func17 (by kernel_rfl) rfl #[.int .i64 a0, .int .i64 a1, .int .i64 a2] rfl (by (try simp only [List.map_toArray, List.map_cons, List.map_nil]); first | done | rfl | (simp only [List.length_drop, List.length_take]; rfl)) ?_; (with_reducible refine (distaffref26_Bound.calls a0 a1 a2 t164 _ A5.out).mono ?_); rintro e w9 ⟨rfl, hb⟩; refine ⟨_, rfl, ?_⟩; have n0_ := Aside0.mk (below_step (by repeat (first | (with_reducible first | exact HB.out | apply below_alloc | apply pw_below_drewN | apply below_drew1) | exact HB.out)) hb); clear HB; have HB := n0_; clear n0_; (try clear hb); (try clear hb2); (try clear hk); (try clear hi)) | (go_at_call 9; (with_reducible refine (distafflaw27_awake.calls k  t165 _ A7.out).mono ?_); rintro e w10 ⟨rfl, hb⟩; have n0_ := Aside0.mk (below_step (by repeat (first | (with_reducible first | exact HB.out | apply below_alloc | apply pw_below_drewN | apply below_drew1) | exact HB.out)) hb); clear HB; have HB := n0_; clear n0_; (try clear hb); (try clear hb2); (try clear hk); (try clear hi)))
    go_ret
    exact ⟨by first | rfl | (simp [errW_none, errW_some] <;> rfl) | (simp [*, errW_none, errW_some] <;> rfl), by repeat (first | (with_reducible first | exact HB.out | apply below_alloc | apply pw_below_drewN | apply below_drew1) | exact HB.out)⟩
  · rw [if_neg c6] at H
    have c6b0 : (t163 == t164) = false := beq_eq_false_iff_ne.mpr c6
    have c6b1 : (t163 != t164) = true := bne_iff_ne.mpr c6
    obtain rfl := Option.some.inj H
    go_enter Try.func7, Try.ntmps7
    go_wp2_with (first | ((with_reducible refine gate_callee (f := 16) rfl ?_); refine goesL_ (some 10) rfl rfl Try.func16 (by kernel_rfl) rfl #[.int .i64 a0, .int .i64 a1, .int .i64 a2] rfl (by (try simp only [List.map_toArray, List.map_cons, List.map_nil]); first | done | rfl | (simp only [List.length_drop, List.length_take]; rfl)) ?_; (with_reducible refine (fair_Bound.calls a0 a1 a2 t163 _ A4.out).mono ?_); rintro e w11 ⟨rfl, hb⟩; refine ⟨_, rfl, ?_⟩; have n0_ := Aside0.mk (below_step (by repeat (first | (with_reducible first | exact HB.out | apply below_alloc | apply pw_below_drewN | apply below_drew1) | exact HB.out)) hb); clear HB; have HB := n0_; clear n0_; (try clear hb); (try clear hb2); (try clear hk); (try clear hi)) | ((with_reducible refine gate_callee (f := 17) rfl ?_); refine goesL_ (some 14) rfl rfl Try.func17 (by kernel_rfl) rfl #[.int .i64 a0, .int .i64 a1, .int .i64 a2] rfl (by (try simp only [List.map_toArray, List.map_cons, List.map_nil]); first | done | rfl | (simp only [List.length_drop, List.length_take]; rfl)) ?_; (with_reducible refine (distaffref26_Bound.calls a0 a1 a2 t164 _ A5.out).mono ?_); rintro e w12 ⟨rfl, hb⟩; refine ⟨_, rfl, ?_⟩; have n0_ := Aside0.mk (below_step (by repeat (first | (with_reducible first | exact HB.out | apply below_alloc | apply pw_below_drewN | apply below_drew1) | exact HB.out)) hb); clear HB; have HB := n0_; clear n0_; (try clear hb); (try clear hb2); (try clear hk); (try clear hi)))
    go_ret
    exact ⟨by first | rfl | (simp [errW_none, errW_some] <;> rfl) | (simp [*, errW_none, errW_some] <;> rfl), by repeat (first | (with_reducible first | exact HB.out | apply below_alloc | apply pw_below_drewN | apply below_drew1) | exact HB.out)⟩

/-- THE ONE PURE STATEMENT of distafflaw27_FairBounds: yours. -/
def distafflaw27_FairBounds.Pure : Prop := ∀ (a0 : Int) (a1 : Int) (a2 : Int), (Lit.int .i64 a0).wf = true → (Lit.int .i64 a1).wf = true → (Lit.int .i64 a2).wf = true → ∃ k, distafflaw27_FairBounds.f k a0 a1 a2 = some true
theorem distafflaw27_FairBounds.walk (P : distafflaw27_FairBounds.Pure) (a0 : Int) (a1 : Int) (a2 : Int) (w : World) (w0 : (Lit.int .i64 a0).wf = true) (w1 : (Lit.int .i64 a1).wf = true) (w2 : (Lit.int .i64 a2).wf = true) :
    Calls Try.prog 7 #[.int .i64 a0, .int .i64 a1, .int .i64 a2] w fun e w' => e = .returned (.bool true) ∧ Below w.heap.size w w' := by
  obtain ⟨k, h⟩ := P a0 a1 a2 w0 w1 w2
  refine (distafflaw27_FairBounds.calls k a0 a1 a2 true w h).mono ?_
  rintro e w' ⟨rfl, hd⟩
  exact ⟨rfl, hd⟩

end Go.Proofs.Ytjninhbdcllofaa.Fa
