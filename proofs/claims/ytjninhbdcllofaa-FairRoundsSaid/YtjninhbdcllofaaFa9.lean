import Derived.Test.YtjninhbdcllofaaFa0
import Derived.Test.YtjninhbdcllofaaFa1
import Derived.Test.YtjninhbdcllofaaFa2
import Derived.Test.YtjninhbdcllofaaFa3
import Derived.Test.YtjninhbdcllofaaFa5
import Derived.Test.YtjninhbdcllofaaFa6
namespace Go.Proofs.Ytjninhbdcllofaa.Fa
open Go.RowKit Go.Proofs.YtjninhbdcllofaaW.PrintWords Go.Proofs.YtjninhbdcllofaaW.PrintLast Go.Proofs.YtjninhbdcllofaaW.PrintMore
attribute [local go_sem] max2_int min2_int max_two min_two max_three min_three max_four min_four   -- for this text's walks alone
set_option linter.unusedVariables false
set_option linter.unusedSimpArgs false

/-! ### distafflaw27_FairRounds: function 4 -/
mutual
def distafflaw27_FairRounds.j0 : Nat → Int → Int → Int → Option (Bool)
  | 0, _, _, _ => none
  | k + 1, x0, x1, x2 => (fair_Rounds.f k x0 x1 x2).bind fun t202 => ((distaffref26_Rounds.f k x0 x1 x2).bind fun t205 => ((distafflaw27_same.f k t202 t205).bind fun t208 => (if t208 = true then (if x0 < 1 then (distafflaw27_FairRounds.j1 k x0 x1 t202 true) else (if x0 > 64 then (distafflaw27_FairRounds.j1 k x0 x1 t202 true) else (distafflaw27_FairRounds.j1 k x0 x1 t202 (decide (x1 < 1))))) else (some false))))
def distafflaw27_FairRounds.j1 : Nat → Int → Int → List (S34) → Bool → Option (Bool)
  | 0, _, _, _, _ => none
  | k + 1, x0, x1, x7, x30 => if x30 = true then (if (x7.length : Int) = 0 then ((distafflaw27_awake.f k).bind fun t209 => (some t209)) else (some false)) else (if (x7.length : Int) = (wrap64 (x1 * (wrap64 (x0 + 1)))) then ((fair_Fair.f k x0 x7 (wrap64 ((wrap64 (2 * x0)) + 1))).bind fun t210 => (if t210 = true then ((distafflaw27_awake.f k).bind fun t211 => (some t211)) else (some false))) else (some false))
end
def distafflaw27_FairRounds.f (k : Nat) (a0 : Int) (a1 : Int) (a2 : Int) : Option (Bool) := if a1 > 300 then (distafflaw27_FairRounds.j0 k a0 300 a2) else (distafflaw27_FairRounds.j0 k a0 a1 a2)
theorem distafflaw27_FairRounds.mono_l : ∀ k, (∀ y0 y1 y2, LeO (distafflaw27_FairRounds.j0 k y0 y1 y2) (distafflaw27_FairRounds.j0 (k + 1) y0 y1 y2)) ∧ (∀ y0 y1 y2 y3, LeO (distafflaw27_FairRounds.j1 k y0 y1 y2 y3) (distafflaw27_FairRounds.j1 (k + 1) y0 y1 y2 y3))
  | 0 => ⟨fun _ _ _ r h => by simp [distafflaw27_FairRounds.j0] at h, fun _ _ _ _ r h => by simp [distafflaw27_FairRounds.j1] at h⟩
  | k + 1 => by
    obtain ⟨ih0, ih1⟩ := distafflaw27_FairRounds.mono_l k
    refine ⟨?_, ?_⟩
    · intro y0 y1 y2
      unfold distafflaw27_FairRounds.j0
      repeat' first
      | (with_reducible exact ih0 _ _ _)
      | (with_reducible exact ih1 _ _ _ _)
      | (with_reducible exact distafflaw27_awake.mono _)
      | (with_reducible exact distafflaw27_same.mono _ _ _)
      | (with_reducible exact distaffref26_Rounds.mono _ _ _ _)
      | (with_reducible exact fair_Fair.mono _ _ _ _)
      | (with_reducible exact fair_Rounds.mono _ _ _ _)
      | (with_reducible exact LeO.refl _)
      | (with_reducible exact LeO.none _)
      | (with_reducible refine LeO.ite ?_ ?_)
      | (with_reducible refine LeO.bind ?_ (fun _ => ?_))
      | exact ih0 _ _ _
      | exact ih1 _ _ _ _
      | exact distafflaw27_awake.mono _
      | exact distafflaw27_same.mono _ _ _
      | exact distaffref26_Rounds.mono _ _ _ _
      | exact fair_Fair.mono _ _ _ _
      | exact fair_Rounds.mono _ _ _ _
      | exact LeO.none _
      | refine LeO.ite ?_ ?_
      | refine LeO.bind ?_ (fun _ => ?_)
    · intro y0 y1 y2 y3
      unfold distafflaw27_FairRounds.j1
      repeat' first
      | (with_reducible exact ih0 _ _ _)
      | (with_reducible exact ih1 _ _ _ _)
      | (with_reducible exact distafflaw27_awake.mono _)
      | (with_reducible exact distafflaw27_same.mono _ _ _)
      | (with_reducible exact distaffref26_Rounds.mono _ _ _ _)
      | (with_reducible exact fair_Fair.mono _ _ _ _)
      | (with_reducible exact fair_Rounds.mono _ _ _ _)
      | (with_reducible exact LeO.refl _)
      | (with_reducible exact LeO.none _)
      | (with_reducible refine LeO.ite ?_ ?_)
      | (with_reducible refine LeO.bind ?_ (fun _ => ?_))
      | exact ih0 _ _ _
      | exact ih1 _ _ _ _
      | exact distafflaw27_awake.mono _
      | exact distafflaw27_same.mono _ _ _
      | exact distaffref26_Rounds.mono _ _ _ _
      | exact fair_Fair.mono _ _ _ _
      | exact fair_Rounds.mono _ _ _ _
      | exact LeO.none _
      | refine LeO.ite ?_ ?_
      | refine LeO.bind ?_ (fun _ => ?_)
theorem distafflaw27_FairRounds.mono : ∀ a0 a1 a2 k, LeO (distafflaw27_FairRounds.f k a0 a1 a2) (distafflaw27_FairRounds.f (k + 1) a0 a1 a2) := by
  intro a0 a1 a2 k
  obtain ⟨ih0, ih1⟩ := distafflaw27_FairRounds.mono_l k
  unfold distafflaw27_FairRounds.f
  repeat' first
      | (with_reducible exact ih0 _ _ _)
      | (with_reducible exact ih1 _ _ _ _)
      | (with_reducible exact distafflaw27_awake.mono _)
      | (with_reducible exact distafflaw27_same.mono _ _ _)
      | (with_reducible exact distaffref26_Rounds.mono _ _ _ _)
      | (with_reducible exact fair_Fair.mono _ _ _ _)
      | (with_reducible exact fair_Rounds.mono _ _ _ _)
      | (with_reducible exact LeO.refl _)
      | (with_reducible exact LeO.none _)
      | (with_reducible refine LeO.ite ?_ ?_)
      | (with_reducible refine LeO.bind ?_ (fun _ => ?_))
      | exact ih0 _ _ _
      | exact ih1 _ _ _ _
      | exact distafflaw27_awake.mono _
      | exact distafflaw27_same.mono _ _ _
      | exact distaffref26_Rounds.mono _ _ _ _
      | exact fair_Fair.mono _ _ _ _
      | exact fair_Rounds.mono _ _ _ _
      | exact LeO.none _
      | refine LeO.ite ?_ ?_
      | refine LeO.bind ?_ (fun _ => ?_)
set_option maxHeartbeats 8000000 in
set_option maxRecDepth 100000 in
theorem distafflaw27_FairRounds.calls (k : Nat) (a0 : Int) (a1 : Int) (a2 : Int) (r : Bool) (w : World) (h : distafflaw27_FairRounds.f k a0 a1 a2 = some r) :
    Calls Try.prog 4 #[.int .i64 a0, .int .i64 a1, .int .u64 a2] w fun e w' => e = .returned (.bool r) ∧ Below w.heap.size w w' := by
  have HB := Aside0.mk (Below.refl w.heap.size w)
  have H : (if a1 > 300 then (distafflaw27_FairRounds.j0 k a0 300 a2) else (distafflaw27_FairRounds.j0 k a0 a1 a2)) = some r := h
  clear h
  have HC4 := Aside0.mk H
  clear H
  go_enter Try.func4, Try.ntmps4
  go_upto_if 9 with (fail)
  go_cut [1] (fun v1 wc => ∃ (kq : Nat) (x1_3 : Int), v1 = .int .i64 x1_3 ∧ Aside0 (distafflaw27_FairRounds.j0 kq a0 x1_3 a2 = some r) ∧ Aside0 (kq ≤ k) ∧ Aside0 (Below w.heap.size w wc))
  case first =>
    have H := HC4.out
    clear HC4
    by_cases c5 : a1 > 300
    · rw [if_pos c5] at H
      have c5b0 : decide (300 < a1) = true := decide_eq_true c5
      clear c5
      (first | rw [c5b0] | (simp only [i64_w, i32_w]; rw [c5b0]) | skip)
      have H' := Aside0.mk H
      clear H
      go_wp2
      go_meet
      case rel => exact ⟨_, (300), (by first | rfl | (simp; done) | (simp [*]; done)), H', ⟨by first | omega | exact Nat.le_refl _⟩, ⟨by repeat (first | (with_reducible first | exact HB.out | apply below_alloc | apply pw_below_drewN | apply below_drew1) | exact HB.out)⟩⟩
    · rw [if_neg c5] at H
      have c5b0 : decide (300 < a1) = false := decide_eq_false c5
      clear c5
      (first | rw [c5b0] | (simp only [i64_w, i32_w]; rw [c5b0]) | skip)
      have H' := Aside0.mk H
      clear H
      go_wp2
      go_meet
      case rel => exact ⟨_, (a1), (by first | rfl | (simp; done) | (simp [*]; done)), H', ⟨by first | omega | exact Nat.le_refl _⟩, ⟨by repeat (first | (with_reducible first | exact HB.out | apply below_alloc | apply pw_below_drewN | apply below_drew1) | exact HB.out)⟩⟩
  case rest =>
    clear HC4
    try clear p2
    try clear c4
    try clear c5
    try clear c5b0
    obtain ⟨kq, x1_3, rfl, HA, HJ3, HB⟩ := hcut
    cases kq with
    | zero => exact absurd HA.out (by simp [distafflaw27_FairRounds.j0])
    | succ kj3 =>
      have H := HA.out
      clear HA
      simp only [distafflaw27_FairRounds.j0] at H
      replace H := Option.bind_eq_some_iff.mp H
      obtain ⟨t202, A60, H⟩ := H
      replace H : ((distaffref26_Rounds.f kj3 a0 x1_3 a2).bind fun t205 => ((distafflaw27_same.f kj3 t202 t205).bind fun t208 => (if t208 = true then (if a0 < 1 then (distafflaw27_FairRounds.j1 kj3 a0 x1_3 t202 true) else (if a0 > 64 then (distafflaw27_FairRounds.j1 kj3 a0 x1_3 t202 true) else (distafflaw27_FairRounds.j1 kj3 a0 x1_3 t202 (decide (x1_3 < 1))))) else (some false)))) = some r := H
      have A6 := Aside0.mk A60
      clear A60
      replace H := Option.bind_eq_some_iff.mp H
      obtain ⟨t205, A70, H⟩ := H
      replace H : ((distafflaw27_same.f kj3 t202 t205).bind fun t208 => (if t208 = true then (if a0 < 1 then (distafflaw27_FairRounds.j1 kj3 a0 x1_3 t202 true) else (if a0 > 64 then (distafflaw27_FairRounds.j1 kj3 a0 x1_3 t202 true) else (distafflaw27_FairRounds.j1 kj3 a0 x1_3 t202 (decide (x1_3 < 1))))) else (some false))) = some r := H
      have A7 := Aside0.mk A70
      clear A70
      replace H := Option.bind_eq_some_iff.mp H
      obtain ⟨t208, A80, H⟩ := H
      replace H : (if t208 = true then (if a0 < 1 then (distafflaw27_FairRounds.j1 kj3 a0 x1_3 t202 true) else (if a0 > 64 then (distafflaw27_FairRounds.j1 kj3 a0 x1_3 t202 true) else (distafflaw27_FairRounds.j1 kj3 a0 x1_3 t202 (decide (x1_3 < 1))))) else (some false)) = some r := H
      have A8 := Aside0.mk A80
      clear A80
      by_cases c9 : t208 = true
      · subst c9
        have H1 : (if a0 < 1 then (distafflaw27_FairRounds.j1 kj3 a0 x1_3 t202 true) else (if a0 > 64 then (distafflaw27_FairRounds.j1 kj3 a0 x1_3 t202 true) else (distafflaw27_FairRounds.j1 kj3 a0 x1_3 t202 (decide (x1_3 < 1))))) = some r := by rw [if_pos rfl] at H; exact H
        clear H
        have H := H1
        clear H1
        have HC10 := Aside0.mk H
        clear H
        go_upto_region 6 with (first | ((with_reducible refine gate_callee (f := 13) rfl ?_); refine goesL_ (some 13) rfl rfl Try.func13 (by kernel_rfl) rfl #[.int .i64 a0, .int .i64 x1_3, .int .u64 a2] rfl (by (try simp only [List.map_toArray, List.map_cons, List.map_nil]); first | done | rfl | (simp only [List.length_drop, List.length_take]; rfl)) ?_; (with_reducible refine (fair_Rounds.calls kj3 a0 x1_3 a2 t202 _ A6.out).mono ?_); rintro e w11 ⟨v203, rfl, ho0, hb⟩; refine ⟨_, rfl, ?_⟩; have n0_ := Aside0.mk (Kd.R_lower ho0 (below_size (by repeat (first | (with_reducible first | exact HB.out | apply below_alloc | apply pw_below_drewN | apply below_drew1) | exact HB.out)))); have n1_ := Aside0.mk (below_step (by repeat (first | (with_reducible first | exact HB.out | apply below_alloc | apply pw_below_drewN | apply below_drew1) | exact HB.out)) hb); clear HB; have HO204 := n0_; have HB := n1_; clear n0_ n1_; (try clear hb); (try clear hb2); (try clear hk); (try clear hi); (try clear ho0)) | ((with_reducible refine gate_callee (f := 14) rfl ?_); refine goesL_ (some 18) rfl rfl Try.func14 (by kernel_rfl) rfl #[.int .i64 a0, .int .i64 x1_3, .int .u64 a2] rfl (by (try simp only [List.map_toArray, List.map_cons, List.map_nil]); first | done | rfl | (simp only [List.length_drop, List.length_take]; rfl)) ?_; (with_reducible refine (distaffref26_Rounds.calls kj3 a0 x1_3 a2 t205 _ A7.out).mono ?_); rintro e w12 ⟨v206, rfl, ho0, hb⟩; refine ⟨_, rfl, ?_⟩; have n0_ := Aside0.mk (Kd.R_elder' (by (with_reducible repeat (first | apply Kd.R_alloc | apply Kd.R_drewN | apply Kd.R_drew)); exact HO204.out) (Kd.R_base ho0) hb); have n1_ := Aside0.mk (Kd.R_lower (Kd.R_new' ho0 (Kd.R_lt (by (with_reducible repeat (first | apply Kd.R_alloc | apply Kd.R_drewN | apply Kd.R_drew)); exact HO204.out))) (below_size (by repeat (first | (with_reducible first | exact HB.out | apply below_alloc | apply pw_below_drewN | apply below_drew1) | exact HB.out)))); have n2_ := Aside0.mk (below_step (by repeat (first | (with_reducible first | exact HB.out | apply below_alloc | apply pw_below_drewN | apply below_drew1) | exact HB.out)) hb); clear HO204; clear HB; have HO204 := n0_; have HO207 := n1_; have HB := n2_; clear n0_ n1_ n2_; (try clear hb); (try clear hb2); (try clear hk); (try clear hi); (try clear ho0); obtain ⟨Ao13, co13, eo13⟩ := Kd.R_slice HO204.out; subst eo13; obtain ⟨Ao14, co14, eo14⟩ := Kd.R_slice HO207.out; subst eo14) | ((with_reducible refine gate_callee (f := 12) rfl ?_); refine goesL_ (some 19) rfl rfl Try.func12 (by kernel_rfl) rfl #[.slice Ao13 t202.length co13, .slice Ao14 t205.length co14] rfl (by (try simp only [List.map_toArray, List.map_cons, List.map_nil]); first | done | rfl | (simp only [List.length_drop, List.length_take]; rfl)) ?_; (with_reducible refine (distafflaw27_same.calls kj3 _ _ t202 _ _ t205 true _ ?side1 ?side2 ?side3 ?side4 A8.out).mono ?_); (case side1 => repeat (first | exact (Kd.R_reads' HO204.out).2.2 | (with_reducible refine Kd.C_alloc ?_ _) | (with_reducible refine Kd.C_drewN ?_ _) | (with_reducible refine Kd.C_drew ?_))); (case side2 => exact (Kd.R_reads' HO204.out).2.1); (case side3 => repeat (first | exact (Kd.R_reads' HO207.out).2.2 | (with_reducible refine Kd.C_alloc ?_ _) | (with_reducible refine Kd.C_drewN ?_ _) | (with_reducible refine Kd.C_drew ?_))); (case side4 => exact (Kd.R_reads' HO207.out).2.1); rintro e w' ⟨rfl, ⟨nd, rfl⟩⟩; refine ⟨_, rfl, ?_⟩))
        (try simp only [Act.put, List.setIfInBounds_toArray, List.set_cons_zero, List.set_cons_succ])
        go_cut [30] (fun v30 wc => ∃ (kq : Nat) (x30_9 : Bool), v30 = .bool x30_9 ∧ Aside0 (distafflaw27_FairRounds.j1 kq a0 x1_3 t202 x30_9 = some r) ∧ Aside0 (kq ≤ kj3) ∧ Aside0 (Kd.R k34 34 wc w.heap.size (fun _ => True) (.slice Ao13 t202.length co13) t202) ∧ Aside0 (Below w.heap.size w wc))
        case first =>
          have H := HC10.out
          clear HC10
          by_cases c15 : a0 < 1
          · rw [if_pos c15] at H
            have c15b0 : decide (a0 < 1) = true := decide_eq_true c15
            clear c15
            (first | rw [c15b0] | (simp only [i64_w, i32_w]; rw [c15b0]) | skip)
            have H' := Aside0.mk H
            clear H
            go_wp2
            go_meet
            case rel => exact ⟨_, (true), (by first | rfl | (simp; done) | (simp [*]; done)), H', ⟨by have := HJ3.out; first | omega | exact Nat.le_refl _⟩, ⟨by (with_reducible repeat (first | apply Kd.R_alloc | apply Kd.R_drewN | apply Kd.R_drew)); exact Kd.R_mono HO204.out (fun _ hk => trivial)⟩, ⟨by repeat (first | (with_reducible first | exact HB.out | apply below_alloc | apply pw_below_drewN | apply below_drew1) | exact HB.out)⟩⟩
          · rw [if_neg c15] at H
            have c15b0 : decide (a0 < 1) = false := decide_eq_false c15
            clear c15
            (first | rw [c15b0] | (simp only [i64_w, i32_w]; rw [c15b0]) | skip)
            by_cases c16 : a0 > 64
            · rw [if_pos c16] at H
              have c16b0 : decide (64 < a0) = true := decide_eq_true c16
              clear c16
              have H' := Aside0.mk H
              clear H
              go_wp2
              go_meet
              case rel => exact ⟨_, (true), (by first | rfl | (simp; done) | (simp [*]; done)), H', ⟨by have := HJ3.out; first | omega | exact Nat.le_refl _⟩, ⟨by (with_reducible repeat (first | apply Kd.R_alloc | apply Kd.R_drewN | apply Kd.R_drew)); exact Kd.R_mono HO204.out (fun _ hk => trivial)⟩, ⟨by repeat (first | (with_reducible first | exact HB.out | apply below_alloc | apply pw_below_drewN | apply below_drew1) | exact HB.out)⟩⟩
            · rw [if_neg c16] at H
              have c16b0 : decide (64 < a0) = false := decide_eq_false c16
              clear c16
              have H' := Aside0.mk H
              clear H
              go_wp2
              go_meet
              case rel => exact ⟨_, (decide (x1_3 < 1)), (by first | rfl | (simp; done) | (simp [*]; done)), H', ⟨by have := HJ3.out; first | omega | exact Nat.le_refl _⟩, ⟨by (with_reducible repeat (first | apply Kd.R_alloc | apply Kd.R_drewN | apply Kd.R_drew)); exact Kd.R_mono HO204.out (fun _ hk => trivial)⟩, ⟨by repeat (first | (with_reducible first | exact HB.out | apply below_alloc | apply pw_below_drewN | apply below_drew1) | exact HB.out)⟩⟩
        case rest =>
          clear HC10
          try clear c1
          try clear p2
          try clear c4
          try clear c5
          try clear c5b0
          try clear c9
          try clear c12
          try clear c13
          try clear c14
          try clear c15
          try clear c15b0
          try clear c16
          try clear c16b0
          try clear p2
          obtain ⟨kq, x30_9, rfl, HA, HJ9, HO_7, HB⟩ := hcut
          cases kq with
          | zero => exact absurd HA.out (by simp [distafflaw27_FairRounds.j1])
          | succ kj9 =>
            have H := HA.out
            clear HA
            simp only [distafflaw27_FairRounds.j1] at H
            by_cases c17 : x30_9 = true
            · subst c17
              have H1 : (if (t202.length : Int) = 0 then ((distafflaw27_awake.f kj9).bind fun t209 => (some t209)) else (some false)) = some r := by rw [if_pos rfl] at H; exact H
              clear H
              have H := H1
              clear H1
              by_cases c18 : (t202.length : Int) = 0
              · rw [if_pos c18] at H
                have c18b0 : ((t202.length : Int) == 0) = true := beq_iff_eq.mpr c18
                have c18b1 : ((t202.length : Int) != 0) = false := bne_eq_false_iff_eq.mpr c18
                clear c18
                replace H := Option.bind_eq_some_iff.mp H
                obtain ⟨t209, A190, H⟩ := H
                replace H : (some t209) = some r := H
                have A19 := Aside0.mk A190
                clear A190
                obtain rfl := Option.some.inj H
                go_wp2_with (first | (go_at_call 9; (with_reducible refine (distafflaw27_awake.calls kj9  t209 _ A19.out).mono ?_); rintro e w20 ⟨rfl, hb⟩; have n0_ := Aside0.mk (Kd.R_below (by (with_reducible repeat (first | apply Kd.R_alloc | apply Kd.R_drewN | apply Kd.R_drew)); exact HO_7.out) hb); have n1_ := Aside0.mk (below_step (by repeat (first | (with_reducible first | exact HB.out | apply below_alloc | apply pw_below_drewN | apply below_drew1) | exact HB.out)) hb); clear HO_7; clear HB; have HO_7 := n0_; have HB := n1_; clear n0_ n1_; (try clear hb); (try clear hb2); (try clear hk); (try clear hi)))
                go_ret
                exact ⟨by first | rfl | (simp [errW_none, errW_some] <;> rfl) | (simp [*, errW_none, errW_some] <;> rfl), by repeat (first | (with_reducible first | exact HB.out | apply below_alloc | apply pw_below_drewN | apply below_drew1) | exact HB.out)⟩
              · rw [if_neg c18] at H
                have c18b0 : ((t202.length : Int) == 0) = false := beq_eq_false_iff_ne.mpr c18
                have c18b1 : ((t202.length : Int) != 0) = true := bne_iff_ne.mpr c18
                have c18b2 : ¬ (t202 = []) := fun h_ => c18 (by rw [h_]; rfl)
                obtain rfl := Option.some.inj H
                go_wp2
                go_ret
                exact ⟨by first | rfl | (simp [errW_none, errW_some] <;> rfl) | (simp [*, errW_none, errW_some] <;> rfl), by repeat (first | (with_reducible first | exact HB.out | apply below_alloc | apply pw_below_drewN | apply below_drew1) | exact HB.out)⟩
            · replace c17 := Bool.eq_false_iff.mpr c17
              subst c17
              have H1 : (if (t202.length : Int) = (wrap64 (x1_3 * (wrap64 (a0 + 1)))) then ((fair_Fair.f kj9 a0 t202 (wrap64 ((wrap64 (2 * a0)) + 1))).bind fun t210 => (if t210 = true then ((distafflaw27_awake.f kj9).bind fun t211 => (some t211)) else (some false))) else (some false)) = some r := by rw [if_neg (show ¬ (false = true) by decide)] at H; exact H
              clear H
              have H := H1
              clear H1
              by_cases c21 : (t202.length : Int) = (wrap64 (x1_3 * (wrap64 (a0 + 1))))
              · rw [if_pos c21] at H
                have c21b0 : ((t202.length : Int) == (wrap64 (x1_3 * (wrap64 (a0 + 1))))) = true := beq_iff_eq.mpr c21
                have c21b1 : ((t202.length : Int) != (wrap64 (x1_3 * (wrap64 (a0 + 1))))) = false := bne_eq_false_iff_eq.mpr c21
                clear c21
                replace H := Option.bind_eq_some_iff.mp H
                obtain ⟨t210, A220, H⟩ := H
                replace H : (if t210 = true then ((distafflaw27_awake.f kj9).bind fun t211 => (some t211)) else (some false)) = some r := H
                have A22 := Aside0.mk A220
                clear A220
                by_cases c23 : t210 = true
                · subst c23
                  have H1 : ((distafflaw27_awake.f kj9).bind fun t211 => (some t211)) = some r := by rw [if_pos rfl] at H; exact H
                  clear H
                  have H := H1
                  clear H1
                  replace H := Option.bind_eq_some_iff.mp H
                  obtain ⟨t211, A240, H⟩ := H
                  replace H : (some t211) = some r := H
                  have A24 := Aside0.mk A240
                  clear A240
                  obtain rfl := Option.some.inj H
                  go_wp2_with (first | (go_at_call 10; (with_reducible refine (fair_Fair.calls kj9 a0 _ _ t202 (wrap64 ((wrap64 (2 * a0)) + 1)) true _ ?side1 ?side2 A22.out).mono ?_); (case side1 => repeat (first | exact (Kd.R_reads' HO_7.out).2.2 | (with_reducible refine Kd.C_alloc ?_ _) | (with_reducible refine Kd.C_drewN ?_ _) | (with_reducible refine Kd.C_drew ?_))); (case side2 => exact (Kd.R_reads' HO_7.out).2.1); rintro e w25 ⟨rfl, hb⟩; have n0_ := Aside0.mk (Kd.R_below (by (with_reducible repeat (first | apply Kd.R_alloc | apply Kd.R_drewN | apply Kd.R_drew)); exact HO_7.out) hb); have n1_ := Aside0.mk (below_step (by repeat (first | (with_reducible first | exact HB.out | apply below_alloc | apply pw_below_drewN | apply below_drew1) | exact HB.out)) hb); clear HO_7; clear HB; have HO_7 := n0_; have HB := n1_; clear n0_ n1_; (try clear hb); (try clear hb2); (try clear hk); (try clear hi)) | (go_at_call 9; (with_reducible refine (distafflaw27_awake.calls kj9  t211 _ A24.out).mono ?_); rintro e w26 ⟨rfl, hb⟩; have n0_ := Aside0.mk (Kd.R_below (by (with_reducible repeat (first | apply Kd.R_alloc | apply Kd.R_drewN | apply Kd.R_drew)); exact HO_7.out) hb); have n1_ := Aside0.mk (below_step (by repeat (first | (with_reducible first | exact HB.out | apply below_alloc | apply pw_below_drewN | apply below_drew1) | exact HB.out)) hb); clear HO_7; clear HB; have HO_7 := n0_; have HB := n1_; clear n0_ n1_; (try clear hb); (try clear hb2); (try clear hk); (try clear hi)))
                  go_ret
                  exact ⟨by first | rfl | (simp [errW_none, errW_some] <;> rfl) | (simp [*, errW_none, errW_some] <;> rfl), by repeat (first | (with_reducible first | exact HB.out | apply below_alloc | apply pw_below_drewN | apply below_drew1) | exact HB.out)⟩
                · replace c23 := Bool.eq_false_iff.mpr c23
                  subst c23
                  have H1 : (some false) = some r := by rw [if_neg (show ¬ (false = true) by decide)] at H; exact H
                  clear H
                  have H := H1
                  clear H1
                  obtain rfl := Option.some.inj H
                  go_wp2_with (first | (go_at_call 10; (with_reducible refine (fair_Fair.calls kj9 a0 _ _ t202 (wrap64 ((wrap64 (2 * a0)) + 1)) false _ ?side1 ?side2 A22.out).mono ?_); (case side1 => repeat (first | exact (Kd.R_reads' HO_7.out).2.2 | (with_reducible refine Kd.C_alloc ?_ _) | (with_reducible refine Kd.C_drewN ?_ _) | (with_reducible refine Kd.C_drew ?_))); (case side2 => exact (Kd.R_reads' HO_7.out).2.1); rintro e w27 ⟨rfl, hb⟩; have n0_ := Aside0.mk (Kd.R_below (by (with_reducible repeat (first | apply Kd.R_alloc | apply Kd.R_drewN | apply Kd.R_drew)); exact HO_7.out) hb); have n1_ := Aside0.mk (below_step (by repeat (first | (with_reducible first | exact HB.out | apply below_alloc | apply pw_below_drewN | apply below_drew1) | exact HB.out)) hb); clear HO_7; clear HB; have HO_7 := n0_; have HB := n1_; clear n0_ n1_; (try clear hb); (try clear hb2); (try clear hk); (try clear hi)))
                  go_ret
                  exact ⟨by first | rfl | (simp [errW_none, errW_some] <;> rfl) | (simp [*, errW_none, errW_some] <;> rfl), by repeat (first | (with_reducible first | exact HB.out | apply below_alloc | apply pw_below_drewN | apply below_drew1) | exact HB.out)⟩
              · rw [if_neg c21] at H
                have c21b0 : ((t202.length : Int) == (wrap64 (x1_3 * (wrap64 (a0 + 1))))) = false := beq_eq_false_iff_ne.mpr c21
                have c21b1 : ((t202.length : Int) != (wrap64 (x1_3 * (wrap64 (a0 + 1))))) = true := bne_iff_ne.mpr c21
                obtain rfl := Option.some.inj H
                go_wp2
                go_ret
                exact ⟨by first | rfl | (simp [errW_none, errW_some] <;> rfl) | (simp [*, errW_none, errW_some] <;> rfl), by repeat (first | (with_reducible first | exact HB.out | apply below_alloc | apply pw_below_drewN | apply below_drew1) | exact HB.out)⟩
      · replace c9 := Bool.eq_false_iff.mpr c9
        subst c9
        have H1 : (some false) = some r := by rw [if_neg (show ¬ (false = true) by decide)] at H; exact H
        clear H
        have H := H1
        clear H1
        obtain rfl := Option.some.inj H
        go_wp2_with (first | ((with_reducible refine gate_callee (f := 13) rfl ?_); refine goesL_ (some 13) rfl rfl Try.func13 (by kernel_rfl) rfl #[.int .i64 a0, .int .i64 x1_3, .int .u64 a2] rfl (by (try simp only [List.map_toArray, List.map_cons, List.map_nil]); first | done | rfl | (simp only [List.length_drop, List.length_take]; rfl)) ?_; (with_reducible refine (fair_Rounds.calls kj3 a0 x1_3 a2 t202 _ A6.out).mono ?_); rintro e w28 ⟨v203, rfl, ho0, hb⟩; refine ⟨_, rfl, ?_⟩; have n0_ := Aside0.mk (Kd.R_lower ho0 (below_size (by repeat (first | (with_reducible first | exact HB.out | apply below_alloc | apply pw_below_drewN | apply below_drew1) | exact HB.out)))); have n1_ := Aside0.mk (below_step (by repeat (first | (with_reducible first | exact HB.out | apply below_alloc | apply pw_below_drewN | apply below_drew1) | exact HB.out)) hb); clear HB; have HO204 := n0_; have HB := n1_; clear n0_ n1_; (try clear hb); (try clear hb2); (try clear hk); (try clear hi); (try clear ho0)) | ((with_reducible refine gate_callee (f := 14) rfl ?_); refine goesL_ (some 18) rfl rfl Try.func14 (by kernel_rfl) rfl #[.int .i64 a0, .int .i64 x1_3, .int .u64 a2] rfl (by (try simp only [List.map_toArray, List.map_cons, List.map_nil]); first | done | rfl | (simp only [List.length_drop, List.length_take]; rfl)) ?_; (with_reducible refine (distaffref26_Rounds.calls kj3 a0 x1_3 a2 t205 _ A7.out).mono ?_); rintro e w29 ⟨v206, rfl, ho0, hb⟩; refine ⟨_, rfl, ?_⟩; have n0_ := Aside0.mk (Kd.R_elder' (by (with_reducible repeat (first | apply Kd.R_alloc | apply Kd.R_drewN | apply Kd.R_drew)); exact HO204.out) (Kd.R_base ho0) hb); have n1_ := Aside0.mk (Kd.R_lower (Kd.R_new' ho0 (Kd.R_lt (by (with_reducible repeat (first | apply Kd.R_alloc | apply Kd.R_drewN | apply Kd.R_drew)); exact HO204.out))) (below_size (by repeat (first | (with_reducible first | exact HB.out | apply below_alloc | apply pw_below_drewN | apply below_drew1) | exact HB.out)))); have n2_ := Aside0.mk (below_step (by repeat (first | (with_reducible first | exact HB.out | apply below_alloc | apply pw_below_drewN | apply below_drew1) | exact HB.out)) hb); clear HO204; clear HB; have HO204 := n0_; have HO207 := n1_; have HB := n2_; clear n0_ n1_ n2_; (try clear hb); (try clear hb2); (try clear hk); (try clear hi); (try clear ho0); obtain ⟨Ao30, co30, eo30⟩ := Kd.R_slice HO204.out; subst eo30; obtain ⟨Ao31, co31, eo31⟩ := Kd.R_slice HO207.out; subst eo31) | ((with_reducible refine gate_callee (f := 12) rfl ?_); refine goesL_ (some 19) rfl rfl Try.func12 (by kernel_rfl) rfl #[.slice Ao30 t202.length co30, .slice Ao31 t205.length co31] rfl (by (try simp only [List.map_toArray, List.map_cons, List.map_nil]); first | done | rfl | (simp only [List.length_drop, List.length_take]; rfl)) ?_; (with_reducible refine (distafflaw27_same.calls kj3 _ _ t202 _ _ t205 false _ ?side1 ?side2 ?side3 ?side4 A8.out).mono ?_); (case side1 => repeat (first | exact (Kd.R_reads' HO204.out).2.2 | (with_reducible refine Kd.C_alloc ?_ _) | (with_reducible refine Kd.C_drewN ?_ _) | (with_reducible refine Kd.C_drew ?_))); (case side2 => exact (Kd.R_reads' HO204.out).2.1); (case side3 => repeat (first | exact (Kd.R_reads' HO207.out).2.2 | (with_reducible refine Kd.C_alloc ?_ _) | (with_reducible refine Kd.C_drewN ?_ _) | (with_reducible refine Kd.C_drew ?_))); (case side4 => exact (Kd.R_reads' HO207.out).2.1); rintro e w' ⟨rfl, ⟨nd, rfl⟩⟩; refine ⟨_, rfl, ?_⟩))
        go_ret
        exact ⟨by first | rfl | (simp [errW_none, errW_some] <;> rfl) | (simp [*, errW_none, errW_some] <;> rfl), by repeat (first | (with_reducible first | exact HB.out | apply below_alloc | apply pw_below_drewN | apply below_drew1) | exact HB.out)⟩

/-- THE ONE PURE STATEMENT of distafflaw27_FairRounds: yours. -/
def distafflaw27_FairRounds.Pure : Prop := ∀ (a0 : Int) (a1 : Int) (a2 : Int), (Lit.int .i64 a0).wf = true → (Lit.int .i64 a1).wf = true → (Lit.int .u64 a2).wf = true → ∃ k, distafflaw27_FairRounds.f k a0 a1 a2 = some true
theorem distafflaw27_FairRounds.walk (P : distafflaw27_FairRounds.Pure) (a0 : Int) (a1 : Int) (a2 : Int) (w : World) (w0 : (Lit.int .i64 a0).wf = true) (w1 : (Lit.int .i64 a1).wf = true) (w2 : (Lit.int .u64 a2).wf = true) :
    Calls Try.prog 4 #[.int .i64 a0, .int .i64 a1, .int .u64 a2] w fun e w' => e = .returned (.bool true) ∧ Below w.heap.size w w' := by
  obtain ⟨k, h⟩ := P a0 a1 a2 w0 w1 w2
  refine (distafflaw27_FairRounds.calls k a0 a1 a2 true w h).mono ?_
  rintro e w' ⟨rfl, hd⟩
  exact ⟨rfl, hd⟩

end Go.Proofs.Ytjninhbdcllofaa.Fa
