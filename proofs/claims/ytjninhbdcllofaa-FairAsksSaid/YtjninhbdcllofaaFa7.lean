import Derived.Test.YtjninhbdcllofaaFa0
namespace Go.Proofs.Ytjninhbdcllofaa.Fa
open Go.RowKit Go.Proofs.YtjninhbdcllofaaW.PrintWords Go.Proofs.YtjninhbdcllofaaW.PrintLast Go.Proofs.YtjninhbdcllofaaW.PrintMore
attribute [local go_sem] max2_int min2_int max_two min_two max_three min_three max_four min_four   -- for this text's walks alone
set_option linter.unusedVariables false
set_option linter.unusedSimpArgs false

/-! ### distaffref26_Fair: function 11 -/
mutual
def distaffref26_Fair.l0 : Nat → List (S34) → Int → List Int → Int → Int → Option (Bool)
  | 0, _, _, _, _, _ => none
  | k + 1, x1, x2, x7, x8, x9 => if x9 < (x7.length : Int) then (if 0 ≤ x9 then (distaffref26_Fair.l0 k x1 x2 (x7.set (x9 : Int).toNat (-1)) x8 (wrap64 (x9 + 1))) else (none)) else (distaffref26_Fair.l1 k x1 x2 x7 x8 0)
def distaffref26_Fair.l1 : Nat → List (S34) → Int → List Int → Int → Int → Option (Bool)
  | 0, _, _, _, _, _ => none
  | k + 1, x1, x2, x7, x8, x10 => if x10 < (x1.length : Int) then (if 0 ≤ x10 then (if ((rd_T34 x1 x10).f0) = 2 then (distaffref26_Fair.j2 k x1 x2 x7 x10 x10) else (distaffref26_Fair.j2 k x1 x2 x7 x8 x10)) else (none)) else (some true)
def distaffref26_Fair.j2 : Nat → List (S34) → Int → List Int → Int → Int → Option (Bool)
  | 0, _, _, _, _, _ => none
  | k + 1, x1, x2, x7, x8, x10 => if 0 ≤ x10 then (if x10 < (x1.length : Int) then (if ((rd_T34 x1 x10).f0) = 1 then (if ((rd_T34 x1 x10).f1) ≥ 0 then (distaffref26_Fair.j3 k x1 x2 x7 x8 x10 (decide (((rd_T34 x1 x10).f1) < (x7.length : Int)))) else (distaffref26_Fair.j3 k x1 x2 x7 x8 x10 false)) else (distaffref26_Fair.j3 k x1 x2 x7 x8 x10 false)) else (none)) else (none)
def distaffref26_Fair.j3 : Nat → List (S34) → Int → List Int → Int → Int → Bool → Option (Bool)
  | 0, _, _, _, _, _, _ => none
  | k + 1, x1, x2, x7, x8, x10, x71 => if x71 = true then (if 0 ≤ x10 then (if x10 < (x1.length : Int) then (if 0 ≤ ((rd_T34 x1 x10).f1) then (if ((rd_T34 x1 x10).f1) < (x7.length : Int) then (distaffref26_Fair.j4 k x1 x2 (x7.set (((rd_T34 x1 x10).f1) : Int).toNat x10) x8 x10) else (none)) else (none)) else (none)) else (none)) else (distaffref26_Fair.j4 k x1 x2 x7 x8 x10)
def distaffref26_Fair.j4 : Nat → List (S34) → Int → List Int → Int → Int → Option (Bool)
  | 0, _, _, _, _, _ => none
  | k + 1, x1, x2, x7, x8, x10 => if (wrap64 (x10 + 1)) < x2 then (distaffref26_Fair.l1 k x1 x2 x7 x8 (wrap64 (x10 + 1))) else (if x8 < (wrap64 ((wrap64 (x10 + 1)) - x2)) then (some false) else (distaffref26_Fair.l2 k x1 x2 x7 x8 x10 (wrap64 ((wrap64 (x10 + 1)) - x2)) 0))
def distaffref26_Fair.l2 : Nat → List (S34) → Int → List Int → Int → Int → Int → Int → Option (Bool)
  | 0, _, _, _, _, _, _, _ => none
  | k + 1, x1, x2, x7, x8, x10, x11, x12 => if x12 < (x7.length : Int) then (if 0 ≤ x12 then (if (rd x7 x12) < x11 then (some false) else (distaffref26_Fair.l2 k x1 x2 x7 x8 x10 x11 (wrap64 (x12 + 1)))) else (none)) else (distaffref26_Fair.l1 k x1 x2 x7 x8 (wrap64 (x10 + 1)))
end
def distaffref26_Fair.f (k : Nat) (a0 : Int) (l1 : List (S34)) (a2 : Int) : Option (Bool) := if a2 < 1 then (some false) else (if a0 > (l1.length : Int) then (some (decide ((l1.length : Int) < a2))) else (if 0 ≤ (mx 0 a0) then (if (mx 0 a0 : Int).toNat ≤ 35184372088832 then (distaffref26_Fair.l0 k l1 a2 (List.replicate (mx 0 a0 : Int).toNat 0) (-1) 0) else (none)) else (none)))
theorem distaffref26_Fair.mono_l : ∀ k, (∀ y0 y1 y2 y3 y4, LeO (distaffref26_Fair.l0 k y0 y1 y2 y3 y4) (distaffref26_Fair.l0 (k + 1) y0 y1 y2 y3 y4)) ∧ (∀ y0 y1 y2 y3 y4, LeO (distaffref26_Fair.l1 k y0 y1 y2 y3 y4) (distaffref26_Fair.l1 (k + 1) y0 y1 y2 y3 y4)) ∧ (∀ y0 y1 y2 y3 y4, LeO (distaffref26_Fair.j2 k y0 y1 y2 y3 y4) (distaffref26_Fair.j2 (k + 1) y0 y1 y2 y3 y4)) ∧ (∀ y0 y1 y2 y3 y4 y5, LeO (distaffref26_Fair.j3 k y0 y1 y2 y3 y4 y5) (distaffref26_Fair.j3 (k + 1) y0 y1 y2 y3 y4 y5)) ∧ (∀ y0 y1 y2 y3 y4, LeO (distaffref26_Fair.j4 k y0 y1 y2 y3 y4) (distaffref26_Fair.j4 (k + 1) y0 y1 y2 y3 y4)) ∧ (∀ y0 y1 y2 y3 y4 y5 y6, LeO (distaffref26_Fair.l2 k y0 y1 y2 y3 y4 y5 y6) (distaffref26_Fair.l2 (k + 1) y0 y1 y2 y3 y4 y5 y6))
  | 0 => ⟨fun _ _ _ _ _ r h => by simp [distaffref26_Fair.l0] at h, fun _ _ _ _ _ r h => by simp [distaffref26_Fair.l1] at h, fun _ _ _ _ _ r h => by simp [distaffref26_Fair.j2] at h, fun _ _ _ _ _ _ r h => by simp [distaffref26_Fair.j3] at h, fun _ _ _ _ _ r h => by simp [distaffref26_Fair.j4] at h, fun _ _ _ _ _ _ _ r h => by simp [distaffref26_Fair.l2] at h⟩
  | k + 1 => by
    obtain ⟨ih0, ih1, ih2, ih3, ih4, ih5⟩ := distaffref26_Fair.mono_l k
    refine ⟨?_, ?_, ?_, ?_, ?_, ?_⟩
    · intro y0 y1 y2 y3 y4
      unfold distaffref26_Fair.l0
      repeat' first
      | (with_reducible exact ih0 _ _ _ _ _)
      | (with_reducible exact ih1 _ _ _ _ _)
      | (with_reducible exact ih2 _ _ _ _ _)
      | (with_reducible exact ih3 _ _ _ _ _ _)
      | (with_reducible exact ih4 _ _ _ _ _)
      | (with_reducible exact ih5 _ _ _ _ _ _ _)
      | (with_reducible exact LeO.refl _)
      | (with_reducible exact LeO.none _)
      | (with_reducible refine LeO.ite ?_ ?_)
      | (with_reducible refine LeO.bind ?_ (fun _ => ?_))
      | exact ih0 _ _ _ _ _
      | exact ih1 _ _ _ _ _
      | exact ih2 _ _ _ _ _
      | exact ih3 _ _ _ _ _ _
      | exact ih4 _ _ _ _ _
      | exact ih5 _ _ _ _ _ _ _
      | exact LeO.none _
      | refine LeO.ite ?_ ?_
      | refine LeO.bind ?_ (fun _ => ?_)
    · intro y0 y1 y2 y3 y4
      unfold distaffref26_Fair.l1
      repeat' first
      | (with_reducible exact ih0 _ _ _ _ _)
      | (with_reducible exact ih1 _ _ _ _ _)
      | (with_reducible exact ih2 _ _ _ _ _)
      | (with_reducible exact ih3 _ _ _ _ _ _)
      | (with_reducible exact ih4 _ _ _ _ _)
      | (with_reducible exact ih5 _ _ _ _ _ _ _)
      | (with_reducible exact LeO.refl _)
      | (with_reducible exact LeO.none _)
      | (with_reducible refine LeO.ite ?_ ?_)
      | (with_reducible refine LeO.bind ?_ (fun _ => ?_))
      | exact ih0 _ _ _ _ _
      | exact ih1 _ _ _ _ _
      | exact ih2 _ _ _ _ _
      | exact ih3 _ _ _ _ _ _
      | exact ih4 _ _ _ _ _
      | exact ih5 _ _ _ _ _ _ _
      | exact LeO.none _
      | refine LeO.ite ?_ ?_
      | refine LeO.bind ?_ (fun _ => ?_)
    · intro y0 y1 y2 y3 y4
      unfold distaffref26_Fair.j2
      repeat' first
      | (with_reducible exact ih0 _ _ _ _ _)
      | (with_reducible exact ih1 _ _ _ _ _)
      | (with_reducible exact ih2 _ _ _ _ _)
      | (with_reducible exact ih3 _ _ _ _ _ _)
      | (with_reducible exact ih4 _ _ _ _ _)
      | (with_reducible exact ih5 _ _ _ _ _ _ _)
      | (with_reducible exact LeO.refl _)
      | (with_reducible exact LeO.none _)
      | (with_reducible refine LeO.ite ?_ ?_)
      | (with_reducible refine LeO.bind ?_ (fun _ => ?_))
      | exact ih0 _ _ _ _ _
      | exact ih1 _ _ _ _ _
      | exact ih2 _ _ _ _ _
      | exact ih3 _ _ _ _ _ _
      | exact ih4 _ _ _ _ _
      | exact ih5 _ _ _ _ _ _ _
      | exact LeO.none _
      | refine LeO.ite ?_ ?_
      | refine LeO.bind ?_ (fun _ => ?_)
    · intro y0 y1 y2 y3 y4 y5
      unfold distaffref26_Fair.j3
      repeat' first
      | (with_reducible exact ih0 _ _ _ _ _)
      | (with_reducible exact ih1 _ _ _ _ _)
      | (with_reducible exact ih2 _ _ _ _ _)
      | (with_reducible exact ih3 _ _ _ _ _ _)
      | (with_reducible exact ih4 _ _ _ _ _)
      | (with_reducible exact ih5 _ _ _ _ _ _ _)
      | (with_reducible exact LeO.refl _)
      | (with_reducible exact LeO.none _)
      | (with_reducible refine LeO.ite ?_ ?_)
      | (with_reducible refine LeO.bind ?_ (fun _ => ?_))
      | exact ih0 _ _ _ _ _
      | exact ih1 _ _ _ _ _
      | exact ih2 _ _ _ _ _
      | exact ih3 _ _ _ _ _ _
      | exact ih4 _ _ _ _ _
      | exact ih5 _ _ _ _ _ _ _
      | exact LeO.none _
      | refine LeO.ite ?_ ?_
      | refine LeO.bind ?_ (fun _ => ?_)
    · intro y0 y1 y2 y3 y4
      unfold distaffref26_Fair.j4
      repeat' first
      | (with_reducible exact ih0 _ _ _ _ _)
      | (with_reducible exact ih1 _ _ _ _ _)
      | (with_reducible exact ih2 _ _ _ _ _)
      | (with_reducible exact ih3 _ _ _ _ _ _)
      | (with_reducible exact ih4 _ _ _ _ _)
      | (with_reducible exact ih5 _ _ _ _ _ _ _)
      | (with_reducible exact LeO.refl _)
      | (with_reducible exact LeO.none _)
      | (with_reducible refine LeO.ite ?_ ?_)
      | (with_reducible refine LeO.bind ?_ (fun _ => ?_))
      | exact ih0 _ _ _ _ _
      | exact ih1 _ _ _ _ _
      | exact ih2 _ _ _ _ _
      | exact ih3 _ _ _ _ _ _
      | exact ih4 _ _ _ _ _
      | exact ih5 _ _ _ _ _ _ _
      | exact LeO.none _
      | refine LeO.ite ?_ ?_
      | refine LeO.bind ?_ (fun _ => ?_)
    · intro y0 y1 y2 y3 y4 y5 y6
      unfold distaffref26_Fair.l2
      repeat' first
      | (with_reducible exact ih0 _ _ _ _ _)
      | (with_reducible exact ih1 _ _ _ _ _)
      | (with_reducible exact ih2 _ _ _ _ _)
      | (with_reducible exact ih3 _ _ _ _ _ _)
      | (with_reducible exact ih4 _ _ _ _ _)
      | (with_reducible exact ih5 _ _ _ _ _ _ _)
      | (with_reducible exact LeO.refl _)
      | (with_reducible exact LeO.none _)
      | (with_reducible refine LeO.ite ?_ ?_)
      | (with_reducible refine LeO.bind ?_ (fun _ => ?_))
      | exact ih0 _ _ _ _ _
      | exact ih1 _ _ _ _ _
      | exact ih2 _ _ _ _ _
      | exact ih3 _ _ _ _ _ _
      | exact ih4 _ _ _ _ _
      | exact ih5 _ _ _ _ _ _ _
      | exact LeO.none _
      | refine LeO.ite ?_ ?_
      | refine LeO.bind ?_ (fun _ => ?_)
theorem distaffref26_Fair.mono : ∀ a0 a1 a2 k, LeO (distaffref26_Fair.f k a0 a1 a2) (distaffref26_Fair.f (k + 1) a0 a1 a2) := by
  intro a0 a1 a2 k
  obtain ⟨ih0, ih1, ih2, ih3, ih4, ih5⟩ := distaffref26_Fair.mono_l k
  unfold distaffref26_Fair.f
  repeat' first
      | (with_reducible exact ih0 _ _ _ _ _)
      | (with_reducible exact ih1 _ _ _ _ _)
      | (with_reducible exact ih2 _ _ _ _ _)
      | (with_reducible exact ih3 _ _ _ _ _ _)
      | (with_reducible exact ih4 _ _ _ _ _)
      | (with_reducible exact ih5 _ _ _ _ _ _ _)
      | (with_reducible exact LeO.refl _)
      | (with_reducible exact LeO.none _)
      | (with_reducible refine LeO.ite ?_ ?_)
      | (with_reducible refine LeO.bind ?_ (fun _ => ?_))
      | exact ih0 _ _ _ _ _
      | exact ih1 _ _ _ _ _
      | exact ih2 _ _ _ _ _
      | exact ih3 _ _ _ _ _ _
      | exact ih4 _ _ _ _ _
      | exact ih5 _ _ _ _ _ _ _
      | exact LeO.none _
      | refine LeO.ite ?_ ?_
      | refine LeO.bind ?_ (fun _ => ?_)
set_option maxHeartbeats 8000000 in
set_option maxRecDepth 100000 in
theorem distaffref26_Fair.calls (k : Nat) (a0 : Int) (A1 : Option Addr) (c1 : Nat) (l1 : List (S34)) (a2 : Int) (r : Bool) (w : World) (hr1 : Kd.C k34 w A1 l1.length l1) (hc1 : l1.length ≤ c1) (h : distaffref26_Fair.f k a0 l1 a2 = some r) :
    Calls Try.prog 11 #[.int .i64 a0, .slice A1 l1.length c1, .int .i64 a2] w fun e w' => e = .returned (.bool r) ∧ Below w.heap.size w w' := by
  have HR1 := Aside0.mk hr1
  have HC1 := Aside0.mk hc1
  clear hr1 hc1
  have HB := Aside0.mk (Below.refl w.heap.size w)
  have H : (if a2 < 1 then (some false) else (if a0 > (l1.length : Int) then (some (decide ((l1.length : Int) < a2))) else (if 0 ≤ (mx 0 a0) then (if (mx 0 a0 : Int).toNat ≤ 35184372088832 then (distaffref26_Fair.l0 k l1 a2 (List.replicate (mx 0 a0 : Int).toNat 0) (-1) 0) else (none)) else (none)))) = some r := h
  clear h
  by_cases c4 : a2 < 1
  · rw [if_pos c4] at H
    have c4b0 : decide (a2 < 1) = true := decide_eq_true c4
    clear c4
    obtain rfl := Option.some.inj H
    go_enter Try.func11, Try.ntmps11
    go_wp2
    go_ret
    exact ⟨by first | rfl | (simp [errW_none, errW_some] <;> rfl) | (simp [*, errW_none, errW_some] <;> rfl), by repeat (first | (with_reducible first | exact HB.out | apply below_alloc | apply pw_below_drewN | apply below_drew1) | exact HB.out)⟩
  · rw [if_neg c4] at H
    have c4b0 : decide (a2 < 1) = false := decide_eq_false c4
    clear c4
    by_cases c5 : a0 > (l1.length : Int)
    · rw [if_pos c5] at H
      have c5b0 : decide ((l1.length : Int) < a0) = true := decide_eq_true c5
      clear c5
      obtain rfl := Option.some.inj H
      go_enter Try.func11, Try.ntmps11
      go_wp2
      go_ret
      exact ⟨by first | rfl | (simp [errW_none, errW_some] <;> rfl) | (simp [*, errW_none, errW_some] <;> rfl), by repeat (first | (with_reducible first | exact HB.out | apply below_alloc | apply pw_below_drewN | apply below_drew1) | exact HB.out)⟩
    · rw [if_neg c5] at H
      have c5b0 : decide ((l1.length : Int) < a0) = false := decide_eq_false c5
      clear c5
      obtain ⟨ji6, hji6⟩ : ∃ j_ : Int, (mx 0 a0) = j_ := ⟨_, rfl⟩
      replace H : (if 0 ≤ (ji6) then (if (ji6 : Int).toNat ≤ 35184372088832 then (distaffref26_Fair.l0 k l1 a2 (List.replicate (ji6 : Int).toNat 0) (-1) 0) else (none)) else (none)) = some r := by first | (rw [hji6] at H; exact H) | (simp only [hji6] at H ⊢; exact H)
      (try (have hji6l : 0 ≤ ji6 := by (rw [← hji6]; unfold mx; (repeat' split) <;> omega)))
      (try (have hji6m : 0 ≤ ji6 := by omega))
      have hji6_ : (if 0 < a0 then a0 else 0) = ji6 := hji6
      by_cases c7 : 0 ≤ (ji6)
      · rw [if_pos c7] at H
        have c7b0 := eq_true c7
        have c7b1 : decide (0 ≤ (ji6)) = true := decide_eq_true c7
        clear c7
        by_cases c8 : (ji6 : Int).toNat ≤ 35184372088832
        · rw [if_pos c8] at H
          have c8b0 := eq_true c8
          have c8b1 : decide ((ji6 : Int).toNat ≤ 35184372088832) = true := decide_eq_true c8
          clear c8
          obtain ⟨y155, hy155⟩ : ∃ y_ : List Int, y_ = (List.replicate (ji6 : Int).toNat 0) := ⟨_, rfl⟩
          replace H : (distaffref26_Fair.l0 k l1 a2 y155 (-1) 0) = some r := by first | (rw [hy155]; with_reducible exact H) | (have H2_ := (Option.bind_some _ _).symm.trans H; rw [hy155]; with_reducible exact H2_) | (have H2_ := (Option.bind_some _ _).symm.trans H; with_reducible exact H2_) | with_reducible exact H | (rw [hy155]; exact H) | exact H
          have Ny155 := Aside0.mk hy155
          clear hy155
          have H' := Aside0.mk H
          clear H
          go_enter Try.func11, Try.ntmps11
          go_wp2_with (first | ((with_reducible refine gate_dst (N := 25) rfl ?_); (try (refine gate_guard (by rfl) ?_; dsimp only)); refine Kd.R_make (Kd.int .i64) _ 3 rfl (N := 25) rfl 32 _ _ rfl ji6 rfl rfl Try.underlying32 (.int .i64 0) 8 info3 rfl (by decide) (by omega) 0 (ok := fun _ => True) (okp := fun _ => True) rfl (fun _ hk => hk) trivial (of_decide_eq_true (by first | (with_reducible assumption) | assumption)) (Nat.le_trans (Nat.mul_le_mul_right _ (of_decide_eq_true (by first | (with_reducible assumption) | assumption) : ji6.toNat ≤ 35184372088832)) (by omega)) (Below.refl _ _) (Nat.le_refl _) ?_; intro v156 w9 ho10 hb hg_ hnew_; clear hg_ hnew_; (first | rw [← Ny155.out] at ho10 | (simp only [Int.reduceToNat] at ho10; rw [← Ny155.out] at ho10)); have n0_ := Aside0.mk (Kd.R_lower ho10 (below_size (by repeat (first | (with_reducible first | exact HB.out | apply below_alloc | apply pw_below_drewN | apply below_drew1) | exact HB.out)))); have n1_ := Aside0.mk (below_step (by repeat (first | (with_reducible first | exact HB.out | apply below_alloc | apply pw_below_drewN | apply below_drew1) | exact HB.out)) hb); clear HB; have HO157 := n0_; have HB := n1_; clear n0_ n1_; clear hb ho10))
          go_loopg [9] k (fun kq v9 w' => ∃ (x7_1 : List Int) (x9_1 : Int), v9 = .int .i64 x9_1 ∧ Aside0 (distaffref26_Fair.l0 kq l1 a2 x7_1 (-1) x9_1 = some r) ∧ Aside0 (kq ≤ k) ∧ Aside0 (Kd.R (Kd.int .i64) 3 w' w.heap.size (fun _ => True) v156 x7_1) ∧ Aside0 (Below w.heap.size w w'))
          case atStart => exact ⟨(y155), (0), (by first | rfl | (simp; done) | (simp [*]; done)), H', ⟨Nat.le_refl _⟩, ⟨by (with_reducible repeat (first | apply Kd.R_alloc | apply Kd.R_drewN | apply Kd.R_drew)); exact HO157.out⟩, ⟨by repeat (first | (with_reducible first | exact HB.out | apply below_alloc | apply pw_below_drewN | apply below_drew1) | exact HB.out)⟩⟩
          case round =>
            clear H'
            try clear c1
            try clear p2
            try clear c4
            try clear c4b0
            try clear c5
            try clear c5b0
            try clear c7
            try clear c7b0
            try clear c7b1
            try clear c8
            try clear c8b0
            try clear c8b1
            obtain ⟨x7_1, x9_1, rfl, HA, HK1, HO_7, HB⟩ := hrel
            cases gk with
            | zero => exact absurd HA.out (by simp [distaffref26_Fair.l0])
            | succ k1 =>
              have H := HA.out
              clear HA
              simp only [distaffref26_Fair.l0] at H
              by_cases c11 : x9_1 < (x7_1.length : Int)
              · rw [if_pos c11] at H
                have c11b0 : decide (x9_1 < (x7_1.length : Int)) = true := decide_eq_true c11
                clear c11
                by_cases c12 : 0 ≤ x9_1
                · rw [if_pos c12] at H
                  have c12b0 : decide (0 ≤ x9_1) = true := decide_eq_true c12
                  clear c12
                  obtain ⟨y158, hy158⟩ : ∃ y_ : List Int, y_ = (x7_1.set (x9_1 : Int).toNat (-1)) := ⟨_, rfl⟩
                  replace H : (distaffref26_Fair.l0 k1 l1 a2 y158 (-1) (wrap64 (x9_1 + 1))) = some r := by first | (rw [hy158]; with_reducible exact H) | (have H2_ := (Option.bind_some _ _).symm.trans H; rw [hy158]; with_reducible exact H2_) | (have H2_ := (Option.bind_some _ _).symm.trans H; with_reducible exact H2_) | with_reducible exact H | (rw [hy158]; exact H) | exact H
                  have Ny158 := Aside0.mk hy158
                  clear hy158
                  have H' := Aside0.mk H
                  clear H
                  obtain ⟨Ao14, co14, eo14⟩ := Kd.R_slice HO_7.out
                  subst eo14
                  have p13 : 0 ≤ (x9_1 : Int) := of_decide_eq_true (by first | (with_reducible assumption) | assumption)
                  have q13 : (x9_1 : Int) < ((x7_1.length : Int) : Int) := of_decide_eq_true (by first | (with_reducible assumption) | assumption)
                  obtain ⟨go13, co13, eo13, gb13, gl13, cl13, HG13⟩ := Kd.R_form HO_7.out (by omega)
                  (first | cases eo13 | (injection eo13 with ea_ en_ ec_; (first | subst ea_ | (injection ea_ with ea_; subst ea_)); subst ec_; clear en_))
                  have GB13 := Aside0.mk gb13
                  have GG13 := Aside0.mk HG13
                  clear gb13 gl13 HG13
                  obtain ⟨hx13_0, hf13_0⟩ := Kd.R_celln 0 HO_7.out (x9_1 : Int) p13 q13
                  replace p13 := eq_true p13
                  replace q13 := eq_true q13
                  have HP15 := Kd.R_putg HO_7.out (x9_1 : Int) (-1)
                  go_wp2_with (first | ((with_reducible refine gate_store (t := 3) (p := 34) rfl ?_); refine store_event (t := 3) (p := 34) (v := ?vo_w16) (w1 := (wr.setCell ⟨go13, (x9_1 : Int).toNat, none⟩ (.int .i64 (-1)))) ?hg ?ho ?hn ?hr ?_; (case ho => rfl); (case hg => rfl); (case hn => rfl); (case hr => first | (go_simp; done) | (go_simp; rfl)); intro w16 hw; have hg : wr.grownBy w16 (some go13) := (by rw [hw]; exact HP15.2); have hp_ : Kd.R (Kd.int .i64) 3 w16 w.heap.size (fun _ => True) (.slice (some ⟨go13, 0, none⟩) x7_1.length co14) y158 := (by rw [hw, Ny158.out]; exact HP15.1); clear HP15; have n0_ := Aside0.mk (hp_); have n1_ := Aside0.mk ((by rw [hw]; exact below_set (HB.out) GB13.out : Below w.heap.size w w16)); clear HO_7; clear HB; have HO_7 := n0_; have HB := n1_; clear n0_ n1_; clear hg hw hp_))
                  go_roundg k1
                  case measure => have := HK1.out; omega
                  case rel => exact ⟨(y158), (wrap64 (x9_1 + 1)), (by first | rfl | (simp; done) | (simp [*]; done)), H', ⟨by have := HK1.out; omega⟩, ⟨by (with_reducible repeat (first | apply Kd.R_alloc | apply Kd.R_drewN | apply Kd.R_drew)); exact HO_7.out⟩, ⟨by repeat (first | (with_reducible first | exact HB.out | apply below_alloc | apply pw_below_drewN | apply below_drew1) | exact HB.out)⟩⟩
                · rw [if_neg c12] at H
                  exact absurd H (by simp)
              · rw [if_neg c11] at H
                have c11b0 : decide (x9_1 < (x7_1.length : Int)) = false := decide_eq_false c11
                clear c11
                have H' := Aside0.mk H
                clear H
                obtain ⟨Ao17, co17, eo17⟩ := Kd.R_slice HO_7.out
                subst eo17
                go_wp2
                go_loopg [8, 10] k1 (fun kq v8 v10 w' => ∃ (x7_2 : List Int) (x8_2 : Int) (x10_2 : Int), v8 = .int .i64 x8_2 ∧ v10 = .int .i64 x10_2 ∧ Aside0 (distaffref26_Fair.l1 kq l1 a2 x7_2 x8_2 x10_2 = some r) ∧ Aside0 (kq ≤ k1) ∧ Aside0 (Kd.R (Kd.int .i64) 3 w' w.heap.size (fun _ => True) (.slice Ao17 x7_1.length co17) x7_2) ∧ Aside0 (Below w.heap.size w w'))
                case atStart => exact ⟨(x7_1), ((-1)), (0), (by first | rfl | (simp; done) | (simp [*]; done)), (by first | rfl | (simp; done) | (simp [*]; done)), H', ⟨Nat.le_refl _⟩, ⟨by (with_reducible repeat (first | apply Kd.R_alloc | apply Kd.R_drewN | apply Kd.R_drew)); exact HO_7.out⟩, ⟨by repeat (first | (with_reducible first | exact HB.out | apply below_alloc | apply pw_below_drewN | apply below_drew1) | exact HB.out)⟩⟩
                case round =>
                  clear H'
                  try clear c1
                  try clear p1
                  try clear q1
                  try clear hx1
                  try clear p2
                  try clear c4
                  try clear c4b0
                  try clear c5
                  try clear c5b0
                  try clear p6
                  try clear c7
                  try clear c7b0
                  try clear c7b1
                  try clear c8
                  try clear c8b0
                  try clear c8b1
                  try clear c11
                  try clear c11b0
                  try clear c12
                  try clear c12b0
                  try clear p13
                  try clear q13
                  try clear hx13
                  try clear hf13
                  try clear hx13_0
                  try clear p13
                  try clear p2
                  try clear q13
                  obtain ⟨x7_2, x8_2, x10_2, rfl, rfl, HA, HK2, HO_7, HB⟩ := hrel
                  have hl7_2 := (Kd.R_reads' HO_7.out).1
                  rw [hl7_2] at HO_7
                  (try simp only [hl7_2])
                  cases gk with
                  | zero => exact absurd HA.out (by simp [distaffref26_Fair.l1])
                  | succ k2 =>
                    have H := HA.out
                    clear HA
                    simp only [distaffref26_Fair.l1] at H
                    by_cases c18 : x10_2 < (l1.length : Int)
                    · rw [if_pos c18] at H
                      have c18b0 : decide (x10_2 < (l1.length : Int)) = true := decide_eq_true c18
                      clear c18
                      by_cases c19 : 0 ≤ x10_2
                      · rw [if_pos c19] at H
                        have c19b0 : decide (0 ≤ x10_2) = true := decide_eq_true c19
                        clear c19
                        have HC20 := Aside0.mk H
                        clear H
                        have p159 : 0 ≤ (x10_2 : Int) := of_decide_eq_true (by first | (with_reducible assumption) | assumption)
                        have q159 : x10_2 < (l1.length : Int) := of_decide_eq_true (by first | (with_reducible assumption) | assumption)
                        obtain ⟨ad159, e159, hx159_0, hx159_1, hx159_2⟩ := at_T34 HR1.out x10_2 p159 q159
                        cases e159
                        replace hx159_0 := (HB.out.cell (World.block_lt_of_cell? w _ hx159_0)).trans hx159_0
                        replace hx159_1 := (HB.out.cell (World.block_lt_of_cell? w _ hx159_1)).trans hx159_1
                        replace hx159_2 := (HB.out.cell (World.block_lt_of_cell? w _ hx159_2)).trans hx159_2
                        replace p159 := eq_true p159
                        replace q159 := eq_true q159
                        go_upto_if 46 with (fail)
                        go_cut [8] (fun v8 wc => ∃ (kq : Nat) (x8_19 : Int), v8 = .int .i64 x8_19 ∧ Aside0 (distaffref26_Fair.j2 kq l1 a2 x7_2 x8_19 x10_2 = some r) ∧ Aside0 (kq ≤ k2) ∧ Aside0 (Kd.R (Kd.int .i64) 3 wc w.heap.size (fun _ => True) (.slice Ao17 x7_2.length co17) x7_2) ∧ Aside0 (Below w.heap.size w wc))
                        case first =>
                          have H := HC20.out
                          clear HC20
                          by_cases c21 : ((rd_T34 l1 x10_2).f0) = 2
                          · rw [if_pos c21] at H
                            have c21b0 : (((rd_T34 l1 x10_2).f0) == 2) = true := beq_iff_eq.mpr c21
                            have c21b1 : (((rd_T34 l1 x10_2).f0) != 2) = false := bne_eq_false_iff_eq.mpr c21
                            clear c21
                            (first | rw [c21b0] | (simp only [i64_w, i32_w]; rw [c21b0]) | skip)
                            have H' := Aside0.mk H
                            clear H
                            go_wp2
                            go_meet
                            case rel => exact ⟨_, (x10_2), (by first | rfl | (simp; done) | (simp [*]; done)), H', ⟨by have := HK1.out; have := HK2.out; first | omega | exact Nat.le_refl _⟩, ⟨by (try simp only [hl7_2]); (with_reducible repeat (first | apply Kd.R_alloc | apply Kd.R_drewN | apply Kd.R_drew)); exact HO_7.out⟩, ⟨by repeat (first | (with_reducible first | exact HB.out | apply below_alloc | apply pw_below_drewN | apply below_drew1) | exact HB.out)⟩⟩
                          · rw [if_neg c21] at H
                            have c21b0 : (((rd_T34 l1 x10_2).f0) == 2) = false := beq_eq_false_iff_ne.mpr c21
                            have c21b1 : (((rd_T34 l1 x10_2).f0) != 2) = true := bne_iff_ne.mpr c21
                            (first | rw [c21b0] | (simp only [i64_w, i32_w]; rw [c21b0]) | skip)
                            have H' := Aside0.mk H
                            clear H
                            go_wp2
                            go_meet
                            case rel => exact ⟨_, (x8_2), (by first | rfl | (simp; done) | (simp [*]; done)), H', ⟨by have := HK1.out; have := HK2.out; first | omega | exact Nat.le_refl _⟩, ⟨by (try simp only [hl7_2]); (with_reducible repeat (first | apply Kd.R_alloc | apply Kd.R_drewN | apply Kd.R_drew)); exact HO_7.out⟩, ⟨by repeat (first | (with_reducible first | exact HB.out | apply below_alloc | apply pw_below_drewN | apply below_drew1) | exact HB.out)⟩⟩
                        case rest =>
                          clear HC20
                          try clear c1
                          try clear p1
                          try clear q1
                          try clear hx1
                          try clear c2
                          try clear p2
                          try clear c4
                          try clear c4b0
                          try clear c5
                          try clear c5b0
                          try clear p6
                          try clear c7
                          try clear c7b0
                          try clear c7b1
                          try clear c8
                          try clear c8b0
                          try clear c8b1
                          try clear c11
                          try clear c11b0
                          try clear c12
                          try clear c12b0
                          try clear p13
                          try clear q13
                          try clear hx13
                          try clear hf13
                          try clear p15
                          try clear q15
                          try clear hx15
                          try clear c18
                          try clear c18b0
                          try clear c19
                          try clear c19b0
                          try clear c21
                          try clear c21b0
                          try clear c21b1
                          try clear hx13_0
                          try clear hx159_0
                          try clear hx159_1
                          try clear hx159_2
                          try clear p1
                          try clear p13
                          try clear p159
                          try clear p2
                          try clear p6
                          try clear q1
                          try clear q13
                          try clear q159
                          obtain ⟨kq, x8_19, rfl, HA, HJ19, HO_7, HB⟩ := hcut
                          cases kq with
                          | zero => exact absurd HA.out (by simp [distaffref26_Fair.j2])
                          | succ kj19 =>
                            have H := HA.out
                            clear HA
                            simp only [distaffref26_Fair.j2] at H
                            have HC22 := Aside0.mk H
                            clear H
                            go_upto_region 16 with (fail)
                            go_cut [71] (fun v71 wc => ∃ (kq : Nat) (x71_21 : Bool), v71 = .bool x71_21 ∧ Aside0 (distaffref26_Fair.j3 kq l1 a2 x7_2 x8_19 x10_2 x71_21 = some r) ∧ Aside0 (kq ≤ kj19) ∧ Aside0 (Kd.R (Kd.int .i64) 3 wc w.heap.size (fun _ => True) (.slice Ao17 x7_2.length co17) x7_2) ∧ Aside0 (Below w.heap.size w wc))
                            case first =>
                              have H := HC22.out
                              clear HC22
                              by_cases c23 : 0 ≤ x10_2
                              · rw [if_pos c23] at H
                                have c23b0 : decide (0 ≤ x10_2) = true := decide_eq_true c23
                                clear c23
                                (first | rw [c23b0] | (simp only [i64_w, i32_w]; rw [c23b0]) | skip)
                                by_cases c24 : x10_2 < (l1.length : Int)
                                · rw [if_pos c24] at H
                                  have c24b0 : decide (x10_2 < (l1.length : Int)) = true := decide_eq_true c24
                                  clear c24
                                  by_cases c25 : ((rd_T34 l1 x10_2).f0) = 1
                                  · rw [if_pos c25] at H
                                    have c25b0 : (((rd_T34 l1 x10_2).f0) == 1) = true := beq_iff_eq.mpr c25
                                    have c25b1 : (((rd_T34 l1 x10_2).f0) != 1) = false := bne_eq_false_iff_eq.mpr c25
                                    clear c25
                                    by_cases c26 : ((rd_T34 l1 x10_2).f1) ≥ 0
                                    · rw [if_pos c26] at H
                                      have c26b0 : decide (0 ≤ ((rd_T34 l1 x10_2).f1)) = true := decide_eq_true c26
                                      clear c26
                                      have H' := Aside0.mk H
                                      clear H
                                      have p160 : 0 ≤ (x10_2 : Int) := of_decide_eq_true (by first | (with_reducible assumption) | assumption)
                                      have q160 : x10_2 < (l1.length : Int) := of_decide_eq_true (by first | (with_reducible assumption) | assumption)
                                      obtain ⟨ad160, e160, hx160_0, hx160_1, hx160_2⟩ := at_T34 HR1.out x10_2 p160 q160
                                      obtain rfl : ad159 = ad160 := (by injection e160)
                                      replace hx160_0 := (HB.out.cell (World.block_lt_of_cell? w _ hx160_0)).trans hx160_0
                                      replace hx160_1 := (HB.out.cell (World.block_lt_of_cell? w _ hx160_1)).trans hx160_1
                                      replace hx160_2 := (HB.out.cell (World.block_lt_of_cell? w _ hx160_2)).trans hx160_2
                                      replace p160 := eq_true p160
                                      replace q160 := eq_true q160
                                      have p161 : 0 ≤ (x10_2 : Int) := of_decide_eq_true (by first | (with_reducible assumption) | assumption)
                                      have q161 : x10_2 < (l1.length : Int) := of_decide_eq_true (by first | (with_reducible assumption) | assumption)
                                      obtain ⟨ad161, e161, hx161_0, hx161_1, hx161_2⟩ := at_T34 HR1.out x10_2 p161 q161
                                      obtain rfl : ad159 = ad161 := (by injection e161)
                                      replace hx161_0 := (HB.out.cell (World.block_lt_of_cell? w _ hx161_0)).trans hx161_0
                                      replace hx161_1 := (HB.out.cell (World.block_lt_of_cell? w _ hx161_1)).trans hx161_1
                                      replace hx161_2 := (HB.out.cell (World.block_lt_of_cell? w _ hx161_2)).trans hx161_2
                                      replace p161 := eq_true p161
                                      replace q161 := eq_true q161
                                      have p162 : 0 ≤ (x10_2 : Int) := of_decide_eq_true (by first | (with_reducible assumption) | assumption)
                                      have q162 : x10_2 < (l1.length : Int) := of_decide_eq_true (by first | (with_reducible assumption) | assumption)
                                      obtain ⟨ad162, e162, hx162_0, hx162_1, hx162_2⟩ := at_T34 HR1.out x10_2 p162 q162
                                      obtain rfl : ad159 = ad162 := (by injection e162)
                                      replace hx162_0 := (HB.out.cell (World.block_lt_of_cell? w _ hx162_0)).trans hx162_0
                                      replace hx162_1 := (HB.out.cell (World.block_lt_of_cell? w _ hx162_1)).trans hx162_1
                                      replace hx162_2 := (HB.out.cell (World.block_lt_of_cell? w _ hx162_2)).trans hx162_2
                                      replace p162 := eq_true p162
                                      replace q162 := eq_true q162
                                      go_wp2
                                      go_meet
                                      case rel => exact ⟨_, (decide (((rd_T34 l1 x10_2).f1) < (x7_2.length : Int))), (by first | rfl | (simp; done) | (simp [*]; done)), H', ⟨by have := HK1.out; have := HK2.out; have := HJ19.out; first | omega | exact Nat.le_refl _⟩, ⟨by (try simp only [hl7_2]); (with_reducible repeat (first | apply Kd.R_alloc | apply Kd.R_drewN | apply Kd.R_drew)); exact HO_7.out⟩, ⟨by repeat (first | (with_reducible first | exact HB.out | apply below_alloc | apply pw_below_drewN | apply below_drew1) | exact HB.out)⟩⟩
                                    · rw [if_neg c26] at H
                                      have c26b0 : decide (0 ≤ ((rd_T34 l1 x10_2).f1)) = false := decide_eq_false c26
                                      clear c26
                                      have H' := Aside0.mk H
                                      clear H
                                      have p160 : 0 ≤ (x10_2 : Int) := of_decide_eq_true (by first | (with_reducible assumption) | assumption)
                                      have q160 : x10_2 < (l1.length : Int) := of_decide_eq_true (by first | (with_reducible assumption) | assumption)
                                      obtain ⟨ad160, e160, hx160_0, hx160_1, hx160_2⟩ := at_T34 HR1.out x10_2 p160 q160
                                      obtain rfl : ad159 = ad160 := (by injection e160)
                                      replace hx160_0 := (HB.out.cell (World.block_lt_of_cell? w _ hx160_0)).trans hx160_0
                                      replace hx160_1 := (HB.out.cell (World.block_lt_of_cell? w _ hx160_1)).trans hx160_1
                                      replace hx160_2 := (HB.out.cell (World.block_lt_of_cell? w _ hx160_2)).trans hx160_2
                                      replace p160 := eq_true p160
                                      replace q160 := eq_true q160
                                      have p161 : 0 ≤ (x10_2 : Int) := of_decide_eq_true (by first | (with_reducible assumption) | assumption)
                                      have q161 : x10_2 < (l1.length : Int) := of_decide_eq_true (by first | (with_reducible assumption) | assumption)
                                      obtain ⟨ad161, e161, hx161_0, hx161_1, hx161_2⟩ := at_T34 HR1.out x10_2 p161 q161
                                      obtain rfl : ad159 = ad161 := (by injection e161)
                                      replace hx161_0 := (HB.out.cell (World.block_lt_of_cell? w _ hx161_0)).trans hx161_0
                                      replace hx161_1 := (HB.out.cell (World.block_lt_of_cell? w _ hx161_1)).trans hx161_1
                                      replace hx161_2 := (HB.out.cell (World.block_lt_of_cell? w _ hx161_2)).trans hx161_2
                                      replace p161 := eq_true p161
                                      replace q161 := eq_true q161
                                      go_wp2
                                      go_meet
                                      case rel => exact ⟨_, (false), (by first | rfl | (simp; done) | (simp [*]; done)), H', ⟨by have := HK1.out; have := HK2.out; have := HJ19.out; first | omega | exact Nat.le_refl _⟩, ⟨by (try simp only [hl7_2]); (with_reducible repeat (first | apply Kd.R_alloc | apply Kd.R_drewN | apply Kd.R_drew)); exact HO_7.out⟩, ⟨by repeat (first | (with_reducible first | exact HB.out | apply below_alloc | apply pw_below_drewN | apply below_drew1) | exact HB.out)⟩⟩
                                  · rw [if_neg c25] at H
                                    have c25b0 : (((rd_T34 l1 x10_2).f0) == 1) = false := beq_eq_false_iff_ne.mpr c25
                                    have c25b1 : (((rd_T34 l1 x10_2).f0) != 1) = true := bne_iff_ne.mpr c25
                                    have H' := Aside0.mk H
                                    clear H
                                    have p160 : 0 ≤ (x10_2 : Int) := of_decide_eq_true (by first | (with_reducible assumption) | assumption)
                                    have q160 : x10_2 < (l1.length : Int) := of_decide_eq_true (by first | (with_reducible assumption) | assumption)
                                    obtain ⟨ad160, e160, hx160_0, hx160_1, hx160_2⟩ := at_T34 HR1.out x10_2 p160 q160
                                    obtain rfl : ad159 = ad160 := (by injection e160)
                                    replace hx160_0 := (HB.out.cell (World.block_lt_of_cell? w _ hx160_0)).trans hx160_0
                                    replace hx160_1 := (HB.out.cell (World.block_lt_of_cell? w _ hx160_1)).trans hx160_1
                                    replace hx160_2 := (HB.out.cell (World.block_lt_of_cell? w _ hx160_2)).trans hx160_2
                                    replace p160 := eq_true p160
                                    replace q160 := eq_true q160
                                    go_wp2
                                    go_meet
                                    case rel => exact ⟨_, (false), (by first | rfl | (simp; done) | (simp [*]; done)), H', ⟨by have := HK1.out; have := HK2.out; have := HJ19.out; first | omega | exact Nat.le_refl _⟩, ⟨by (try simp only [hl7_2]); (with_reducible repeat (first | apply Kd.R_alloc | apply Kd.R_drewN | apply Kd.R_drew)); exact HO_7.out⟩, ⟨by repeat (first | (with_reducible first | exact HB.out | apply below_alloc | apply pw_below_drewN | apply below_drew1) | exact HB.out)⟩⟩
                                · rw [if_neg c24] at H
                                  exact absurd H (by simp)
                              · rw [if_neg c23] at H
                                exact absurd H (by simp)
                            case rest =>
                              clear HC22
                              try clear c1
                              try clear p1
                              try clear q1
                              try clear hx1
                              try clear c2
                              try clear p2
                              try clear c4
                              try clear c4b0
                              try clear c5
                              try clear c5b0
                              try clear p6
                              try clear c7
                              try clear c7b0
                              try clear c7b1
                              try clear c8
                              try clear c8b0
                              try clear c8b1
                              try clear c11
                              try clear c11b0
                              try clear c12
                              try clear c12b0
                              try clear p13
                              try clear q13
                              try clear hx13
                              try clear hf13
                              try clear p15
                              try clear q15
                              try clear hx15
                              try clear p16
                              try clear q16
                              try clear hx16
                              try clear c18
                              try clear c18b0
                              try clear c19
                              try clear c19b0
                              try clear c21
                              try clear c21b0
                              try clear c21b1
                              try clear c23
                              try clear c23b0
                              try clear c24
                              try clear c24b0
                              try clear c25
                              try clear c25b0
                              try clear c25b1
                              try clear c26
                              try clear c26b0
                              try clear hx13_0
                              try clear hx159_0
                              try clear hx159_1
                              try clear hx159_2
                              try clear hx160_0
                              try clear hx160_1
                              try clear hx160_2
                              try clear hx161_0
                              try clear hx161_1
                              try clear hx161_2
                              try clear hx162_0
                              try clear hx162_1
                              try clear hx162_2
                              try clear p1
                              try clear p13
                              try clear p15
                              try clear p159
                              try clear p160
                              try clear p161
                              try clear p162
                              try clear p2
                              try clear p6
                              try clear q1
                              try clear q13
                              try clear q15
                              try clear q159
                              try clear q160
                              try clear q161
                              try clear q162
                              obtain ⟨kq, x71_21, rfl, HA, HJ21, HO_7, HB⟩ := hcut
                              cases kq with
                              | zero => exact absurd HA.out (by simp [distaffref26_Fair.j3])
                              | succ kj21 =>
                                have H := HA.out
                                clear HA
                                simp only [distaffref26_Fair.j3] at H
                                have HC27 := Aside0.mk H
                                clear H
                                go_upto_if 71 with (fail)
                                go_cut [] (fun wc => ∃ (kq : Nat) (x7_26 : List Int), Aside0 (distaffref26_Fair.j4 kq l1 a2 x7_26 x8_19 x10_2 = some r) ∧ Aside0 (kq ≤ kj21) ∧ Aside0 (Kd.R (Kd.int .i64) 3 wc w.heap.size (fun _ => True) (.slice Ao17 x7_2.length co17) x7_26) ∧ Aside0 (Below w.heap.size w wc))
                                case first =>
                                  have H := HC27.out
                                  clear HC27
                                  by_cases c28 : x71_21 = true
                                  · subst c28
                                    have H1 : (if 0 ≤ x10_2 then (if x10_2 < (l1.length : Int) then (if 0 ≤ ((rd_T34 l1 x10_2).f1) then (if ((rd_T34 l1 x10_2).f1) < (x7_2.length : Int) then (distaffref26_Fair.j4 kj21 l1 a2 (x7_2.set (((rd_T34 l1 x10_2).f1) : Int).toNat x10_2) x8_19 x10_2) else (none)) else (none)) else (none)) else (none)) = some r := by rw [if_pos rfl] at H; exact H
                                    clear H
                                    have H := H1
                                    clear H1
                                    by_cases c29 : 0 ≤ x10_2
                                    · rw [if_pos c29] at H
                                      have c29b0 : decide (0 ≤ x10_2) = true := decide_eq_true c29
                                      clear c29
                                      (first | rw [c29b0] | (simp only [i64_w, i32_w]; rw [c29b0]) | skip)
                                      by_cases c30 : x10_2 < (l1.length : Int)
                                      · rw [if_pos c30] at H
                                        have c30b0 : decide (x10_2 < (l1.length : Int)) = true := decide_eq_true c30
                                        clear c30
                                        by_cases c31 : 0 ≤ ((rd_T34 l1 x10_2).f1)
                                        · rw [if_pos c31] at H
                                          have c31b0 : decide (0 ≤ ((rd_T34 l1 x10_2).f1)) = true := decide_eq_true c31
                                          clear c31
                                          by_cases c32 : ((rd_T34 l1 x10_2).f1) < (x7_2.length : Int)
                                          · rw [if_pos c32] at H
                                            have c32b0 : decide (((rd_T34 l1 x10_2).f1) < (x7_2.length : Int)) = true := decide_eq_true c32
                                            clear c32
                                            obtain ⟨y164, hy164⟩ : ∃ y_ : List Int, y_ = (x7_2.set (((rd_T34 l1 x10_2).f1) : Int).toNat x10_2) := ⟨_, rfl⟩
                                            replace H : (distaffref26_Fair.j4 kj21 l1 a2 y164 x8_19 x10_2) = some r := by first | (rw [hy164]; with_reducible exact H) | (have H2_ := (Option.bind_some _ _).symm.trans H; rw [hy164]; with_reducible exact H2_) | (have H2_ := (Option.bind_some _ _).symm.trans H; with_reducible exact H2_) | with_reducible exact H | (rw [hy164]; exact H) | exact H
                                            have Ny164 := Aside0.mk hy164
                                            clear hy164
                                            have H' := Aside0.mk H
                                            clear H
                                            have p163 : 0 ≤ (x10_2 : Int) := of_decide_eq_true (by first | (with_reducible assumption) | assumption)
                                            have q163 : x10_2 < (l1.length : Int) := of_decide_eq_true (by first | (with_reducible assumption) | assumption)
                                            obtain ⟨ad163, e163, hx163_0, hx163_1, hx163_2⟩ := at_T34 HR1.out x10_2 p163 q163
                                            obtain rfl : ad159 = ad163 := (by injection e163)
                                            replace hx163_0 := (HB.out.cell (World.block_lt_of_cell? w _ hx163_0)).trans hx163_0
                                            replace hx163_1 := (HB.out.cell (World.block_lt_of_cell? w _ hx163_1)).trans hx163_1
                                            replace hx163_2 := (HB.out.cell (World.block_lt_of_cell? w _ hx163_2)).trans hx163_2
                                            replace p163 := eq_true p163
                                            replace q163 := eq_true q163
                                            have p33 : 0 ≤ (((rd_T34 l1 x10_2).f1) : Int) := of_decide_eq_true (by first | (with_reducible assumption) | assumption)
                                            have q33 : (((rd_T34 l1 x10_2).f1) : Int) < ((x7_2.length : Int) : Int) := of_decide_eq_true (by first | (with_reducible assumption) | assumption)
                                            obtain ⟨go33, co33, eo33, gb33, gl33, cl33, HG33⟩ := Kd.R_form HO_7.out (by omega)
                                            (first | cases eo33 | (injection eo33 with ea_ en_ ec_; (first | subst ea_ | (injection ea_ with ea_; subst ea_)); subst ec_; clear en_))
                                            have GB33 := Aside0.mk gb33
                                            have GG33 := Aside0.mk HG33
                                            clear gb33 gl33 HG33
                                            obtain ⟨hx33_0, hf33_0⟩ := Kd.R_celln 0 HO_7.out (((rd_T34 l1 x10_2).f1) : Int) p33 q33
                                            replace p33 := eq_true p33
                                            replace q33 := eq_true q33
                                            have HP34 := Kd.R_putg HO_7.out (((rd_T34 l1 x10_2).f1) : Int) x10_2
                                            go_wp2_with (first | ((with_reducible refine gate_store (t := 3) (p := 79) rfl ?_); refine store_event (t := 3) (p := 79) (v := ?vo_w35) (w1 := (wc.setCell ⟨go33, (((rd_T34 l1 x10_2).f1) : Int).toNat, none⟩ (.int .i64 x10_2))) ?hg ?ho ?hn ?hr ?_; (case ho => rfl); (case hg => rfl); (case hn => rfl); (case hr => first | (go_simp; done) | (go_simp; rfl)); intro w35 hw; have hg : wc.grownBy w35 (some go33) := (by rw [hw]; exact HP34.2); have hp_ : Kd.R (Kd.int .i64) 3 w35 w.heap.size (fun _ => True) (.slice (some ⟨go33, 0, none⟩) x7_2.length co17) y164 := (by rw [hw, Ny164.out]; exact HP34.1); clear HP34; have n0_ := Aside0.mk (hp_); have n1_ := Aside0.mk ((by rw [hw]; exact below_set (HB.out) GB33.out : Below w.heap.size w w35)); clear HO_7; clear HB; have HO_7 := n0_; have HB := n1_; clear n0_ n1_; clear hg hw hp_))
                                            go_meet
                                            case rel => exact ⟨_, (y164), H', ⟨by have := HK1.out; have := HK2.out; have := HJ19.out; have := HJ21.out; first | omega | exact Nat.le_refl _⟩, ⟨by (try simp only [hl7_2]); (with_reducible repeat (first | apply Kd.R_alloc | apply Kd.R_drewN | apply Kd.R_drew)); exact HO_7.out⟩, ⟨by repeat (first | (with_reducible first | exact HB.out | apply below_alloc | apply pw_below_drewN | apply below_drew1) | exact HB.out)⟩⟩
                                          · rw [if_neg c32] at H
                                            exact absurd H (by simp)
                                        · rw [if_neg c31] at H
                                          exact absurd H (by simp)
                                      · rw [if_neg c30] at H
                                        exact absurd H (by simp)
                                    · rw [if_neg c29] at H
                                      exact absurd H (by simp)
                                  · replace c28 := Bool.eq_false_iff.mpr c28
                                    subst c28
                                    have H1 : (distaffref26_Fair.j4 kj21 l1 a2 x7_2 x8_19 x10_2) = some r := by rw [if_neg (show ¬ (false = true) by decide)] at H; exact H
                                    clear H
                                    have H := H1
                                    clear H1
                                    have H' := Aside0.mk H
                                    clear H
                                    go_wp2
                                    go_meet
                                    case rel => exact ⟨_, (x7_2), H', ⟨by have := HK1.out; have := HK2.out; have := HJ19.out; have := HJ21.out; first | omega | exact Nat.le_refl _⟩, ⟨by (try simp only [hl7_2]); (with_reducible repeat (first | apply Kd.R_alloc | apply Kd.R_drewN | apply Kd.R_drew)); exact HO_7.out⟩, ⟨by repeat (first | (with_reducible first | exact HB.out | apply below_alloc | apply pw_below_drewN | apply below_drew1) | exact HB.out)⟩⟩
                                case rest =>
                                  clear HC27
                                  try clear c1
                                  try clear p1
                                  try clear q1
                                  try clear hx1
                                  try clear c2
                                  try clear p2
                                  try clear c3
                                  try clear p3
                                  try clear q3
                                  try clear hx3
                                  try clear hf3
                                  try clear c4
                                  try clear c4b0
                                  try clear c5
                                  try clear c5b0
                                  try clear p6
                                  try clear c7
                                  try clear c7b0
                                  try clear c7b1
                                  try clear c8
                                  try clear c8b0
                                  try clear c8b1
                                  try clear c11
                                  try clear c11b0
                                  try clear c12
                                  try clear c12b0
                                  try clear p13
                                  try clear q13
                                  try clear hx13
                                  try clear hf13
                                  try clear p15
                                  try clear q15
                                  try clear hx15
                                  try clear p16
                                  try clear q16
                                  try clear hx16
                                  try clear c18
                                  try clear c18b0
                                  try clear c19
                                  try clear c19b0
                                  try clear c21
                                  try clear c21b0
                                  try clear c21b1
                                  try clear c23
                                  try clear c23b0
                                  try clear c24
                                  try clear c24b0
                                  try clear c25
                                  try clear c25b0
                                  try clear c25b1
                                  try clear c26
                                  try clear c26b0
                                  try clear c28
                                  try clear c29
                                  try clear c29b0
                                  try clear c30
                                  try clear c30b0
                                  try clear c31
                                  try clear c31b0
                                  try clear c32
                                  try clear c32b0
                                  try clear p33
                                  try clear q33
                                  try clear hx33
                                  try clear hf33
                                  try clear hx13_0
                                  try clear hx159_0
                                  try clear hx159_1
                                  try clear hx159_2
                                  try clear hx160_0
                                  try clear hx160_1
                                  try clear hx160_2
                                  try clear hx161_0
                                  try clear hx161_1
                                  try clear hx161_2
                                  try clear hx162_0
                                  try clear hx162_1
                                  try clear hx162_2
                                  try clear hx163_0
                                  try clear hx163_1
                                  try clear hx163_2
                                  try clear hx33_0
                                  try clear p1
                                  try clear p13
                                  try clear p15
                                  try clear p159
                                  try clear p16
                                  try clear p160
                                  try clear p161
                                  try clear p162
                                  try clear p163
                                  try clear p2
                                  try clear p33
                                  try clear p6
                                  try clear q1
                                  try clear q13
                                  try clear q15
                                  try clear q159
                                  try clear q16
                                  try clear q160
                                  try clear q161
                                  try clear q162
                                  try clear q163
                                  try clear q33
                                  obtain ⟨kq, x7_26, HA, HJ26, HO_7, HB⟩ := hcut
                                  have hl7_26 := (Kd.R_reads' HO_7.out).1
                                  rw [hl7_26] at HO_7
                                  (try simp only [hl7_26])
                                  cases kq with
                                  | zero => exact absurd HA.out (by simp [distaffref26_Fair.j4])
                                  | succ kj26 =>
                                    have H := HA.out
                                    clear HA
                                    simp only [distaffref26_Fair.j4] at H
                                    by_cases c36 : (wrap64 (x10_2 + 1)) < a2
                                    · rw [if_pos c36] at H
                                      have c36b0 : decide ((wrap64 (x10_2 + 1)) < a2) = true := decide_eq_true c36
                                      clear c36
                                      have H' := Aside0.mk H
                                      clear H
                                      go_wp2
                                      (try simp only [← hl7_2, ← hl7_26])
                                      go_roundg kj26
                                      case measure => have := HK1.out; have := HK2.out; have := HJ19.out; have := HJ21.out; have := HJ26.out; omega
                                      case rel => exact ⟨(x7_26), (x8_19), (wrap64 (x10_2 + 1)), (by first | rfl | (simp; done) | (simp [*]; done)), (by first | rfl | (simp; done) | (simp [*]; done)), H', ⟨by have := HK1.out; have := HK2.out; have := HJ19.out; have := HJ21.out; have := HJ26.out; omega⟩, ⟨by (try simp only [hl7_2]); (try simp only [hl7_26]); (with_reducible repeat (first | apply Kd.R_alloc | apply Kd.R_drewN | apply Kd.R_drew)); exact HO_7.out⟩, ⟨by repeat (first | (with_reducible first | exact HB.out | apply below_alloc | apply pw_below_drewN | apply below_drew1) | exact HB.out)⟩⟩
                                    · rw [if_neg c36] at H
                                      have c36b0 : decide ((wrap64 (x10_2 + 1)) < a2) = false := decide_eq_false c36
                                      clear c36
                                      by_cases c37 : x8_19 < (wrap64 ((wrap64 (x10_2 + 1)) - a2))
                                      · rw [if_pos c37] at H
                                        have c37b0 : decide (x8_19 < (wrap64 ((wrap64 (x10_2 + 1)) - a2))) = true := decide_eq_true c37
                                        clear c37
                                        obtain rfl := Option.some.inj H
                                        go_wp2
                                        go_ret
                                        exact ⟨by first | rfl | (simp [errW_none, errW_some] <;> rfl) | (simp only [← hji6]; first | rfl | (simp [errW_none, errW_some] <;> rfl)) | (simp [*, errW_none, errW_some] <;> rfl), by repeat (first | (with_reducible first | exact HB.out | apply below_alloc | apply pw_below_drewN | apply below_drew1) | exact HB.out)⟩
                                      · rw [if_neg c37] at H
                                        have c37b0 : decide (x8_19 < (wrap64 ((wrap64 (x10_2 + 1)) - a2))) = false := decide_eq_false c37
                                        clear c37
                                        have H' := Aside0.mk H
                                        clear H
                                        go_wp2
                                        go_loopg [12] kj26 (fun kq v12 w' => ∃ (x12_6 : Int), v12 = .int .i64 x12_6 ∧ Aside0 (distaffref26_Fair.l2 kq l1 a2 x7_26 x8_19 x10_2 (wrap64 ((wrap64 (x10_2 + 1)) - a2)) x12_6 = some r) ∧ Aside0 (kq ≤ kj26) ∧ Aside0 (Kd.R (Kd.int .i64) 3 w' w.heap.size (fun _ => True) (.slice Ao17 x7_26.length co17) x7_26) ∧ Aside0 (Below w.heap.size w w'))
                                        case atStart => exact ⟨(0), (by first | rfl | (simp; done) | (simp [*]; done)), H', ⟨Nat.le_refl _⟩, ⟨by (try simp only [hl7_2]); (try simp only [hl7_26]); (with_reducible repeat (first | apply Kd.R_alloc | apply Kd.R_drewN | apply Kd.R_drew)); exact HO_7.out⟩, ⟨by repeat (first | (with_reducible first | exact HB.out | apply below_alloc | apply pw_below_drewN | apply below_drew1) | exact HB.out)⟩⟩
                                        case round =>
                                          clear H'
                                          try clear c1
                                          try clear p1
                                          try clear q1
                                          try clear hx1
                                          try clear c2
                                          try clear p2
                                          try clear c3
                                          try clear p3
                                          try clear q3
                                          try clear hx3
                                          try clear hf3
                                          try clear c4
                                          try clear c4b0
                                          try clear c5
                                          try clear c5b0
                                          try clear p6
                                          try clear c7
                                          try clear c7b0
                                          try clear c7b1
                                          try clear c8
                                          try clear c8b0
                                          try clear c8b1
                                          try clear c11
                                          try clear c11b0
                                          try clear c12
                                          try clear c12b0
                                          try clear p13
                                          try clear q13
                                          try clear hx13
                                          try clear hf13
                                          try clear p15
                                          try clear q15
                                          try clear hx15
                                          try clear p16
                                          try clear q16
                                          try clear hx16
                                          try clear c18
                                          try clear c18b0
                                          try clear c19
                                          try clear c19b0
                                          try clear c21
                                          try clear c21b0
                                          try clear c21b1
                                          try clear c23
                                          try clear c23b0
                                          try clear c24
                                          try clear c24b0
                                          try clear c25
                                          try clear c25b0
                                          try clear c25b1
                                          try clear c26
                                          try clear c26b0
                                          try clear c28
                                          try clear c29
                                          try clear c29b0
                                          try clear c30
                                          try clear c30b0
                                          try clear c31
                                          try clear c31b0
                                          try clear c32
                                          try clear c32b0
                                          try clear p33
                                          try clear q33
                                          try clear hx33
                                          try clear hf33
                                          try clear c36
                                          try clear c36b0
                                          try clear c37
                                          try clear c37b0
                                          try clear hx13_0
                                          try clear hx159_0
                                          try clear hx159_1
                                          try clear hx159_2
                                          try clear hx160_0
                                          try clear hx160_1
                                          try clear hx160_2
                                          try clear hx161_0
                                          try clear hx161_1
                                          try clear hx161_2
                                          try clear hx162_0
                                          try clear hx162_1
                                          try clear hx162_2
                                          try clear hx163_0
                                          try clear hx163_1
                                          try clear hx163_2
                                          try clear hx33_0
                                          try clear p1
                                          try clear p13
                                          try clear p15
                                          try clear p159
                                          try clear p16
                                          try clear p160
                                          try clear p161
                                          try clear p162
                                          try clear p163
                                          try clear p2
                                          try clear p3
                                          try clear p33
                                          try clear p6
                                          try clear q1
                                          try clear q13
                                          try clear q15
                                          try clear q159
                                          try clear q16
                                          try clear q160
                                          try clear q161
                                          try clear q162
                                          try clear q163
                                          try clear q3
                                          try clear q33
                                          obtain ⟨x12_6, rfl, HA, HK6, HO_7, HB⟩ := hrel
                                          cases gk with
                                          | zero => exact absurd HA.out (by simp [distaffref26_Fair.l2])
                                          | succ k6 =>
                                            have H := HA.out
                                            clear HA
                                            simp only [distaffref26_Fair.l2] at H
                                            by_cases c38 : x12_6 < (x7_26.length : Int)
                                            · rw [if_pos c38] at H
                                              have c38b0 : decide (x12_6 < (x7_26.length : Int)) = true := decide_eq_true c38
                                              clear c38
                                              by_cases c39 : 0 ≤ x12_6
                                              · rw [if_pos c39] at H
                                                have c39b0 : decide (0 ≤ x12_6) = true := decide_eq_true c39
                                                clear c39
                                                by_cases c40 : (rd x7_26 x12_6) < (wrap64 ((wrap64 (x10_2 + 1)) - a2))
                                                · rw [if_pos c40] at H
                                                  have c40b0 : decide ((rd x7_26 x12_6) < (wrap64 ((wrap64 (x10_2 + 1)) - a2))) = true := decide_eq_true c40
                                                  clear c40
                                                  obtain rfl := Option.some.inj H
                                                  have p165 : 0 ≤ (x12_6 : Int) := of_decide_eq_true (by first | (with_reducible assumption) | assumption)
                                                  have q165 : x12_6 < (x7_26.length : Int) := of_decide_eq_true (by first | (with_reducible assumption) | assumption)
                                                  obtain ⟨ad165, e165, hx165_0⟩ := Kd.at_int (Kd.R_reads' HO_7.out).2.2 x12_6 p165 q165
                                                  cases e165
                                                  replace p165 := eq_true p165
                                                  replace q165 := eq_true q165
                                                  go_wp2
                                                  go_ret
                                                  exact ⟨by first | rfl | (simp [errW_none, errW_some] <;> rfl) | (simp only [← hji6]; first | rfl | (simp [errW_none, errW_some] <;> rfl)) | (simp [*, errW_none, errW_some] <;> rfl), by repeat (first | (with_reducible first | exact HB.out | apply below_alloc | apply pw_below_drewN | apply below_drew1) | exact HB.out)⟩
                                                · rw [if_neg c40] at H
                                                  have c40b0 : decide ((rd x7_26 x12_6) < (wrap64 ((wrap64 (x10_2 + 1)) - a2))) = false := decide_eq_false c40
                                                  clear c40
                                                  have H' := Aside0.mk H
                                                  clear H
                                                  have p165 : 0 ≤ (x12_6 : Int) := of_decide_eq_true (by first | (with_reducible assumption) | assumption)
                                                  have q165 : x12_6 < (x7_26.length : Int) := of_decide_eq_true (by first | (with_reducible assumption) | assumption)
                                                  obtain ⟨ad165, e165, hx165_0⟩ := Kd.at_int (Kd.R_reads' HO_7.out).2.2 x12_6 p165 q165
                                                  cases e165
                                                  replace p165 := eq_true p165
                                                  replace q165 := eq_true q165
                                                  go_wp2
                                                  go_roundg k6
                                                  case measure => have := HK1.out; have := HK2.out; have := HJ19.out; have := HJ21.out; have := HJ26.out; have := HK6.out; omega
                                                  case rel => exact ⟨(wrap64 (x12_6 + 1)), (by first | rfl | (simp; done) | (simp [*]; done)), H', ⟨by have := HK1.out; have := HK2.out; have := HJ19.out; have := HJ21.out; have := HJ26.out; have := HK6.out; omega⟩, ⟨by (try simp only [hl7_2]); (try simp only [hl7_26]); (with_reducible repeat (first | apply Kd.R_alloc | apply Kd.R_drewN | apply Kd.R_drew)); exact HO_7.out⟩, ⟨by repeat (first | (with_reducible first | exact HB.out | apply below_alloc | apply pw_below_drewN | apply below_drew1) | exact HB.out)⟩⟩
                                              · rw [if_neg c39] at H
                                                exact absurd H (by simp)
                                            · rw [if_neg c38] at H
                                              have c38b0 : decide (x12_6 < (x7_26.length : Int)) = false := decide_eq_false c38
                                              clear c38
                                              have H' := Aside0.mk H
                                              clear H
                                              go_wp2
                                              (try simp only [← hl7_2, ← hl7_26])
                                              go_roundg k6
                                              case measure => have := HK1.out; have := HK2.out; have := HJ19.out; have := HJ21.out; have := HJ26.out; have := HK6.out; omega
                                              case rel => exact ⟨(x7_26), (x8_19), (wrap64 (x10_2 + 1)), (by first | rfl | (simp; done) | (simp [*]; done)), (by first | rfl | (simp; done) | (simp [*]; done)), H', ⟨by have := HK1.out; have := HK2.out; have := HJ19.out; have := HJ21.out; have := HJ26.out; have := HK6.out; omega⟩, ⟨by (try simp only [hl7_2]); (try simp only [hl7_26]); (with_reducible repeat (first | apply Kd.R_alloc | apply Kd.R_drewN | apply Kd.R_drew)); exact HO_7.out⟩, ⟨by repeat (first | (with_reducible first | exact HB.out | apply below_alloc | apply pw_below_drewN | apply below_drew1) | exact HB.out)⟩⟩
                      · rw [if_neg c19] at H
                        exact absurd H (by simp)
                    · rw [if_neg c18] at H
                      have c18b0 : decide (x10_2 < (l1.length : Int)) = false := decide_eq_false c18
                      clear c18
                      obtain rfl := Option.some.inj H
                      go_wp2
                      go_ret
                      exact ⟨by first | rfl | (simp [errW_none, errW_some] <;> rfl) | (simp only [← hji6]; first | rfl | (simp [errW_none, errW_some] <;> rfl)) | (simp [*, errW_none, errW_some] <;> rfl), by repeat (first | (with_reducible first | exact HB.out | apply below_alloc | apply pw_below_drewN | apply below_drew1) | exact HB.out)⟩
        · rw [if_neg c8] at H
          exact absurd H (by simp)
      · rw [if_neg c7] at H
        exact absurd H (by simp)

end Go.Proofs.Ytjninhbdcllofaa.Fa
