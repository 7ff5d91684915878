import Derived.Test.YtjninhbdcllofaaFa0
namespace Go.Proofs.Ytjninhbdcllofaa.Fa
open Go.RowKit Go.Proofs.YtjninhbdcllofaaW.PrintWords Go.Proofs.YtjninhbdcllofaaW.PrintLast Go.Proofs.YtjninhbdcllofaaW.PrintMore
attribute [local go_sem] max2_int min2_int max_two min_two max_three min_three max_four min_four   -- for this text's walks alone
set_option linter.unusedVariables false
set_option linter.unusedSimpArgs false

/-! ### fair_Fair: function 10 -/
mutual
def fair_Fair.l0 : Nat → List (S34) → Int → Int → List Int → Int → Int → Option (Bool)
  | 0, _, _, _, _, _, _ => none
  | k + 1, x1, x2, x7, x8, x30, x31 => if x31 < x30 then (if 0 ≤ x31 then (if x31 < (x8.length : Int) then (fair_Fair.l0 k x1 x2 x7 (x8.set (x31 : Int).toNat (-1)) x30 (wrap64 (x31 + 1))) else (none)) else (none)) else (fair_Fair.l1 k x1 x2 x7 x8 x1 (x1.length : Int) 0)
def fair_Fair.l1 : Nat → List (S34) → Int → Int → List Int → List (S34) → Int → Int → Option (Bool)
  | 0, _, _, _, _, _, _, _ => none
  | k + 1, x1, x2, x7, x8, x38, x39, x40 => if x40 < x39 then (if 0 ≤ x40 then (if x40 < (x38.length : Int) then (if ((rd_T34 x38 x40).f0) = 1 then (if ((rd_T34 x38 x40).f1) ≥ 0 then (fair_Fair.j2 k x1 x2 x7 x8 x40 x7 x38 x39 x40 (decide (((rd_T34 x38 x40).f1) < x7)) ((rd_T34 x38 x40).f0) ((rd_T34 x38 x40).f1) ((rd_T34 x38 x40).f2)) else (fair_Fair.j2 k x1 x2 x7 x8 x40 x7 x38 x39 x40 false ((rd_T34 x38 x40).f0) ((rd_T34 x38 x40).f1) ((rd_T34 x38 x40).f2))) else (fair_Fair.j2 k x1 x2 x7 x8 x40 x7 x38 x39 x40 false ((rd_T34 x38 x40).f0) ((rd_T34 x38 x40).f1) ((rd_T34 x38 x40).f2))) else (none)) else (none)) else (fair_Fair.l2 k x1 x2 x8 (x8.length : Int) 0)
def fair_Fair.j2 : Nat → List (S34) → Int → Int → List Int → Int → Int → List (S34) → Int → Int → Bool → Int → Int → Int → Option (Bool)
  | 0, _, _, _, _, _, _, _, _, _, _, _, _, _ => none
  | k + 1, x1, x2, x7, x8, x10, x12, x38, x39, x40, x59, x107000, x107001, x107002 => if x59 = true then (if 0 ≤ x107001 then (if x107001 < (x8.length : Int) then (if (wrap64 (x10 - (rd x8 x107001))) > x2 then (some false) else (fair_Fair.l1 k x1 x2 x7 (x8.set (x107001 : Int).toNat x10) x38 x39 (wrap64 (x40 + 1)))) else (none)) else (none)) else (if x107000 = 2 then (if 0 ≤ x12 then (if x12 < (x8.length : Int) then (if (wrap64 (x10 - (rd x8 x12))) > x2 then (some false) else (fair_Fair.l1 k x1 x2 x7 (x8.set (x12 : Int).toNat x10) x38 x39 (wrap64 (x40 + 1)))) else (none)) else (none)) else (fair_Fair.l1 k x1 x2 x7 x8 x38 x39 (wrap64 (x40 + 1))))
def fair_Fair.l2 : Nat → List (S34) → Int → List Int → Int → Int → Option (Bool)
  | 0, _, _, _, _, _ => none
  | k + 1, x1, x2, x78, x79, x80 => if x80 < x79 then (if 0 ≤ x80 then (if x80 < (x78.length : Int) then (if (wrap64 ((x1.length : Int) - (rd x78 x80))) > x2 then (some false) else (fair_Fair.l2 k x1 x2 x78 x79 (wrap64 (x80 + 1)))) else (none)) else (none)) else (some true)
end
def fair_Fair.f (k : Nat) (a0 : Int) (l1 : List (S34)) (a2 : Int) : Option (Bool) := if a2 < 1 then (some false) else (if (l1.length : Int) < a2 then (some true) else (if (mx a0 0) ≥ a2 then (some false) else (if 0 ≤ (wrap64 ((mx a0 0) + 1)) then (if (wrap64 ((mx a0 0) + 1) : Int).toNat ≤ 35184372088832 then ((some (List.replicate (wrap64 ((mx a0 0) + 1) : Int).toNat 0 : List Int)).bind fun y101 => (fair_Fair.l0 k l1 a2 (mx a0 0) y101 (y101.length : Int) 0)) else (none)) else (none))))
theorem fair_Fair.mono_l : ∀ k, (∀ y0 y1 y2 y3 y4 y5, LeO (fair_Fair.l0 k y0 y1 y2 y3 y4 y5) (fair_Fair.l0 (k + 1) y0 y1 y2 y3 y4 y5)) ∧ (∀ y0 y1 y2 y3 y4 y5 y6, LeO (fair_Fair.l1 k y0 y1 y2 y3 y4 y5 y6) (fair_Fair.l1 (k + 1) y0 y1 y2 y3 y4 y5 y6)) ∧ (∀ y0 y1 y2 y3 y4 y5 y6 y7 y8 y9 y10 y11 y12, LeO (fair_Fair.j2 k y0 y1 y2 y3 y4 y5 y6 y7 y8 y9 y10 y11 y12) (fair_Fair.j2 (k + 1) y0 y1 y2 y3 y4 y5 y6 y7 y8 y9 y10 y11 y12)) ∧ (∀ y0 y1 y2 y3 y4, LeO (fair_Fair.l2 k y0 y1 y2 y3 y4) (fair_Fair.l2 (k + 1) y0 y1 y2 y3 y4))
  | 0 => ⟨fun _ _ _ _ _ _ r h => by simp [fair_Fair.l0] at h, fun _ _ _ _ _ _ _ r h => by simp [fair_Fair.l1] at h, fun _ _ _ _ _ _ _ _ _ _ _ _ _ r h => by simp [fair_Fair.j2] at h, fun _ _ _ _ _ r h => by simp [fair_Fair.l2] at h⟩
  | k + 1 => by
    obtain ⟨ih0, ih1, ih2, ih3⟩ := fair_Fair.mono_l k
    refine ⟨?_, ?_, ?_, ?_⟩
    · intro y0 y1 y2 y3 y4 y5
      unfold fair_Fair.l0
      repeat' first
      | (with_reducible exact ih0 _ _ _ _ _ _)
      | (with_reducible exact ih1 _ _ _ _ _ _ _)
      | (with_reducible exact ih2 _ _ _ _ _ _ _ _ _ _ _ _ _)
      | (with_reducible exact ih3 _ _ _ _ _)
      | (with_reducible exact LeO.refl _)
      | (with_reducible exact LeO.none _)
      | (with_reducible refine LeO.ite ?_ ?_)
      | (with_reducible refine LeO.bind ?_ (fun _ => ?_))
      | exact ih0 _ _ _ _ _ _
      | exact ih1 _ _ _ _ _ _ _
      | exact ih2 _ _ _ _ _ _ _ _ _ _ _ _ _
      | exact ih3 _ _ _ _ _
      | exact LeO.none _
      | refine LeO.ite ?_ ?_
      | refine LeO.bind ?_ (fun _ => ?_)
    · intro y0 y1 y2 y3 y4 y5 y6
      unfold fair_Fair.l1
      repeat' first
      | (with_reducible exact ih0 _ _ _ _ _ _)
      | (with_reducible exact ih1 _ _ _ _ _ _ _)
      | (with_reducible exact ih2 _ _ _ _ _ _ _ _ _ _ _ _ _)
      | (with_reducible exact ih3 _ _ _ _ _)
      | (with_reducible exact LeO.refl _)
      | (with_reducible exact LeO.none _)
      | (with_reducible refine LeO.ite ?_ ?_)
      | (with_reducible refine LeO.bind ?_ (fun _ => ?_))
      | exact ih0 _ _ _ _ _ _
      | exact ih1 _ _ _ _ _ _ _
      | exact ih2 _ _ _ _ _ _ _ _ _ _ _ _ _
      | exact ih3 _ _ _ _ _
      | exact LeO.none _
      | refine LeO.ite ?_ ?_
      | refine LeO.bind ?_ (fun _ => ?_)
    · intro y0 y1 y2 y3 y4 y5 y6 y7 y8 y9 y10 y11 y12
      unfold fair_Fair.j2
      repeat' first
      | (with_reducible exact ih0 _ _ _ _ _ _)
      | (with_reducible exact ih1 _ _ _ _ _ _ _)
      | (with_reducible exact ih2 _ _ _ _ _ _ _ _ _ _ _ _ _)
      | (with_reducible exact ih3 _ _ _ _ _)
      | (with_reducible exact LeO.refl _)
      | (with_reducible exact LeO.none _)
      | (with_reducible refine LeO.ite ?_ ?_)
      | (with_reducible refine LeO.bind ?_ (fun _ => ?_))
      | exact ih0 _ _ _ _ _ _
      | exact ih1 _ _ _ _ _ _ _
      | exact ih2 _ _ _ _ _ _ _ _ _ _ _ _ _
      | exact ih3 _ _ _ _ _
      | exact LeO.none _
      | refine LeO.ite ?_ ?_
      | refine LeO.bind ?_ (fun _ => ?_)
    · intro y0 y1 y2 y3 y4
      unfold fair_Fair.l2
      repeat' first
      | (with_reducible exact ih0 _ _ _ _ _ _)
      | (with_reducible exact ih1 _ _ _ _ _ _ _)
      | (with_reducible exact ih2 _ _ _ _ _ _ _ _ _ _ _ _ _)
      | (with_reducible exact ih3 _ _ _ _ _)
      | (with_reducible exact LeO.refl _)
      | (with_reducible exact LeO.none _)
      | (with_reducible refine LeO.ite ?_ ?_)
      | (with_reducible refine LeO.bind ?_ (fun _ => ?_))
      | exact ih0 _ _ _ _ _ _
      | exact ih1 _ _ _ _ _ _ _
      | exact ih2 _ _ _ _ _ _ _ _ _ _ _ _ _
      | exact ih3 _ _ _ _ _
      | exact LeO.none _
      | refine LeO.ite ?_ ?_
      | refine LeO.bind ?_ (fun _ => ?_)
theorem fair_Fair.mono : ∀ a0 a1 a2 k, LeO (fair_Fair.f k a0 a1 a2) (fair_Fair.f (k + 1) a0 a1 a2) := by
  intro a0 a1 a2 k
  obtain ⟨ih0, ih1, ih2, ih3⟩ := fair_Fair.mono_l k
  unfold fair_Fair.f
  repeat' first
      | (with_reducible exact ih0 _ _ _ _ _ _)
      | (with_reducible exact ih1 _ _ _ _ _ _ _)
      | (with_reducible exact ih2 _ _ _ _ _ _ _ _ _ _ _ _ _)
      | (with_reducible exact ih3 _ _ _ _ _)
      | (with_reducible exact LeO.refl _)
      | (with_reducible exact LeO.none _)
      | (with_reducible refine LeO.ite ?_ ?_)
      | (with_reducible refine LeO.bind ?_ (fun _ => ?_))
      | exact ih0 _ _ _ _ _ _
      | exact ih1 _ _ _ _ _ _ _
      | exact ih2 _ _ _ _ _ _ _ _ _ _ _ _ _
      | exact ih3 _ _ _ _ _
      | exact LeO.none _
      | refine LeO.ite ?_ ?_
      | refine LeO.bind ?_ (fun _ => ?_)
set_option maxHeartbeats 8000000 in
set_option maxRecDepth 100000 in
theorem fair_Fair.calls (k : Nat) (a0 : Int) (A1 : Option Addr) (c1 : Nat) (l1 : List (S34)) (a2 : Int) (r : Bool) (w : World) (hr1 : Kd.C k34 w A1 l1.length l1) (hc1 : l1.length ≤ c1) (h : fair_Fair.f k a0 l1 a2 = some r) :
    Calls Try.prog 10 #[.int .i64 a0, .slice A1 l1.length c1, .int .i64 a2] w fun e w' => e = .returned (.bool r) ∧ Below w.heap.size w w' := by
  have hu34 := Try.underlying34
  have HR1 := Aside0.mk hr1
  have HC1 := Aside0.mk hc1
  clear hr1 hc1
  have HB := Aside0.mk (Below.refl w.heap.size w)
  have H : (if a2 < 1 then (some false) else (if (l1.length : Int) < a2 then (some true) else (if (mx a0 0) ≥ a2 then (some false) else (if 0 ≤ (wrap64 ((mx a0 0) + 1)) then (if (wrap64 ((mx a0 0) + 1) : Int).toNat ≤ 35184372088832 then ((some (List.replicate (wrap64 ((mx a0 0) + 1) : Int).toNat 0 : List Int)).bind fun y101 => (fair_Fair.l0 k l1 a2 (mx a0 0) y101 (y101.length : Int) 0)) else (none)) else (none))))) = some r := h
  clear h
  by_cases c4 : a2 < 1
  · rw [if_pos c4] at H
    have c4b0 : decide (a2 < 1) = true := decide_eq_true c4
    clear c4
    obtain rfl := Option.some.inj H
    go_enter Try.func10, Try.ntmps10
    go_wp2
    go_ret
    exact ⟨by first | rfl | (simp [errW_none, errW_some] <;> rfl) | (simp [*, errW_none, errW_some] <;> rfl), by repeat (first | (with_reducible first | exact HB.out | apply below_alloc | apply pw_below_drewN | apply below_drew1) | exact HB.out)⟩
  · rw [if_neg c4] at H
    have c4b0 : decide (a2 < 1) = false := decide_eq_false c4
    clear c4
    by_cases c5 : (l1.length : Int) < a2
    · rw [if_pos c5] at H
      have c5b0 : decide ((l1.length : Int) < a2) = true := decide_eq_true c5
      clear c5
      obtain rfl := Option.some.inj H
      go_enter Try.func10, Try.ntmps10
      go_wp2
      go_ret
      exact ⟨by first | rfl | (simp [errW_none, errW_some] <;> rfl) | (simp [*, errW_none, errW_some] <;> rfl), by repeat (first | (with_reducible first | exact HB.out | apply below_alloc | apply pw_below_drewN | apply below_drew1) | exact HB.out)⟩
    · rw [if_neg c5] at H
      have c5b0 : decide ((l1.length : Int) < a2) = false := decide_eq_false c5
      clear c5
      obtain ⟨ji6, hji6⟩ : ∃ j_ : Int, (mx a0 0) = j_ := ⟨_, rfl⟩
      replace H : (if (ji6) ≥ a2 then (some false) else (if 0 ≤ (wrap64 ((ji6) + 1)) then (if (wrap64 ((ji6) + 1) : Int).toNat ≤ 35184372088832 then ((some (List.replicate (wrap64 ((ji6) + 1) : Int).toNat 0 : List Int)).bind fun y101 => (fair_Fair.l0 k l1 a2 ji6 y101 (y101.length : Int) 0)) else (none)) else (none))) = some r := by first | (rw [hji6] at H; exact H) | (simp only [hji6] at H ⊢; exact H)
      (try (have hji6l : 0 ≤ ji6 := by (rw [← hji6]; unfold mx; (repeat' split) <;> omega)))
      (try (have hji6m : 0 ≤ ji6 := by omega))
      have hji6_ : (if a0 < 0 then 0 else a0) = ji6 := hji6
      by_cases c7 : (ji6) ≥ a2
      · rw [if_pos c7] at H
        have c7b0 : decide (a2 ≤ (ji6)) = true := decide_eq_true c7
        clear c7
        obtain rfl := Option.some.inj H
        go_enter Try.func10, Try.ntmps10
        go_wp2
        go_ret
        exact ⟨by first | rfl | (simp [errW_none, errW_some] <;> rfl) | (simp only [← hji6]; first | rfl | (simp [errW_none, errW_some] <;> rfl)) | (simp [*, errW_none, errW_some] <;> rfl), by repeat (first | (with_reducible first | exact HB.out | apply below_alloc | apply pw_below_drewN | apply below_drew1) | exact HB.out)⟩
      · rw [if_neg c7] at H
        have c7b0 : decide (a2 ≤ (ji6)) = false := decide_eq_false c7
        clear c7
        obtain ⟨ji8, hji8⟩ : ∃ j_ : Int, (wrap64 ((ji6) + 1)) = j_ := ⟨_, rfl⟩
        replace H : (if 0 ≤ (ji8) then (if (ji8 : Int).toNat ≤ 35184372088832 then ((some (List.replicate (ji8 : Int).toNat 0 : List Int)).bind fun y101 => (fair_Fair.l0 k l1 a2 ji6 y101 (y101.length : Int) 0)) else (none)) else (none)) = some r := by first | (rw [hji8] at H; exact H) | (simp only [hji8] at H ⊢; exact H)
        have hji8w : (IntKind.i64.wrap ((ji6) + 1)) = ji8 := (i64_w _).trans hji8
        by_cases c9 : 0 ≤ (ji8)
        · rw [if_pos c9] at H
          have c9b0 := eq_true c9
          have c9b1 : decide (0 ≤ (ji8)) = true := decide_eq_true c9
          clear c9
          by_cases c10 : (ji8 : Int).toNat ≤ 35184372088832
          · rw [if_pos c10] at H
            have c10b0 := eq_true c10
            have c10b1 : decide ((ji8 : Int).toNat ≤ 35184372088832) = true := decide_eq_true c10
            clear c10
            obtain ⟨y101, hy101⟩ : ∃ y_ : List Int, y_ = (List.replicate (ji8 : Int).toNat 0) := ⟨_, rfl⟩
            replace H : (fair_Fair.l0 k l1 a2 ji6 y101 (y101.length : Int) 0) = some r := by first | (rw [hy101]; with_reducible exact H) | (have H2_ := (Option.bind_some _ _).symm.trans H; rw [hy101]; with_reducible exact H2_) | (have H2_ := (Option.bind_some _ _).symm.trans H; with_reducible exact H2_) | with_reducible exact H | (rw [hy101]; exact H) | exact H
            have Ny101 := Aside0.mk hy101
            clear hy101
            have H' := Aside0.mk H
            clear H
            go_enter Try.func10, Try.ntmps10
            go_wp2_with (first | ((with_reducible refine gate_dst (N := 28) rfl ?_); refine Kd.R_make (Kd.int .i64) _ 3 rfl (N := 28) rfl 32 _ _ rfl ji8 rfl rfl Try.underlying32 (.int .i64 0) 8 info3 rfl (by decide) (by omega) 0 (ok := fun _ => True) (okp := fun _ => True) rfl (fun _ hk => hk) trivial (of_decide_eq_true (by first | (with_reducible assumption) | assumption)) (Nat.le_trans (Nat.mul_le_mul_right _ (of_decide_eq_true (by first | (with_reducible assumption) | assumption) : ji8.toNat ≤ 35184372088832)) (by omega)) (Below.refl _ _) (Nat.le_refl _) ?_; intro v102 w11 ho12 hb hg_ hnew_; clear hg_ hnew_; (first | rw [← Ny101.out] at ho12 | (simp only [Int.reduceToNat] at ho12; rw [← Ny101.out] at ho12)); have n0_ := Aside0.mk (Kd.R_lower ho12 (below_size (by repeat (first | (with_reducible first | exact HB.out | apply below_alloc | apply pw_below_drewN | apply below_drew1) | exact HB.out)))); have n1_ := Aside0.mk (below_step (by repeat (first | (with_reducible first | exact HB.out | apply below_alloc | apply pw_below_drewN | apply below_drew1) | exact HB.out)) hb); clear HB; have HO103 := n0_; have HB := n1_; clear n0_ n1_; clear hb ho12; obtain ⟨Ao13, co13, eo13⟩ := Kd.R_slice HO103.out; subst eo13))
            go_loopg [31] k (fun kq v31 w' => ∃ (x8_1 : List Int) (x31_1 : Int), v31 = .int .i64 x31_1 ∧ Aside0 (fair_Fair.l0 kq l1 a2 ji6 x8_1 (y101.length : Int) x31_1 = some r) ∧ Aside0 (kq ≤ k) ∧ Aside0 (Kd.R (Kd.int .i64) 3 w' w.heap.size (fun _ => True) (.slice Ao13 y101.length co13) x8_1) ∧ Aside0 (Below w.heap.size w w'))
            case atStart => exact ⟨(y101), (0), (by first | rfl | (simp; done) | (simp [*]; done)), H', ⟨Nat.le_refl _⟩, ⟨by (with_reducible repeat (first | apply Kd.R_alloc | apply Kd.R_drewN | apply Kd.R_drew)); exact HO103.out⟩, ⟨by repeat (first | (with_reducible first | exact HB.out | apply below_alloc | apply pw_below_drewN | apply below_drew1) | exact HB.out)⟩⟩
            case round =>
              clear H'
              try clear c1
              try clear p2
              try clear c4
              try clear c4b0
              try clear c5
              try clear c5b0
              try clear p6
              try clear c7
              try clear c7b0
              try clear c9
              try clear c9b0
              try clear c9b1
              try clear c10
              try clear c10b0
              try clear c10b1
              obtain ⟨x8_1, x31_1, rfl, HA, HK1, HO_8, HB⟩ := hrel
              have hl8_1 := (Kd.R_reads' HO_8.out).1
              rw [hl8_1] at HO_8
              (try simp only [hl8_1])
              cases gk with
              | zero => exact absurd HA.out (by simp [fair_Fair.l0])
              | succ k1 =>
                have H := HA.out
                clear HA
                simp only [fair_Fair.l0] at H
                by_cases c14 : x31_1 < (y101.length : Int)
                · rw [if_pos c14] at H
                  have c14b0 : decide (x31_1 < (y101.length : Int)) = true := decide_eq_true c14
                  clear c14
                  by_cases c15 : 0 ≤ x31_1
                  · rw [if_pos c15] at H
                    have c15b0 : decide (0 ≤ x31_1) = true := decide_eq_true c15
                    clear c15
                    by_cases c16 : x31_1 < (x8_1.length : Int)
                    · rw [if_pos c16] at H
                      have c16b0 : decide (x31_1 < (x8_1.length : Int)) = true := decide_eq_true c16
                      clear c16
                      obtain ⟨y104, hy104⟩ : ∃ y_ : List Int, y_ = (x8_1.set (x31_1 : Int).toNat (-1)) := ⟨_, rfl⟩
                      replace H : (fair_Fair.l0 k1 l1 a2 ji6 y104 (y101.length : Int) (wrap64 (x31_1 + 1))) = some r := by first | (rw [hy104]; with_reducible exact H) | (have H2_ := (Option.bind_some _ _).symm.trans H; rw [hy104]; with_reducible exact H2_) | (have H2_ := (Option.bind_some _ _).symm.trans H; with_reducible exact H2_) | with_reducible exact H | (rw [hy104]; exact H) | exact H
                      have Ny104 := Aside0.mk hy104
                      clear hy104
                      have H' := Aside0.mk H
                      clear H
                      have p17 : 0 ≤ (x31_1 : Int) := of_decide_eq_true (by first | (with_reducible assumption) | assumption)
                      have q17 : (x31_1 : Int) < ((x8_1.length : Int) : Int) := of_decide_eq_true (by first | (with_reducible assumption) | assumption)
                      obtain ⟨go17, co17, eo17, gb17, gl17, cl17, HG17⟩ := Kd.R_form HO_8.out (by omega)
                      (first | cases eo17 | (injection eo17 with ea_ en_ ec_; (first | subst ea_ | (injection ea_ with ea_; subst ea_)); subst ec_; clear en_))
                      have GB17 := Aside0.mk gb17
                      have GG17 := Aside0.mk HG17
                      clear gb17 gl17 HG17
                      obtain ⟨hx17_0, hf17_0⟩ := Kd.R_celln 0 HO_8.out (x31_1 : Int) p17 q17
                      replace p17 := eq_true p17
                      replace q17 := eq_true q17
                      have HP18 := Kd.R_putg HO_8.out (x31_1 : Int) (-1)
                      go_wp2_with (first | ((with_reducible refine gate_store (t := 3) (p := 36) rfl ?_); refine store_event (t := 3) (p := 36) (v := ?vo_w19) (w1 := (wr.setCell ⟨go17, (x31_1 : Int).toNat, none⟩ (.int .i64 (-1)))) ?hg ?ho ?hn ?hr ?_; (case ho => rfl); (case hg => rfl); (case hn => rfl); (case hr => first | (go_simp; done) | (go_simp; rfl)); intro w19 hw; have hg : wr.grownBy w19 (some go17) := (by rw [hw]; exact HP18.2); have hp_ : Kd.R (Kd.int .i64) 3 w19 w.heap.size (fun _ => True) (.slice (some ⟨go17, 0, none⟩) x8_1.length co13) y104 := (by rw [hw, Ny104.out]; exact HP18.1); clear HP18; have n0_ := Aside0.mk (hp_); have n1_ := Aside0.mk ((by rw [hw]; exact below_set (HB.out) GB17.out : Below w.heap.size w w19)); clear HO_8; clear HB; have HO_8 := n0_; have HB := n1_; clear n0_ n1_; clear hg hw hp_))
                      (try simp only [← hl8_1])
                      go_roundg k1
                      case measure => have := HK1.out; omega
                      case rel => exact ⟨(y104), (wrap64 (x31_1 + 1)), (by first | rfl | (simp; done) | (simp [*]; done)), H', ⟨by have := HK1.out; omega⟩, ⟨by (try simp only [hl8_1]); (with_reducible repeat (first | apply Kd.R_alloc | apply Kd.R_drewN | apply Kd.R_drew)); exact HO_8.out⟩, ⟨by repeat (first | (with_reducible first | exact HB.out | apply below_alloc | apply pw_below_drewN | apply below_drew1) | exact HB.out)⟩⟩
                    · rw [if_neg c16] at H
                      exact absurd H (by simp)
                  · rw [if_neg c15] at H
                    exact absurd H (by simp)
                · rw [if_neg c14] at H
                  have c14b0 : decide (x31_1 < (y101.length : Int)) = false := decide_eq_false c14
                  have c14b1 : decide (x31_1 < (x8_1.length : Int)) = false := by rw [← hl8_1]; exact c14b0
                  clear c14
                  have H' := Aside0.mk H
                  clear H
                  go_wp2
                  go_loopg [40] k1 (fun kq v40 w' => ∃ (x8_2 : List Int) (x40_2 : Int), v40 = .int .i64 x40_2 ∧ Aside0 (fair_Fair.l1 kq l1 a2 ji6 x8_2 l1 (l1.length : Int) x40_2 = some r) ∧ Aside0 (kq ≤ k1) ∧ Aside0 (Kd.R (Kd.int .i64) 3 w' w.heap.size (fun _ => True) (.slice Ao13 x8_1.length co13) x8_2) ∧ Aside0 (Below w.heap.size w w'))
                  case atStart => exact ⟨(x8_1), (0), (by first | rfl | (simp; done) | (simp [*]; done)), H', ⟨Nat.le_refl _⟩, ⟨by (try simp only [hl8_1]); (with_reducible repeat (first | apply Kd.R_alloc | apply Kd.R_drewN | apply Kd.R_drew)); exact HO_8.out⟩, ⟨by repeat (first | (with_reducible first | exact HB.out | apply below_alloc | apply pw_below_drewN | apply below_drew1) | exact HB.out)⟩⟩
                  case round =>
                    clear H'
                    try clear c1
                    try clear p1
                    try clear q1
                    try clear hx1
                    try clear p2
                    try clear c4
                    try clear c4b0
                    try clear c5
                    try clear c5b0
                    try clear p6
                    try clear c7
                    try clear c7b0
                    try clear c9
                    try clear c9b0
                    try clear c9b1
                    try clear c10
                    try clear c10b0
                    try clear c10b1
                    try clear c14
                    try clear c14b0
                    try clear c15
                    try clear c15b0
                    try clear c16
                    try clear c16b0
                    try clear p17
                    try clear q17
                    try clear hx17
                    try clear hf17
                    try clear hx17_0
                    try clear p17
                    try clear p2
                    try clear p6
                    try clear q17
                    obtain ⟨x8_2, x40_2, rfl, HA, HK2, HO_8, HB⟩ := hrel
                    have hl8_2 := (Kd.R_reads' HO_8.out).1
                    rw [hl8_2] at HO_8
                    (try simp only [hl8_2])
                    cases gk with
                    | zero => exact absurd HA.out (by simp [fair_Fair.l1])
                    | succ k2 =>
                      have H := HA.out
                      clear HA
                      simp only [fair_Fair.l1] at H
                      by_cases c20 : x40_2 < (l1.length : Int)
                      · rw [if_pos c20] at H
                        have c20b0 : decide (x40_2 < (l1.length : Int)) = true := decide_eq_true c20
                        clear c20
                        by_cases c21 : 0 ≤ x40_2
                        · rw [if_pos c21] at H
                          have c21b0 : decide (0 ≤ x40_2) = true := decide_eq_true c21
                          clear c21
                          by_cases c22 : x40_2 < (l1.length : Int)
                          · rw [if_pos c22] at H
                            have c22b0 : decide (x40_2 < (l1.length : Int)) = true := decide_eq_true c22
                            clear c22
                            have HC23 := Aside0.mk H
                            clear H
                            have p105 : 0 ≤ (x40_2 : Int) := of_decide_eq_true (by first | (with_reducible assumption) | assumption)
                            have q105 : x40_2 < (l1.length : Int) := of_decide_eq_true (by first | (with_reducible assumption) | assumption)
                            obtain ⟨ad105, e105, hx105_0, hx105_1, hx105_2⟩ := at_T34 HR1.out x40_2 p105 q105
                            cases e105
                            replace hx105_0 := (HB.out.cell (World.block_lt_of_cell? w _ hx105_0)).trans hx105_0
                            replace hx105_1 := (HB.out.cell (World.block_lt_of_cell? w _ hx105_1)).trans hx105_1
                            replace hx105_2 := (HB.out.cell (World.block_lt_of_cell? w _ hx105_2)).trans hx105_2
                            replace p105 := eq_true p105
                            replace q105 := eq_true q105
                            go_upto_region 18 with (first | ((with_reducible refine gate_dst (N := 11) rfl ?_); refine box_event ?hg (N := 11) ?hd (cs := #[.int .i64 0, .int .i64 0, .int .u64 0]) (t := 34) ?hr ?_; (case hd => rfl); (case hg => rfl); (case hr => first | (go_simp; done) | (go_simp; rfl)); intro gb106 hg w24 hbox hb; have n0_ := Aside0.mk (Kd.R_below (by (with_reducible repeat (first | apply Kd.R_alloc | apply Kd.R_drewN | apply Kd.R_drew)); exact HO_8.out) hb); have n1_ := Aside0.mk (below_step (by repeat (first | (with_reducible first | exact HB.out | apply below_alloc | apply pw_below_drewN | apply below_drew1) | exact HB.out)) hb); have n2_ := Aside0.mk (hbox); have n3_ := Aside0.mk ((by rw [hg]; exact (below_size (by repeat (first | (with_reducible first | exact HB.out | apply below_alloc | apply pw_below_drewN | apply below_drew1) | exact HB.out))) : w.heap.size ≤ gb106)); have n4_ := Aside0.mk ((by rw [hg]; exact (below_size (by repeat (first | (with_reducible first | exact HB.out | apply below_alloc | apply pw_below_drewN | apply below_drew1) | exact HB.out))) : w.heap.size ≤ gb106)); clear HO_8; clear HB; have HO_8 := n0_; have HB := n1_; have BK106 := n2_; have GW106 := n3_; have GE106 := n4_; clear n0_ n1_ n2_ n3_ n4_; clear hb hbox hg; have hcz25_0 : w24.cell? ⟨gb106, 0, none⟩ = some (.int .i64 0) := (blk_cell BK106.out 0).trans rfl; have hcz25_1 : w24.cell? ⟨gb106, 1, none⟩ = some (.int .i64 0) := (blk_cell BK106.out 1).trans rfl; have hcz25_2 : w24.cell? ⟨gb106, 2, none⟩ = some (.int .u64 0) := (blk_cell BK106.out 2).trans rfl; have hfz25_0 := blk_frozen BK106.out 0; have hfz25_1 := blk_frozen BK106.out 1; have hfz25_2 := blk_frozen BK106.out 2))
                            (try simp only [Act.put, List.setIfInBounds_toArray, List.set_cons_zero, List.set_cons_succ])
                            go_cut [59] (fun v59 wc => ∃ (kq : Nat) (x59_22 : Bool), v59 = .bool x59_22 ∧ Aside0 (fair_Fair.j2 kq l1 a2 ji6 x8_2 x40_2 ji6 l1 (l1.length : Int) x40_2 x59_22 ((rd_T34 l1 x40_2).f0) ((rd_T34 l1 x40_2).f1) ((rd_T34 l1 x40_2).f2) = some r) ∧ Aside0 (kq ≤ k2) ∧ Aside0 (Kd.R (Kd.int .i64) 3 wc w.heap.size (fun _ => True) (.slice Ao13 x8_2.length co13) x8_2) ∧ Aside0 (wc.heap[gb106]? = some (.cells #[.int .i64 ((rd_T34 l1 x40_2).f0), .int .i64 ((rd_T34 l1 x40_2).f1), .int .u64 ((rd_T34 l1 x40_2).f2)] 34 (0, 0))) ∧ Aside0 (Below w.heap.size w wc))
                            case first =>
                              have H := HC23.out
                              clear HC23
                              by_cases c26 : ((rd_T34 l1 x40_2).f0) = 1
                              · rw [if_pos c26] at H
                                have c26b0 : (((rd_T34 l1 x40_2).f0) == 1) = true := beq_iff_eq.mpr c26
                                have c26b1 : (((rd_T34 l1 x40_2).f0) != 1) = false := bne_eq_false_iff_eq.mpr c26
                                clear c26
                                (first | rw [c26b0] | (simp only [i64_w, i32_w]; rw [c26b0]) | skip)
                                by_cases c27 : ((rd_T34 l1 x40_2).f1) ≥ 0
                                · rw [if_pos c27] at H
                                  have c27b0 : decide (0 ≤ ((rd_T34 l1 x40_2).f1)) = true := decide_eq_true c27
                                  clear c27
                                  have H' := Aside0.mk H
                                  clear H
                                  have hcz28_0 : w24.cell? ⟨gb106, 0, none⟩ = some (.int .i64 0) := (blk_cell BK106.out 0).trans rfl
                                  have hcz28_1 : w24.cell? ⟨gb106, 1, none⟩ = some (.int .i64 0) := (blk_cell BK106.out 1).trans rfl
                                  have hcz28_2 : w24.cell? ⟨gb106, 2, none⟩ = some (.int .u64 0) := (blk_cell BK106.out 2).trans rfl
                                  have hfz28_0 := blk_frozen BK106.out 0
                                  have hfz28_1 := blk_frozen BK106.out 1
                                  have hfz28_2 := blk_frozen BK106.out 2
                                  go_wp2
                                  go_meet
                                  case rel => exact ⟨_, (decide (((rd_T34 l1 x40_2).f1) < ji6)), (by first | rfl | (simp; done) | (simp only [← hji6] <;> (first | rfl | simp)) | (simp [*]; done)), H', ⟨by have := HK1.out; have := HK2.out; first | omega | exact Nat.le_refl _⟩, ⟨by (try simp only [hl8_1]); (try simp only [hl8_2]); (with_reducible repeat (first | apply Kd.R_alloc | apply Kd.R_drewN | apply Kd.R_drew)); exact Kd.R_mono (Kd.R_far (p := ⟨gb106, 2, none⟩) (Kd.R_far (p := ⟨gb106, 1, none⟩) (Kd.R_far (p := ⟨gb106, 0, none⟩) (Kd.R_types HO_8.out BK106.out (by decide)) (fun _ hk => hk.2) (.int .i64 ((rd_T34 l1 x40_2).f0))) (fun _ hk => hk.2) (.int .i64 ((rd_T34 l1 x40_2).f1))) (fun _ hk => hk.2) (.int .u64 ((rd_T34 l1 x40_2).f2))) (fun _ hk => trivial)⟩, ⟨by (try simp only [hl8_1]); (try simp only [hl8_2]); (with_reducible repeat (first | refine blk_drewN ?_ _ | refine blk_drew ?_ | refine blk_alloc ?_ _)); refine blk_put (cs := #[.int .i64 ((rd_T34 l1 x40_2).f0), .int .i64 ((rd_T34 l1 x40_2).f1), .int .u64 0]) ?_ 2 _ rfl; (with_reducible repeat (first | refine blk_drewN ?_ _ | refine blk_drew ?_ | refine blk_alloc ?_ _)); refine blk_put (cs := #[.int .i64 ((rd_T34 l1 x40_2).f0), .int .i64 0, .int .u64 0]) ?_ 1 _ rfl; (with_reducible repeat (first | refine blk_drewN ?_ _ | refine blk_drew ?_ | refine blk_alloc ?_ _)); refine blk_put (cs := #[.int .i64 0, .int .i64 0, .int .u64 0]) ?_ 0 _ rfl; (with_reducible repeat (first | refine blk_drewN ?_ _ | refine blk_drew ?_ | refine blk_alloc ?_ _)); exact BK106.out⟩, ⟨by repeat (first | (with_reducible first | exact HB.out | apply below_alloc | apply pw_below_drewN | apply below_drew1 | refine below_set ?_ GE106.out) | exact HB.out)⟩⟩
                                · rw [if_neg c27] at H
                                  have c27b0 : decide (0 ≤ ((rd_T34 l1 x40_2).f1)) = false := decide_eq_false c27
                                  clear c27
                                  have H' := Aside0.mk H
                                  clear H
                                  have hcz29_0 : w24.cell? ⟨gb106, 0, none⟩ = some (.int .i64 0) := (blk_cell BK106.out 0).trans rfl
                                  have hcz29_1 : w24.cell? ⟨gb106, 1, none⟩ = some (.int .i64 0) := (blk_cell BK106.out 1).trans rfl
                                  have hcz29_2 : w24.cell? ⟨gb106, 2, none⟩ = some (.int .u64 0) := (blk_cell BK106.out 2).trans rfl
                                  have hfz29_0 := blk_frozen BK106.out 0
                                  have hfz29_1 := blk_frozen BK106.out 1
                                  have hfz29_2 := blk_frozen BK106.out 2
                                  go_wp2
                                  go_meet
                                  case rel => exact ⟨_, (false), (by first | rfl | (simp; done) | (simp [*]; done)), H', ⟨by have := HK1.out; have := HK2.out; first | omega | exact Nat.le_refl _⟩, ⟨by (try simp only [hl8_1]); (try simp only [hl8_2]); (with_reducible repeat (first | apply Kd.R_alloc | apply Kd.R_drewN | apply Kd.R_drew)); exact Kd.R_mono (Kd.R_far (p := ⟨gb106, 2, none⟩) (Kd.R_far (p := ⟨gb106, 1, none⟩) (Kd.R_far (p := ⟨gb106, 0, none⟩) (Kd.R_types HO_8.out BK106.out (by decide)) (fun _ hk => hk.2) (.int .i64 ((rd_T34 l1 x40_2).f0))) (fun _ hk => hk.2) (.int .i64 ((rd_T34 l1 x40_2).f1))) (fun _ hk => hk.2) (.int .u64 ((rd_T34 l1 x40_2).f2))) (fun _ hk => trivial)⟩, ⟨by (try simp only [hl8_1]); (try simp only [hl8_2]); (with_reducible repeat (first | refine blk_drewN ?_ _ | refine blk_drew ?_ | refine blk_alloc ?_ _)); refine blk_put (cs := #[.int .i64 ((rd_T34 l1 x40_2).f0), .int .i64 ((rd_T34 l1 x40_2).f1), .int .u64 0]) ?_ 2 _ rfl; (with_reducible repeat (first | refine blk_drewN ?_ _ | refine blk_drew ?_ | refine blk_alloc ?_ _)); refine blk_put (cs := #[.int .i64 ((rd_T34 l1 x40_2).f0), .int .i64 0, .int .u64 0]) ?_ 1 _ rfl; (with_reducible repeat (first | refine blk_drewN ?_ _ | refine blk_drew ?_ | refine blk_alloc ?_ _)); refine blk_put (cs := #[.int .i64 0, .int .i64 0, .int .u64 0]) ?_ 0 _ rfl; (with_reducible repeat (first | refine blk_drewN ?_ _ | refine blk_drew ?_ | refine blk_alloc ?_ _)); exact BK106.out⟩, ⟨by repeat (first | (with_reducible first | exact HB.out | apply below_alloc | apply pw_below_drewN | apply below_drew1 | refine below_set ?_ GE106.out) | exact HB.out)⟩⟩
                              · rw [if_neg c26] at H
                                have c26b0 : (((rd_T34 l1 x40_2).f0) == 1) = false := beq_eq_false_iff_ne.mpr c26
                                have c26b1 : (((rd_T34 l1 x40_2).f0) != 1) = true := bne_iff_ne.mpr c26
                                (first | rw [c26b0] | (simp only [i64_w, i32_w]; rw [c26b0]) | skip)
                                have H' := Aside0.mk H
                                clear H
                                have hcz30_0 : w24.cell? ⟨gb106, 0, none⟩ = some (.int .i64 0) := (blk_cell BK106.out 0).trans rfl
                                have hcz30_1 : w24.cell? ⟨gb106, 1, none⟩ = some (.int .i64 0) := (blk_cell BK106.out 1).trans rfl
                                have hcz30_2 : w24.cell? ⟨gb106, 2, none⟩ = some (.int .u64 0) := (blk_cell BK106.out 2).trans rfl
                                have hfz30_0 := blk_frozen BK106.out 0
                                have hfz30_1 := blk_frozen BK106.out 1
                                have hfz30_2 := blk_frozen BK106.out 2
                                go_wp2
                                go_meet
                                case rel => exact ⟨_, (false), (by first | rfl | (simp; done) | (simp [*]; done)), H', ⟨by have := HK1.out; have := HK2.out; first | omega | exact Nat.le_refl _⟩, ⟨by (try simp only [hl8_1]); (try simp only [hl8_2]); (with_reducible repeat (first | apply Kd.R_alloc | apply Kd.R_drewN | apply Kd.R_drew)); exact Kd.R_mono (Kd.R_far (p := ⟨gb106, 2, none⟩) (Kd.R_far (p := ⟨gb106, 1, none⟩) (Kd.R_far (p := ⟨gb106, 0, none⟩) (Kd.R_types HO_8.out BK106.out (by decide)) (fun _ hk => hk.2) (.int .i64 ((rd_T34 l1 x40_2).f0))) (fun _ hk => hk.2) (.int .i64 ((rd_T34 l1 x40_2).f1))) (fun _ hk => hk.2) (.int .u64 ((rd_T34 l1 x40_2).f2))) (fun _ hk => trivial)⟩, ⟨by (try simp only [hl8_1]); (try simp only [hl8_2]); (with_reducible repeat (first | refine blk_drewN ?_ _ | refine blk_drew ?_ | refine blk_alloc ?_ _)); refine blk_put (cs := #[.int .i64 ((rd_T34 l1 x40_2).f0), .int .i64 ((rd_T34 l1 x40_2).f1), .int .u64 0]) ?_ 2 _ rfl; (with_reducible repeat (first | refine blk_drewN ?_ _ | refine blk_drew ?_ | refine blk_alloc ?_ _)); refine blk_put (cs := #[.int .i64 ((rd_T34 l1 x40_2).f0), .int .i64 0, .int .u64 0]) ?_ 1 _ rfl; (with_reducible repeat (first | refine blk_drewN ?_ _ | refine blk_drew ?_ | refine blk_alloc ?_ _)); refine blk_put (cs := #[.int .i64 0, .int .i64 0, .int .u64 0]) ?_ 0 _ rfl; (with_reducible repeat (first | refine blk_drewN ?_ _ | refine blk_drew ?_ | refine blk_alloc ?_ _)); exact BK106.out⟩, ⟨by repeat (first | (with_reducible first | exact HB.out | apply below_alloc | apply pw_below_drewN | apply below_drew1 | refine below_set ?_ GE106.out) | exact HB.out)⟩⟩
                            case rest =>
                              clear HC23
                              try clear c1
                              try clear p1
                              try clear q1
                              try clear hx1
                              try clear c2
                              try clear p2
                              try clear c4
                              try clear c4b0
                              try clear c5
                              try clear c5b0
                              try clear p6
                              try clear c7
                              try clear c7b0
                              try clear c9
                              try clear c9b0
                              try clear c9b1
                              try clear c10
                              try clear c10b0
                              try clear c10b1
                              try clear p10
                              try clear q10
                              try clear hx10
                              try clear c14
                              try clear c14b0
                              try clear c15
                              try clear c15b0
                              try clear c16
                              try clear c16b0
                              try clear p17
                              try clear q17
                              try clear hx17
                              try clear hf17
                              try clear c20
                              try clear c20b0
                              try clear c21
                              try clear c21b0
                              try clear c22
                              try clear c22b0
                              try clear c26
                              try clear c26b0
                              try clear c26b1
                              try clear c27
                              try clear c27b0
                              try clear hcz25_0
                              try clear hcz25_1
                              try clear hcz25_2
                              try clear hcz28_0
                              try clear hcz28_1
                              try clear hcz28_2
                              try clear hcz29_0
                              try clear hcz29_1
                              try clear hcz29_2
                              try clear hcz30_0
                              try clear hcz30_1
                              try clear hcz30_2
                              try clear hfz25_0
                              try clear hfz25_1
                              try clear hfz25_2
                              try clear hfz28_0
                              try clear hfz28_1
                              try clear hfz28_2
                              try clear hfz29_0
                              try clear hfz29_1
                              try clear hfz29_2
                              try clear hfz30_0
                              try clear hfz30_1
                              try clear hfz30_2
                              try clear hx105_0
                              try clear hx105_1
                              try clear hx105_2
                              try clear hx17_0
                              try clear p1
                              try clear p105
                              try clear p17
                              try clear p2
                              try clear p6
                              try clear q1
                              try clear q105
                              try clear q17
                              obtain ⟨kq, x59_22, rfl, HA, HJ22, HO_8, BK106, HB⟩ := hcut
                              cases kq with
                              | zero => exact absurd HA.out (by simp [fair_Fair.j2])
                              | succ kj22 =>
                                have H := HA.out
                                clear HA
                                simp only [fair_Fair.j2] at H
                                by_cases c31 : x59_22 = true
                                · subst c31
                                  have H1 : (if 0 ≤ ((rd_T34 l1 x40_2).f1) then (if ((rd_T34 l1 x40_2).f1) < (x8_2.length : Int) then (if (wrap64 (x40_2 - (rd x8_2 ((rd_T34 l1 x40_2).f1)))) > a2 then (some false) else (fair_Fair.l1 kj22 l1 a2 ji6 (x8_2.set (((rd_T34 l1 x40_2).f1) : Int).toNat x40_2) l1 (l1.length : Int) (wrap64 (x40_2 + 1)))) else (none)) else (none)) = some r := by rw [if_pos rfl] at H; exact H
                                  clear H
                                  have H := H1
                                  clear H1
                                  by_cases c32 : 0 ≤ ((rd_T34 l1 x40_2).f1)
                                  · rw [if_pos c32] at H
                                    have c32b0 : decide (0 ≤ ((rd_T34 l1 x40_2).f1)) = true := decide_eq_true c32
                                    clear c32
                                    by_cases c33 : ((rd_T34 l1 x40_2).f1) < (x8_2.length : Int)
                                    · rw [if_pos c33] at H
                                      have c33b0 : decide (((rd_T34 l1 x40_2).f1) < (x8_2.length : Int)) = true := decide_eq_true c33
                                      clear c33
                                      by_cases c34 : (wrap64 (x40_2 - (rd x8_2 ((rd_T34 l1 x40_2).f1)))) > a2
                                      · rw [if_pos c34] at H
                                        have c34b0 : decide (a2 < (wrap64 (x40_2 - (rd x8_2 ((rd_T34 l1 x40_2).f1))))) = true := decide_eq_true c34
                                        clear c34
                                        obtain rfl := Option.some.inj H
                                        have hcz35_0 : wc.cell? ⟨gb106, 0, none⟩ = some (.int .i64 ((rd_T34 l1 x40_2).f0)) := (blk_cell BK106.out 0).trans rfl
                                        have hcz35_1 : wc.cell? ⟨gb106, 1, none⟩ = some (.int .i64 ((rd_T34 l1 x40_2).f1)) := (blk_cell BK106.out 1).trans rfl
                                        have hcz35_2 : wc.cell? ⟨gb106, 2, none⟩ = some (.int .u64 ((rd_T34 l1 x40_2).f2)) := (blk_cell BK106.out 2).trans rfl
                                        have hfz35_0 := blk_frozen BK106.out 0
                                        have hfz35_1 := blk_frozen BK106.out 1
                                        have hfz35_2 := blk_frozen BK106.out 2
                                        have p107 : 0 ≤ (((rd_T34 l1 x40_2).f1) : Int) := of_decide_eq_true (by first | (with_reducible assumption) | assumption)
                                        have q107 : ((rd_T34 l1 x40_2).f1) < (x8_2.length : Int) := of_decide_eq_true (by first | (with_reducible assumption) | assumption)
                                        obtain ⟨ad107, e107, hx107_0⟩ := Kd.at_int (Kd.R_reads' HO_8.out).2.2 ((rd_T34 l1 x40_2).f1) p107 q107
                                        cases e107
                                        replace p107 := eq_true p107
                                        replace q107 := eq_true q107
                                        go_wp2
                                        go_ret
                                        exact ⟨by first | rfl | (simp [errW_none, errW_some] <;> rfl) | (simp only [← hji6, ← hji8]; first | rfl | (simp [errW_none, errW_some] <;> rfl)) | (simp [*, errW_none, errW_some] <;> rfl), by repeat (first | (with_reducible first | exact HB.out | apply below_alloc | apply pw_below_drewN | apply below_drew1 | refine below_set ?_ GE106.out) | exact HB.out)⟩
                                      · rw [if_neg c34] at H
                                        have c34b0 : decide (a2 < (wrap64 (x40_2 - (rd x8_2 ((rd_T34 l1 x40_2).f1))))) = false := decide_eq_false c34
                                        clear c34
                                        obtain ⟨y108, hy108⟩ : ∃ y_ : List Int, y_ = (x8_2.set (((rd_T34 l1 x40_2).f1) : Int).toNat x40_2) := ⟨_, rfl⟩
                                        replace H : (fair_Fair.l1 kj22 l1 a2 ji6 y108 l1 (l1.length : Int) (wrap64 (x40_2 + 1))) = some r := by first | (rw [hy108]; with_reducible exact H) | (have H2_ := (Option.bind_some _ _).symm.trans H; rw [hy108]; with_reducible exact H2_) | (have H2_ := (Option.bind_some _ _).symm.trans H; with_reducible exact H2_) | with_reducible exact H | (rw [hy108]; exact H) | exact H
                                        have Ny108 := Aside0.mk hy108
                                        clear hy108
                                        have H' := Aside0.mk H
                                        clear H
                                        have hcz37_0 : wc.cell? ⟨gb106, 0, none⟩ = some (.int .i64 ((rd_T34 l1 x40_2).f0)) := (blk_cell BK106.out 0).trans rfl
                                        have hcz37_1 : wc.cell? ⟨gb106, 1, none⟩ = some (.int .i64 ((rd_T34 l1 x40_2).f1)) := (blk_cell BK106.out 1).trans rfl
                                        have hcz37_2 : wc.cell? ⟨gb106, 2, none⟩ = some (.int .u64 ((rd_T34 l1 x40_2).f2)) := (blk_cell BK106.out 2).trans rfl
                                        have hfz37_0 := blk_frozen BK106.out 0
                                        have hfz37_1 := blk_frozen BK106.out 1
                                        have hfz37_2 := blk_frozen BK106.out 2
                                        have p107 : 0 ≤ (((rd_T34 l1 x40_2).f1) : Int) := of_decide_eq_true (by first | (with_reducible assumption) | assumption)
                                        have q107 : ((rd_T34 l1 x40_2).f1) < (x8_2.length : Int) := of_decide_eq_true (by first | (with_reducible assumption) | assumption)
                                        obtain ⟨ad107, e107, hx107_0⟩ := Kd.at_int (Kd.R_reads' HO_8.out).2.2 ((rd_T34 l1 x40_2).f1) p107 q107
                                        cases e107
                                        replace p107 := eq_true p107
                                        replace q107 := eq_true q107
                                        have p36 : 0 ≤ (((rd_T34 l1 x40_2).f1) : Int) := of_decide_eq_true (by first | (with_reducible assumption) | assumption)
                                        have q36 : (((rd_T34 l1 x40_2).f1) : Int) < ((x8_2.length : Int) : Int) := of_decide_eq_true (by first | (with_reducible assumption) | assumption)
                                        obtain ⟨go36, co36, eo36, gb36, gl36, cl36, HG36⟩ := Kd.R_form HO_8.out (by omega)
                                        (first | cases eo36 | (injection eo36 with ea_ en_ ec_; (first | subst ea_ | (injection ea_ with ea_; subst ea_)); subst ec_; clear en_))
                                        have GB36 := Aside0.mk gb36
                                        have GG36 := Aside0.mk HG36
                                        clear gb36 gl36 HG36
                                        (first | simp only [add_plain] at hx107_0 | skip)
                                        obtain ⟨hx36_0, hf36_0⟩ := Kd.R_celln 0 HO_8.out (((rd_T34 l1 x40_2).f1) : Int) p36 q36
                                        replace p36 := eq_true p36
                                        replace q36 := eq_true q36
                                        have HP38 := Kd.R_putg HO_8.out (((rd_T34 l1 x40_2).f1) : Int) x40_2
                                        go_wp2_with (first | ((with_reducible refine gate_store (t := 3) (p := 76) rfl ?_); refine store_event (t := 3) (p := 76) (v := ?vo_w39) (w1 := (wc.setCell ⟨go36, (((rd_T34 l1 x40_2).f1) : Int).toNat, none⟩ (.int .i64 x40_2))) ?hg ?ho ?hn ?hr ?_; (case ho => rfl); (case hg => rfl); (case hn => rfl); (case hr => first | (go_simp; done) | (go_simp; rfl)); intro w39 hw; have hg : wc.grownBy w39 (some go36) := (by rw [hw]; exact HP38.2); have hp_ : Kd.R (Kd.int .i64) 3 w39 w.heap.size (fun _ => True) (.slice (some ⟨go36, 0, none⟩) x8_2.length co13) y108 := (by rw [hw, Ny108.out]; exact HP38.1); clear HP38; have n0_ := Aside0.mk (hp_); have n1_ := Aside0.mk (blk_grown (g := gb106) (o := .cells #[.int .i64 ((rd_T34 l1 x40_2).f0), .int .i64 ((rd_T34 l1 x40_2).f1), .int .u64 ((rd_T34 l1 x40_2).f2)] 34 (0, 0)) (by (with_reducible repeat (first | refine blk_drewN ?_ _ | refine blk_drew ?_ | refine blk_alloc ?_ _)); exact BK106.out) hg (Kd.R_ne HO_8.out BK106.out (by decide))); have n2_ := Aside0.mk ((by rw [hw]; exact below_set (HB.out) GB36.out : Below w.heap.size w w39)); clear HO_8; clear BK106; clear HB; have HO_8 := n0_; have BK106 := n1_; have HB := n2_; clear n0_ n1_ n2_; clear hg hw hp_))
                                        (try simp only [← hl8_2])
                                        go_roundg kj22
                                        case measure => have := HK1.out; have := HK2.out; have := HJ22.out; omega
                                        case rel => exact ⟨(y108), (wrap64 (x40_2 + 1)), (by first | rfl | (simp; done) | (simp [*]; done)), H', ⟨by have := HK1.out; have := HK2.out; have := HJ22.out; omega⟩, ⟨by (try simp only [hl8_1]); (try simp only [hl8_2]); (with_reducible repeat (first | apply Kd.R_alloc | apply Kd.R_drewN | apply Kd.R_drew)); exact HO_8.out⟩, ⟨by repeat (first | (with_reducible first | exact HB.out | apply below_alloc | apply pw_below_drewN | apply below_drew1 | refine below_set ?_ GE106.out) | exact HB.out)⟩⟩
                                    · rw [if_neg c33] at H
                                      exact absurd H (by simp)
                                  · rw [if_neg c32] at H
                                    exact absurd H (by simp)
                                · replace c31 := Bool.eq_false_iff.mpr c31
                                  subst c31
                                  have H1 : (if ((rd_T34 l1 x40_2).f0) = 2 then (if 0 ≤ ji6 then (if ji6 < (x8_2.length : Int) then (if (wrap64 (x40_2 - (rd x8_2 ji6))) > a2 then (some false) else (fair_Fair.l1 kj22 l1 a2 ji6 (x8_2.set (ji6 : Int).toNat x40_2) l1 (l1.length : Int) (wrap64 (x40_2 + 1)))) else (none)) else (none)) else (fair_Fair.l1 kj22 l1 a2 ji6 x8_2 l1 (l1.length : Int) (wrap64 (x40_2 + 1)))) = some r := by rw [if_neg (show ¬ (false = true) by decide)] at H; exact H
                                  clear H
                                  have H := H1
                                  clear H1
                                  by_cases c40 : ((rd_T34 l1 x40_2).f0) = 2
                                  · rw [if_pos c40] at H
                                    have c40b0 : (((rd_T34 l1 x40_2).f0) == 2) = true := beq_iff_eq.mpr c40
                                    have c40b1 : (((rd_T34 l1 x40_2).f0) != 2) = false := bne_eq_false_iff_eq.mpr c40
                                    clear c40
                                    by_cases c41 : 0 ≤ ji6
                                    · rw [if_pos c41] at H
                                      have c41b0 : decide (0 ≤ ji6) = true := decide_eq_true c41
                                      clear c41
                                      by_cases c42 : ji6 < (x8_2.length : Int)
                                      · rw [if_pos c42] at H
                                        have c42b0 : decide (ji6 < (x8_2.length : Int)) = true := decide_eq_true c42
                                        clear c42
                                        by_cases c43 : (wrap64 (x40_2 - (rd x8_2 ji6))) > a2
                                        · rw [if_pos c43] at H
                                          have c43b0 : decide (a2 < (wrap64 (x40_2 - (rd x8_2 ji6)))) = true := decide_eq_true c43
                                          clear c43
                                          obtain rfl := Option.some.inj H
                                          have hcz44_0 : wc.cell? ⟨gb106, 0, none⟩ = some (.int .i64 ((rd_T34 l1 x40_2).f0)) := (blk_cell BK106.out 0).trans rfl
                                          have hcz44_1 : wc.cell? ⟨gb106, 1, none⟩ = some (.int .i64 ((rd_T34 l1 x40_2).f1)) := (blk_cell BK106.out 1).trans rfl
                                          have hcz44_2 : wc.cell? ⟨gb106, 2, none⟩ = some (.int .u64 ((rd_T34 l1 x40_2).f2)) := (blk_cell BK106.out 2).trans rfl
                                          have hfz44_0 := blk_frozen BK106.out 0
                                          have hfz44_1 := blk_frozen BK106.out 1
                                          have hfz44_2 := blk_frozen BK106.out 2
                                          have p109 : 0 ≤ (ji6 : Int) := of_decide_eq_true (by first | (with_reducible assumption) | assumption)
                                          have q109 : ji6 < (x8_2.length : Int) := of_decide_eq_true (by first | (with_reducible assumption) | assumption)
                                          obtain ⟨ad109, e109, hx109_0⟩ := Kd.at_int (Kd.R_reads' HO_8.out).2.2 ji6 p109 q109
                                          cases e109
                                          replace p109 := eq_true p109
                                          replace q109 := eq_true q109
                                          go_wp2
                                          go_ret
                                          exact ⟨by first | rfl | (simp [errW_none, errW_some] <;> rfl) | (simp only [← hji6, ← hji8]; first | rfl | (simp [errW_none, errW_some] <;> rfl)) | (simp [*, errW_none, errW_some] <;> rfl), by repeat (first | (with_reducible first | exact HB.out | apply below_alloc | apply pw_below_drewN | apply below_drew1 | refine below_set ?_ GE106.out) | exact HB.out)⟩
                                        · rw [if_neg c43] at H
                                          have c43b0 : decide (a2 < (wrap64 (x40_2 - (rd x8_2 ji6)))) = false := decide_eq_false c43
                                          clear c43
                                          obtain ⟨y110, hy110⟩ : ∃ y_ : List Int, y_ = (x8_2.set (ji6 : Int).toNat x40_2) := ⟨_, rfl⟩
                                          replace H : (fair_Fair.l1 kj22 l1 a2 ji6 y110 l1 (l1.length : Int) (wrap64 (x40_2 + 1))) = some r := by first | (rw [hy110]; with_reducible exact H) | (have H2_ := (Option.bind_some _ _).symm.trans H; rw [hy110]; with_reducible exact H2_) | (have H2_ := (Option.bind_some _ _).symm.trans H; with_reducible exact H2_) | with_reducible exact H | (rw [hy110]; exact H) | exact H
                                          have Ny110 := Aside0.mk hy110
                                          clear hy110
                                          have H' := Aside0.mk H
                                          clear H
                                          have hcz46_0 : wc.cell? ⟨gb106, 0, none⟩ = some (.int .i64 ((rd_T34 l1 x40_2).f0)) := (blk_cell BK106.out 0).trans rfl
                                          have hcz46_1 : wc.cell? ⟨gb106, 1, none⟩ = some (.int .i64 ((rd_T34 l1 x40_2).f1)) := (blk_cell BK106.out 1).trans rfl
                                          have hcz46_2 : wc.cell? ⟨gb106, 2, none⟩ = some (.int .u64 ((rd_T34 l1 x40_2).f2)) := (blk_cell BK106.out 2).trans rfl
                                          have hfz46_0 := blk_frozen BK106.out 0
                                          have hfz46_1 := blk_frozen BK106.out 1
                                          have hfz46_2 := blk_frozen BK106.out 2
                                          have p109 : 0 ≤ (ji6 : Int) := of_decide_eq_true (by first | (with_reducible assumption) | assumption)
                                          have q109 : ji6 < (x8_2.length : Int) := of_decide_eq_true (by first | (with_reducible assumption) | assumption)
                                          obtain ⟨ad109, e109, hx109_0⟩ := Kd.at_int (Kd.R_reads' HO_8.out).2.2 ji6 p109 q109
                                          cases e109
                                          replace p109 := eq_true p109
                                          replace q109 := eq_true q109
                                          have p45 : 0 ≤ (ji6 : Int) := of_decide_eq_true (by first | (with_reducible assumption) | assumption)
                                          have q45 : (ji6 : Int) < ((x8_2.length : Int) : Int) := of_decide_eq_true (by first | (with_reducible assumption) | assumption)
                                          obtain ⟨go45, co45, eo45, gb45, gl45, cl45, HG45⟩ := Kd.R_form HO_8.out (by omega)
                                          (first | cases eo45 | (injection eo45 with ea_ en_ ec_; (first | subst ea_ | (injection ea_ with ea_; subst ea_)); subst ec_; clear en_))
                                          have GB45 := Aside0.mk gb45
                                          have GG45 := Aside0.mk HG45
                                          clear gb45 gl45 HG45
                                          (first | simp only [add_plain] at hx109_0 | skip)
                                          obtain ⟨hx45_0, hf45_0⟩ := Kd.R_celln 0 HO_8.out (ji6 : Int) p45 q45
                                          replace p45 := eq_true p45
                                          replace q45 := eq_true q45
                                          have HP47 := Kd.R_putg HO_8.out (ji6 : Int) x40_2
                                          go_wp2_with (first | ((with_reducible refine gate_store (t := 3) (p := 76) rfl ?_); refine store_event (t := 3) (p := 76) (v := ?vo_w48) (w1 := (wc.setCell ⟨go45, (ji6 : Int).toNat, none⟩ (.int .i64 x40_2))) ?hg ?ho ?hn ?hr ?_; (case ho => rfl); (case hg => rfl); (case hn => rfl); (case hr => first | (go_simp; done) | (go_simp; rfl)); intro w48 hw; have hg : wc.grownBy w48 (some go45) := (by rw [hw]; exact HP47.2); have hp_ : Kd.R (Kd.int .i64) 3 w48 w.heap.size (fun _ => True) (.slice (some ⟨go45, 0, none⟩) x8_2.length co13) y110 := (by rw [hw, Ny110.out]; exact HP47.1); clear HP47; have n0_ := Aside0.mk (hp_); have n1_ := Aside0.mk (blk_grown (g := gb106) (o := .cells #[.int .i64 ((rd_T34 l1 x40_2).f0), .int .i64 ((rd_T34 l1 x40_2).f1), .int .u64 ((rd_T34 l1 x40_2).f2)] 34 (0, 0)) (by (with_reducible repeat (first | refine blk_drewN ?_ _ | refine blk_drew ?_ | refine blk_alloc ?_ _)); exact BK106.out) hg (Kd.R_ne HO_8.out BK106.out (by decide))); have n2_ := Aside0.mk ((by rw [hw]; exact below_set (HB.out) GB45.out : Below w.heap.size w w48)); clear HO_8; clear BK106; clear HB; have HO_8 := n0_; have BK106 := n1_; have HB := n2_; clear n0_ n1_ n2_; clear hg hw hp_))
                                          (try simp only [← hl8_2])
                                          go_roundg kj22
                                          case measure => have := HK1.out; have := HK2.out; have := HJ22.out; omega
                                          case rel => exact ⟨(y110), (wrap64 (x40_2 + 1)), (by first | rfl | (simp; done) | (simp [*]; done)), H', ⟨by have := HK1.out; have := HK2.out; have := HJ22.out; omega⟩, ⟨by (try simp only [hl8_1]); (try simp only [hl8_2]); (with_reducible repeat (first | apply Kd.R_alloc | apply Kd.R_drewN | apply Kd.R_drew)); exact HO_8.out⟩, ⟨by repeat (first | (with_reducible first | exact HB.out | apply below_alloc | apply pw_below_drewN | apply below_drew1 | refine below_set ?_ GE106.out) | exact HB.out)⟩⟩
                                      · rw [if_neg c42] at H
                                        exact absurd H (by simp)
                                    · rw [if_neg c41] at H
                                      exact absurd H (by simp)
                                  · rw [if_neg c40] at H
                                    have c40b0 : (((rd_T34 l1 x40_2).f0) == 2) = false := beq_eq_false_iff_ne.mpr c40
                                    have c40b1 : (((rd_T34 l1 x40_2).f0) != 2) = true := bne_iff_ne.mpr c40
                                    have H' := Aside0.mk H
                                    clear H
                                    have hcz49_0 : wc.cell? ⟨gb106, 0, none⟩ = some (.int .i64 ((rd_T34 l1 x40_2).f0)) := (blk_cell BK106.out 0).trans rfl
                                    have hcz49_1 : wc.cell? ⟨gb106, 1, none⟩ = some (.int .i64 ((rd_T34 l1 x40_2).f1)) := (blk_cell BK106.out 1).trans rfl
                                    have hcz49_2 : wc.cell? ⟨gb106, 2, none⟩ = some (.int .u64 ((rd_T34 l1 x40_2).f2)) := (blk_cell BK106.out 2).trans rfl
                                    have hfz49_0 := blk_frozen BK106.out 0
                                    have hfz49_1 := blk_frozen BK106.out 1
                                    have hfz49_2 := blk_frozen BK106.out 2
                                    go_wp2
                                    (try simp only [← hl8_2])
                                    go_roundg kj22
                                    case measure => have := HK1.out; have := HK2.out; have := HJ22.out; omega
                                    case rel => exact ⟨(x8_2), (wrap64 (x40_2 + 1)), (by first | rfl | (simp; done) | (simp [*]; done)), H', ⟨by have := HK1.out; have := HK2.out; have := HJ22.out; omega⟩, ⟨by (try simp only [hl8_1]); (try simp only [hl8_2]); (with_reducible repeat (first | apply Kd.R_alloc | apply Kd.R_drewN | apply Kd.R_drew)); exact HO_8.out⟩, ⟨by repeat (first | (with_reducible first | exact HB.out | apply below_alloc | apply pw_below_drewN | apply below_drew1 | refine below_set ?_ GE106.out) | exact HB.out)⟩⟩
                          · rw [if_neg c22] at H
                            exact absurd H (by simp)
                        · rw [if_neg c21] at H
                          exact absurd H (by simp)
                      · rw [if_neg c20] at H
                        have c20b0 : decide (x40_2 < (l1.length : Int)) = false := decide_eq_false c20
                        clear c20
                        have H' := Aside0.mk H
                        clear H
                        go_wp2
                        go_loopg [80] k2 (fun kq v80 w' => ∃ (x80_3 : Int), v80 = .int .i64 x80_3 ∧ Aside0 (fair_Fair.l2 kq l1 a2 x8_2 (x8_2.length : Int) x80_3 = some r) ∧ Aside0 (kq ≤ k2) ∧ Aside0 (Kd.R (Kd.int .i64) 3 w' w.heap.size (fun _ => True) (.slice Ao13 x8_2.length co13) x8_2) ∧ Aside0 (Below w.heap.size w w'))
                        case atStart => exact ⟨(0), (by first | rfl | (simp; done) | (simp [*]; done)), H', ⟨Nat.le_refl _⟩, ⟨by (try simp only [hl8_1]); (try simp only [hl8_2]); (with_reducible repeat (first | apply Kd.R_alloc | apply Kd.R_drewN | apply Kd.R_drew)); exact HO_8.out⟩, ⟨by repeat (first | (with_reducible first | exact HB.out | apply below_alloc | apply pw_below_drewN | apply below_drew1) | exact HB.out)⟩⟩
                        case round =>
                          clear H'
                          try clear c1
                          try clear p1
                          try clear q1
                          try clear hx1
                          try clear c2
                          try clear p2
                          try clear c3
                          try clear p3
                          try clear q3
                          try clear hx3
                          try clear hf3
                          try clear c4
                          try clear c4b0
                          try clear p4
                          try clear q4
                          try clear hx4
                          try clear hf4
                          try clear c5
                          try clear c5b0
                          try clear p6
                          try clear c7
                          try clear c7b0
                          try clear c9
                          try clear c9b0
                          try clear c9b1
                          try clear c10
                          try clear c10b0
                          try clear c10b1
                          try clear p10
                          try clear q10
                          try clear hx10
                          try clear c14
                          try clear c14b0
                          try clear c15
                          try clear c15b0
                          try clear c16
                          try clear c16b0
                          try clear p17
                          try clear q17
                          try clear hx17
                          try clear hf17
                          try clear c20
                          try clear c20b0
                          try clear c21
                          try clear c21b0
                          try clear c22
                          try clear c22b0
                          try clear c26
                          try clear c26b0
                          try clear c26b1
                          try clear c27
                          try clear c27b0
                          try clear c31
                          try clear c32
                          try clear c32b0
                          try clear c33
                          try clear c33b0
                          try clear c34
                          try clear c34b0
                          try clear p36
                          try clear q36
                          try clear hx36
                          try clear hf36
                          try clear c40
                          try clear c40b0
                          try clear c40b1
                          try clear c41
                          try clear c41b0
                          try clear c42
                          try clear c42b0
                          try clear c43
                          try clear c43b0
                          try clear p45
                          try clear q45
                          try clear hx45
                          try clear hf45
                          try clear hcz25_0
                          try clear hcz25_1
                          try clear hcz25_2
                          try clear hcz28_0
                          try clear hcz28_1
                          try clear hcz28_2
                          try clear hcz29_0
                          try clear hcz29_1
                          try clear hcz29_2
                          try clear hcz30_0
                          try clear hcz30_1
                          try clear hcz30_2
                          try clear hcz35_0
                          try clear hcz35_1
                          try clear hcz35_2
                          try clear hcz37_0
                          try clear hcz37_1
                          try clear hcz37_2
                          try clear hcz44_0
                          try clear hcz44_1
                          try clear hcz44_2
                          try clear hcz46_0
                          try clear hcz46_1
                          try clear hcz46_2
                          try clear hcz49_0
                          try clear hcz49_1
                          try clear hcz49_2
                          try clear hfz25_0
                          try clear hfz25_1
                          try clear hfz25_2
                          try clear hfz28_0
                          try clear hfz28_1
                          try clear hfz28_2
                          try clear hfz29_0
                          try clear hfz29_1
                          try clear hfz29_2
                          try clear hfz30_0
                          try clear hfz30_1
                          try clear hfz30_2
                          try clear hfz35_0
                          try clear hfz35_1
                          try clear hfz35_2
                          try clear hfz37_0
                          try clear hfz37_1
                          try clear hfz37_2
                          try clear hfz44_0
                          try clear hfz44_1
                          try clear hfz44_2
                          try clear hfz46_0
                          try clear hfz46_1
                          try clear hfz46_2
                          try clear hfz49_0
                          try clear hfz49_1
                          try clear hfz49_2
                          try clear hx105_0
                          try clear hx105_1
                          try clear hx105_2
                          try clear hx107_0
                          try clear hx109_0
                          try clear hx17_0
                          try clear hx36_0
                          try clear hx45_0
                          try clear p1
                          try clear p10
                          try clear p105
                          try clear p107
                          try clear p109
                          try clear p17
                          try clear p2
                          try clear p36
                          try clear p45
                          try clear p6
                          try clear q1
                          try clear q10
                          try clear q105
                          try clear q107
                          try clear q109
                          try clear q17
                          try clear q36
                          try clear q45
                          obtain ⟨x80_3, rfl, HA, HK3, HO_78, HB⟩ := hrel
                          cases gk with
                          | zero => exact absurd HA.out (by simp [fair_Fair.l2])
                          | succ k3 =>
                            have H := HA.out
                            clear HA
                            simp only [fair_Fair.l2] at H
                            by_cases c50 : x80_3 < (x8_2.length : Int)
                            · rw [if_pos c50] at H
                              have c50b0 : decide (x80_3 < (x8_2.length : Int)) = true := decide_eq_true c50
                              clear c50
                              by_cases c51 : 0 ≤ x80_3
                              · rw [if_pos c51] at H
                                have c51b0 : decide (0 ≤ x80_3) = true := decide_eq_true c51
                                clear c51
                                by_cases c52 : x80_3 < (x8_2.length : Int)
                                · rw [if_pos c52] at H
                                  have c52b0 : decide (x80_3 < (x8_2.length : Int)) = true := decide_eq_true c52
                                  clear c52
                                  by_cases c53 : (wrap64 ((l1.length : Int) - (rd x8_2 x80_3))) > a2
                                  · rw [if_pos c53] at H
                                    have c53b0 : decide (a2 < (wrap64 ((l1.length : Int) - (rd x8_2 x80_3)))) = true := decide_eq_true c53
                                    clear c53
                                    obtain rfl := Option.some.inj H
                                    have p111 : 0 ≤ (x80_3 : Int) := of_decide_eq_true (by first | (with_reducible assumption) | assumption)
                                    have q111 : x80_3 < (x8_2.length : Int) := of_decide_eq_true (by first | (with_reducible assumption) | assumption)
                                    obtain ⟨ad111, e111, hx111_0⟩ := Kd.at_int (Kd.R_reads' HO_78.out).2.2 x80_3 p111 q111
                                    cases e111
                                    replace p111 := eq_true p111
                                    replace q111 := eq_true q111
                                    go_wp2
                                    go_ret
                                    exact ⟨by first | rfl | (simp [errW_none, errW_some] <;> rfl) | (simp only [← hji6, ← hji8]; first | rfl | (simp [errW_none, errW_some] <;> rfl)) | (simp [*, errW_none, errW_some] <;> rfl), by repeat (first | (with_reducible first | exact HB.out | apply below_alloc | apply pw_below_drewN | apply below_drew1) | exact HB.out)⟩
                                  · rw [if_neg c53] at H
                                    have c53b0 : decide (a2 < (wrap64 ((l1.length : Int) - (rd x8_2 x80_3)))) = false := decide_eq_false c53
                                    clear c53
                                    have H' := Aside0.mk H
                                    clear H
                                    have p111 : 0 ≤ (x80_3 : Int) := of_decide_eq_true (by first | (with_reducible assumption) | assumption)
                                    have q111 : x80_3 < (x8_2.length : Int) := of_decide_eq_true (by first | (with_reducible assumption) | assumption)
                                    obtain ⟨ad111, e111, hx111_0⟩ := Kd.at_int (Kd.R_reads' HO_78.out).2.2 x80_3 p111 q111
                                    cases e111
                                    replace p111 := eq_true p111
                                    replace q111 := eq_true q111
                                    go_wp2
                                    go_roundg k3
                                    case measure => have := HK1.out; have := HK2.out; have := HK3.out; omega
                                    case rel => exact ⟨(wrap64 (x80_3 + 1)), (by first | rfl | (simp; done) | (simp [*]; done)), H', ⟨by have := HK1.out; have := HK2.out; have := HK3.out; omega⟩, ⟨by (try simp only [hl8_1]); (try simp only [hl8_2]); (with_reducible repeat (first | apply Kd.R_alloc | apply Kd.R_drewN | apply Kd.R_drew)); exact HO_78.out⟩, ⟨by repeat (first | (with_reducible first | exact HB.out | apply below_alloc | apply pw_below_drewN | apply below_drew1) | exact HB.out)⟩⟩
                                · rw [if_neg c52] at H
                                  exact absurd H (by simp)
                              · rw [if_neg c51] at H
                                exact absurd H (by simp)
                            · rw [if_neg c50] at H
                              have c50b0 : decide (x80_3 < (x8_2.length : Int)) = false := decide_eq_false c50
                              clear c50
                              obtain rfl := Option.some.inj H
                              go_wp2
                              go_ret
                              exact ⟨by first | rfl | (simp [errW_none, errW_some] <;> rfl) | (simp only [← hji6, ← hji8]; first | rfl | (simp [errW_none, errW_some] <;> rfl)) | (simp [*, errW_none, errW_some] <;> rfl), by repeat (first | (with_reducible first | exact HB.out | apply below_alloc | apply pw_below_drewN | apply below_drew1) | exact HB.out)⟩
          · rw [if_neg c10] at H
            exact absurd H (by simp)
        · rw [if_neg c9] at H
          exact absurd H (by simp)

end Go.Proofs.Ytjninhbdcllofaa.Fa
