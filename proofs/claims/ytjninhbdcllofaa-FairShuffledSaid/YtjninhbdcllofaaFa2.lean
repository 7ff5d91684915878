import Derived.Test.YtjninhbdcllofaaFa0
namespace Go.Proofs.Ytjninhbdcllofaa.Fa
open Go.RowKit Go.Proofs.YtjninhbdcllofaaW.PrintWords Go.Proofs.YtjninhbdcllofaaW.PrintLast Go.Proofs.YtjninhbdcllofaaW.PrintMore
attribute [local go_sem] max2_int min2_int max_two min_two max_three min_three max_four min_four   -- for this text's walks alone
set_option linter.unusedVariables false
set_option linter.unusedSimpArgs false

/-! ### fair_Rounds: function 13 -/
mutual
def fair_Rounds.j0 : Nat → Int → Int → Int → Bool → Option ((List (S34)))
  | 0, _, _, _, _ => none
  | k + 1, x0, x1, x2, x17 => if x17 = true then (some ([] : List (S34))) else (fair_Rounds.l0 k x0 x2 ([] : List (S34)) (mn x1 65536) 0)
def fair_Rounds.l0 : Nat → Int → Int → List (S34) → Int → Int → Option ((List (S34)))
  | 0, _, _, _, _, _ => none
  | k + 1, x0, x2, x7, x19, x20 => if x20 < x19 then (fair_Rounds.l1 k x0 x2 x7 ([] : List Int) x19 x20 (wrap64 (x0 + 1)) 0) else (some x7)
def fair_Rounds.l1 : Nat → Int → Int → List (S34) → List Int → Int → Int → Int → Int → Option ((List (S34)))
  | 0, _, _, _, _, _, _, _, _ => none
  | k + 1, x0, x2, x7, x8, x19, x20, x23, x24 => if x24 < x23 then (if x8.length < 17592186044416 then (fair_Rounds.l1 k x0 x2 x7 (x8 ++ [x24]) x19 x20 x23 (wrap64 (x24 + 1))) else (none)) else (fair_Rounds.l2 k x0 x2 x7 x8 x19 x20)
def fair_Rounds.l2 : Nat → Int → Int → List (S34) → List Int → Int → Int → Option ((List (S34)))
  | 0, _, _, _, _, _, _ => none
  | k + 1, x0, x2, x7, x8, x19, x20 => if (x8.length : Int) > 0 then (if (IntKind.u64.wrap ((x8.length : Int))) = 0 then (none) else (if 0 ≤ (wrap64 (Int.tmod ((IntKind.u64.wrap ((IntKind.u64.wrap (x2 * 6364136223846793005)) + 1442695040888963407)) / 4294967296) (IntKind.u64.wrap ((x8.length : Int))))) then (if (wrap64 (Int.tmod ((IntKind.u64.wrap ((IntKind.u64.wrap (x2 * 6364136223846793005)) + 1442695040888963407)) / 4294967296) (IntKind.u64.wrap ((x8.length : Int))))) < (x8.length : Int) then (if (rd x8 (wrap64 (Int.tmod ((IntKind.u64.wrap ((IntKind.u64.wrap (x2 * 6364136223846793005)) + 1442695040888963407)) / 4294967296) (IntKind.u64.wrap ((x8.length : Int)))))) < x0 then (if x7.length < 5864062014805 then (if (wrap64 (Int.tmod ((IntKind.u64.wrap ((IntKind.u64.wrap (x2 * 6364136223846793005)) + 1442695040888963407)) / 4294967296) (IntKind.u64.wrap ((x8.length : Int))))) ≤ (x8.length : Int) then (if 0 ≤ (wrap64 ((wrap64 (Int.tmod ((IntKind.u64.wrap ((IntKind.u64.wrap (x2 * 6364136223846793005)) + 1442695040888963407)) / 4294967296) (IntKind.u64.wrap ((x8.length : Int))))) + 1)) then (if (wrap64 ((wrap64 (Int.tmod ((IntKind.u64.wrap ((IntKind.u64.wrap (x2 * 6364136223846793005)) + 1442695040888963407)) / 4294967296) (IntKind.u64.wrap ((x8.length : Int))))) + 1)) ≤ (x8.length : Int) then (fair_Rounds.l2 k x0 (IntKind.u64.wrap ((IntKind.u64.wrap (x2 * 6364136223846793005)) + 1442695040888963407)) (x7 ++ [(⟨1, rd x8 (wrap64 (Int.tmod ((IntKind.u64.wrap ((IntKind.u64.wrap (x2 * 6364136223846793005)) + 1442695040888963407)) / 4294967296) (IntKind.u64.wrap ((x8.length : Int))))), (IntKind.u64.wrap ((IntKind.u64.wrap (x2 * 6364136223846793005)) + 1442695040888963407)) / 4294967296⟩ : S34)]) (x8.eraseIdx ((wrap64 (Int.tmod ((IntKind.u64.wrap ((IntKind.u64.wrap (x2 * 6364136223846793005)) + 1442695040888963407)) / 4294967296) (IntKind.u64.wrap ((x8.length : Int))))) : Int).toNat) x19 x20) else (none)) else (none)) else (none)) else (none)) else (if x7.length < 5864062014805 then (if (wrap64 (Int.tmod ((IntKind.u64.wrap ((IntKind.u64.wrap (x2 * 6364136223846793005)) + 1442695040888963407)) / 4294967296) (IntKind.u64.wrap ((x8.length : Int))))) ≤ (x8.length : Int) then (if 0 ≤ (wrap64 ((wrap64 (Int.tmod ((IntKind.u64.wrap ((IntKind.u64.wrap (x2 * 6364136223846793005)) + 1442695040888963407)) / 4294967296) (IntKind.u64.wrap ((x8.length : Int))))) + 1)) then (if (wrap64 ((wrap64 (Int.tmod ((IntKind.u64.wrap ((IntKind.u64.wrap (x2 * 6364136223846793005)) + 1442695040888963407)) / 4294967296) (IntKind.u64.wrap ((x8.length : Int))))) + 1)) ≤ (x8.length : Int) then (fair_Rounds.l2 k x0 (IntKind.u64.wrap ((IntKind.u64.wrap (x2 * 6364136223846793005)) + 1442695040888963407)) (x7 ++ [(⟨2, 0, 0⟩ : S34)]) (x8.eraseIdx ((wrap64 (Int.tmod ((IntKind.u64.wrap ((IntKind.u64.wrap (x2 * 6364136223846793005)) + 1442695040888963407)) / 4294967296) (IntKind.u64.wrap ((x8.length : Int))))) : Int).toNat) x19 x20) else (none)) else (none)) else (none)) else (none))) else (none)) else (none))) else (fair_Rounds.l0 k x0 x2 x7 x19 (wrap64 (x20 + 1)))
end
def fair_Rounds.f (k : Nat) (a0 : Int) (a1 : Int) (a2 : Int) : Option ((List (S34))) := if a0 < 1 then (fair_Rounds.j0 k a0 a1 a2 true) else (fair_Rounds.j0 k a0 a1 a2 (decide (a0 > 64)))
theorem fair_Rounds.mono_l : ∀ k, (∀ y0 y1 y2 y3, LeO (fair_Rounds.j0 k y0 y1 y2 y3) (fair_Rounds.j0 (k + 1) y0 y1 y2 y3)) ∧ (∀ y0 y1 y2 y3 y4, LeO (fair_Rounds.l0 k y0 y1 y2 y3 y4) (fair_Rounds.l0 (k + 1) y0 y1 y2 y3 y4)) ∧ (∀ y0 y1 y2 y3 y4 y5 y6 y7, LeO (fair_Rounds.l1 k y0 y1 y2 y3 y4 y5 y6 y7) (fair_Rounds.l1 (k + 1) y0 y1 y2 y3 y4 y5 y6 y7)) ∧ (∀ y0 y1 y2 y3 y4 y5, LeO (fair_Rounds.l2 k y0 y1 y2 y3 y4 y5) (fair_Rounds.l2 (k + 1) y0 y1 y2 y3 y4 y5))
  | 0 => ⟨fun _ _ _ _ r h => by simp [fair_Rounds.j0] at h, fun _ _ _ _ _ r h => by simp [fair_Rounds.l0] at h, fun _ _ _ _ _ _ _ _ r h => by simp [fair_Rounds.l1] at h, fun _ _ _ _ _ _ r h => by simp [fair_Rounds.l2] at h⟩
  | k + 1 => by
    obtain ⟨ih0, ih1, ih2, ih3⟩ := fair_Rounds.mono_l k
    refine ⟨?_, ?_, ?_, ?_⟩
    · intro y0 y1 y2 y3
      unfold fair_Rounds.j0
      repeat' first
      | (with_reducible exact ih0 _ _ _ _)
      | (with_reducible exact ih1 _ _ _ _ _)
      | (with_reducible exact ih2 _ _ _ _ _ _ _ _)
      | (with_reducible exact ih3 _ _ _ _ _ _)
      | (with_reducible exact LeO.refl _)
      | (with_reducible exact LeO.none _)
      | (with_reducible refine LeO.ite ?_ ?_)
      | (with_reducible refine LeO.bind ?_ (fun _ => ?_))
      | exact ih0 _ _ _ _
      | exact ih1 _ _ _ _ _
      | exact ih2 _ _ _ _ _ _ _ _
      | exact ih3 _ _ _ _ _ _
      | exact LeO.none _
      | refine LeO.ite ?_ ?_
      | refine LeO.bind ?_ (fun _ => ?_)
    · intro y0 y1 y2 y3 y4
      unfold fair_Rounds.l0
      repeat' first
      | (with_reducible exact ih0 _ _ _ _)
      | (with_reducible exact ih1 _ _ _ _ _)
      | (with_reducible exact ih2 _ _ _ _ _ _ _ _)
      | (with_reducible exact ih3 _ _ _ _ _ _)
      | (with_reducible exact LeO.refl _)
      | (with_reducible exact LeO.none _)
      | (with_reducible refine LeO.ite ?_ ?_)
      | (with_reducible refine LeO.bind ?_ (fun _ => ?_))
      | exact ih0 _ _ _ _
      | exact ih1 _ _ _ _ _
      | exact ih2 _ _ _ _ _ _ _ _
      | exact ih3 _ _ _ _ _ _
      | exact LeO.none _
      | refine LeO.ite ?_ ?_
      | refine LeO.bind ?_ (fun _ => ?_)
    · intro y0 y1 y2 y3 y4 y5 y6 y7
      unfold fair_Rounds.l1
      repeat' first
      | (with_reducible exact ih0 _ _ _ _)
      | (with_reducible exact ih1 _ _ _ _ _)
      | (with_reducible exact ih2 _ _ _ _ _ _ _ _)
      | (with_reducible exact ih3 _ _ _ _ _ _)
      | (with_reducible exact LeO.refl _)
      | (with_reducible exact LeO.none _)
      | (with_reducible refine LeO.ite ?_ ?_)
      | (with_reducible refine LeO.bind ?_ (fun _ => ?_))
      | exact ih0 _ _ _ _
      | exact ih1 _ _ _ _ _
      | exact ih2 _ _ _ _ _ _ _ _
      | exact ih3 _ _ _ _ _ _
      | exact LeO.none _
      | refine LeO.ite ?_ ?_
      | refine LeO.bind ?_ (fun _ => ?_)
    · intro y0 y1 y2 y3 y4 y5
      unfold fair_Rounds.l2
      repeat' first
      | (with_reducible exact ih0 _ _ _ _)
      | (with_reducible exact ih1 _ _ _ _ _)
      | (with_reducible exact ih2 _ _ _ _ _ _ _ _)
      | (with_reducible exact ih3 _ _ _ _ _ _)
      | (with_reducible exact LeO.refl _)
      | (with_reducible exact LeO.none _)
      | (with_reducible refine LeO.ite ?_ ?_)
      | (with_reducible refine LeO.bind ?_ (fun _ => ?_))
      | exact ih0 _ _ _ _
      | exact ih1 _ _ _ _ _
      | exact ih2 _ _ _ _ _ _ _ _
      | exact ih3 _ _ _ _ _ _
      | exact LeO.none _
      | refine LeO.ite ?_ ?_
      | refine LeO.bind ?_ (fun _ => ?_)
theorem fair_Rounds.mono : ∀ a0 a1 a2 k, LeO (fair_Rounds.f k a0 a1 a2) (fair_Rounds.f (k + 1) a0 a1 a2) := by
  intro a0 a1 a2 k
  obtain ⟨ih0, ih1, ih2, ih3⟩ := fair_Rounds.mono_l k
  unfold fair_Rounds.f
  repeat' first
      | (with_reducible exact ih0 _ _ _ _)
      | (with_reducible exact ih1 _ _ _ _ _)
      | (with_reducible exact ih2 _ _ _ _ _ _ _ _)
      | (with_reducible exact ih3 _ _ _ _ _ _)
      | (with_reducible exact LeO.refl _)
      | (with_reducible exact LeO.none _)
      | (with_reducible refine LeO.ite ?_ ?_)
      | (with_reducible refine LeO.bind ?_ (fun _ => ?_))
      | exact ih0 _ _ _ _
      | exact ih1 _ _ _ _ _
      | exact ih2 _ _ _ _ _ _ _ _
      | exact ih3 _ _ _ _ _ _
      | exact LeO.none _
      | refine LeO.ite ?_ ?_
      | refine LeO.bind ?_ (fun _ => ?_)
def fair_Rounds.T19 : Bool × List (List Nat × List Nat) := (true, [([], []), ([], []), ([0, 1], [0, 1]), ([], []), ([], []), ([4], [4]), ([3, 5], [3, 5]), ([2, 6], [2, 6]), ([7, 7, 0, 1, 2, 3, 4, 5, 6, 7], [0, 3, 7])])
def fair_Rounds.B19 : List Nat := [0, 0, 3, 0, 0, 16, 56, 127, 255]
theorem fair_Rounds.tab19 : rtab .any (opsOf Try.f13 19) = fair_Rounds.T19 := by kernel_rfl
theorem fair_Rounds.bits19 : waitsOk fair_Rounds.T19.2 fair_Rounds.B19 = true := by kernel_rfl
set_option maxHeartbeats 1600000 in
set_option maxRecDepth 100000 in
theorem fair_Rounds.calls (k : Nat) (a0 : Int) (a1 : Int) (a2 : Int) (r : List (S34)) (w : World) (h : fair_Rounds.f k a0 a1 a2 = some r) :
    Calls Try.prog 13 #[.int .i64 a0, .int .i64 a1, .int .u64 a2] w fun e w' => ∃ v0_ : Value, e = .returned (v0_) ∧ Kd.R k34 34 w' w.heap.size (fun _ => True) v0_ r ∧ Below w.heap.size w w' := by
  have hu34 := Try.underlying34
  have HB := Aside0.mk (Below.refl w.heap.size w)
  have H : (if a0 < 1 then (fair_Rounds.j0 k a0 a1 a2 true) else (fair_Rounds.j0 k a0 a1 a2 (decide (a0 > 64)))) = some r := h
  clear h
  have HC4 := Aside0.mk H
  clear H
  go_enter Try.func13, Try.ntmps13
  go_upto_region 1 with (fail)
  go_cut [17] (fun v17 wc => ∃ (kq : Nat) (x17_3 : Bool), v17 = .bool x17_3 ∧ Aside0 (fair_Rounds.j0 kq a0 a1 a2 x17_3 = some r) ∧ Aside0 (kq ≤ k) ∧ Aside0 (Below w.heap.size w wc))
  case first =>
    have H := HC4.out
    clear HC4
    by_cases c5 : a0 < 1
    · rw [if_pos c5] at H
      have c5b0 : decide (a0 < 1) = true := decide_eq_true c5
      clear c5
      (first | rw [c5b0] | (simp only [i64_w, i32_w]; rw [c5b0]) | skip)
      have H' := Aside0.mk H
      clear H
      go_wp2
      go_meet
      case rel => exact ⟨_, (true), (by first | rfl | (simp; done) | (simp [*]; done)), H', ⟨by first | omega | exact Nat.le_refl _⟩, ⟨by repeat (first | (with_reducible first | exact HB.out | apply below_alloc | apply pw_below_drewN | apply below_drew1) | exact HB.out)⟩⟩
    · rw [if_neg c5] at H
      have c5b0 : decide (a0 < 1) = false := decide_eq_false c5
      clear c5
      (first | rw [c5b0] | (simp only [i64_w, i32_w]; rw [c5b0]) | skip)
      have H' := Aside0.mk H
      clear H
      go_wp2
      go_meet
      case rel => exact ⟨_, (decide (a0 > 64)), (by first | rfl | (simp; done) | (simp [*]; done)), H', ⟨by first | omega | exact Nat.le_refl _⟩, ⟨by repeat (first | (with_reducible first | exact HB.out | apply below_alloc | apply pw_below_drewN | apply below_drew1) | exact HB.out)⟩⟩
  case rest =>
    clear HC4
    try clear c1
    try clear p2
    try clear c5
    try clear c5b0
    obtain ⟨kq, x17_3, rfl, HA, HJ3, HB⟩ := hcut
    cases kq with
    | zero => exact absurd HA.out (by simp [fair_Rounds.j0])
    | succ kj3 =>
      have H := HA.out
      clear HA
      simp only [fair_Rounds.j0] at H
      by_cases c6 : x17_3 = true
      · subst c6
        have H1 : (some ([] : List (S34))) = some r := by rw [if_pos rfl] at H; exact H
        clear H
        have H := H1
        clear H1
        obtain rfl := Option.some.inj H
        go_wp2
        go_ret
        exact ⟨_, by first | rfl | (simp [errW_none, errW_some] <;> rfl) | (simp [*, errW_none, errW_some] <;> rfl), by first | exact Kd.R_nil _ _ _ _ _ | exact Kd.N_nil _ _ _ _ _ | exact Kd.V_nil _ _ _ _ _ | exact Kd.Q_nil _ _ _ _ _ | exact Kd.S_nil _ _ _ _ _, by repeat (first | (with_reducible first | exact HB.out | apply below_alloc | apply pw_below_drewN | apply below_drew1) | exact HB.out)⟩
      · replace c6 := Bool.eq_false_iff.mpr c6
        subst c6
        have H1 : (fair_Rounds.l0 kj3 a0 a2 ([] : List (S34)) (mn a1 65536) 0) = some r := by rw [if_neg (show ¬ (false = true) by decide)] at H; exact H
        clear H
        have H := H1
        clear H1
        obtain ⟨ji7, hji7⟩ : ∃ j_ : Int, (mn a1 65536) = j_ := ⟨_, rfl⟩
        replace H : (fair_Rounds.l0 kj3 a0 a2 ([] : List (S34)) ji7 0) = some r := by first | (rw [hji7] at H; exact H) | (simp only [hji7] at H ⊢; exact H)
        have hji7_ : (if 65536 < a1 then 65536 else a1) = ji7 := hji7
        have H' := Aside0.mk H
        clear H
        go_wp2
        go_loopg [2, 7, 20] kj3 (fun kq v2 v7 v20 w' => ∃ (x2_2 : Int) (x7_2 : List (S34)) (x20_2 : Int), v2 = .int .u64 x2_2 ∧ v20 = .int .i64 x20_2 ∧ Aside0 (fair_Rounds.l0 kq a0 x2_2 x7_2 ji7 x20_2 = some r) ∧ Aside0 (kq ≤ kj3) ∧ Aside0 (Kd.R k34 34 w' w.heap.size (fun _ => True) v7 x7_2) ∧ Aside0 (Below w.heap.size w w'))
        case atStart => exact ⟨(a2), (([] : List (S34))), (0), (by first | rfl | (simp; done) | (simp [*]; done)), (by first | rfl | (simp; done) | (simp [*]; done)), H', ⟨Nat.le_refl _⟩, ⟨by first | exact Kd.R_nil _ _ _ _ _ | exact Kd.N_nil _ _ _ _ _ | exact Kd.V_nil _ _ _ _ _ | exact Kd.Q_nil _ _ _ _ _ | exact Kd.S_nil _ _ _ _ _⟩, ⟨by repeat (first | (with_reducible first | exact HB.out | apply below_alloc | apply pw_below_drewN | apply below_drew1) | exact HB.out)⟩⟩
        case round =>
          clear H'
          try clear c1
          try clear p2
          try clear c5
          try clear c5b0
          try clear c6
          try clear p2
          obtain ⟨x2_2, x7_2, x20_2, rfl, rfl, HA, HK2, HO_7, HB⟩ := hrel
          cases gk with
          | zero => exact absurd HA.out (by simp [fair_Rounds.l0])
          | succ k2 =>
            have H := HA.out
            clear HA
            simp only [fair_Rounds.l0] at H
            by_cases c8 : x20_2 < ji7
            · rw [if_pos c8] at H
              have c8b0 : decide (x20_2 < ji7) = true := decide_eq_true c8
              clear c8
              have H' := Aside0.mk H
              clear H
              go_wp2
              go_loopg [8, 24] k2 (fun kq v8 v24 w' => ∃ (x8_3 : List Int) (x24_3 : Int), v24 = .int .i64 x24_3 ∧ Aside0 (fair_Rounds.l1 kq a0 x2_2 x7_2 x8_3 ji7 x20_2 (wrap64 (a0 + 1)) x24_3 = some r) ∧ Aside0 (kq ≤ k2) ∧ Aside0 (Kd.R k34 34 w' w.heap.size (fun _ => True) u7 x7_2) ∧ Aside0 (Kd.R (Kd.int .i64) 3 w' w.heap.size (fun _ => True) v8 x8_3) ∧ Aside0 (Below w.heap.size w w'))
              case atStart => exact ⟨(([] : List Int)), (0), (by first | rfl | (simp; done) | (simp [*]; done)), H', ⟨Nat.le_refl _⟩, ⟨by (with_reducible repeat (first | apply Kd.R_alloc | apply Kd.R_drewN | apply Kd.R_drew)); exact HO_7.out⟩, ⟨by first | exact Kd.R_nil _ _ _ _ _ | exact Kd.N_nil _ _ _ _ _ | exact Kd.V_nil _ _ _ _ _ | exact Kd.Q_nil _ _ _ _ _ | exact Kd.S_nil _ _ _ _ _⟩, ⟨by repeat (first | (with_reducible first | exact HB.out | apply below_alloc | apply pw_below_drewN | apply below_drew1) | exact HB.out)⟩⟩
              case round =>
                clear H'
                try clear c1
                try clear p2
                try clear c5
                try clear c5b0
                try clear c6
                try clear p6
                try clear c8
                try clear c8b0
                try clear p2
                obtain ⟨x8_3, x24_3, rfl, HA, HK3, HO_7, HO_8, HB⟩ := hrel
                cases gk with
                | zero => exact absurd HA.out (by simp [fair_Rounds.l1])
                | succ k3 =>
                  have H := HA.out
                  clear HA
                  simp only [fair_Rounds.l1] at H
                  by_cases c9 : x24_3 < (wrap64 (a0 + 1))
                  · rw [if_pos c9] at H
                    have c9b0 : decide (x24_3 < (wrap64 (a0 + 1))) = true := decide_eq_true c9
                    clear c9
                    by_cases c10 : x8_3.length < 17592186044416
                    · rw [if_pos c10] at H
                      have LMc10 := Aside0.mk c10
                      clear c10
                      obtain ⟨y112, hy112⟩ : ∃ y_ : List Int, y_ = (x8_3 ++ [x24_3]) := ⟨_, rfl⟩
                      replace H : (fair_Rounds.l1 k3 a0 x2_2 x7_2 y112 ji7 x20_2 (wrap64 (a0 + 1)) (wrap64 (x24_3 + 1))) = some r := by first | (rw [hy112]; with_reducible exact H) | (have H2_ := (Option.bind_some _ _).symm.trans H; rw [hy112]; with_reducible exact H2_) | (have H2_ := (Option.bind_some _ _).symm.trans H; with_reducible exact H2_) | with_reducible exact H | (rw [hy112]; exact H) | exact H
                      have Ny112 := Aside0.mk hy112
                      clear hy112
                      have H' := Aside0.mk H
                      clear H
                      go_wp2_with (first | ((with_reducible refine gate_builtin (b := .append) (xs := #[.tmp 27, .tmp 29]) rfl ?_); at_builtin; refine Kd.R_append (Kd.int .i64) (w0 := w) w.heap.size rfl (.tmp 27) (.tmp 29) 32 3 (.int .i64 0) 8 rfl Try.underlying32 info3 rfl (by decide) (by omega) u8 x8_3 x24_3 [.int .i64 x24_3] (fun _ => True) (fun _ => False) rfl rfl ?aP (fun _ hk => hk.elim) ?aF ?aO ?aB ?aS ?aL ?_; (case aP => exact rfl); (case aB => exact (by repeat (first | (with_reducible first | exact HB.out | apply below_alloc | apply pw_below_drewN | apply below_drew1) | exact HB.out))); (case aF => exact (fun _ _ => trivial)); (case aO => exact (by (with_reducible repeat (first | apply Kd.R_alloc | apply Kd.R_drewN | apply Kd.R_drew)); exact HO_8.out)); (case aS => exact (below_size (by repeat (first | (with_reducible first | exact HB.out | apply below_alloc | apply pw_below_drewN | apply below_drew1) | exact HB.out)))); (case aL => have := LMc10.out; omega); intro v113 w11 ho hb hg hat; rw [← Ny112.out] at ho; have n0_ := Aside0.mk (Kd.R_over' (by (with_reducible repeat (first | apply Kd.R_alloc | apply Kd.R_drewN | apply Kd.R_drew)); exact HO_7.out) (Kd.R_typed (by (with_reducible repeat (first | apply Kd.R_alloc | apply Kd.R_drewN | apply Kd.R_drew)); exact HO_8.out)) (by decide) hg); have n1_ := Aside0.mk (hb); have n2_ := Aside0.mk (ho); clear HO_7; clear HB; clear HO_8; have HO_7 := n0_; have HB := n1_; have HO114 := n2_; clear n0_ n1_ n2_; clear ho hb hg hat))
                      go_roundg k3
                      case measure => have := HJ3.out; have := HK2.out; have := HK3.out; omega
                      case rel => exact ⟨(y112), (wrap64 (x24_3 + 1)), (by first | rfl | (simp; done) | (simp [*]; done)), H', ⟨by have := HJ3.out; have := HK2.out; have := HK3.out; omega⟩, ⟨by (with_reducible repeat (first | apply Kd.R_alloc | apply Kd.R_drewN | apply Kd.R_drew)); exact HO_7.out⟩, ⟨by (with_reducible repeat (first | apply Kd.R_alloc | apply Kd.R_drewN | apply Kd.R_drew)); exact HO114.out⟩, ⟨by repeat (first | (with_reducible first | exact HB.out | apply below_alloc | apply pw_below_drewN | apply below_drew1) | exact HB.out)⟩⟩
                    · rw [if_neg c10] at H
                      exact absurd H (by simp)
                  · rw [if_neg c9] at H
                    have c9b0 : decide (x24_3 < (wrap64 (a0 + 1))) = false := decide_eq_false c9
                    clear c9
                    have H' := Aside0.mk H
                    clear H
                    go_wp2
                    go_loopg [2, 7, 8] k3 (fun kq v2 v7 v8 w' => ∃ (x2_4 : Int) (x7_4 : List (S34)) (x8_4 : List Int), v2 = .int .u64 x2_4 ∧ Aside0 (fair_Rounds.l2 kq a0 x2_4 x7_4 x8_4 ji7 x20_2 = some r) ∧ Aside0 (kq ≤ k3) ∧ Aside0 (Kd.R k34 34 w' w.heap.size (fun _ => True) v7 x7_4) ∧ Aside0 (Kd.R (Kd.int .i64) 3 w' w.heap.size (fun _ => True) v8 x8_4) ∧ Aside0 (Below w.heap.size w w'))
                    case atStart => exact ⟨(x2_2), (x7_2), (x8_3), (by first | rfl | (simp; done) | (simp [*]; done)), H', ⟨Nat.le_refl _⟩, ⟨by (with_reducible repeat (first | apply Kd.R_alloc | apply Kd.R_drewN | apply Kd.R_drew)); exact HO_7.out⟩, ⟨by (with_reducible repeat (first | apply Kd.R_alloc | apply Kd.R_drewN | apply Kd.R_drew)); exact HO_8.out⟩, ⟨by repeat (first | (with_reducible first | exact HB.out | apply below_alloc | apply pw_below_drewN | apply below_drew1) | exact HB.out)⟩⟩
                    case round =>
                      clear H'
                      try clear c1
                      try clear p2
                      try clear c5
                      try clear c5b0
                      try clear c6
                      try clear p6
                      try clear c8
                      try clear c8b0
                      try clear c9
                      try clear c9b0
                      try clear c10
                      try clear p2
                      try clear p6
                      obtain ⟨x2_4, x7_4, x8_4, rfl, HA, HK4, HO_7, HO_8, HB⟩ := hrel
                      cases gk with
                      | zero => exact absurd HA.out (by simp [fair_Rounds.l2])
                      | succ k4 =>
                        have H := HA.out
                        clear HA
                        simp only [fair_Rounds.l2] at H
                        by_cases c12 : (x8_4.length : Int) > 0
                        · rw [if_pos c12] at H
                          have c12b0 : decide (0 < (x8_4.length : Int)) = true := decide_eq_true c12
                          have c12b1 : decide (0 < x8_4.length) = true := decide_eq_true (by omega)
                          clear c12
                          by_cases c13 : (IntKind.u64.wrap ((x8_4.length : Int))) = 0
                          · rw [if_pos c13] at H
                            exact absurd H (by simp)
                          · rw [if_neg c13] at H
                            have c13b0 : ((IntKind.u64.wrap ((x8_4.length : Int))) == 0) = false := beq_eq_false_iff_ne.mpr c13
                            have c13b1 : ((IntKind.u64.wrap ((x8_4.length : Int))) != 0) = true := bne_iff_ne.mpr c13
                            obtain ⟨jm_, hjm_⟩ : ∃ j_ : Int, (IntKind.u64.wrap (x2_4 * 6364136223846793005)) = j_ := ⟨_, rfl⟩
                            rw [hjm_] at H
                            obtain ⟨js_, hjs_⟩ : ∃ j_ : Int, (IntKind.u64.wrap (jm_ + 1442695040888963407)) = j_ := ⟨_, rfl⟩
                            rw [hjs_] at H
                            obtain ⟨ji14, hji14⟩ : ∃ j_ : Int, (wrap64 (Int.tmod (js_ / 4294967296) (IntKind.u64.wrap ((x8_4.length : Int))))) = j_ := ⟨_, rfl⟩
                            replace H : (if 0 ≤ (ji14) then (if (ji14) < (x8_4.length : Int) then (if (rd x8_4 (ji14)) < a0 then (if x7_4.length < 5864062014805 then (if (ji14) ≤ (x8_4.length : Int) then (if 0 ≤ (wrap64 ((ji14) + 1)) then (if (wrap64 ((ji14) + 1)) ≤ (x8_4.length : Int) then (fair_Rounds.l2 k4 a0 js_ (x7_4 ++ [(⟨1, rd x8_4 (ji14), js_ / 4294967296⟩ : S34)]) (x8_4.eraseIdx ((ji14) : Int).toNat) ji7 x20_2) else (none)) else (none)) else (none)) else (none)) else (if x7_4.length < 5864062014805 then (if (ji14) ≤ (x8_4.length : Int) then (if 0 ≤ (wrap64 ((ji14) + 1)) then (if (wrap64 ((ji14) + 1)) ≤ (x8_4.length : Int) then (fair_Rounds.l2 k4 a0 js_ (x7_4 ++ [(⟨2, 0, 0⟩ : S34)]) (x8_4.eraseIdx ((ji14) : Int).toNat) ji7 x20_2) else (none)) else (none)) else (none)) else (none))) else (none)) else (none)) = some r := by first | (rw [hji14] at H; exact H) | (simp only [hji14] at H ⊢; exact H)
                            have hji14w : (IntKind.i64.wrap (Int.tmod (js_ / 4294967296) (IntKind.u64.wrap ((x8_4.length : Int))))) = ji14 := (i64_w _).trans hji14
                            by_cases c15 : 0 ≤ (ji14)
                            · rw [if_pos c15] at H
                              have c15b0 : decide (0 ≤ (ji14)) = true := decide_eq_true c15
                              clear c15
                              by_cases c16 : (ji14) < (x8_4.length : Int)
                              · rw [if_pos c16] at H
                                have c16b0 : decide ((ji14) < (x8_4.length : Int)) = true := decide_eq_true c16
                                clear c16
                                by_cases c17 : (rd x8_4 (ji14)) < a0
                                · rw [if_pos c17] at H
                                  have c17b0 : decide ((rd x8_4 (ji14)) < a0) = true := decide_eq_true c17
                                  clear c17
                                  by_cases c18 : x7_4.length < 5864062014805
                                  · rw [if_pos c18] at H
                                    have LMc18 := Aside0.mk c18
                                    clear c18
                                    obtain ⟨y118, hy118⟩ : ∃ y_ : List (S34), y_ = (x7_4 ++ [(⟨1, rd x8_4 (ji14), js_ / 4294967296⟩ : S34)]) := ⟨_, rfl⟩
                                    replace H : (if (ji14) ≤ (x8_4.length : Int) then (if 0 ≤ (wrap64 ((ji14) + 1)) then (if (wrap64 ((ji14) + 1)) ≤ (x8_4.length : Int) then (fair_Rounds.l2 k4 a0 js_ y118 (x8_4.eraseIdx ((ji14) : Int).toNat) ji7 x20_2) else (none)) else (none)) else (none)) = some r := by first | (rw [hy118]; with_reducible exact H) | (have H2_ := (Option.bind_some _ _).symm.trans H; rw [hy118]; with_reducible exact H2_) | (have H2_ := (Option.bind_some _ _).symm.trans H; with_reducible exact H2_) | with_reducible exact H | (rw [hy118]; exact H) | exact H
                                    have Ny118 := Aside0.mk hy118
                                    clear hy118
                                    have c19b0 := eq_true (of_decide_eq_true (by first | (with_reducible assumption) | assumption) : 0 ≤ (ji14))
                                    by_cases c20 : (ji14) ≤ (x8_4.length : Int)
                                    · rw [if_pos c20] at H
                                      have c20b0 := eq_true c20
                                      have c20b1 : decide ((ji14) ≤ (x8_4.length : Int)) = true := decide_eq_true c20
                                      clear c20
                                      obtain ⟨y121, hy121⟩ : ∃ y_ : List Int, y_ = (x8_4.take ((ji14) : Int).toNat) := ⟨_, rfl⟩
                                      replace H : (if 0 ≤ (wrap64 ((ji14) + 1)) then (if (wrap64 ((ji14) + 1)) ≤ (x8_4.length : Int) then (fair_Rounds.l2 k4 a0 js_ y118 (x8_4.eraseIdx ((ji14) : Int).toNat) ji7 x20_2) else (none)) else (none)) = some r := by first | (rw [hy121]; with_reducible exact H) | (have H2_ := (Option.bind_some _ _).symm.trans H; rw [hy121]; with_reducible exact H2_) | (have H2_ := (Option.bind_some _ _).symm.trans H; with_reducible exact H2_) | with_reducible exact H | (rw [hy121]; exact H) | exact H
                                      have Ny121 := Aside0.mk hy121
                                      clear hy121
                                      obtain ⟨ji21, hji21⟩ : ∃ j_ : Int, (wrap64 ((ji14) + 1)) = j_ := ⟨_, rfl⟩
                                      replace H : (if 0 ≤ (ji21) then (if (ji21) ≤ (x8_4.length : Int) then (fair_Rounds.l2 k4 a0 js_ y118 (x8_4.eraseIdx ((ji14) : Int).toNat) ji7 x20_2) else (none)) else (none)) = some r := by first | (rw [hji21] at H; exact H) | (simp only [hji21] at H ⊢; exact H)
                                      have hji21w : (IntKind.i64.wrap ((ji14) + 1)) = ji21 := (i64_w _).trans hji21
                                      by_cases c22 : 0 ≤ (ji21)
                                      · rw [if_pos c22] at H
                                        have c22b0 := eq_true c22
                                        have c22b1 : decide (0 ≤ (ji21)) = true := decide_eq_true c22
                                        clear c22
                                        by_cases c23 : (ji21) ≤ (x8_4.length : Int)
                                        · rw [if_pos c23] at H
                                          have c23b0 := eq_true c23
                                          have c23b1 : decide ((ji21) ≤ (x8_4.length : Int)) = true := decide_eq_true c23
                                          clear c23
                                          obtain ⟨y125, hy125⟩ : ∃ y_ : List Int, y_ = (x8_4.drop ((ji21) : Int).toNat) := ⟨_, rfl⟩
                                          replace H : (fair_Rounds.l2 k4 a0 js_ y118 (x8_4.eraseIdx ((ji14) : Int).toNat) ji7 x20_2) = some r := by first | (rw [hy125]; with_reducible exact H) | (have H2_ := (Option.bind_some _ _).symm.trans H; rw [hy125]; with_reducible exact H2_) | (have H2_ := (Option.bind_some _ _).symm.trans H; with_reducible exact H2_) | with_reducible exact H | (rw [hy125]; exact H) | exact H
                                          have Ny125 := Aside0.mk hy125
                                          clear hy125
                                          obtain ⟨y129, hy129⟩ : ∃ y_ : List Int, y_ = (x8_4.eraseIdx ((ji14) : Int).toNat) := ⟨_, rfl⟩
                                          replace H : (fair_Rounds.l2 k4 a0 js_ y118 y129 ji7 x20_2) = some r := by first | (rw [hy129]; with_reducible exact H) | (have H2_ := (Option.bind_some _ _).symm.trans H; rw [hy129]; with_reducible exact H2_) | (have H2_ := (Option.bind_some _ _).symm.trans H; with_reducible exact H2_) | with_reducible exact H | (rw [hy129]; exact H) | exact H
                                          have Ny129 := Aside0.mk hy129
                                          clear hy129
                                          have H' := Aside0.mk H
                                          clear H
                                          obtain ⟨Ao24, co24, eo24⟩ := Kd.R_slice HO_8.out
                                          subst eo24
                                          go_upto_region 15 with fail
                                          go_upto_region 16 with ((with_reducible refine gate_dst (N := 11) rfl ?_); refine box_event ?hg (N := 11) ?hd (cs := #[.int .i64 0, .int .i64 0, .int .u64 0]) (t := 34) ?hr ?_; (case hd => rfl); (case hg => rfl); (case hr => first | (go_simp; done) | (go_simp; rfl)); intro gb115 hg w25 hbox hb; have n0_ := Aside0.mk (Kd.R_below (Kd.R_elderB (by (with_reducible repeat (first | apply Kd.R_alloc | apply Kd.R_drewN | apply Kd.R_drew)); exact HO_7.out) gb115 (Nat.le_of_eq hg.symm)) hb); have n1_ := Aside0.mk (Kd.R_below (by (with_reducible repeat (first | apply Kd.R_alloc | apply Kd.R_drewN | apply Kd.R_drew)); exact HO_8.out) hb); have n2_ := Aside0.mk (below_step (by repeat (first | (with_reducible first | exact HB.out | apply below_alloc | apply pw_below_drewN | apply below_drew1) | exact HB.out)) hb); have n3_ := Aside0.mk (hbox); have n4_ := Aside0.mk ((by rw [hg]; exact (below_size (by repeat (first | (with_reducible first | exact HB.out | apply below_alloc | apply pw_below_drewN | apply below_drew1) | exact HB.out))) : w.heap.size ≤ gb115)); have n5_ := Aside0.mk ((by rw [hg]; exact (below_size (by repeat (first | (with_reducible first | exact HB.out | apply below_alloc | apply pw_below_drewN | apply below_drew1) | exact HB.out))) : w.heap.size ≤ gb115)); clear HO_7; clear HO_8; clear HB; have HO_7 := n0_; have HO_8 := n1_; have HB := n2_; have BK115 := n3_; have GW115 := n4_; have GE115 := n5_; clear n0_ n1_ n2_ n3_ n4_ n5_; clear hb hbox hg; have hcz26_0 : w25.cell? ⟨gb115, 0, none⟩ = some (.int .i64 0) := (blk_cell BK115.out 0).trans rfl; have hcz26_1 : w25.cell? ⟨gb115, 1, none⟩ = some (.int .i64 0) := (blk_cell BK115.out 1).trans rfl; have hcz26_2 : w25.cell? ⟨gb115, 2, none⟩ = some (.int .u64 0) := (blk_cell BK115.out 2).trans rfl; have hfz26_0 := blk_frozen BK115.out 0; have hfz26_1 := blk_frozen BK115.out 1; have hfz26_2 := blk_frozen BK115.out 2; have p116 : 0 ≤ ((ji14) : Int) := of_decide_eq_true (by first | (with_reducible assumption) | assumption); have q116 : (ji14) < (x8_4.length : Int) := of_decide_eq_true (by first | (with_reducible assumption) | assumption); obtain ⟨ad116, e116, hx116_0⟩ := Kd.at_int (Kd.R_reads' HO_8.out).2.2 (ji14) p116 q116; cases e116; have hn116_0 : ad116.block ≠ gb115 := Kd.own_blk (Kd.R_ne HO_8.out BK115.out (by decide)); have hn116_1 : ad116.block ≠ gb115 := Kd.own_blk (Kd.R_ne HO_8.out BK115.out (by decide)); have hn116_2 : ad116.block ≠ gb115 := Kd.own_blk (Kd.R_ne HO_8.out BK115.out (by decide)); replace hx116_0 := (cell_far (p := ⟨gb115, 0, none⟩) (by first | (rw [add_block]; exact hn116_0) | (show (Addr.add _ _).block ≠ _; rw [add_block]; exact hn116_0) | exact hn116_0) (.int .i64 2)).trans hx116_0; replace hx116_0 := (cell_far (p := ⟨gb115, 1, none⟩) (by first | (rw [add_block]; exact hn116_1) | (show (Addr.add _ _).block ≠ _; rw [add_block]; exact hn116_1) | exact hn116_1) (.int .i64 0)).trans hx116_0; replace hx116_0 := (cell_far (p := ⟨gb115, 2, none⟩) (by first | (rw [add_block]; exact hn116_2) | (show (Addr.add _ _).block ≠ _; rw [add_block]; exact hn116_2) | exact hn116_2) (.int .u64 0)).trans hx116_0; clear hn116_0; clear hn116_1; clear hn116_2; replace p116 := eq_true p116; replace q116 := eq_true q116; have p117 : 0 ≤ ((ji14) : Int) := of_decide_eq_true (by first | (with_reducible assumption) | assumption); have q117 : (ji14) < (x8_4.length : Int) := of_decide_eq_true (by first | (with_reducible assumption) | assumption); obtain ⟨ad117, e117, hx117_0⟩ := Kd.at_int (Kd.R_reads' HO_8.out).2.2 (ji14) p117 q117; obtain rfl : ad116 = ad117 := (by injection e117); have hn117_0 : ad116.block ≠ gb115 := Kd.own_blk (Kd.R_ne HO_8.out BK115.out (by decide)); have hn117_1 : ad116.block ≠ gb115 := Kd.own_blk (Kd.R_ne HO_8.out BK115.out (by decide)); have hn117_2 : ad116.block ≠ gb115 := Kd.own_blk (Kd.R_ne HO_8.out BK115.out (by decide)); replace hx117_0 := (cell_far (p := ⟨gb115, 0, none⟩) (by first | (rw [add_block]; exact hn117_0) | (show (Addr.add _ _).block ≠ _; rw [add_block]; exact hn117_0) | exact hn117_0) (.int .i64 2)).trans hx117_0; replace hx117_0 := (cell_far (p := ⟨gb115, 1, none⟩) (by first | (rw [add_block]; exact hn117_1) | (show (Addr.add _ _).block ≠ _; rw [add_block]; exact hn117_1) | exact hn117_1) (.int .i64 0)).trans hx117_0; replace hx117_0 := (cell_far (p := ⟨gb115, 2, none⟩) (by first | (rw [add_block]; exact hn117_2) | (show (Addr.add _ _).block ≠ _; rw [add_block]; exact hn117_2) | exact hn117_2) (.int .u64 0)).trans hx117_0; clear hn117_0; clear hn117_1; clear hn117_2; replace p117 := eq_true p117; replace q117 := eq_true q117)
                                          go_upto_region 18 with fail
                                          obtain ⟨W8, hW8⟩ : ∃ W8 : World, W8 = ((((((w25.setCell ⟨gb115, 0, none⟩ (.int .i64 2)).setCell ⟨gb115, 1, none⟩ (.int .i64 0)).setCell ⟨gb115, 2, none⟩ (.int .u64 0)).setCell ⟨gb115, 0, none⟩ (.int .i64 1)).setCell ⟨gb115, 1, none⟩ (.int .i64 (rd x8_4 ji14))).setCell ⟨gb115, 2, none⟩ (.int .u64 (js_ / 4294967296))) := ⟨_, rfl⟩
                                          rw [← hW8]
                                          have BK9 : Aside0 (W8.heap[gb115]? = some (.cells #[.int .i64 1, .int .i64 (rd x8_4 ji14), .int .u64 (js_ / 4294967296)] 34 (0, 0))) := ⟨by rw [hW8]; exact blk_put (cs := #[.int .i64 1, .int .i64 (rd x8_4 ji14), .int .u64 0]) (blk_put (cs := #[.int .i64 1, .int .i64 0, .int .u64 0]) (blk_put (cs := #[.int .i64 2, .int .i64 0, .int .u64 0]) (blk_put (cs := #[.int .i64 2, .int .i64 0, .int .u64 0]) (blk_put (cs := #[.int .i64 2, .int .i64 0, .int .u64 0]) (blk_put (cs := #[.int .i64 0, .int .i64 0, .int .u64 0]) BK115.out 0 _ rfl) 1 _ rfl) 2 _ rfl) 0 _ rfl) 1 _ rfl) 2 _ rfl⟩
                                          have HO7' : Aside0 (k34.R 34 W8 w.heap.size (fun k_ => k_ ≠ gb115) u7 x7_4) := ⟨by rw [hW8]; exact Kd.R_far (p := ⟨gb115, 2, none⟩) (Kd.R_far (p := ⟨gb115, 1, none⟩) (Kd.R_far (p := ⟨gb115, 0, none⟩) (Kd.R_far (p := ⟨gb115, 2, none⟩) (Kd.R_far (p := ⟨gb115, 1, none⟩) (Kd.R_far (p := ⟨gb115, 0, none⟩) (Kd.R_mono HO_7.out (fun _ hk => hk.2)) (fun _ hk => hk) _) (fun _ hk => hk) _) (fun _ hk => hk) _) (fun _ hk => hk) _) (fun _ hk => hk) _) (fun _ hk => hk) _⟩
                                          have HO8' : Aside0 ((Kd.int .i64).R 3 W8 w.heap.size (fun k_ => k_ ≠ gb115) (.slice (some ad116) x8_4.length co24) x8_4) := ⟨by rw [hW8]; exact Kd.R_far (p := ⟨gb115, 2, none⟩) (Kd.R_far (p := ⟨gb115, 1, none⟩) (Kd.R_far (p := ⟨gb115, 0, none⟩) (Kd.R_far (p := ⟨gb115, 2, none⟩) (Kd.R_far (p := ⟨gb115, 1, none⟩) (Kd.R_far (p := ⟨gb115, 0, none⟩) (Kd.R_mono (Kd.R_types HO_8.out BK115.out (by decide)) (fun _ hk => hk.2)) (fun _ hk => hk) _) (fun _ hk => hk) _) (fun _ hk => hk) _) (fun _ hk => hk) _) (fun _ hk => hk) _) (fun _ hk => hk) _⟩
                                          have HB' : Aside0 (Below w.heap.size w W8) := ⟨by rw [hW8]; exact below_set (below_set (below_set (below_set (below_set (below_set (HB.out) GE115.out) GE115.out) GE115.out) GE115.out) GE115.out) GE115.out⟩
                                          clear hx116_0 hx117_0 hcz26_0 hcz26_1 hcz26_2 hfz26_0 hfz26_1 hfz26_2
                                          clear hW8 HO_7 HO_8 HB BK115
                                          have HB := HB'
                                          clear HB'
                                          have hfr0 := blk_frozen BK9.out 0
                                          have hd0 : W8.cell? ⟨gb115, 0, none⟩ = some (.int .i64 1) := (blk_cell BK9.out 0).trans rfl
                                          have hd1 : W8.cell? ⟨gb115, 1, none⟩ = some (.int .i64 (rd x8_4 ji14)) := (blk_cell BK9.out 1).trans rfl
                                          have hd2 : W8.cell? ⟨gb115, 2, none⟩ = some (.int .u64 (js_ / 4294967296)) := (blk_cell BK9.out 2).trans rfl
                                          try go_wp2_with ((with_reducible refine gate_builtin (b := .append) (xs := #[.tmp 59, .tmp 61]) rfl ?_); at_builtin; refine Kd.R_append k34 (w0 := w) w.heap.size rfl (.tmp 59) (.tmp 61) 22 34 (.agg #[(.int .i64 0), (.int .i64 0), (.int .u64 0)]) 24 rfl Try.underlying22 info34 rfl (by decide) (by omega) u7 x7_4 (⟨1, rd x8_4 (ji14), js_ / 4294967296⟩ : S34) [.int .i64 1, .int .i64 (rd x8_4 ji14), .int .u64 (js_ / 4294967296)] (fun k_ => k_ ≠ gb115) (fun _ => False) rfl (by first | (go_simp; done) | (go_simp; rfl)) ?aP (fun _ hk => hk.elim) ?aF ?aO ?aB ?aS ?aL ?_; (case aP => exact k34_mkM _ _ _ (⟨1, rd x8_4 (ji14), js_ / 4294967296⟩ : S34)); (case aB => exact (by repeat (first | (with_reducible first | exact HB.out | apply below_alloc | apply pw_below_drewN | apply below_drew1) | exact HB.out))); (case aF => exact (fun k_ hk => Kd.freshB (g := gb115) (o := .cells #[.int .i64 1, .int .i64 (rd x8_4 ji14), .int .u64 (js_ / 4294967296)] 34 (0, 0)) (by (with_reducible repeat (first | refine blk_drewN ?_ _ | refine blk_drew ?_ | refine blk_alloc ?_ _)); exact BK9.out) k_ hk)); (case aO => exact (by (with_reducible repeat (first | apply Kd.R_alloc | apply Kd.R_drewN | apply Kd.R_drew)); exact HO7'.out)); (case aS => exact (below_size (by repeat (first | (with_reducible first | exact HB.out | apply below_alloc | apply pw_below_drewN | apply below_drew1) | exact HB.out)))); (case aL => have := LMc18.out; omega); intro v119 w27 ho hb hg hat; rw [← Ny118.out] at ho; have n0_ := Aside0.mk (Kd.R_mono (ok' := fun _ => True) (Kd.R_over' (by (with_reducible repeat (first | apply Kd.R_alloc | apply Kd.R_drewN | apply Kd.R_drew)); exact HO8'.out) (Kd.R_typed (by (with_reducible repeat (first | apply Kd.R_alloc | apply Kd.R_drewN | apply Kd.R_drew)); exact HO7'.out)) (by decide) hg) (fun _ _ => trivial)); have n1_ := Aside0.mk (blk_grown (g := gb115) (o := .cells #[.int .i64 1, .int .i64 (rd x8_4 ji14), .int .u64 (js_ / 4294967296)] 34 (0, 0)) (by (with_reducible repeat (first | refine blk_drewN ?_ _ | refine blk_drew ?_ | refine blk_alloc ?_ _)); exact BK9.out) hg (Kd.R_away HO7'.out (fun _ hk => hk))); have n2_ := Aside0.mk (hb); have n3_ := Aside0.mk (ho); clear HO8' BK9 HB HO7'; have HO_8 := n0_; have BK115 := n1_; have HB := n2_; have HO120 := n3_; clear n0_ n1_ n2_ n3_; clear ho hb hg hat)
                                          clear hd0 hd1 hd2 hfr0
                                          have n0_ := Aside0.mk (Kd.R_drew HO_8.out)
                                          have n1_ := Aside0.mk (Kd.R_drew HO120.out)
                                          have n2_ := Aside0.mk (blk_drew BK115.out)
                                          have n3_ := Aside0.mk (below_drew1 HB.out)
                                          clear HO_8
                                          clear HO120
                                          clear BK115
                                          clear HB
                                          have HO_8 := n0_
                                          have HO120 := n1_
                                          have BK115 := n2_
                                          have HB := n3_
                                          clear n0_ n1_ n2_ n3_
                                          have q29 : ((ji14) : Int) ≤ ((x8_4.length : Int) : Int) := of_decide_eq_true (by first | (with_reducible assumption) | assumption)
                                          obtain ⟨i029, hi029, _, hsz29, _⟩ := info_parts info3
                                          have hroom29 : x8_4.length ≤ co24 := (Kd.R_reads' HO_8.out).2.1
                                          have hC29 : Kd.C (Kd.int .i64) _ (some ad116) x8_4.length x8_4 := (Kd.R_reads' HO_8.out).2.2
                                          have hcut29 := cut_to (P := Try.prog) 32 3 .i64 Try.underlying32 hi029 (some ad116) x8_4.length co24 (ji14) (of_decide_eq_true (by first | (with_reducible assumption) | assumption)) q29 hroom29
                                          have hr29 := Kd.C_take (m := ((ji14) : Int).toNat) hC29 (by omega)
                                          have hy29 : y121.length = ((ji14) : Int).toNat := (by rw [Ny121.out, List.length_take]; omega)
                                          rw [← Ny121.out] at hr29
                                          rw [← hy29] at hcut29
                                          have HR124 := Aside0.mk hr29
                                          have HC124 := Aside0.mk (show y121.length ≤ co24 from by omega)
                                          clear hr29 hC29 hroom29 hi029 hsz29
                                          have KY29 := Aside0.mk hy29
                                          clear hy29
                                          have KL29 := Aside0.mk (show ((ji14) : Int).toNat ≤ x8_4.length from by omega)
                                          replace q29 := eq_true q29
                                          have q30 : ((ji21) : Int) ≤ ((x8_4.length : Int) : Int) := of_decide_eq_true (by first | (with_reducible assumption) | assumption)
                                          obtain ⟨i030, hi030, _, hsz30, _⟩ := info_parts info3
                                          have hroom30 : x8_4.length ≤ co24 := (Kd.R_reads' HO_8.out).2.1
                                          have hC30 : Kd.C (Kd.int .i64) _ (some ad116) x8_4.length x8_4 := (Kd.R_reads' HO_8.out).2.2
                                          have q030 : (0 : Int) ≤ ((ji21) : Int) := of_decide_eq_true (by first | (with_reducible assumption) | assumption)
                                          have hcut30 := cut_from (P := Try.prog) 32 3 .i64 Try.underlying32 hi030 1 hsz30 (some ad116) x8_4.length co24 (ji21) q030 q30
                                          have hr30 := Kd.C_drop (m := ((ji21) : Int).toNat) (c := co24) hC30 (by omega) hroom30
                                          obtain ⟨A30, hA30⟩ : ∃ A1, A1 = (if co24 = ((ji21) : Int).toNat then (some ad116) else ((some ad116) : Option Addr).map (·.add (((ji21) : Int).toNat * 1))) := ⟨_, rfl⟩
                                          obtain ⟨c30, hc30⟩ : ∃ c1, c1 = co24 - ((ji21) : Int).toNat := ⟨_, rfl⟩
                                          have hy30 : y125.length = x8_4.length - ((ji21) : Int).toNat := (by rw [Ny125.out, List.length_drop] <;> omega)
                                          rw [show (x8_4).drop ((ji21) : Int).toNat = y125 from Ny125.out.symm] at hr30
                                          replace hr30 : Kd.C (Kd.int .i64) _ A30 y125.length y125 := (by rw [hA30]; exact hr30)
                                          rw [← hy30, ← hA30, ← hc30] at hcut30
                                          have HR128 := Aside0.mk hr30
                                          have HC128 := Aside0.mk (show y125.length ≤ c30 from by rw [hy30, hc30]; exact Nat.sub_le_sub_right hroom30 _)
                                          clear hr30 hC30 hroom30 hi030 hsz30 hc30
                                          have KY30 := Aside0.mk hy30
                                          have KA30 := Aside0.mk hA30
                                          clear hy30 hA30
                                          have KL30 := Aside0.mk (show ((ji21) : Int).toNat ≤ x8_4.length from by omega)
                                          replace q30 := eq_true q30
                                          obtain ⟨go32, co32, eo32, gb32, gl32, cl32, HG32⟩ := Kd.R_form HO_8.out (by have hj_ : 0 ≤ ((ji14) : Int) := of_decide_eq_true (by first | (with_reducible assumption) | assumption); have hl_ : (ji21 : Int) ≤ (x8_4.length : Int) := of_decide_eq_true (by first | (with_reducible assumption) | assumption); have hh_ : ((ji14) : Int) ≤ (x8_4.length : Int) := of_decide_eq_true (by first | (with_reducible assumption) | assumption); rw [← hji21] at hl_; unfold wrap64 at hl_; omega)
                                          (first | cases eo32 | (injection eo32 with ea_ en_ ec_; (first | subst ea_ | (injection ea_ with ea_; subst ea_)); subst ec_; clear en_))
                                          have GB32 := Aside0.mk gb32
                                          have GG32 := Aside0.mk HG32
                                          clear gb32 gl32 HG32
                                          refine start_ (n := 9) (S := fun w' => True) (ds := []) #[false, false, false, false, false, false, false, false, false] (by kernel_rfl) rfl rfl trivial (fun hHeld => ?_); refine with_tabW fair_Rounds.tab19 fair_Rounds.bits19 (fun HT_ HW_ => ?_)
                                          generalize w27.drew = w28 at HO_8 HO120 BK115 HB GG32 HR124 HR128 hHeld ⊢
                                          refine pure_ (i := 0) (N := some 63) (v := ?_) (a' := ?_) #[true, false, false, false, false, false, false, false, false] rfl rfl (any_of HT_.out (by kernel_rfl)) (fun _ _ _ h => h) (Or.inl ⟨by rfl, ?_⟩) ?_ ?_
                                          rotate_left
                                          · intro w'
                                            go_simp
                                            with_reducible rfl
                                          rotate_left
                                          · simp only [Act.put, List.setIfInBounds_toArray, List.set_cons_zero, List.set_cons_succ, i64_w, i32_w]
                                            rfl
                                          refine pure_ (i := 1) (N := some 64) (v := ?_) (a' := ?_) #[true, true, false, false, false, false, false, false, false] rfl rfl (any_of HT_.out (by kernel_rfl)) (fun _ _ _ h => h) (Or.inl ⟨by rfl, ?_⟩) ?_ ?_
                                          rotate_left
                                          · intro w'
                                            go_simp
                                            with_reducible rfl
                                          rotate_left
                                          · simp only [Act.put, List.setIfInBounds_toArray, List.set_cons_zero, List.set_cons_succ, i64_w, i32_w]
                                            rfl
                                          refine pure_ (i := 2) (N := some 65) (v := ?_) (a' := ?_) #[true, true, true, false, false, false, false, false, false] rfl rfl (any_of HT_.out (by kernel_rfl)) (fun _ _ _ h => h) (Or.inl ⟨by rfl, ?_⟩) ?_ ?_
                                          rotate_left
                                          · intro w'
                                            go_simp
                                            with_reducible rfl
                                          rotate_left
                                          · simp only [Act.put, List.setIfInBounds_toArray, List.set_cons_zero, List.set_cons_succ, i64_w, i32_w]
                                            rfl
                                          refine pure_ (i := 3) (N := some 66) (v := ?_) (a' := ?_) #[true, true, true, true, false, false, false, false, false] rfl rfl (any_of HT_.out (by kernel_rfl)) (fun _ _ _ h => h) (Or.inl ⟨by rfl, ?_⟩) ?_ ?_
                                          rotate_left
                                          · intro w'
                                            go_simp
                                            with_reducible rfl
                                          rotate_left
                                          · simp only [Act.put, List.setIfInBounds_toArray, List.set_cons_zero, List.set_cons_succ, i64_w, i32_w]
                                            rfl
                                          refine pure_ (i := 4) (N := some 67) (v := ?_) (a' := ?_) #[true, true, true, true, true, false, false, false, false] rfl rfl (any_of HT_.out (by kernel_rfl)) (fun _ _ _ h => h) (Or.inl ⟨by rfl, ?_⟩) ?_ ?_
                                          rotate_left
                                          · intro w'
                                            go_simp
                                            with_reducible rfl
                                          rotate_left
                                          · simp only [Act.put, List.setIfInBounds_toArray, List.set_cons_zero, List.set_cons_succ, i64_w, i32_w]
                                            rfl
                                          refine pure_ (i := 5) (N := some 68) (v := ?_) (a' := ?_) #[true, true, true, true, true, true, false, false, false] rfl rfl (any_of HT_.out (by kernel_rfl)) (fun _ _ _ h => h) (Or.inl ⟨by rfl, ?_⟩) ?_ ?_
                                          rotate_left
                                          · intro w'
                                            go_simp
                                            with_reducible rfl
                                          rotate_left
                                          · simp only [Act.put, List.setIfInBounds_toArray, List.set_cons_zero, List.set_cons_succ, i64_w, i32_w]
                                            rfl
                                          refine pure_ (i := 6) (N := some 69) (v := ?_) (a' := ?_) #[true, true, true, true, true, true, true, false, false] rfl rfl (any_of HT_.out (by kernel_rfl)) (fun _ _ _ h => h) (Or.inl ⟨by rfl, ?_⟩) ?_ ?_
                                          rotate_left
                                          · intro w'
                                            go_simp
                                            with_reducible rfl
                                          rotate_left
                                          · simp only [Act.put, List.setIfInBounds_toArray, List.set_cons_zero, List.set_cons_succ, i64_w, i32_w]
                                            rfl
                                          refine one_ (i := 7) (N := some 70) #[true, true, true, true, true, true, true, true, false] rfl rfl (one_of HT_.out (by kernel_rfl)) (by decide) (fun K hK => ?_)
                                          have hj_ : 0 ≤ ((ji14) : Int) := of_decide_eq_true (by first | (with_reducible assumption) | assumption)
                                          have hl_ : (ji21 : Int) ≤ (x8_4.length : Int) := of_decide_eq_true (by first | (with_reducible assumption) | assumption)
                                          have hh_ : ((ji14) : Int) ≤ (x8_4.length : Int) := of_decide_eq_true (by first | (with_reducible assumption) | assumption)
                                          have hb_ := (Kd.R_reads' HO_8.out).2.2.2.1
                                          have h0_ : (0 : Int) ≤ (ji21 : Int) := of_decide_eq_true (by first | (with_reducible assumption) | assumption)
                                          have hy1_ := KY29.out
                                          have hk_ : (ji21 : Int).toNat = y121.length + 1 := (by have hw_ : (ji21 : Int) = (ji14) + 1 := (by have h00_ := h0_; rw [← hji21] at h00_ ⊢; unfold wrap64 at h00_ ⊢; omega); rw [hw_]; omega)
                                          refine Kd.R_delete_step (Kd.int .i64) (w0 := w) w.heap.size (by rfl) (.tmp 65) (.tmp 69) 32 3 rfl Try.underlying32 (by kernel_rfl) (g := go32) (n := x8_4.length) (c := co24) (k := y121.length) rfl rfl ?hA ?hm (by (with_reducible repeat (first | apply Kd.R_alloc | apply Kd.R_drewN | apply Kd.R_drew)); exact HO_8.out) ?hk (by repeat (first | (with_reducible first | exact HB.out | apply below_alloc | apply pw_below_drewN | apply below_drew1 | refine below_set ?_ GE115.out) | exact HB.out)) (below_size (by repeat (first | (with_reducible first | exact HB.out | apply below_alloc | apply pw_below_drewN | apply below_drew1 | refine below_set ?_ GE115.out) | exact HB.out))) ?_
                                          (case hA => have ha_ := KA30.out; rw [hk_] at ha_; exact ha_)
                                          (case hm => have ha_ := KY30.out; omega)
                                          (case hk => omega)
                                          intro w31 ho hb hg
                                          clear hj_ hl_ hh_ hb_ hk_ h0_
                                          rw [hy1_, ← Ny129.out] at ho
                                          clear hy1_
                                          have hn_ : x8_4.length - 1 = y129.length := (by have := (Kd.R_reads' ho).1; omega)
                                          rw [hn_] at ho ⊢
                                          clear hn_
                                          have n0_ := Aside0.mk (ho)
                                          have n1_ := Aside0.mk (blk_grown (g := gb115) (o := .cells #[.int .i64 1, .int .i64 (rd x8_4 (ji14)), .int .u64 (js_ / 4294967296)] 34 (0, 0)) (by (with_reducible repeat (first | refine blk_drewN ?_ _ | refine blk_drew ?_ | refine blk_alloc ?_ _)); exact BK115.out) hg (Kd.R_ne HO_8.out BK115.out (by decide)))
                                          have n2_ := Aside0.mk (Kd.R_over' (v := (.slice (some ⟨go32, 0, none⟩) x8_4.length co24)) (by (with_reducible repeat (first | apply Kd.R_alloc | apply Kd.R_drewN | apply Kd.R_drew)); exact HO120.out) (Kd.R_typed HO_8.out) (by decide) hg)
                                          have n3_ := Aside0.mk (hb)
                                          clear HO_8
                                          clear BK115
                                          clear HO120
                                          clear HB
                                          have HO_8 := n0_
                                          have BK115 := n1_
                                          have HO120 := n2_
                                          have HB := n3_
                                          clear n0_ n1_ n2_ n3_
                                          clear ho hb hg
                                          refine hK.out _ _ trivial (fun hHeld => ?_)
                                          clear hK K
                                          refine norm_ (a' := ?_) ?_ ?_
                                          rotate_left
                                          · show Act.put _ (some 70) _ = _
                                            simp only [Act.put, List.setIfInBounds_toArray, List.set_cons_zero, List.set_cons_succ, i64_w, i32_w]
                                            rfl
                                          refine pure_ (i := 8) (N := some 8) (v := ?_) (a' := ?_) #[true, true, true, true, true, true, true, true, true] rfl rfl (any_of HT_.out (by kernel_rfl)) (fun _ _ _ h => h) (Or.inl ⟨by rfl, ?_⟩) ?_ ?_
                                          rotate_left
                                          · intro w'
                                            go_simp
                                            with_reducible rfl
                                          rotate_left
                                          · simp only [Act.put, List.setIfInBounds_toArray, List.set_cons_zero, List.set_cons_succ, i64_w, i32_w]
                                            rfl
                                          refine done_ (done_of HT_.out (by kernel_rfl)) ?_
                                          try go_wp2
                                          go_roundg k4
                                          case measure => have := HJ3.out; have := HK2.out; have := HK3.out; have := HK4.out; omega
                                          case rel => exact ⟨js_, (y118), (y129), (by first | rfl | (simp; done) | (simp [*]; done)), H', ⟨by have := HJ3.out; have := HK2.out; have := HK3.out; have := HK4.out; omega⟩, ⟨by (with_reducible repeat (first | apply Kd.R_alloc | apply Kd.R_drewN | apply Kd.R_drew)); exact Kd.R_mono HO120.out (fun _ hk => trivial)⟩, ⟨by (with_reducible repeat (first | apply Kd.R_alloc | apply Kd.R_drewN | apply Kd.R_drew)); exact HO_8.out⟩, ⟨by repeat (first | (with_reducible first | exact HB.out | apply below_alloc | apply pw_below_drewN | apply below_drew1 | refine below_set ?_ GE115.out) | exact HB.out)⟩⟩
                                        · rw [if_neg c23] at H
                                          exact absurd H (by simp)
                                      · rw [if_neg c22] at H
                                        exact absurd H (by simp)
                                    · rw [if_neg c20] at H
                                      exact absurd H (by simp)
                                  · rw [if_neg c18] at H
                                    exact absurd H (by simp)
                                · rw [if_neg c17] at H
                                  have c17b0 : decide ((rd x8_4 (ji14)) < a0) = false := decide_eq_false c17
                                  clear c17
                                  by_cases c33 : x7_4.length < 5864062014805
                                  · rw [if_pos c33] at H
                                    have LMc33 := Aside0.mk c33
                                    clear c33
                                    obtain ⟨y132, hy132⟩ : ∃ y_ : List (S34), y_ = (x7_4 ++ [(⟨2, 0, 0⟩ : S34)]) := ⟨_, rfl⟩
                                    replace H : (if (ji14) ≤ (x8_4.length : Int) then (if 0 ≤ (wrap64 ((ji14) + 1)) then (if (wrap64 ((ji14) + 1)) ≤ (x8_4.length : Int) then (fair_Rounds.l2 k4 a0 js_ y132 (x8_4.eraseIdx ((ji14) : Int).toNat) ji7 x20_2) else (none)) else (none)) else (none)) = some r := by first | (rw [hy132]; with_reducible exact H) | (have H2_ := (Option.bind_some _ _).symm.trans H; rw [hy132]; with_reducible exact H2_) | (have H2_ := (Option.bind_some _ _).symm.trans H; with_reducible exact H2_) | with_reducible exact H | (rw [hy132]; exact H) | exact H
                                    have Ny132 := Aside0.mk hy132
                                    clear hy132
                                    have c34b0 := eq_true (of_decide_eq_true (by first | (with_reducible assumption) | assumption) : 0 ≤ (ji14))
                                    by_cases c35 : (ji14) ≤ (x8_4.length : Int)
                                    · rw [if_pos c35] at H
                                      have c35b0 := eq_true c35
                                      have c35b1 : decide ((ji14) ≤ (x8_4.length : Int)) = true := decide_eq_true c35
                                      clear c35
                                      obtain ⟨y135, hy135⟩ : ∃ y_ : List Int, y_ = (x8_4.take ((ji14) : Int).toNat) := ⟨_, rfl⟩
                                      replace H : (if 0 ≤ (wrap64 ((ji14) + 1)) then (if (wrap64 ((ji14) + 1)) ≤ (x8_4.length : Int) then (fair_Rounds.l2 k4 a0 js_ y132 (x8_4.eraseIdx ((ji14) : Int).toNat) ji7 x20_2) else (none)) else (none)) = some r := by first | (rw [hy135]; with_reducible exact H) | (have H2_ := (Option.bind_some _ _).symm.trans H; rw [hy135]; with_reducible exact H2_) | (have H2_ := (Option.bind_some _ _).symm.trans H; with_reducible exact H2_) | with_reducible exact H | (rw [hy135]; exact H) | exact H
                                      have Ny135 := Aside0.mk hy135
                                      clear hy135
                                      obtain ⟨ji36, hji36⟩ : ∃ j_ : Int, (wrap64 ((ji14) + 1)) = j_ := ⟨_, rfl⟩
                                      replace H : (if 0 ≤ (ji36) then (if (ji36) ≤ (x8_4.length : Int) then (fair_Rounds.l2 k4 a0 js_ y132 (x8_4.eraseIdx ((ji14) : Int).toNat) ji7 x20_2) else (none)) else (none)) = some r := by first | (rw [hji36] at H; exact H) | (simp only [hji36] at H ⊢; exact H)
                                      have hji36w : (IntKind.i64.wrap ((ji14) + 1)) = ji36 := (i64_w _).trans hji36
                                      by_cases c37 : 0 ≤ (ji36)
                                      · rw [if_pos c37] at H
                                        have c37b0 := eq_true c37
                                        have c37b1 : decide (0 ≤ (ji36)) = true := decide_eq_true c37
                                        clear c37
                                        by_cases c38 : (ji36) ≤ (x8_4.length : Int)
                                        · rw [if_pos c38] at H
                                          have c38b0 := eq_true c38
                                          have c38b1 : decide ((ji36) ≤ (x8_4.length : Int)) = true := decide_eq_true c38
                                          clear c38
                                          obtain ⟨y139, hy139⟩ : ∃ y_ : List Int, y_ = (x8_4.drop ((ji36) : Int).toNat) := ⟨_, rfl⟩
                                          replace H : (fair_Rounds.l2 k4 a0 js_ y132 (x8_4.eraseIdx ((ji14) : Int).toNat) ji7 x20_2) = some r := by first | (rw [hy139]; with_reducible exact H) | (have H2_ := (Option.bind_some _ _).symm.trans H; rw [hy139]; with_reducible exact H2_) | (have H2_ := (Option.bind_some _ _).symm.trans H; with_reducible exact H2_) | with_reducible exact H | (rw [hy139]; exact H) | exact H
                                          have Ny139 := Aside0.mk hy139
                                          clear hy139
                                          obtain ⟨y143, hy143⟩ : ∃ y_ : List Int, y_ = (x8_4.eraseIdx ((ji14) : Int).toNat) := ⟨_, rfl⟩
                                          replace H : (fair_Rounds.l2 k4 a0 js_ y132 y143 ji7 x20_2) = some r := by first | (rw [hy143]; with_reducible exact H) | (have H2_ := (Option.bind_some _ _).symm.trans H; rw [hy143]; with_reducible exact H2_) | (have H2_ := (Option.bind_some _ _).symm.trans H; with_reducible exact H2_) | with_reducible exact H | (rw [hy143]; exact H) | exact H
                                          have Ny143 := Aside0.mk hy143
                                          clear hy143
                                          have H' := Aside0.mk H
                                          clear H
                                          obtain ⟨Ao39, co39, eo39⟩ := Kd.R_slice HO_8.out
                                          subst eo39
                                          go_upto_region 15 with fail
                                          go_upto_region 16 with ((with_reducible refine gate_dst (N := 11) rfl ?_); refine box_event ?hg (N := 11) ?hd (cs := #[.int .i64 0, .int .i64 0, .int .u64 0]) (t := 34) ?hr ?_; (case hd => rfl); (case hg => rfl); (case hr => first | (go_simp; done) | (go_simp; rfl)); intro gb115 hg w40 hbox hb; have n0_ := Aside0.mk (Kd.R_below (Kd.R_elderB (by (with_reducible repeat (first | apply Kd.R_alloc | apply Kd.R_drewN | apply Kd.R_drew)); exact HO_7.out) gb115 (Nat.le_of_eq hg.symm)) hb); have n1_ := Aside0.mk (Kd.R_below (by (with_reducible repeat (first | apply Kd.R_alloc | apply Kd.R_drewN | apply Kd.R_drew)); exact HO_8.out) hb); have n2_ := Aside0.mk (below_step (by repeat (first | (with_reducible first | exact HB.out | apply below_alloc | apply pw_below_drewN | apply below_drew1) | exact HB.out)) hb); have n3_ := Aside0.mk (hbox); have n4_ := Aside0.mk ((by rw [hg]; exact (below_size (by repeat (first | (with_reducible first | exact HB.out | apply below_alloc | apply pw_below_drewN | apply below_drew1) | exact HB.out))) : w.heap.size ≤ gb115)); have n5_ := Aside0.mk ((by rw [hg]; exact (below_size (by repeat (first | (with_reducible first | exact HB.out | apply below_alloc | apply pw_below_drewN | apply below_drew1) | exact HB.out))) : w.heap.size ≤ gb115)); clear HO_7; clear HO_8; clear HB; have HO_7 := n0_; have HO_8 := n1_; have HB := n2_; have BK115 := n3_; have GW115 := n4_; have GE115 := n5_; clear n0_ n1_ n2_ n3_ n4_ n5_; clear hb hbox hg; have hcz41_0 : w40.cell? ⟨gb115, 0, none⟩ = some (.int .i64 0) := (blk_cell BK115.out 0).trans rfl; have hcz41_1 : w40.cell? ⟨gb115, 1, none⟩ = some (.int .i64 0) := (blk_cell BK115.out 1).trans rfl; have hcz41_2 : w40.cell? ⟨gb115, 2, none⟩ = some (.int .u64 0) := (blk_cell BK115.out 2).trans rfl; have hfz41_0 := blk_frozen BK115.out 0; have hfz41_1 := blk_frozen BK115.out 1; have hfz41_2 := blk_frozen BK115.out 2; have p116 : 0 ≤ ((ji14) : Int) := of_decide_eq_true (by first | (with_reducible assumption) | assumption); have q116 : (ji14) < (x8_4.length : Int) := of_decide_eq_true (by first | (with_reducible assumption) | assumption); obtain ⟨ad116, e116, hx116_0⟩ := Kd.at_int (Kd.R_reads' HO_8.out).2.2 (ji14) p116 q116; cases e116; have hn116_0 : ad116.block ≠ gb115 := Kd.own_blk (Kd.R_ne HO_8.out BK115.out (by decide)); have hn116_1 : ad116.block ≠ gb115 := Kd.own_blk (Kd.R_ne HO_8.out BK115.out (by decide)); have hn116_2 : ad116.block ≠ gb115 := Kd.own_blk (Kd.R_ne HO_8.out BK115.out (by decide)); replace hx116_0 := (cell_far (p := ⟨gb115, 0, none⟩) (by first | (rw [add_block]; exact hn116_0) | (show (Addr.add _ _).block ≠ _; rw [add_block]; exact hn116_0) | exact hn116_0) (.int .i64 2)).trans hx116_0; replace hx116_0 := (cell_far (p := ⟨gb115, 1, none⟩) (by first | (rw [add_block]; exact hn116_1) | (show (Addr.add _ _).block ≠ _; rw [add_block]; exact hn116_1) | exact hn116_1) (.int .i64 0)).trans hx116_0; replace hx116_0 := (cell_far (p := ⟨gb115, 2, none⟩) (by first | (rw [add_block]; exact hn116_2) | (show (Addr.add _ _).block ≠ _; rw [add_block]; exact hn116_2) | exact hn116_2) (.int .u64 0)).trans hx116_0; clear hn116_0; clear hn116_1; clear hn116_2; replace p116 := eq_true p116; replace q116 := eq_true q116)
                                          go_upto_region 18 with fail
                                          obtain ⟨W8, hW8⟩ : ∃ W8 : World, W8 = (((w40.setCell ⟨gb115, 0, none⟩ (.int .i64 2)).setCell ⟨gb115, 1, none⟩ (.int .i64 0)).setCell ⟨gb115, 2, none⟩ (.int .u64 0)) := ⟨_, rfl⟩
                                          rw [← hW8]
                                          have BK9 : Aside0 (W8.heap[gb115]? = some (.cells #[.int .i64 2, .int .i64 0, .int .u64 0] 34 (0, 0))) := ⟨by rw [hW8]; exact blk_put (cs := #[.int .i64 2, .int .i64 0, .int .u64 0]) (blk_put (cs := #[.int .i64 2, .int .i64 0, .int .u64 0]) (blk_put (cs := #[.int .i64 0, .int .i64 0, .int .u64 0]) BK115.out 0 _ rfl) 1 _ rfl) 2 _ rfl⟩
                                          have HO7' : Aside0 (k34.R 34 W8 w.heap.size (fun k_ => k_ ≠ gb115) u7 x7_4) := ⟨by rw [hW8]; exact Kd.R_far (p := ⟨gb115, 2, none⟩) (Kd.R_far (p := ⟨gb115, 1, none⟩) (Kd.R_far (p := ⟨gb115, 0, none⟩) (Kd.R_mono HO_7.out (fun _ hk => hk.2)) (fun _ hk => hk) _) (fun _ hk => hk) _) (fun _ hk => hk) _⟩
                                          have HO8' : Aside0 ((Kd.int .i64).R 3 W8 w.heap.size (fun k_ => k_ ≠ gb115) (.slice (some ad116) x8_4.length co39) x8_4) := ⟨by rw [hW8]; exact Kd.R_far (p := ⟨gb115, 2, none⟩) (Kd.R_far (p := ⟨gb115, 1, none⟩) (Kd.R_far (p := ⟨gb115, 0, none⟩) (Kd.R_mono (Kd.R_types HO_8.out BK115.out (by decide)) (fun _ hk => hk.2)) (fun _ hk => hk) _) (fun _ hk => hk) _) (fun _ hk => hk) _⟩
                                          have HB' : Aside0 (Below w.heap.size w W8) := ⟨by rw [hW8]; exact below_set (below_set (below_set (HB.out) GE115.out) GE115.out) GE115.out⟩
                                          clear hx116_0 hcz41_0 hcz41_1 hcz41_2 hfz41_0 hfz41_1 hfz41_2
                                          clear hW8 HO_7 HO_8 HB BK115
                                          have HB := HB'
                                          clear HB'
                                          have hfr0 := blk_frozen BK9.out 0
                                          have hd0 : W8.cell? ⟨gb115, 0, none⟩ = some (.int .i64 2) := (blk_cell BK9.out 0).trans rfl
                                          have hd1 : W8.cell? ⟨gb115, 1, none⟩ = some (.int .i64 0) := (blk_cell BK9.out 1).trans rfl
                                          have hd2 : W8.cell? ⟨gb115, 2, none⟩ = some (.int .u64 0) := (blk_cell BK9.out 2).trans rfl
                                          try go_wp2_with ((with_reducible refine gate_builtin (b := .append) (xs := #[.tmp 59, .tmp 61]) rfl ?_); at_builtin; refine Kd.R_append k34 (w0 := w) w.heap.size rfl (.tmp 59) (.tmp 61) 22 34 (.agg #[(.int .i64 0), (.int .i64 0), (.int .u64 0)]) 24 rfl Try.underlying22 info34 rfl (by decide) (by omega) u7 x7_4 (⟨2, 0, 0⟩ : S34) [.int .i64 2, .int .i64 0, .int .u64 0] (fun k_ => k_ ≠ gb115) (fun _ => False) rfl (by first | (go_simp; done) | (go_simp; rfl)) ?aP (fun _ hk => hk.elim) ?aF ?aO ?aB ?aS ?aL ?_; (case aP => exact k34_mkM _ _ _ (⟨2, 0, 0⟩ : S34)); (case aB => exact (by repeat (first | (with_reducible first | exact HB.out | apply below_alloc | apply pw_below_drewN | apply below_drew1) | exact HB.out))); (case aF => exact (fun k_ hk => Kd.freshB (g := gb115) (o := .cells #[.int .i64 2, .int .i64 0, .int .u64 0] 34 (0, 0)) (by (with_reducible repeat (first | refine blk_drewN ?_ _ | refine blk_drew ?_ | refine blk_alloc ?_ _)); exact BK9.out) k_ hk)); (case aO => exact (by (with_reducible repeat (first | apply Kd.R_alloc | apply Kd.R_drewN | apply Kd.R_drew)); exact HO7'.out)); (case aS => exact (below_size (by repeat (first | (with_reducible first | exact HB.out | apply below_alloc | apply pw_below_drewN | apply below_drew1) | exact HB.out)))); (case aL => have := LMc33.out; omega); intro v133 w42 ho hb hg hat; rw [← Ny132.out] at ho; have n0_ := Aside0.mk (Kd.R_mono (ok' := fun _ => True) (Kd.R_over' (by (with_reducible repeat (first | apply Kd.R_alloc | apply Kd.R_drewN | apply Kd.R_drew)); exact HO8'.out) (Kd.R_typed (by (with_reducible repeat (first | apply Kd.R_alloc | apply Kd.R_drewN | apply Kd.R_drew)); exact HO7'.out)) (by decide) hg) (fun _ _ => trivial)); have n1_ := Aside0.mk (blk_grown (g := gb115) (o := .cells #[.int .i64 2, .int .i64 0, .int .u64 0] 34 (0, 0)) (by (with_reducible repeat (first | refine blk_drewN ?_ _ | refine blk_drew ?_ | refine blk_alloc ?_ _)); exact BK9.out) hg (Kd.R_away HO7'.out (fun _ hk => hk))); have n2_ := Aside0.mk (hb); have n3_ := Aside0.mk (ho); clear HO8' BK9 HB HO7'; have HO_8 := n0_; have BK115 := n1_; have HB := n2_; have HO134 := n3_; clear n0_ n1_ n2_ n3_; clear ho hb hg hat)
                                          clear hd0 hd1 hd2 hfr0
                                          have n0_ := Aside0.mk (Kd.R_drew HO_8.out)
                                          have n1_ := Aside0.mk (Kd.R_drew HO134.out)
                                          have n2_ := Aside0.mk (blk_drew BK115.out)
                                          have n3_ := Aside0.mk (below_drew1 HB.out)
                                          clear HO_8
                                          clear HO134
                                          clear BK115
                                          clear HB
                                          have HO_8 := n0_
                                          have HO134 := n1_
                                          have BK115 := n2_
                                          have HB := n3_
                                          clear n0_ n1_ n2_ n3_
                                          have q44 : ((ji14) : Int) ≤ ((x8_4.length : Int) : Int) := of_decide_eq_true (by first | (with_reducible assumption) | assumption)
                                          obtain ⟨i044, hi044, _, hsz44, _⟩ := info_parts info3
                                          have hroom44 : x8_4.length ≤ co39 := (Kd.R_reads' HO_8.out).2.1
                                          have hC44 : Kd.C (Kd.int .i64) _ (some ad116) x8_4.length x8_4 := (Kd.R_reads' HO_8.out).2.2
                                          have hcut44 := cut_to (P := Try.prog) 32 3 .i64 Try.underlying32 hi044 (some ad116) x8_4.length co39 (ji14) (of_decide_eq_true (by first | (with_reducible assumption) | assumption)) q44 hroom44
                                          have hr44 := Kd.C_take (m := ((ji14) : Int).toNat) hC44 (by omega)
                                          have hy44 : y135.length = ((ji14) : Int).toNat := (by rw [Ny135.out, List.length_take]; omega)
                                          rw [← Ny135.out] at hr44
                                          rw [← hy44] at hcut44
                                          have HR138 := Aside0.mk hr44
                                          have HC138 := Aside0.mk (show y135.length ≤ co39 from by omega)
                                          clear hr44 hC44 hroom44 hi044 hsz44
                                          have KY44 := Aside0.mk hy44
                                          clear hy44
                                          have KL44 := Aside0.mk (show ((ji14) : Int).toNat ≤ x8_4.length from by omega)
                                          replace q44 := eq_true q44
                                          have q45 : ((ji36) : Int) ≤ ((x8_4.length : Int) : Int) := of_decide_eq_true (by first | (with_reducible assumption) | assumption)
                                          obtain ⟨i045, hi045, _, hsz45, _⟩ := info_parts info3
                                          have hroom45 : x8_4.length ≤ co39 := (Kd.R_reads' HO_8.out).2.1
                                          have hC45 : Kd.C (Kd.int .i64) _ (some ad116) x8_4.length x8_4 := (Kd.R_reads' HO_8.out).2.2
                                          have q045 : (0 : Int) ≤ ((ji36) : Int) := of_decide_eq_true (by first | (with_reducible assumption) | assumption)
                                          have hcut45 := cut_from (P := Try.prog) 32 3 .i64 Try.underlying32 hi045 1 hsz45 (some ad116) x8_4.length co39 (ji36) q045 q45
                                          have hr45 := Kd.C_drop (m := ((ji36) : Int).toNat) (c := co39) hC45 (by omega) hroom45
                                          obtain ⟨A45, hA45⟩ : ∃ A1, A1 = (if co39 = ((ji36) : Int).toNat then (some ad116) else ((some ad116) : Option Addr).map (·.add (((ji36) : Int).toNat * 1))) := ⟨_, rfl⟩
                                          obtain ⟨c45, hc45⟩ : ∃ c1, c1 = co39 - ((ji36) : Int).toNat := ⟨_, rfl⟩
                                          have hy45 : y139.length = x8_4.length - ((ji36) : Int).toNat := (by rw [Ny139.out, List.length_drop] <;> omega)
                                          rw [show (x8_4).drop ((ji36) : Int).toNat = y139 from Ny139.out.symm] at hr45
                                          replace hr45 : Kd.C (Kd.int .i64) _ A45 y139.length y139 := (by rw [hA45]; exact hr45)
                                          rw [← hy45, ← hA45, ← hc45] at hcut45
                                          have HR142 := Aside0.mk hr45
                                          have HC142 := Aside0.mk (show y139.length ≤ c45 from by rw [hy45, hc45]; exact Nat.sub_le_sub_right hroom45 _)
                                          clear hr45 hC45 hroom45 hi045 hsz45 hc45
                                          have KY45 := Aside0.mk hy45
                                          have KA45 := Aside0.mk hA45
                                          clear hy45 hA45
                                          have KL45 := Aside0.mk (show ((ji36) : Int).toNat ≤ x8_4.length from by omega)
                                          replace q45 := eq_true q45
                                          obtain ⟨go47, co47, eo47, gb47, gl47, cl47, HG47⟩ := Kd.R_form HO_8.out (by have hj_ : 0 ≤ ((ji14) : Int) := of_decide_eq_true (by first | (with_reducible assumption) | assumption); have hl_ : (ji36 : Int) ≤ (x8_4.length : Int) := of_decide_eq_true (by first | (with_reducible assumption) | assumption); have hh_ : ((ji14) : Int) ≤ (x8_4.length : Int) := of_decide_eq_true (by first | (with_reducible assumption) | assumption); rw [← hji36] at hl_; unfold wrap64 at hl_; omega)
                                          (first | cases eo47 | (injection eo47 with ea_ en_ ec_; (first | subst ea_ | (injection ea_ with ea_; subst ea_)); subst ec_; clear en_))
                                          have GB47 := Aside0.mk gb47
                                          have GG47 := Aside0.mk HG47
                                          clear gb47 gl47 HG47
                                          refine start_ (n := 9) (S := fun w' => True) (ds := []) #[false, false, false, false, false, false, false, false, false] (by kernel_rfl) rfl rfl trivial (fun hHeld => ?_); refine with_tabW fair_Rounds.tab19 fair_Rounds.bits19 (fun HT_ HW_ => ?_)
                                          generalize w42.drew = w43 at HO_8 HO134 BK115 HB GG47 HR138 HR142 hHeld ⊢
                                          refine pure_ (i := 0) (N := some 63) (v := ?_) (a' := ?_) #[true, false, false, false, false, false, false, false, false] rfl rfl (any_of HT_.out (by kernel_rfl)) (fun _ _ _ h => h) (Or.inl ⟨by rfl, ?_⟩) ?_ ?_
                                          rotate_left
                                          · intro w'
                                            go_simp
                                            with_reducible rfl
                                          rotate_left
                                          · simp only [Act.put, List.setIfInBounds_toArray, List.set_cons_zero, List.set_cons_succ, i64_w, i32_w]
                                            rfl
                                          refine pure_ (i := 1) (N := some 64) (v := ?_) (a' := ?_) #[true, true, false, false, false, false, false, false, false] rfl rfl (any_of HT_.out (by kernel_rfl)) (fun _ _ _ h => h) (Or.inl ⟨by rfl, ?_⟩) ?_ ?_
                                          rotate_left
                                          · intro w'
                                            go_simp
                                            with_reducible rfl
                                          rotate_left
                                          · simp only [Act.put, List.setIfInBounds_toArray, List.set_cons_zero, List.set_cons_succ, i64_w, i32_w]
                                            rfl
                                          refine pure_ (i := 2) (N := some 65) (v := ?_) (a' := ?_) #[true, true, true, false, false, false, false, false, false] rfl rfl (any_of HT_.out (by kernel_rfl)) (fun _ _ _ h => h) (Or.inl ⟨by rfl, ?_⟩) ?_ ?_
                                          rotate_left
                                          · intro w'
                                            go_simp
                                            with_reducible rfl
                                          rotate_left
                                          · simp only [Act.put, List.setIfInBounds_toArray, List.set_cons_zero, List.set_cons_succ, i64_w, i32_w]
                                            rfl
                                          refine pure_ (i := 3) (N := some 66) (v := ?_) (a' := ?_) #[true, true, true, true, false, false, false, false, false] rfl rfl (any_of HT_.out (by kernel_rfl)) (fun _ _ _ h => h) (Or.inl ⟨by rfl, ?_⟩) ?_ ?_
                                          rotate_left
                                          · intro w'
                                            go_simp
                                            with_reducible rfl
                                          rotate_left
                                          · simp only [Act.put, List.setIfInBounds_toArray, List.set_cons_zero, List.set_cons_succ, i64_w, i32_w]
                                            rfl
                                          refine pure_ (i := 4) (N := some 67) (v := ?_) (a' := ?_) #[true, true, true, true, true, false, false, false, false] rfl rfl (any_of HT_.out (by kernel_rfl)) (fun _ _ _ h => h) (Or.inl ⟨by rfl, ?_⟩) ?_ ?_
                                          rotate_left
                                          · intro w'
                                            go_simp
                                            with_reducible rfl
                                          rotate_left
                                          · simp only [Act.put, List.setIfInBounds_toArray, List.set_cons_zero, List.set_cons_succ, i64_w, i32_w]
                                            rfl
                                          refine pure_ (i := 5) (N := some 68) (v := ?_) (a' := ?_) #[true, true, true, true, true, true, false, false, false] rfl rfl (any_of HT_.out (by kernel_rfl)) (fun _ _ _ h => h) (Or.inl ⟨by rfl, ?_⟩) ?_ ?_
                                          rotate_left
                                          · intro w'
                                            go_simp
                                            with_reducible rfl
                                          rotate_left
                                          · simp only [Act.put, List.setIfInBounds_toArray, List.set_cons_zero, List.set_cons_succ, i64_w, i32_w]
                                            rfl
                                          refine pure_ (i := 6) (N := some 69) (v := ?_) (a' := ?_) #[true, true, true, true, true, true, true, false, false] rfl rfl (any_of HT_.out (by kernel_rfl)) (fun _ _ _ h => h) (Or.inl ⟨by rfl, ?_⟩) ?_ ?_
                                          rotate_left
                                          · intro w'
                                            go_simp
                                            with_reducible rfl
                                          rotate_left
                                          · simp only [Act.put, List.setIfInBounds_toArray, List.set_cons_zero, List.set_cons_succ, i64_w, i32_w]
                                            rfl
                                          refine one_ (i := 7) (N := some 70) #[true, true, true, true, true, true, true, true, false] rfl rfl (one_of HT_.out (by kernel_rfl)) (by decide) (fun K hK => ?_)
                                          have hj_ : 0 ≤ ((ji14) : Int) := of_decide_eq_true (by first | (with_reducible assumption) | assumption)
                                          have hl_ : (ji36 : Int) ≤ (x8_4.length : Int) := of_decide_eq_true (by first | (with_reducible assumption) | assumption)
                                          have hh_ : ((ji14) : Int) ≤ (x8_4.length : Int) := of_decide_eq_true (by first | (with_reducible assumption) | assumption)
                                          have hb_ := (Kd.R_reads' HO_8.out).2.2.2.1
                                          have h0_ : (0 : Int) ≤ (ji36 : Int) := of_decide_eq_true (by first | (with_reducible assumption) | assumption)
                                          have hy1_ := KY44.out
                                          have hk_ : (ji36 : Int).toNat = y135.length + 1 := (by have hw_ : (ji36 : Int) = (ji14) + 1 := (by have h00_ := h0_; rw [← hji36] at h00_ ⊢; unfold wrap64 at h00_ ⊢; omega); rw [hw_]; omega)
                                          refine Kd.R_delete_step (Kd.int .i64) (w0 := w) w.heap.size (by rfl) (.tmp 65) (.tmp 69) 32 3 rfl Try.underlying32 (by kernel_rfl) (g := go47) (n := x8_4.length) (c := co39) (k := y135.length) rfl rfl ?hA ?hm (by (with_reducible repeat (first | apply Kd.R_alloc | apply Kd.R_drewN | apply Kd.R_drew)); exact HO_8.out) ?hk (by repeat (first | (with_reducible first | exact HB.out | apply below_alloc | apply pw_below_drewN | apply below_drew1 | refine below_set ?_ GE115.out) | exact HB.out)) (below_size (by repeat (first | (with_reducible first | exact HB.out | apply below_alloc | apply pw_below_drewN | apply below_drew1 | refine below_set ?_ GE115.out) | exact HB.out))) ?_
                                          (case hA => have ha_ := KA45.out; rw [hk_] at ha_; exact ha_)
                                          (case hm => have ha_ := KY45.out; omega)
                                          (case hk => omega)
                                          intro w46 ho hb hg
                                          clear hj_ hl_ hh_ hb_ hk_ h0_
                                          rw [hy1_, ← Ny143.out] at ho
                                          clear hy1_
                                          have hn_ : x8_4.length - 1 = y143.length := (by have := (Kd.R_reads' ho).1; omega)
                                          rw [hn_] at ho ⊢
                                          clear hn_
                                          have n0_ := Aside0.mk (ho)
                                          have n1_ := Aside0.mk (blk_grown (g := gb115) (o := .cells #[.int .i64 2, .int .i64 0, .int .u64 0] 34 (0, 0)) (by (with_reducible repeat (first | refine blk_drewN ?_ _ | refine blk_drew ?_ | refine blk_alloc ?_ _)); exact BK115.out) hg (Kd.R_ne HO_8.out BK115.out (by decide)))
                                          have n2_ := Aside0.mk (Kd.R_over' (v := (.slice (some ⟨go47, 0, none⟩) x8_4.length co39)) (by (with_reducible repeat (first | apply Kd.R_alloc | apply Kd.R_drewN | apply Kd.R_drew)); exact HO134.out) (Kd.R_typed HO_8.out) (by decide) hg)
                                          have n3_ := Aside0.mk (hb)
                                          clear HO_8
                                          clear BK115
                                          clear HO134
                                          clear HB
                                          have HO_8 := n0_
                                          have BK115 := n1_
                                          have HO134 := n2_
                                          have HB := n3_
                                          clear n0_ n1_ n2_ n3_
                                          clear ho hb hg
                                          refine hK.out _ _ trivial (fun hHeld => ?_)
                                          clear hK K
                                          refine norm_ (a' := ?_) ?_ ?_
                                          rotate_left
                                          · show Act.put _ (some 70) _ = _
                                            simp only [Act.put, List.setIfInBounds_toArray, List.set_cons_zero, List.set_cons_succ, i64_w, i32_w]
                                            rfl
                                          refine pure_ (i := 8) (N := some 8) (v := ?_) (a' := ?_) #[true, true, true, true, true, true, true, true, true] rfl rfl (any_of HT_.out (by kernel_rfl)) (fun _ _ _ h => h) (Or.inl ⟨by rfl, ?_⟩) ?_ ?_
                                          rotate_left
                                          · intro w'
                                            go_simp
                                            with_reducible rfl
                                          rotate_left
                                          · simp only [Act.put, List.setIfInBounds_toArray, List.set_cons_zero, List.set_cons_succ, i64_w, i32_w]
                                            rfl
                                          refine done_ (done_of HT_.out (by kernel_rfl)) ?_
                                          try go_wp2
                                          go_roundg k4
                                          case measure => have := HJ3.out; have := HK2.out; have := HK3.out; have := HK4.out; omega
                                          case rel => exact ⟨js_, (y132), (y143), (by first | rfl | (simp; done) | (simp [*]; done)), H', ⟨by have := HJ3.out; have := HK2.out; have := HK3.out; have := HK4.out; omega⟩, ⟨by (with_reducible repeat (first | apply Kd.R_alloc | apply Kd.R_drewN | apply Kd.R_drew)); exact Kd.R_mono HO134.out (fun _ hk => trivial)⟩, ⟨by (with_reducible repeat (first | apply Kd.R_alloc | apply Kd.R_drewN | apply Kd.R_drew)); exact HO_8.out⟩, ⟨by repeat (first | (with_reducible first | exact HB.out | apply below_alloc | apply pw_below_drewN | apply below_drew1 | refine below_set ?_ GE115.out) | exact HB.out)⟩⟩
                                        · rw [if_neg c38] at H
                                          exact absurd H (by simp)
                                      · rw [if_neg c37] at H
                                        exact absurd H (by simp)
                                    · rw [if_neg c35] at H
                                      exact absurd H (by simp)
                                  · rw [if_neg c33] at H
                                    exact absurd H (by simp)
                              · rw [if_neg c16] at H
                                exact absurd H (by simp)
                            · rw [if_neg c15] at H
                              exact absurd H (by simp)
                        · rw [if_neg c12] at H
                          have c12b0 : decide (0 < (x8_4.length : Int)) = false := decide_eq_false c12
                          have c12b1 : decide (0 < x8_4.length) = false := decide_eq_false (by omega)
                          clear c12
                          have H' := Aside0.mk H
                          clear H
                          obtain ⟨Ao48, co48, eo48⟩ := Kd.R_slice HO_8.out
                          subst eo48
                          go_wp2
                          go_roundg k4
                          case measure => have := HJ3.out; have := HK2.out; have := HK3.out; have := HK4.out; omega
                          case rel => exact ⟨(x2_4), (x7_4), (wrap64 (x20_2 + 1)), (by first | rfl | (simp; done) | (simp [*]; done)), (by first | rfl | (simp; done) | (simp [*]; done)), H', ⟨by have := HJ3.out; have := HK2.out; have := HK3.out; have := HK4.out; omega⟩, ⟨by (with_reducible repeat (first | apply Kd.R_alloc | apply Kd.R_drewN | apply Kd.R_drew)); exact HO_7.out⟩, ⟨by repeat (first | (with_reducible first | exact HB.out | apply below_alloc | apply pw_below_drewN | apply below_drew1) | exact HB.out)⟩⟩
            · rw [if_neg c8] at H
              have c8b0 : decide (x20_2 < ji7) = false := decide_eq_false c8
              clear c8
              obtain rfl := Option.some.inj H
              go_wp2
              go_ret
              exact ⟨_, by first | rfl | (simp [errW_none, errW_some] <;> rfl) | (simp only [← hji7]; first | rfl | (simp [errW_none, errW_some] <;> rfl)) | (simp [*, errW_none, errW_some] <;> rfl), by (with_reducible repeat (first | apply Kd.R_alloc | apply Kd.R_drewN | apply Kd.R_drew)); exact HO_7.out, by repeat (first | (with_reducible first | exact HB.out | apply below_alloc | apply pw_below_drewN | apply below_drew1) | exact HB.out)⟩

end Go.Proofs.Ytjninhbdcllofaa.Fa
