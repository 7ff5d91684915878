import Derived.Test.YtjninhbdcllofaaFa0
namespace Go.Proofs.Ytjninhbdcllofaa.Fa
open Go.RowKit Go.Proofs.YtjninhbdcllofaaW.PrintWords Go.Proofs.YtjninhbdcllofaaW.PrintLast Go.Proofs.YtjninhbdcllofaaW.PrintMore
attribute [local go_sem] max2_int min2_int max_two min_two max_three min_three max_four min_four   -- for this text's walks alone
set_option linter.unusedVariables false
set_option linter.unusedSimpArgs false

/-! ### distaffref26_Rounds: function 14 -/
mutual
def distaffref26_Rounds.j0 : Nat → Int → Int → Int → Bool → Option ((List (S34)))
  | 0, _, _, _, _ => none
  | k + 1, x0, x1, x2, x18 => if x18 = true then (some ([] : List (S34))) else (distaffref26_Rounds.l0 k x0 x1 ([] : List (S34)) x2 0)
def distaffref26_Rounds.l0 : Nat → Int → Int → List (S34) → Int → Int → Option ((List (S34)))
  | 0, _, _, _, _, _ => none
  | k + 1, x0, x1, x7, x8, x9 => if x9 < x1 then (distaffref26_Rounds.j2 k x0 x1 x7 x8 x9 (decide (x9 < 65536))) else (distaffref26_Rounds.j2 k x0 x1 x7 x8 x9 false)
def distaffref26_Rounds.j2 : Nat → Int → Int → List (S34) → Int → Int → Bool → Option ((List (S34)))
  | 0, _, _, _, _, _, _ => none
  | k + 1, x0, x1, x7, x8, x9, x26 => if x26 = true then (distaffref26_Rounds.l1 k x0 x1 x7 x8 x9 ([] : List Int) 0) else (some x7)
def distaffref26_Rounds.l1 : Nat → Int → Int → List (S34) → Int → Int → List Int → Int → Option ((List (S34)))
  | 0, _, _, _, _, _, _, _ => none
  | k + 1, x0, x1, x7, x8, x9, x10, x11 => if x11 ≤ x0 then (if x10.length < 17592186044416 then (distaffref26_Rounds.l1 k x0 x1 x7 x8 x9 (x10 ++ [x11]) (wrap64 (x11 + 1))) else (none)) else (distaffref26_Rounds.l2 k x0 x1 x7 x8 x9 x10)
def distaffref26_Rounds.l2 : Nat → Int → Int → List (S34) → Int → Int → List Int → Option ((List (S34)))
  | 0, _, _, _, _, _, _ => none
  | k + 1, x0, x1, x7, x8, x9, x10 => if (x10.length : Int) > 0 then (if (IntKind.u64.wrap ((x10.length : Int))) = 0 then (none) else (if 0 ≤ (wrap64 (Int.tmod ((IntKind.u64.wrap ((IntKind.u64.wrap (x8 * 6364136223846793005)) + 1442695040888963407)) / 4294967296) (IntKind.u64.wrap ((x10.length : Int))))) then (if (wrap64 (Int.tmod ((IntKind.u64.wrap ((IntKind.u64.wrap (x8 * 6364136223846793005)) + 1442695040888963407)) / 4294967296) (IntKind.u64.wrap ((x10.length : Int))))) < (x10.length : Int) then (if (rd x10 (wrap64 (Int.tmod ((IntKind.u64.wrap ((IntKind.u64.wrap (x8 * 6364136223846793005)) + 1442695040888963407)) / 4294967296) (IntKind.u64.wrap ((x10.length : Int)))))) = x0 then (if x7.length < 5864062014805 then ((some (([] : List Int) : List Int)).bind fun y164 => (if (wrap64 (Int.tmod ((IntKind.u64.wrap ((IntKind.u64.wrap (x8 * 6364136223846793005)) + 1442695040888963407)) / 4294967296) (IntKind.u64.wrap ((x10.length : Int))))) ≤ (x10.length : Int) then ((some (x10.take ((wrap64 (Int.tmod ((IntKind.u64.wrap ((IntKind.u64.wrap (x8 * 6364136223846793005)) + 1442695040888963407)) / 4294967296) (IntKind.u64.wrap ((x10.length : Int))))) : Int).toNat : List Int)).bind fun y167 => (if y164.length + y167.length < 17592186044416 then ((some (y164 ++ y167 : List Int)).bind fun y171 => (if 0 ≤ (wrap64 ((wrap64 (Int.tmod ((IntKind.u64.wrap ((IntKind.u64.wrap (x8 * 6364136223846793005)) + 1442695040888963407)) / 4294967296) (IntKind.u64.wrap ((x10.length : Int))))) + 1)) then (if (wrap64 ((wrap64 (Int.tmod ((IntKind.u64.wrap ((IntKind.u64.wrap (x8 * 6364136223846793005)) + 1442695040888963407)) / 4294967296) (IntKind.u64.wrap ((x10.length : Int))))) + 1)) ≤ (x10.length : Int) then ((some (x10.drop ((wrap64 ((wrap64 (Int.tmod ((IntKind.u64.wrap ((IntKind.u64.wrap (x8 * 6364136223846793005)) + 1442695040888963407)) / 4294967296) (IntKind.u64.wrap ((x10.length : Int))))) + 1)) : Int).toNat : List Int)).bind fun y174 => (if y171.length + y174.length < 17592186044416 then (distaffref26_Rounds.l2 k x0 x1 (x7 ++ [(⟨2, 0, 0⟩ : S34)]) (IntKind.u64.wrap ((IntKind.u64.wrap (x8 * 6364136223846793005)) + 1442695040888963407)) x9 (y171 ++ y174)) else (none))) else (none)) else (none))) else (none))) else (none))) else (none)) else (if x7.length < 5864062014805 then ((some (([] : List Int) : List Int)).bind fun y185 => (if (wrap64 (Int.tmod ((IntKind.u64.wrap ((IntKind.u64.wrap (x8 * 6364136223846793005)) + 1442695040888963407)) / 4294967296) (IntKind.u64.wrap ((x10.length : Int))))) ≤ (x10.length : Int) then ((some (x10.take ((wrap64 (Int.tmod ((IntKind.u64.wrap ((IntKind.u64.wrap (x8 * 6364136223846793005)) + 1442695040888963407)) / 4294967296) (IntKind.u64.wrap ((x10.length : Int))))) : Int).toNat : List Int)).bind fun y188 => (if y185.length + y188.length < 17592186044416 then ((some (y185 ++ y188 : List Int)).bind fun y192 => (if 0 ≤ (wrap64 ((wrap64 (Int.tmod ((IntKind.u64.wrap ((IntKind.u64.wrap (x8 * 6364136223846793005)) + 1442695040888963407)) / 4294967296) (IntKind.u64.wrap ((x10.length : Int))))) + 1)) then (if (wrap64 ((wrap64 (Int.tmod ((IntKind.u64.wrap ((IntKind.u64.wrap (x8 * 6364136223846793005)) + 1442695040888963407)) / 4294967296) (IntKind.u64.wrap ((x10.length : Int))))) + 1)) ≤ (x10.length : Int) then ((some (x10.drop ((wrap64 ((wrap64 (Int.tmod ((IntKind.u64.wrap ((IntKind.u64.wrap (x8 * 6364136223846793005)) + 1442695040888963407)) / 4294967296) (IntKind.u64.wrap ((x10.length : Int))))) + 1)) : Int).toNat : List Int)).bind fun y195 => (if y192.length + y195.length < 17592186044416 then (distaffref26_Rounds.l2 k x0 x1 (x7 ++ [(⟨1, rd x10 (wrap64 (Int.tmod ((IntKind.u64.wrap ((IntKind.u64.wrap (x8 * 6364136223846793005)) + 1442695040888963407)) / 4294967296) (IntKind.u64.wrap ((x10.length : Int))))), (IntKind.u64.wrap ((IntKind.u64.wrap (x8 * 6364136223846793005)) + 1442695040888963407)) / 4294967296⟩ : S34)]) (IntKind.u64.wrap ((IntKind.u64.wrap (x8 * 6364136223846793005)) + 1442695040888963407)) x9 (y192 ++ y195)) else (none))) else (none)) else (none))) else (none))) else (none))) else (none))) else (none)) else (none))) else (distaffref26_Rounds.l0 k x0 x1 x7 x8 (wrap64 (x9 + 1)))
end
def distaffref26_Rounds.f (k : Nat) (a0 : Int) (a1 : Int) (a2 : Int) : Option ((List (S34))) := if a0 < 1 then (distaffref26_Rounds.j0 k a0 a1 a2 true) else (distaffref26_Rounds.j0 k a0 a1 a2 (decide (a0 > 64)))
theorem distaffref26_Rounds.mono_l : ∀ k, (∀ y0 y1 y2 y3, LeO (distaffref26_Rounds.j0 k y0 y1 y2 y3) (distaffref26_Rounds.j0 (k + 1) y0 y1 y2 y3)) ∧ (∀ y0 y1 y2 y3 y4, LeO (distaffref26_Rounds.l0 k y0 y1 y2 y3 y4) (distaffref26_Rounds.l0 (k + 1) y0 y1 y2 y3 y4)) ∧ (∀ y0 y1 y2 y3 y4 y5, LeO (distaffref26_Rounds.j2 k y0 y1 y2 y3 y4 y5) (distaffref26_Rounds.j2 (k + 1) y0 y1 y2 y3 y4 y5)) ∧ (∀ y0 y1 y2 y3 y4 y5 y6, LeO (distaffref26_Rounds.l1 k y0 y1 y2 y3 y4 y5 y6) (distaffref26_Rounds.l1 (k + 1) y0 y1 y2 y3 y4 y5 y6)) ∧ (∀ y0 y1 y2 y3 y4 y5, LeO (distaffref26_Rounds.l2 k y0 y1 y2 y3 y4 y5) (distaffref26_Rounds.l2 (k + 1) y0 y1 y2 y3 y4 y5))
  | 0 => ⟨fun _ _ _ _ r h => by simp [distaffref26_Rounds.j0] at h, fun _ _ _ _ _ r h => by simp [distaffref26_Rounds.l0] at h, fun _ _ _ _ _ _ r h => by simp [distaffref26_Rounds.j2] at h, fun _ _ _ _ _ _ _ r h => by simp [distaffref26_Rounds.l1] at h, fun _ _ _ _ _ _ r h => by simp [distaffref26_Rounds.l2] at h⟩
  | k + 1 => by
    obtain ⟨ih0, ih1, ih2, ih3, ih4⟩ := distaffref26_Rounds.mono_l k
    refine ⟨?_, ?_, ?_, ?_, ?_⟩
    · intro y0 y1 y2 y3
      unfold distaffref26_Rounds.j0
      repeat' first
      | (with_reducible exact ih0 _ _ _ _)
      | (with_reducible exact ih1 _ _ _ _ _)
      | (with_reducible exact ih2 _ _ _ _ _ _)
      | (with_reducible exact ih3 _ _ _ _ _ _ _)
      | (with_reducible exact ih4 _ _ _ _ _ _)
      | (with_reducible exact LeO.refl _)
      | (with_reducible exact LeO.none _)
      | (with_reducible refine LeO.ite ?_ ?_)
      | (with_reducible refine LeO.bind ?_ (fun _ => ?_))
      | exact ih0 _ _ _ _
      | exact ih1 _ _ _ _ _
      | exact ih2 _ _ _ _ _ _
      | exact ih3 _ _ _ _ _ _ _
      | exact ih4 _ _ _ _ _ _
      | exact LeO.none _
      | refine LeO.ite ?_ ?_
      | refine LeO.bind ?_ (fun _ => ?_)
    · intro y0 y1 y2 y3 y4
      unfold distaffref26_Rounds.l0
      repeat' first
      | (with_reducible exact ih0 _ _ _ _)
      | (with_reducible exact ih1 _ _ _ _ _)
      | (with_reducible exact ih2 _ _ _ _ _ _)
      | (with_reducible exact ih3 _ _ _ _ _ _ _)
      | (with_reducible exact ih4 _ _ _ _ _ _)
      | (with_reducible exact LeO.refl _)
      | (with_reducible exact LeO.none _)
      | (with_reducible refine LeO.ite ?_ ?_)
      | (with_reducible refine LeO.bind ?_ (fun _ => ?_))
      | exact ih0 _ _ _ _
      | exact ih1 _ _ _ _ _
      | exact ih2 _ _ _ _ _ _
      | exact ih3 _ _ _ _ _ _ _
      | exact ih4 _ _ _ _ _ _
      | exact LeO.none _
      | refine LeO.ite ?_ ?_
      | refine LeO.bind ?_ (fun _ => ?_)
    · intro y0 y1 y2 y3 y4 y5
      unfold distaffref26_Rounds.j2
      repeat' first
      | (with_reducible exact ih0 _ _ _ _)
      | (with_reducible exact ih1 _ _ _ _ _)
      | (with_reducible exact ih2 _ _ _ _ _ _)
      | (with_reducible exact ih3 _ _ _ _ _ _ _)
      | (with_reducible exact ih4 _ _ _ _ _ _)
      | (with_reducible exact LeO.refl _)
      | (with_reducible exact LeO.none _)
      | (with_reducible refine LeO.ite ?_ ?_)
      | (with_reducible refine LeO.bind ?_ (fun _ => ?_))
      | exact ih0 _ _ _ _
      | exact ih1 _ _ _ _ _
      | exact ih2 _ _ _ _ _ _
      | exact ih3 _ _ _ _ _ _ _
      | exact ih4 _ _ _ _ _ _
      | exact LeO.none _
      | refine LeO.ite ?_ ?_
      | refine LeO.bind ?_ (fun _ => ?_)
    · intro y0 y1 y2 y3 y4 y5 y6
      unfold distaffref26_Rounds.l1
      repeat' first
      | (with_reducible exact ih0 _ _ _ _)
      | (with_reducible exact ih1 _ _ _ _ _)
      | (with_reducible exact ih2 _ _ _ _ _ _)
      | (with_reducible exact ih3 _ _ _ _ _ _ _)
      | (with_reducible exact ih4 _ _ _ _ _ _)
      | (with_reducible exact LeO.refl _)
      | (with_reducible exact LeO.none _)
      | (with_reducible refine LeO.ite ?_ ?_)
      | (with_reducible refine LeO.bind ?_ (fun _ => ?_))
      | exact ih0 _ _ _ _
      | exact ih1 _ _ _ _ _
      | exact ih2 _ _ _ _ _ _
      | exact ih3 _ _ _ _ _ _ _
      | exact ih4 _ _ _ _ _ _
      | exact LeO.none _
      | refine LeO.ite ?_ ?_
      | refine LeO.bind ?_ (fun _ => ?_)
    · intro y0 y1 y2 y3 y4 y5
      unfold distaffref26_Rounds.l2
      repeat' first
      | (with_reducible exact ih0 _ _ _ _)
      | (with_reducible exact ih1 _ _ _ _ _)
      | (with_reducible exact ih2 _ _ _ _ _ _)
      | (with_reducible exact ih3 _ _ _ _ _ _ _)
      | (with_reducible exact ih4 _ _ _ _ _ _)
      | (with_reducible exact LeO.refl _)
      | (with_reducible exact LeO.none _)
      | (with_reducible refine LeO.ite ?_ ?_)
      | (with_reducible refine LeO.bind ?_ (fun _ => ?_))
      | exact ih0 _ _ _ _
      | exact ih1 _ _ _ _ _
      | exact ih2 _ _ _ _ _ _
      | exact ih3 _ _ _ _ _ _ _
      | exact ih4 _ _ _ _ _ _
      | exact LeO.none _
      | refine LeO.ite ?_ ?_
      | refine LeO.bind ?_ (fun _ => ?_)
theorem distaffref26_Rounds.mono : ∀ a0 a1 a2 k, LeO (distaffref26_Rounds.f k a0 a1 a2) (distaffref26_Rounds.f (k + 1) a0 a1 a2) := by
  intro a0 a1 a2 k
  obtain ⟨ih0, ih1, ih2, ih3, ih4⟩ := distaffref26_Rounds.mono_l k
  unfold distaffref26_Rounds.f
  repeat' first
      | (with_reducible exact ih0 _ _ _ _)
      | (with_reducible exact ih1 _ _ _ _ _)
      | (with_reducible exact ih2 _ _ _ _ _ _)
      | (with_reducible exact ih3 _ _ _ _ _ _ _)
      | (with_reducible exact ih4 _ _ _ _ _ _)
      | (with_reducible exact LeO.refl _)
      | (with_reducible exact LeO.none _)
      | (with_reducible refine LeO.ite ?_ ?_)
      | (with_reducible refine LeO.bind ?_ (fun _ => ?_))
      | exact ih0 _ _ _ _
      | exact ih1 _ _ _ _ _
      | exact ih2 _ _ _ _ _ _
      | exact ih3 _ _ _ _ _ _ _
      | exact ih4 _ _ _ _ _ _
      | exact LeO.none _
      | refine LeO.ite ?_ ?_
      | refine LeO.bind ?_ (fun _ => ?_)
def distaffref26_Rounds.T19 : Bool × List (List Nat × List Nat) := (true, [([], []), ([], []), ([], []), ([1, 2], [1, 2]), ([0, 3], [0, 3]), ([], []), ([], []), ([6], [6]), ([5, 7], [5, 7]), ([4, 8, 4], [4, 8]), ([9, 9, 0, 1, 2, 3, 4, 5, 6, 7, 8, 9], [1, 5, 9])])
def distaffref26_Rounds.B19 : List Nat := [0, 0, 0, 6, 15, 0, 0, 64, 224, 511, 1023]
theorem distaffref26_Rounds.tab19 : rtab .any (opsOf Try.f14 19) = distaffref26_Rounds.T19 := by kernel_rfl
theorem distaffref26_Rounds.bits19 : waitsOk distaffref26_Rounds.T19.2 distaffref26_Rounds.B19 = true := by kernel_rfl
set_option maxHeartbeats 8000000 in
set_option maxRecDepth 100000 in
theorem distaffref26_Rounds.calls (k : Nat) (a0 : Int) (a1 : Int) (a2 : Int) (r : List (S34)) (w : World) (h : distaffref26_Rounds.f k a0 a1 a2 = some r) :
    Calls Try.prog 14 #[.int .i64 a0, .int .i64 a1, .int .u64 a2] w fun e w' => ∃ v0_ : Value, e = .returned (v0_) ∧ Kd.R k34 34 w' w.heap.size (fun _ => True) v0_ r ∧ Below w.heap.size w w' := by
  have hu34 := Try.underlying34
  have HB := Aside0.mk (Below.refl w.heap.size w)
  have H : (if a0 < 1 then (distaffref26_Rounds.j0 k a0 a1 a2 true) else (distaffref26_Rounds.j0 k a0 a1 a2 (decide (a0 > 64)))) = some r := h
  clear h
  have HC4 := Aside0.mk H
  clear H
  go_enter Try.func14, Try.ntmps14
  go_upto_region 1 with (fail)
  go_cut [18] (fun v18 wc => ∃ (kq : Nat) (x18_3 : Bool), v18 = .bool x18_3 ∧ Aside0 (distaffref26_Rounds.j0 kq a0 a1 a2 x18_3 = some r) ∧ Aside0 (kq ≤ k) ∧ Aside0 (Below w.heap.size w wc))
  case first =>
    have H := HC4.out
    clear HC4
    by_cases c5 : a0 < 1
    · rw [if_pos c5] at H
      have c5b0 : decide (a0 < 1) = true := decide_eq_true c5
      clear c5
      (first | rw [c5b0] | (simp only [i64_w, i32_w]; rw [c5b0]) | skip)
      have H' := Aside0.mk H
      clear H
      go_wp2
      go_meet
      case rel => exact ⟨_, (true), (by first | rfl | (simp; done) | (simp [*]; done)), H', ⟨by first | omega | exact Nat.le_refl _⟩, ⟨by repeat (first | (with_reducible first | exact HB.out | apply below_alloc | apply pw_below_drewN | apply below_drew1) | exact HB.out)⟩⟩
    · rw [if_neg c5] at H
      have c5b0 : decide (a0 < 1) = false := decide_eq_false c5
      clear c5
      (first | rw [c5b0] | (simp only [i64_w, i32_w]; rw [c5b0]) | skip)
      have H' := Aside0.mk H
      clear H
      go_wp2
      go_meet
      case rel => exact ⟨_, (decide (a0 > 64)), (by first | rfl | (simp; done) | (simp [*]; done)), H', ⟨by first | omega | exact Nat.le_refl _⟩, ⟨by repeat (first | (with_reducible first | exact HB.out | apply below_alloc | apply pw_below_drewN | apply below_drew1) | exact HB.out)⟩⟩
  case rest =>
    clear HC4
    try clear c1
    try clear p2
    try clear c5
    try clear c5b0
    obtain ⟨kq, x18_3, rfl, HA, HJ3, HB⟩ := hcut
    cases kq with
    | zero => exact absurd HA.out (by simp [distaffref26_Rounds.j0])
    | succ kj3 =>
      have H := HA.out
      clear HA
      simp only [distaffref26_Rounds.j0] at H
      by_cases c6 : x18_3 = true
      · subst c6
        have H1 : (some ([] : List (S34))) = some r := by rw [if_pos rfl] at H; exact H
        clear H
        have H := H1
        clear H1
        obtain rfl := Option.some.inj H
        go_wp2
        go_ret
        exact ⟨_, by first | rfl | (simp [errW_none, errW_some] <;> rfl) | (simp [*, errW_none, errW_some] <;> rfl), by first | exact Kd.R_nil _ _ _ _ _ | exact Kd.N_nil _ _ _ _ _ | exact Kd.V_nil _ _ _ _ _ | exact Kd.Q_nil _ _ _ _ _ | exact Kd.S_nil _ _ _ _ _, by repeat (first | (with_reducible first | exact HB.out | apply below_alloc | apply pw_below_drewN | apply below_drew1) | exact HB.out)⟩
      · replace c6 := Bool.eq_false_iff.mpr c6
        subst c6
        have H1 : (distaffref26_Rounds.l0 kj3 a0 a1 ([] : List (S34)) a2 0) = some r := by rw [if_neg (show ¬ (false = true) by decide)] at H; exact H
        clear H
        have H := H1
        clear H1
        have H' := Aside0.mk H
        clear H
        go_wp2
        go_loopg [7, 8, 9] kj3 (fun kq v7 v8 v9 w' => ∃ (x7_2 : List (S34)) (x8_2 : Int) (x9_2 : Int), v8 = .int .u64 x8_2 ∧ v9 = .int .i64 x9_2 ∧ Aside0 (distaffref26_Rounds.l0 kq a0 a1 x7_2 x8_2 x9_2 = some r) ∧ Aside0 (kq ≤ kj3) ∧ Aside0 (Kd.R k34 34 w' w.heap.size (fun _ => True) v7 x7_2) ∧ Aside0 (Below w.heap.size w w'))
        case atStart => exact ⟨(([] : List (S34))), (a2), (0), (by first | rfl | (simp; done) | (simp [*]; done)), (by first | rfl | (simp; done) | (simp [*]; done)), H', ⟨Nat.le_refl _⟩, ⟨by first | exact Kd.R_nil _ _ _ _ _ | exact Kd.N_nil _ _ _ _ _ | exact Kd.V_nil _ _ _ _ _ | exact Kd.Q_nil _ _ _ _ _ | exact Kd.S_nil _ _ _ _ _⟩, ⟨by repeat (first | (with_reducible first | exact HB.out | apply below_alloc | apply pw_below_drewN | apply below_drew1) | exact HB.out)⟩⟩
        case round =>
          clear H'
          try clear c1
          try clear p2
          try clear c5
          try clear c5b0
          try clear c6
          try clear p2
          obtain ⟨x7_2, x8_2, x9_2, rfl, rfl, HA, HK2, HO_7, HB⟩ := hrel
          cases gk with
          | zero => exact absurd HA.out (by simp [distaffref26_Rounds.l0])
          | succ k2 =>
            have H := HA.out
            clear HA
            simp only [distaffref26_Rounds.l0] at H
            have HC7 := Aside0.mk H
            clear H
            go_upto_region 6 with (fail)
            go_cut [26] (fun v26 wc => ∃ (kq : Nat) (x26_6 : Bool), v26 = .bool x26_6 ∧ Aside0 (distaffref26_Rounds.j2 kq a0 a1 x7_2 x8_2 x9_2 x26_6 = some r) ∧ Aside0 (kq ≤ k2) ∧ Aside0 (Kd.R k34 34 wc w.heap.size (fun _ => True) u7 x7_2) ∧ Aside0 (Below w.heap.size w wc))
            case first =>
              have H := HC7.out
              clear HC7
              by_cases c8 : x9_2 < a1
              · rw [if_pos c8] at H
                have c8b0 : decide (x9_2 < a1) = true := decide_eq_true c8
                clear c8
                (first | rw [c8b0] | (simp only [i64_w, i32_w]; rw [c8b0]) | skip)
                have H' := Aside0.mk H
                clear H
                go_wp2
                go_meet
                case rel => exact ⟨_, (decide (x9_2 < 65536)), (by first | rfl | (simp; done) | (simp [*]; done)), H', ⟨by have := HJ3.out; have := HK2.out; first | omega | exact Nat.le_refl _⟩, ⟨by (with_reducible repeat (first | apply Kd.R_alloc | apply Kd.R_drewN | apply Kd.R_drew)); exact HO_7.out⟩, ⟨by repeat (first | (with_reducible first | exact HB.out | apply below_alloc | apply pw_below_drewN | apply below_drew1) | exact HB.out)⟩⟩
              · rw [if_neg c8] at H
                have c8b0 : decide (x9_2 < a1) = false := decide_eq_false c8
                clear c8
                (first | rw [c8b0] | (simp only [i64_w, i32_w]; rw [c8b0]) | skip)
                have H' := Aside0.mk H
                clear H
                go_wp2
                go_meet
                case rel => exact ⟨_, (false), (by first | rfl | (simp; done) | (simp [*]; done)), H', ⟨by have := HJ3.out; have := HK2.out; first | omega | exact Nat.le_refl _⟩, ⟨by (with_reducible repeat (first | apply Kd.R_alloc | apply Kd.R_drewN | apply Kd.R_drew)); exact HO_7.out⟩, ⟨by repeat (first | (with_reducible first | exact HB.out | apply below_alloc | apply pw_below_drewN | apply below_drew1) | exact HB.out)⟩⟩
            case rest =>
              clear HC7
              try clear c1
              try clear p2
              try clear c5
              try clear c5b0
              try clear c6
              try clear c8
              try clear c8b0
              try clear p2
              obtain ⟨kq, x26_6, rfl, HA, HJ6, HO_7, HB⟩ := hcut
              cases kq with
              | zero => exact absurd HA.out (by simp [distaffref26_Rounds.j2])
              | succ kj6 =>
                have H := HA.out
                clear HA
                simp only [distaffref26_Rounds.j2] at H
                by_cases c9 : x26_6 = true
                · subst c9
                  have H1 : (distaffref26_Rounds.l1 kj6 a0 a1 x7_2 x8_2 x9_2 ([] : List Int) 0) = some r := by rw [if_pos rfl] at H; exact H
                  clear H
                  have H := H1
                  clear H1
                  have H' := Aside0.mk H
                  clear H
                  go_wp2
                  go_loopg [10, 11] kj6 (fun kq v10 v11 w' => ∃ (x10_4 : List Int) (x11_4 : Int), v11 = .int .i64 x11_4 ∧ Aside0 (distaffref26_Rounds.l1 kq a0 a1 x7_2 x8_2 x9_2 x10_4 x11_4 = some r) ∧ Aside0 (kq ≤ kj6) ∧ Aside0 (Kd.R k34 34 w' w.heap.size (fun _ => True) u7 x7_2) ∧ Aside0 (Kd.R (Kd.int .i64) 3 w' w.heap.size (fun _ => True) v10 x10_4) ∧ Aside0 (Below w.heap.size w w'))
                  case atStart => exact ⟨(([] : List Int)), (0), (by first | rfl | (simp; done) | (simp [*]; done)), H', ⟨Nat.le_refl _⟩, ⟨by (with_reducible repeat (first | apply Kd.R_alloc | apply Kd.R_drewN | apply Kd.R_drew)); exact HO_7.out⟩, ⟨by first | exact Kd.R_nil _ _ _ _ _ | exact Kd.N_nil _ _ _ _ _ | exact Kd.V_nil _ _ _ _ _ | exact Kd.Q_nil _ _ _ _ _ | exact Kd.S_nil _ _ _ _ _⟩, ⟨by repeat (first | (with_reducible first | exact HB.out | apply below_alloc | apply pw_below_drewN | apply below_drew1) | exact HB.out)⟩⟩
                  case round =>
                    clear H'
                    try clear c1
                    try clear p2
                    try clear c5
                    try clear c5b0
                    try clear c6
                    try clear c8
                    try clear c8b0
                    try clear c9
                    try clear p2
                    obtain ⟨x10_4, x11_4, rfl, HA, HK4, HO_7, HO_10, HB⟩ := hrel
                    cases gk with
                    | zero => exact absurd HA.out (by simp [distaffref26_Rounds.l1])
                    | succ k4 =>
                      have H := HA.out
                      clear HA
                      simp only [distaffref26_Rounds.l1] at H
                      by_cases c10 : x11_4 ≤ a0
                      · rw [if_pos c10] at H
                        have c10b0 : decide (x11_4 ≤ a0) = true := decide_eq_true c10
                        clear c10
                        by_cases c11 : x10_4.length < 17592186044416
                        · rw [if_pos c11] at H
                          have LMc11 := Aside0.mk c11
                          clear c11
                          obtain ⟨y157, hy157⟩ : ∃ y_ : List Int, y_ = (x10_4 ++ [x11_4]) := ⟨_, rfl⟩
                          replace H : (distaffref26_Rounds.l1 k4 a0 a1 x7_2 x8_2 x9_2 y157 (wrap64 (x11_4 + 1))) = some r := by first | (rw [hy157]; with_reducible exact H) | (have H2_ := (Option.bind_some _ _).symm.trans H; rw [hy157]; with_reducible exact H2_) | (have H2_ := (Option.bind_some _ _).symm.trans H; with_reducible exact H2_) | with_reducible exact H | (rw [hy157]; exact H) | exact H
                          have Ny157 := Aside0.mk hy157
                          clear hy157
                          have H' := Aside0.mk H
                          clear H
                          go_wp2_with (first | ((with_reducible refine gate_builtin (b := .append) (xs := #[.tmp 34, .tmp 36]) rfl ?_); at_builtin; refine Kd.R_append (Kd.int .i64) (w0 := w) w.heap.size rfl (.tmp 34) (.tmp 36) 32 3 (.int .i64 0) 8 rfl Try.underlying32 info3 rfl (by decide) (by omega) u10 x10_4 x11_4 [.int .i64 x11_4] (fun _ => True) (fun _ => False) rfl rfl ?aP (fun _ hk => hk.elim) ?aF ?aO ?aB ?aS ?aL ?_; (case aP => exact rfl); (case aB => exact (by repeat (first | (with_reducible first | exact HB.out | apply below_alloc | apply pw_below_drewN | apply below_drew1) | exact HB.out))); (case aF => exact (fun _ _ => trivial)); (case aO => exact (by (with_reducible repeat (first | apply Kd.R_alloc | apply Kd.R_drewN | apply Kd.R_drew)); exact HO_10.out)); (case aS => exact (below_size (by repeat (first | (with_reducible first | exact HB.out | apply below_alloc | apply pw_below_drewN | apply below_drew1) | exact HB.out)))); (case aL => have := LMc11.out; omega); intro v158 w12 ho hb hg hat; rw [← Ny157.out] at ho; have n0_ := Aside0.mk (Kd.R_over' (by (with_reducible repeat (first | apply Kd.R_alloc | apply Kd.R_drewN | apply Kd.R_drew)); exact HO_7.out) (Kd.R_typed (by (with_reducible repeat (first | apply Kd.R_alloc | apply Kd.R_drewN | apply Kd.R_drew)); exact HO_10.out)) (by decide) hg); have n1_ := Aside0.mk (hb); have n2_ := Aside0.mk (ho); clear HO_7; clear HB; clear HO_10; have HO_7 := n0_; have HB := n1_; have HO159 := n2_; clear n0_ n1_ n2_; clear ho hb hg hat))
                          go_roundg k4
                          case measure => have := HJ3.out; have := HK2.out; have := HJ6.out; have := HK4.out; omega
                          case rel => exact ⟨(y157), (wrap64 (x11_4 + 1)), (by first | rfl | (simp; done) | (simp [*]; done)), H', ⟨by have := HJ3.out; have := HK2.out; have := HJ6.out; have := HK4.out; omega⟩, ⟨by (with_reducible repeat (first | apply Kd.R_alloc | apply Kd.R_drewN | apply Kd.R_drew)); exact HO_7.out⟩, ⟨by (with_reducible repeat (first | apply Kd.R_alloc | apply Kd.R_drewN | apply Kd.R_drew)); exact HO159.out⟩, ⟨by repeat (first | (with_reducible first | exact HB.out | apply below_alloc | apply pw_below_drewN | apply below_drew1) | exact HB.out)⟩⟩
                        · rw [if_neg c11] at H
                          exact absurd H (by simp)
                      · rw [if_neg c10] at H
                        have c10b0 : decide (x11_4 ≤ a0) = false := decide_eq_false c10
                        clear c10
                        have H' := Aside0.mk H
                        clear H
                        go_wp2
                        go_loopg [7, 8, 10] k4 (fun kq v7 v8 v10 w' => ∃ (x7_5 : List (S34)) (x8_5 : Int) (x10_5 : List Int), v8 = .int .u64 x8_5 ∧ Aside0 (distaffref26_Rounds.l2 kq a0 a1 x7_5 x8_5 x9_2 x10_5 = some r) ∧ Aside0 (kq ≤ k4) ∧ Aside0 (Kd.R k34 34 w' w.heap.size (fun _ => True) v7 x7_5) ∧ Aside0 (Kd.R (Kd.int .i64) 3 w' w.heap.size (fun _ => True) v10 x10_5) ∧ Aside0 (Below w.heap.size w w'))
                        case atStart => exact ⟨(x7_2), (x8_2), (x10_4), (by first | rfl | (simp; done) | (simp [*]; done)), H', ⟨Nat.le_refl _⟩, ⟨by (with_reducible repeat (first | apply Kd.R_alloc | apply Kd.R_drewN | apply Kd.R_drew)); exact HO_7.out⟩, ⟨by (with_reducible repeat (first | apply Kd.R_alloc | apply Kd.R_drewN | apply Kd.R_drew)); exact HO_10.out⟩, ⟨by repeat (first | (with_reducible first | exact HB.out | apply below_alloc | apply pw_below_drewN | apply below_drew1) | exact HB.out)⟩⟩
                        case round =>
                          clear H'
                          try clear c1
                          try clear p2
                          try clear c5
                          try clear c5b0
                          try clear c6
                          try clear p6
                          try clear c8
                          try clear c8b0
                          try clear c9
                          try clear c10
                          try clear c10b0
                          try clear c11
                          try clear p2
                          obtain ⟨x7_5, x8_5, x10_5, rfl, HA, HK5, HO_7, HO_10, HB⟩ := hrel
                          cases gk with
                          | zero => exact absurd HA.out (by simp [distaffref26_Rounds.l2])
                          | succ k5 =>
                            have H := HA.out
                            clear HA
                            simp only [distaffref26_Rounds.l2] at H
                            by_cases c13 : (x10_5.length : Int) > 0
                            · rw [if_pos c13] at H
                              have c13b0 : decide (0 < (x10_5.length : Int)) = true := decide_eq_true c13
                              have c13b1 : decide (0 < x10_5.length) = true := decide_eq_true (by omega)
                              clear c13
                              by_cases c14 : (IntKind.u64.wrap ((x10_5.length : Int))) = 0
                              · rw [if_pos c14] at H
                                exact absurd H (by simp)
                              · rw [if_neg c14] at H
                                have c14b0 : ((IntKind.u64.wrap ((x10_5.length : Int))) == 0) = false := beq_eq_false_iff_ne.mpr c14
                                have c14b1 : ((IntKind.u64.wrap ((x10_5.length : Int))) != 0) = true := bne_iff_ne.mpr c14
                                obtain ⟨ji15, hji15⟩ : ∃ j_ : Int, (wrap64 (Int.tmod ((IntKind.u64.wrap ((IntKind.u64.wrap (x8_5 * 6364136223846793005)) + 1442695040888963407)) / 4294967296) (IntKind.u64.wrap ((x10_5.length : Int))))) = j_ := ⟨_, rfl⟩
                                replace H : (if 0 ≤ (ji15) then (if (ji15) < (x10_5.length : Int) then (if (rd x10_5 (ji15)) = a0 then (if x7_5.length < 5864062014805 then ((some (([] : List Int) : List Int)).bind fun y164 => (if (ji15) ≤ (x10_5.length : Int) then ((some (x10_5.take ((ji15) : Int).toNat : List Int)).bind fun y167 => (if y164.length + y167.length < 17592186044416 then ((some (y164 ++ y167 : List Int)).bind fun y171 => (if 0 ≤ (wrap64 ((ji15) + 1)) then (if (wrap64 ((ji15) + 1)) ≤ (x10_5.length : Int) then ((some (x10_5.drop ((wrap64 ((ji15) + 1)) : Int).toNat : List Int)).bind fun y174 => (if y171.length + y174.length < 17592186044416 then (distaffref26_Rounds.l2 k5 a0 a1 (x7_5 ++ [(⟨2, 0, 0⟩ : S34)]) (IntKind.u64.wrap ((IntKind.u64.wrap (x8_5 * 6364136223846793005)) + 1442695040888963407)) x9_2 (y171 ++ y174)) else (none))) else (none)) else (none))) else (none))) else (none))) else (none)) else (if x7_5.length < 5864062014805 then ((some (([] : List Int) : List Int)).bind fun y185 => (if (ji15) ≤ (x10_5.length : Int) then ((some (x10_5.take ((ji15) : Int).toNat : List Int)).bind fun y188 => (if y185.length + y188.length < 17592186044416 then ((some (y185 ++ y188 : List Int)).bind fun y192 => (if 0 ≤ (wrap64 ((ji15) + 1)) then (if (wrap64 ((ji15) + 1)) ≤ (x10_5.length : Int) then ((some (x10_5.drop ((wrap64 ((ji15) + 1)) : Int).toNat : List Int)).bind fun y195 => (if y192.length + y195.length < 17592186044416 then (distaffref26_Rounds.l2 k5 a0 a1 (x7_5 ++ [(⟨1, rd x10_5 (ji15), (IntKind.u64.wrap ((IntKind.u64.wrap (x8_5 * 6364136223846793005)) + 1442695040888963407)) / 4294967296⟩ : S34)]) (IntKind.u64.wrap ((IntKind.u64.wrap (x8_5 * 6364136223846793005)) + 1442695040888963407)) x9_2 (y192 ++ y195)) else (none))) else (none)) else (none))) else (none))) else (none))) else (none))) else (none)) else (none)) = some r := by first | (rw [hji15] at H; exact H) | (simp only [hji15] at H ⊢; exact H)
                                have hji15w : (IntKind.i64.wrap (Int.tmod ((IntKind.u64.wrap ((IntKind.u64.wrap (x8_5 * 6364136223846793005)) + 1442695040888963407)) / 4294967296) (IntKind.u64.wrap ((x10_5.length : Int))))) = ji15 := (i64_w _).trans hji15
                                by_cases c16 : 0 ≤ (ji15)
                                · rw [if_pos c16] at H
                                  have c16b0 : decide (0 ≤ (ji15)) = true := decide_eq_true c16
                                  clear c16
                                  by_cases c17 : (ji15) < (x10_5.length : Int)
                                  · rw [if_pos c17] at H
                                    have c17b0 : decide ((ji15) < (x10_5.length : Int)) = true := decide_eq_true c17
                                    clear c17
                                    by_cases c18 : (rd x10_5 (ji15)) = a0
                                    · rw [if_pos c18] at H
                                      have c18b0 : ((rd x10_5 (ji15)) == a0) = true := beq_iff_eq.mpr c18
                                      have c18b1 : ((rd x10_5 (ji15)) != a0) = false := bne_eq_false_iff_eq.mpr c18
                                      clear c18
                                      by_cases c19 : x7_5.length < 5864062014805
                                      · rw [if_pos c19] at H
                                        have LMc19 := Aside0.mk c19
                                        clear c19
                                        obtain ⟨y161, hy161⟩ : ∃ y_ : List (S34), y_ = (x7_5 ++ [(⟨2, 0, 0⟩ : S34)]) := ⟨_, rfl⟩
                                        replace H : ((some (([] : List Int) : List Int)).bind fun y164 => (if (ji15) ≤ (x10_5.length : Int) then ((some (x10_5.take ((ji15) : Int).toNat : List Int)).bind fun y167 => (if y164.length + y167.length < 17592186044416 then ((some (y164 ++ y167 : List Int)).bind fun y171 => (if 0 ≤ (wrap64 ((ji15) + 1)) then (if (wrap64 ((ji15) + 1)) ≤ (x10_5.length : Int) then ((some (x10_5.drop ((wrap64 ((ji15) + 1)) : Int).toNat : List Int)).bind fun y174 => (if y171.length + y174.length < 17592186044416 then (distaffref26_Rounds.l2 k5 a0 a1 y161 (IntKind.u64.wrap ((IntKind.u64.wrap (x8_5 * 6364136223846793005)) + 1442695040888963407)) x9_2 (y171 ++ y174)) else (none))) else (none)) else (none))) else (none))) else (none))) = some r := by first | (rw [hy161]; with_reducible exact H) | (have H2_ := (Option.bind_some _ _).symm.trans H; rw [hy161]; with_reducible exact H2_) | (have H2_ := (Option.bind_some _ _).symm.trans H; with_reducible exact H2_) | with_reducible exact H | (rw [hy161]; exact H) | exact H
                                        have Ny161 := Aside0.mk hy161
                                        clear hy161
                                        obtain ⟨y164, hy164⟩ : ∃ y_ : List Int, y_ = (([] : List Int)) := ⟨_, rfl⟩
                                        replace H : (if (ji15) ≤ (x10_5.length : Int) then ((some (x10_5.take ((ji15) : Int).toNat : List Int)).bind fun y167 => (if y164.length + y167.length < 17592186044416 then ((some (y164 ++ y167 : List Int)).bind fun y171 => (if 0 ≤ (wrap64 ((ji15) + 1)) then (if (wrap64 ((ji15) + 1)) ≤ (x10_5.length : Int) then ((some (x10_5.drop ((wrap64 ((ji15) + 1)) : Int).toNat : List Int)).bind fun y174 => (if y171.length + y174.length < 17592186044416 then (distaffref26_Rounds.l2 k5 a0 a1 y161 (IntKind.u64.wrap ((IntKind.u64.wrap (x8_5 * 6364136223846793005)) + 1442695040888963407)) x9_2 (y171 ++ y174)) else (none))) else (none)) else (none))) else (none))) else (none)) = some r := by first | (rw [hy164]; with_reducible exact H) | (have H2_ := (Option.bind_some _ _).symm.trans H; rw [hy164]; with_reducible exact H2_) | (have H2_ := (Option.bind_some _ _).symm.trans H; with_reducible exact H2_) | with_reducible exact H | (rw [hy164]; exact H) | exact H
                                        have Ny164 := Aside0.mk hy164
                                        clear hy164
                                        have c20b0 := eq_true (of_decide_eq_true (by first | (with_reducible assumption) | assumption) : 0 ≤ (ji15))
                                        by_cases c21 : (ji15) ≤ (x10_5.length : Int)
                                        · rw [if_pos c21] at H
                                          have c21b0 := eq_true c21
                                          have c21b1 : decide ((ji15) ≤ (x10_5.length : Int)) = true := decide_eq_true c21
                                          clear c21
                                          obtain ⟨y167, hy167⟩ : ∃ y_ : List Int, y_ = (x10_5.take ((ji15) : Int).toNat) := ⟨_, rfl⟩
                                          replace H : (if y164.length + y167.length < 17592186044416 then ((some (y164 ++ y167 : List Int)).bind fun y171 => (if 0 ≤ (wrap64 ((ji15) + 1)) then (if (wrap64 ((ji15) + 1)) ≤ (x10_5.length : Int) then ((some (x10_5.drop ((wrap64 ((ji15) + 1)) : Int).toNat : List Int)).bind fun y174 => (if y171.length + y174.length < 17592186044416 then (distaffref26_Rounds.l2 k5 a0 a1 y161 (IntKind.u64.wrap ((IntKind.u64.wrap (x8_5 * 6364136223846793005)) + 1442695040888963407)) x9_2 (y171 ++ y174)) else (none))) else (none)) else (none))) else (none)) = some r := by first | (rw [hy167]; with_reducible exact H) | (have H2_ := (Option.bind_some _ _).symm.trans H; rw [hy167]; with_reducible exact H2_) | (have H2_ := (Option.bind_some _ _).symm.trans H; with_reducible exact H2_) | with_reducible exact H | (rw [hy167]; exact H) | exact H
                                          have Ny167 := Aside0.mk hy167
                                          clear hy167
                                          by_cases c22 : y164.length + y167.length < 17592186044416
                                          · rw [if_pos c22] at H
                                            have LMc22 := Aside0.mk c22
                                            clear c22
                                            obtain ⟨y171, hy171⟩ : ∃ y_ : List Int, y_ = (y164 ++ y167) := ⟨_, rfl⟩
                                            replace H : (if 0 ≤ (wrap64 ((ji15) + 1)) then (if (wrap64 ((ji15) + 1)) ≤ (x10_5.length : Int) then ((some (x10_5.drop ((wrap64 ((ji15) + 1)) : Int).toNat : List Int)).bind fun y174 => (if y171.length + y174.length < 17592186044416 then (distaffref26_Rounds.l2 k5 a0 a1 y161 (IntKind.u64.wrap ((IntKind.u64.wrap (x8_5 * 6364136223846793005)) + 1442695040888963407)) x9_2 (y171 ++ y174)) else (none))) else (none)) else (none)) = some r := by first | (rw [hy171]; with_reducible exact H) | (have H2_ := (Option.bind_some _ _).symm.trans H; rw [hy171]; with_reducible exact H2_) | (have H2_ := (Option.bind_some _ _).symm.trans H; with_reducible exact H2_) | with_reducible exact H | (rw [hy171]; exact H) | exact H
                                            have Ny171 := Aside0.mk hy171
                                            clear hy171
                                            obtain ⟨ji23, hji23⟩ : ∃ j_ : Int, (wrap64 ((ji15) + 1)) = j_ := ⟨_, rfl⟩
                                            replace H : (if 0 ≤ (ji23) then (if (ji23) ≤ (x10_5.length : Int) then ((some (x10_5.drop ((ji23) : Int).toNat : List Int)).bind fun y174 => (if y171.length + y174.length < 17592186044416 then (distaffref26_Rounds.l2 k5 a0 a1 y161 (IntKind.u64.wrap ((IntKind.u64.wrap (x8_5 * 6364136223846793005)) + 1442695040888963407)) x9_2 (y171 ++ y174)) else (none))) else (none)) else (none)) = some r := by first | (rw [hji23] at H; exact H) | (simp only [hji23] at H ⊢; exact H)
                                            have hji23w : (IntKind.i64.wrap ((ji15) + 1)) = ji23 := (i64_w _).trans hji23
                                            by_cases c24 : 0 ≤ (ji23)
                                            · rw [if_pos c24] at H
                                              have c24b0 := eq_true c24
                                              have c24b1 : decide (0 ≤ (ji23)) = true := decide_eq_true c24
                                              clear c24
                                              by_cases c25 : (ji23) ≤ (x10_5.length : Int)
                                              · rw [if_pos c25] at H
                                                have c25b0 := eq_true c25
                                                have c25b1 : decide ((ji23) ≤ (x10_5.length : Int)) = true := decide_eq_true c25
                                                clear c25
                                                obtain ⟨y174, hy174⟩ : ∃ y_ : List Int, y_ = (x10_5.drop ((ji23) : Int).toNat) := ⟨_, rfl⟩
                                                replace H : (if y171.length + y174.length < 17592186044416 then (distaffref26_Rounds.l2 k5 a0 a1 y161 (IntKind.u64.wrap ((IntKind.u64.wrap (x8_5 * 6364136223846793005)) + 1442695040888963407)) x9_2 (y171 ++ y174)) else (none)) = some r := by first | (rw [hy174]; with_reducible exact H) | (have H2_ := (Option.bind_some _ _).symm.trans H; rw [hy174]; with_reducible exact H2_) | (have H2_ := (Option.bind_some _ _).symm.trans H; with_reducible exact H2_) | with_reducible exact H | (rw [hy174]; exact H) | exact H
                                                have Ny174 := Aside0.mk hy174
                                                clear hy174
                                                by_cases c26 : y171.length + y174.length < 17592186044416
                                                · rw [if_pos c26] at H
                                                  have LMc26 := Aside0.mk c26
                                                  clear c26
                                                  obtain ⟨y178, hy178⟩ : ∃ y_ : List Int, y_ = (y171 ++ y174) := ⟨_, rfl⟩
                                                  replace H : (distaffref26_Rounds.l2 k5 a0 a1 y161 (IntKind.u64.wrap ((IntKind.u64.wrap (x8_5 * 6364136223846793005)) + 1442695040888963407)) x9_2 y178) = some r := by first | (rw [hy178]; with_reducible exact H) | (have H2_ := (Option.bind_some _ _).symm.trans H; rw [hy178]; with_reducible exact H2_) | (have H2_ := (Option.bind_some _ _).symm.trans H; with_reducible exact H2_) | with_reducible exact H | (rw [hy178]; exact H) | exact H
                                                  have Ny178 := Aside0.mk hy178
                                                  clear hy178
                                                  have H' := Aside0.mk H
                                                  clear H
                                                  obtain ⟨Ao27, co27, eo27⟩ := Kd.R_slice HO_10.out
                                                  subst eo27
                                                  have p160 : 0 ≤ ((ji15) : Int) := of_decide_eq_true (by first | (with_reducible assumption) | assumption)
                                                  have q160 : (ji15) < (x10_5.length : Int) := of_decide_eq_true (by first | (with_reducible assumption) | assumption)
                                                  obtain ⟨ad160, e160, hx160_0⟩ := Kd.at_int (Kd.R_reads' HO_10.out).2.2 (ji15) p160 q160
                                                  cases e160
                                                  replace p160 := eq_true p160
                                                  replace q160 := eq_true q160
                                                  try go_wp2_with (first | ((with_reducible refine gate_builtin (b := .append) (xs := #[.tmp 57, .tmp 59]) rfl ?_); at_builtin; refine Kd.R_append k34 (w0 := w) w.heap.size rfl (.tmp 57) (.tmp 59) 22 34 (.agg #[(.int .i64 0), (.int .i64 0), (.int .u64 0)]) 24 rfl Try.underlying22 info34 rfl (by decide) (by omega) u7 x7_5 (⟨2, 0, 0⟩ : S34) [.int .i64 2, .int .i64 0, .int .u64 0] (fun _ => True) (fun _ => False) rfl rfl ?aP (fun _ hk => hk.elim) ?aF ?aO ?aB ?aS ?aL ?_; (case aP => exact k34_mkM _ _ _ (⟨2, 0, 0⟩ : S34)); (case aB => exact (by repeat (first | (with_reducible first | exact HB.out | apply below_alloc | apply pw_below_drewN | apply below_drew1) | exact HB.out))); (case aF => exact (fun _ _ => trivial)); (case aO => exact (by (with_reducible repeat (first | apply Kd.R_alloc | apply Kd.R_drewN | apply Kd.R_drew)); exact HO_7.out)); (case aS => exact (below_size (by repeat (first | (with_reducible first | exact HB.out | apply below_alloc | apply pw_below_drewN | apply below_drew1) | exact HB.out)))); (case aL => have := LMc19.out; omega); intro v162 w28 ho hb hg hat; rw [← Ny161.out] at ho; have n0_ := Aside0.mk (Kd.R_over' (by (with_reducible repeat (first | apply Kd.R_alloc | apply Kd.R_drewN | apply Kd.R_drew)); exact HO_10.out) (Kd.R_typed (by (with_reducible repeat (first | apply Kd.R_alloc | apply Kd.R_drewN | apply Kd.R_drew)); exact HO_7.out)) (by decide) hg); have n1_ := Aside0.mk (hb); have n2_ := Aside0.mk (ho); clear HO_10; clear HB; clear HO_7; have HO_10 := n0_; have HB := n1_; have HO163 := n2_; clear n0_ n1_ n2_; clear ho hb hg hat))
                                                  have n0_ := Aside0.mk (Kd.R_drew HO_10.out)
                                                  have n1_ := Aside0.mk (Kd.R_drew HO163.out)
                                                  have n2_ := Aside0.mk (below_drew1 HB.out)
                                                  clear HO_10
                                                  clear HO163
                                                  clear HB
                                                  have HO_10 := n0_
                                                  have HO163 := n1_
                                                  have HB := n2_
                                                  clear n0_ n1_ n2_
                                                  have q30 : ((ji15) : Int) ≤ ((x10_5.length : Int) : Int) := of_decide_eq_true (by first | (with_reducible assumption) | assumption)
                                                  obtain ⟨i030, hi030, _, hsz30, _⟩ := info_parts info3
                                                  have hroom30 : x10_5.length ≤ co27 := (Kd.R_reads' HO_10.out).2.1
                                                  have hC30 : Kd.C (Kd.int .i64) _ (some ad160) x10_5.length x10_5 := (Kd.R_reads' HO_10.out).2.2
                                                  have hcut30 := cut_to (P := Try.prog) 32 3 .i64 Try.underlying32 hi030 (some ad160) x10_5.length co27 (ji15) (of_decide_eq_true (by first | (with_reducible assumption) | assumption)) q30 hroom30
                                                  have hr30 := Kd.C_take (m := ((ji15) : Int).toNat) hC30 (by omega)
                                                  have hy30 : y167.length = ((ji15) : Int).toNat := (by rw [Ny167.out, List.length_take]; omega)
                                                  rw [← Ny167.out] at hr30
                                                  rw [← hy30] at hcut30
                                                  have HR170 := Aside0.mk hr30
                                                  have HC170 := Aside0.mk (show y167.length ≤ co27 from by omega)
                                                  clear hr30 hC30 hroom30 hi030 hsz30
                                                  have KY30 := Aside0.mk hy30
                                                  clear hy30
                                                  have KL30 := Aside0.mk (show ((ji15) : Int).toNat ≤ x10_5.length from by omega)
                                                  replace q30 := eq_true q30
                                                  have q31 : ((ji23) : Int) ≤ ((x10_5.length : Int) : Int) := of_decide_eq_true (by first | (with_reducible assumption) | assumption)
                                                  obtain ⟨i031, hi031, _, hsz31, _⟩ := info_parts info3
                                                  have hroom31 : x10_5.length ≤ co27 := (Kd.R_reads' HO_10.out).2.1
                                                  have hC31 : Kd.C (Kd.int .i64) _ (some ad160) x10_5.length x10_5 := (Kd.R_reads' HO_10.out).2.2
                                                  have q031 : (0 : Int) ≤ ((ji23) : Int) := of_decide_eq_true (by first | (with_reducible assumption) | assumption)
                                                  have hcut31 := cut_from (P := Try.prog) 32 3 .i64 Try.underlying32 hi031 1 hsz31 (some ad160) x10_5.length co27 (ji23) q031 q31
                                                  have hr31 := Kd.C_drop (m := ((ji23) : Int).toNat) (c := co27) hC31 (by omega) hroom31
                                                  obtain ⟨A31, hA31⟩ : ∃ A1, A1 = (if co27 = ((ji23) : Int).toNat then (some ad160) else ((some ad160) : Option Addr).map (·.add (((ji23) : Int).toNat * 1))) := ⟨_, rfl⟩
                                                  obtain ⟨c31, hc31⟩ : ∃ c1, c1 = co27 - ((ji23) : Int).toNat := ⟨_, rfl⟩
                                                  have hy31 : y174.length = x10_5.length - ((ji23) : Int).toNat := (by rw [Ny174.out, List.length_drop] <;> omega)
                                                  rw [show (x10_5).drop ((ji23) : Int).toNat = y174 from Ny174.out.symm] at hr31
                                                  replace hr31 : Kd.C (Kd.int .i64) _ A31 y174.length y174 := (by rw [hA31]; exact hr31)
                                                  rw [← hy31, ← hA31, ← hc31] at hcut31
                                                  have HR177 := Aside0.mk hr31
                                                  have HC177 := Aside0.mk (show y174.length ≤ c31 from by rw [hy31, hc31]; exact Nat.sub_le_sub_right hroom31 _)
                                                  clear hr31 hC31 hroom31 hi031 hsz31 hc31
                                                  have KY31 := Aside0.mk hy31
                                                  have KA31 := Aside0.mk hA31
                                                  clear hy31 hA31
                                                  have KL31 := Aside0.mk (show ((ji23) : Int).toNat ≤ x10_5.length from by omega)
                                                  replace q31 := eq_true q31
                                                  refine start_ (n := 11) (S := fun w' => True) (ds := []) #[false, false, false, false, false, false, false, false, false, false, false] (by kernel_rfl) rfl rfl trivial (fun hHeld => ?_); refine with_tabW distaffref26_Rounds.tab19 distaffref26_Rounds.bits19 (fun HT_ HW_ => ?_)
                                                  generalize w28.drew = w29 at HO_10 HO163 HB HR170 HR177 hHeld ⊢
                                                  refine pure_ (i := 1) (N := some 72) (v := ?_) (a' := ?_) #[false, true, false, false, false, false, false, false, false, false, false] rfl rfl (any_of HT_.out (by kernel_rfl)) (fun _ _ _ h => h) (Or.inl ⟨by rfl, ?_⟩) ?_ ?_
                                                  rotate_left
                                                  · intro w'
                                                    go_simp
                                                    with_reducible rfl
                                                  rotate_left
                                                  · simp only [Act.put, List.setIfInBounds_toArray, List.set_cons_zero, List.set_cons_succ, i64_w, i32_w]
                                                    rfl
                                                  refine pure_ (i := 2) (N := some 73) (v := ?_) (a' := ?_) #[false, true, true, false, false, false, false, false, false, false, false] rfl rfl (any_of HT_.out (by kernel_rfl)) (fun _ _ _ h => h) (Or.inl ⟨by rfl, ?_⟩) ?_ ?_
                                                  rotate_left
                                                  · intro w'
                                                    go_simp
                                                    with_reducible rfl
                                                  rotate_left
                                                  · simp only [Act.put, List.setIfInBounds_toArray, List.set_cons_zero, List.set_cons_succ, i64_w, i32_w]
                                                    rfl
                                                  refine pure_ (i := 3) (N := some 74) (v := ?_) (a' := ?_) #[false, true, true, true, false, false, false, false, false, false, false] rfl rfl (any_of HT_.out (by kernel_rfl)) (fun _ _ _ h => h) (Or.inl ⟨by rfl, ?_⟩) ?_ ?_
                                                  rotate_left
                                                  · intro w'
                                                    go_simp
                                                    with_reducible rfl
                                                  rotate_left
                                                  · simp only [Act.put, List.setIfInBounds_toArray, List.set_cons_zero, List.set_cons_succ, i64_w, i32_w]
                                                    rfl
                                                  refine pure_ (i := 5) (N := some 76) (v := ?_) (a' := ?_) #[false, true, true, true, false, true, false, false, false, false, false] rfl rfl (any_of HT_.out (by kernel_rfl)) (fun _ _ _ h => h) (Or.inl ⟨by rfl, ?_⟩) ?_ ?_
                                                  rotate_left
                                                  · intro w'
                                                    go_simp
                                                    with_reducible rfl
                                                  rotate_left
                                                  · simp only [Act.put, List.setIfInBounds_toArray, List.set_cons_zero, List.set_cons_succ, i64_w, i32_w]
                                                    rfl
                                                  refine pure_ (i := 6) (N := some 77) (v := ?_) (a' := ?_) #[false, true, true, true, false, true, true, false, false, false, false] rfl rfl (any_of HT_.out (by kernel_rfl)) (fun _ _ _ h => h) (Or.inl ⟨by rfl, ?_⟩) ?_ ?_
                                                  rotate_left
                                                  · intro w'
                                                    go_simp
                                                    with_reducible rfl
                                                  rotate_left
                                                  · simp only [Act.put, List.setIfInBounds_toArray, List.set_cons_zero, List.set_cons_succ, i64_w, i32_w]
                                                    rfl
                                                  refine pure_ (i := 7) (N := some 78) (v := ?_) (a' := ?_) #[false, true, true, true, false, true, true, true, false, false, false] rfl rfl (any_of HT_.out (by kernel_rfl)) (fun _ _ _ h => h) (Or.inl ⟨by rfl, ?_⟩) ?_ ?_
                                                  rotate_left
                                                  · intro w'
                                                    go_simp
                                                    with_reducible rfl
                                                  rotate_left
                                                  · simp only [Act.put, List.setIfInBounds_toArray, List.set_cons_zero, List.set_cons_succ, i64_w, i32_w]
                                                    rfl
                                                  refine pure_ (i := 8) (N := some 79) (v := ?_) (a' := ?_) #[false, true, true, true, false, true, true, true, true, false, false] rfl rfl (any_of HT_.out (by kernel_rfl)) (fun _ _ _ h => h) (Or.inl ⟨by rfl, ?_⟩) ?_ ?_
                                                  rotate_left
                                                  · intro w'
                                                    go_simp
                                                    with_reducible rfl
                                                  rotate_left
                                                  · simp only [Act.put, List.setIfInBounds_toArray, List.set_cons_zero, List.set_cons_succ, i64_w, i32_w]
                                                    rfl
                                                  refine one_ (i := 0) (N := some 71) #[true, true, true, true, false, true, true, true, true, false, false] rfl rfl (one_of HT_.out (by kernel_rfl)) (by decide) (fun K hK => ?_)
                                                  refine Kd.R_lit_step (Kd.int .i64) _ 3 ?hg (N := 71) ?hd (xs := ([] : List Int)) (inner := []) (ok := fun _ => True) (okp := fun _ => True) ?hr ?hp (fun _ hk => hk) trivial (Below.refl _ _) (Nat.le_refl _) (by simp) ?_; (case hd => rfl); (case hg => rfl); (case hr => first | (go_simp; done) | (go_simp; rfl)); (case hp => exact (Reps.none _ _))
                                                  intro v165 w32 ho33 hb hg_ hnew_
                                                  clear hg_ hnew_
                                                  (first | rw [← Ny164.out] at ho33 | (simp only [Int.reduceToNat] at ho33; rw [← Ny164.out] at ho33))
                                                  have n0_ := Aside0.mk (Kd.R_elder' (by (with_reducible repeat (first | apply Kd.R_alloc | apply Kd.R_drewN | apply Kd.R_drew)); exact HO_10.out) (Kd.R_base ho33) hb)
                                                  have n1_ := Aside0.mk (Kd.R_below (by (with_reducible repeat (first | apply Kd.R_alloc | apply Kd.R_drewN | apply Kd.R_drew)); exact HO163.out) hb)
                                                  have n2_ := Aside0.mk (Kd.R_lower (Kd.R_new' ho33 (Kd.R_lt (by (with_reducible repeat (first | apply Kd.R_alloc | apply Kd.R_drewN | apply Kd.R_drew)); exact HO_10.out))) (below_size (by repeat (first | (with_reducible first | exact HB.out | apply below_alloc | apply pw_below_drewN | apply below_drew1) | exact HB.out))))
                                                  have n3_ := Aside0.mk (Kd.C_below (by repeat (first | (with_reducible exact HR170.out) | (with_reducible refine Kd.C_alloc ?_ _) | (with_reducible refine Kd.C_drewN ?_ _) | (with_reducible refine Kd.C_drew ?_) | exact HR170.out)) hb)
                                                  have n4_ := Aside0.mk (Kd.C_below (by repeat (first | (with_reducible exact HR177.out) | (with_reducible refine Kd.C_alloc ?_ _) | (with_reducible refine Kd.C_drewN ?_ _) | (with_reducible refine Kd.C_drew ?_) | exact HR177.out)) hb)
                                                  have n5_ := Aside0.mk (below_step (by repeat (first | (with_reducible first | exact HB.out | apply below_alloc | apply pw_below_drewN | apply below_drew1) | exact HB.out)) hb)
                                                  clear HO_10
                                                  clear HO163
                                                  clear HR170
                                                  clear HR177
                                                  clear HB
                                                  have HO_10 := n0_
                                                  have HO163 := n1_
                                                  have HO166 := n2_
                                                  have HR170 := n3_
                                                  have HR177 := n4_
                                                  have HB := n5_
                                                  clear n0_ n1_ n2_ n3_ n4_ n5_
                                                  clear hb ho33
                                                  refine hK.out _ _ trivial (fun hHeld => ?_)
                                                  clear hK K
                                                  refine norm_ (a' := ?_) ?_ ?_
                                                  rotate_left
                                                  · show Act.put _ (some 71) _ = _
                                                    simp only [Act.put, List.setIfInBounds_toArray, List.set_cons_zero, List.set_cons_succ, i64_w, i32_w]
                                                    rfl
                                                  refine one_ (i := 4) (N := some 75) #[true, true, true, true, true, true, true, true, true, false, false] rfl rfl (one_of HT_.out (by kernel_rfl)) (by decide) (fun K hK => ?_)
                                                  refine Kd.R_append_rows_step (Kd.int .i64) (w0 := w) w.heap.size (by rfl) (.tmp 71) (.tmp 74) 32 3 (.int .i64 0) 8 rfl Try.underlying32 info3 rfl (by decide) (by omega) v165 y164 y167 _ _ _ (fun k_ => some k_ ≠ (.slice (some ad160) x10_5.length co27 : Value).ownBlock) (fun _ => False) rfl rfl ?aO ?aR (fun _ _ h => h) (fun _ h => h.elim) ?aF ?aB ?aS ?aL ?_
                                                  (case aR => repeat (first | exact (by repeat (first | (with_reducible exact HR170.out) | (with_reducible refine Kd.C_alloc ?_ _) | (with_reducible refine Kd.C_drewN ?_ _) | (with_reducible refine Kd.C_drew ?_) | exact HR170.out)) | (with_reducible refine Kd.C_alloc ?_ _) | (with_reducible refine Kd.C_drewN ?_ _) | (with_reducible refine Kd.C_drew ?_)))
                                                  (case aB => exact (by repeat (first | (with_reducible first | exact HB.out | apply below_alloc | apply pw_below_drewN | apply below_drew1) | exact HB.out)))
                                                  (case aF => exact (fun k_ hk => Kd.fresh' (Kd.R_lt (by (with_reducible repeat (first | apply Kd.R_alloc | apply Kd.R_drewN | apply Kd.R_drew)); exact HO_10.out)) k_ hk))
                                                  (case aO => exact (by (with_reducible repeat (first | apply Kd.R_alloc | apply Kd.R_drewN | apply Kd.R_drew)); exact Kd.R_mono HO166.out (fun _ hk => hk.2)))
                                                  (case aS => exact (below_size (by repeat (first | (with_reducible first | exact HB.out | apply below_alloc | apply pw_below_drewN | apply below_drew1) | exact HB.out))))
                                                  (case aL => have := LMc22.out; omega)
                                                  intro v172 w34 ho hb hg hat
                                                  rw [← Ny171.out] at ho
                                                  have n0_ := Aside0.mk (Kd.R_after (ok := (fun _ => True)) (by (with_reducible repeat (first | apply Kd.R_alloc | apply Kd.R_drewN | apply Kd.R_drew)); exact HO_10.out) hg hat)
                                                  have n1_ := Aside0.mk (Kd.R_over' (by (with_reducible repeat (first | apply Kd.R_alloc | apply Kd.R_drewN | apply Kd.R_drew)); exact HO163.out) (Kd.R_typed (by (with_reducible repeat (first | apply Kd.R_alloc | apply Kd.R_drewN | apply Kd.R_drew)); exact HO166.out)) (by decide) hg)
                                                  have n2_ := Aside0.mk (hb)
                                                  have n3_ := Aside0.mk ((show Kd.C (Kd.int .i64) w34 (some ad160) y167.length y167 from by rw [Ny167.out]; exact Kd.C_take (m := ((ji15) : Int).toNat) ((Kd.R_reads' (Kd.R_after (ok := (fun _ => True)) (by (with_reducible repeat (first | apply Kd.R_alloc | apply Kd.R_drewN | apply Kd.R_drew)); exact HO_10.out) hg hat)).2.2) KL30.out))
                                                  have n4_ := Aside0.mk ((show Kd.C (Kd.int .i64) w34 A31 y174.length y174 from by rw [Ny174.out, KA31.out]; exact Kd.C_drop (m := ((ji23) : Int).toNat) (c := co27) ((Kd.R_reads' (Kd.R_after (ok := (fun _ => True)) (by (with_reducible repeat (first | apply Kd.R_alloc | apply Kd.R_drewN | apply Kd.R_drew)); exact HO_10.out) hg hat)).2.2) KL31.out ((Kd.R_reads' (Kd.R_after (ok := (fun _ => True)) (by (with_reducible repeat (first | apply Kd.R_alloc | apply Kd.R_drewN | apply Kd.R_drew)); exact HO_10.out) hg hat)).2.1)))
                                                  have n5_ := Aside0.mk (ho)
                                                  clear HO_10
                                                  clear HO163
                                                  clear HB
                                                  clear HR170
                                                  clear HR177
                                                  clear HO166
                                                  have HO_10 := n0_
                                                  have HO163 := n1_
                                                  have HB := n2_
                                                  have HR170 := n3_
                                                  have HR177 := n4_
                                                  have HO173 := n5_
                                                  clear n0_ n1_ n2_ n3_ n4_ n5_
                                                  clear ho hb hg hat
                                                  refine hK.out _ _ trivial (fun hHeld => ?_)
                                                  clear hK K
                                                  refine norm_ (a' := ?_) ?_ ?_
                                                  rotate_left
                                                  · show Act.put _ (some 75) _ = _
                                                    simp only [Act.put, List.setIfInBounds_toArray, List.set_cons_zero, List.set_cons_succ, i64_w, i32_w]
                                                    rfl
                                                  refine one_ (i := 9) (N := some 80) #[true, true, true, true, true, true, true, true, true, true, false] rfl rfl (one_of HT_.out (by kernel_rfl)) (by decide) (fun K hK => ?_)
                                                  refine Kd.R_append_rows_step (Kd.int .i64) (w0 := w) w.heap.size (by rfl) (.tmp 75) (.tmp 79) 32 3 (.int .i64 0) 8 rfl Try.underlying32 info3 rfl (by decide) (by omega) v172 y171 y174 _ _ _ (fun k_ => some k_ ≠ (.slice (some ad160) x10_5.length co27 : Value).ownBlock) (fun _ => False) rfl rfl ?aO ?aR (fun _ _ h => h) (fun _ h => h.elim) ?aF ?aB ?aS ?aL ?_
                                                  (case aR => repeat (first | exact (by repeat (first | (with_reducible exact HR177.out) | (with_reducible refine Kd.C_alloc ?_ _) | (with_reducible refine Kd.C_drewN ?_ _) | (with_reducible refine Kd.C_drew ?_) | exact HR177.out)) | (with_reducible refine Kd.C_alloc ?_ _) | (with_reducible refine Kd.C_drewN ?_ _) | (with_reducible refine Kd.C_drew ?_)))
                                                  (case aB => exact (by repeat (first | (with_reducible first | exact HB.out | apply below_alloc | apply pw_below_drewN | apply below_drew1) | exact HB.out)))
                                                  (case aF => exact (fun k_ hk => Kd.fresh' (Kd.R_lt (by (with_reducible repeat (first | apply Kd.R_alloc | apply Kd.R_drewN | apply Kd.R_drew)); exact HO_10.out)) k_ hk))
                                                  (case aO => exact (by (with_reducible repeat (first | apply Kd.R_alloc | apply Kd.R_drewN | apply Kd.R_drew)); exact HO173.out))
                                                  (case aS => exact (below_size (by repeat (first | (with_reducible first | exact HB.out | apply below_alloc | apply pw_below_drewN | apply below_drew1) | exact HB.out))))
                                                  (case aL => have := LMc26.out; omega)
                                                  intro v179 w35 ho hb hg hat
                                                  rw [← Ny178.out] at ho
                                                  have n0_ := Aside0.mk (Kd.R_after (ok := (fun _ => True)) (by (with_reducible repeat (first | apply Kd.R_alloc | apply Kd.R_drewN | apply Kd.R_drew)); exact HO_10.out) hg hat)
                                                  have n1_ := Aside0.mk (Kd.R_over' (by (with_reducible repeat (first | apply Kd.R_alloc | apply Kd.R_drewN | apply Kd.R_drew)); exact HO163.out) (Kd.R_typed (by (with_reducible repeat (first | apply Kd.R_alloc | apply Kd.R_drewN | apply Kd.R_drew)); exact HO173.out)) (by decide) hg)
                                                  have n2_ := Aside0.mk (hb)
                                                  have n3_ := Aside0.mk ((show Kd.C (Kd.int .i64) w35 (some ad160) y167.length y167 from by rw [Ny167.out]; exact Kd.C_take (m := ((ji15) : Int).toNat) ((Kd.R_reads' (Kd.R_after (ok := (fun _ => True)) (by (with_reducible repeat (first | apply Kd.R_alloc | apply Kd.R_drewN | apply Kd.R_drew)); exact HO_10.out) hg hat)).2.2) KL30.out))
                                                  have n4_ := Aside0.mk ((show Kd.C (Kd.int .i64) w35 A31 y174.length y174 from by rw [Ny174.out, KA31.out]; exact Kd.C_drop (m := ((ji23) : Int).toNat) (c := co27) ((Kd.R_reads' (Kd.R_after (ok := (fun _ => True)) (by (with_reducible repeat (first | apply Kd.R_alloc | apply Kd.R_drewN | apply Kd.R_drew)); exact HO_10.out) hg hat)).2.2) KL31.out ((Kd.R_reads' (Kd.R_after (ok := (fun _ => True)) (by (with_reducible repeat (first | apply Kd.R_alloc | apply Kd.R_drewN | apply Kd.R_drew)); exact HO_10.out) hg hat)).2.1)))
                                                  have n5_ := Aside0.mk (ho)
                                                  clear HO_10
                                                  clear HO163
                                                  clear HB
                                                  clear HR170
                                                  clear HR177
                                                  clear HO173
                                                  have HO_10 := n0_
                                                  have HO163 := n1_
                                                  have HB := n2_
                                                  have HR170 := n3_
                                                  have HR177 := n4_
                                                  have HO180 := n5_
                                                  clear n0_ n1_ n2_ n3_ n4_ n5_
                                                  clear ho hb hg hat
                                                  refine hK.out _ _ trivial (fun hHeld => ?_)
                                                  clear hK K
                                                  refine norm_ (a' := ?_) ?_ ?_
                                                  rotate_left
                                                  · show Act.put _ (some 80) _ = _
                                                    simp only [Act.put, List.setIfInBounds_toArray, List.set_cons_zero, List.set_cons_succ, i64_w, i32_w]
                                                    rfl
                                                  refine pure_ (i := 10) (N := some 10) (v := ?_) (a' := ?_) #[true, true, true, true, true, true, true, true, true, true, true] rfl rfl (any_of HT_.out (by kernel_rfl)) (fun _ _ _ h => h) (Or.inl ⟨by rfl, ?_⟩) ?_ ?_
                                                  rotate_left
                                                  · intro w'
                                                    go_simp
                                                    with_reducible rfl
                                                  rotate_left
                                                  · simp only [Act.put, List.setIfInBounds_toArray, List.set_cons_zero, List.set_cons_succ, i64_w, i32_w]
                                                    rfl
                                                  refine done_ (done_of HT_.out (by kernel_rfl)) ?_
                                                  try go_wp2
                                                  go_roundg k5
                                                  case measure => have := HJ3.out; have := HK2.out; have := HJ6.out; have := HK4.out; have := HK5.out; omega
                                                  case rel => exact ⟨(y161), (IntKind.u64.wrap ((IntKind.u64.wrap (x8_5 * 6364136223846793005)) + 1442695040888963407)), (y178), (by first | rfl | (simp; done) | (simp [*]; done)), H', ⟨by have := HJ3.out; have := HK2.out; have := HJ6.out; have := HK4.out; have := HK5.out; omega⟩, ⟨by (with_reducible repeat (first | apply Kd.R_alloc | apply Kd.R_drewN | apply Kd.R_drew)); exact HO163.out⟩, ⟨by (with_reducible repeat (first | apply Kd.R_alloc | apply Kd.R_drewN | apply Kd.R_drew)); exact Kd.R_mono HO180.out (fun _ hk => trivial)⟩, ⟨by repeat (first | (with_reducible first | exact HB.out | apply below_alloc | apply pw_below_drewN | apply below_drew1) | exact HB.out)⟩⟩
                                                · rw [if_neg c26] at H
                                                  exact absurd H (by simp)
                                              · rw [if_neg c25] at H
                                                exact absurd H (by simp)
                                            · rw [if_neg c24] at H
                                              exact absurd H (by simp)
                                          · rw [if_neg c22] at H
                                            exact absurd H (by simp)
                                        · rw [if_neg c21] at H
                                          exact absurd H (by simp)
                                      · rw [if_neg c19] at H
                                        exact absurd H (by simp)
                                    · rw [if_neg c18] at H
                                      have c18b0 : ((rd x10_5 (ji15)) == a0) = false := beq_eq_false_iff_ne.mpr c18
                                      have c18b1 : ((rd x10_5 (ji15)) != a0) = true := bne_iff_ne.mpr c18
                                      by_cases c36 : x7_5.length < 5864062014805
                                      · rw [if_pos c36] at H
                                        have LMc36 := Aside0.mk c36
                                        clear c36
                                        obtain ⟨y182, hy182⟩ : ∃ y_ : List (S34), y_ = (x7_5 ++ [(⟨1, rd x10_5 (ji15), (IntKind.u64.wrap ((IntKind.u64.wrap (x8_5 * 6364136223846793005)) + 1442695040888963407)) / 4294967296⟩ : S34)]) := ⟨_, rfl⟩
                                        replace H : ((some (([] : List Int) : List Int)).bind fun y185 => (if (ji15) ≤ (x10_5.length : Int) then ((some (x10_5.take ((ji15) : Int).toNat : List Int)).bind fun y188 => (if y185.length + y188.length < 17592186044416 then ((some (y185 ++ y188 : List Int)).bind fun y192 => (if 0 ≤ (wrap64 ((ji15) + 1)) then (if (wrap64 ((ji15) + 1)) ≤ (x10_5.length : Int) then ((some (x10_5.drop ((wrap64 ((ji15) + 1)) : Int).toNat : List Int)).bind fun y195 => (if y192.length + y195.length < 17592186044416 then (distaffref26_Rounds.l2 k5 a0 a1 y182 (IntKind.u64.wrap ((IntKind.u64.wrap (x8_5 * 6364136223846793005)) + 1442695040888963407)) x9_2 (y192 ++ y195)) else (none))) else (none)) else (none))) else (none))) else (none))) = some r := by first | (rw [hy182]; with_reducible exact H) | (have H2_ := (Option.bind_some _ _).symm.trans H; rw [hy182]; with_reducible exact H2_) | (have H2_ := (Option.bind_some _ _).symm.trans H; with_reducible exact H2_) | with_reducible exact H | (rw [hy182]; exact H) | exact H
                                        have Ny182 := Aside0.mk hy182
                                        clear hy182
                                        obtain ⟨y185, hy185⟩ : ∃ y_ : List Int, y_ = (([] : List Int)) := ⟨_, rfl⟩
                                        replace H : (if (ji15) ≤ (x10_5.length : Int) then ((some (x10_5.take ((ji15) : Int).toNat : List Int)).bind fun y188 => (if y185.length + y188.length < 17592186044416 then ((some (y185 ++ y188 : List Int)).bind fun y192 => (if 0 ≤ (wrap64 ((ji15) + 1)) then (if (wrap64 ((ji15) + 1)) ≤ (x10_5.length : Int) then ((some (x10_5.drop ((wrap64 ((ji15) + 1)) : Int).toNat : List Int)).bind fun y195 => (if y192.length + y195.length < 17592186044416 then (distaffref26_Rounds.l2 k5 a0 a1 y182 (IntKind.u64.wrap ((IntKind.u64.wrap (x8_5 * 6364136223846793005)) + 1442695040888963407)) x9_2 (y192 ++ y195)) else (none))) else (none)) else (none))) else (none))) else (none)) = some r := by first | (rw [hy185]; with_reducible exact H) | (have H2_ := (Option.bind_some _ _).symm.trans H; rw [hy185]; with_reducible exact H2_) | (have H2_ := (Option.bind_some _ _).symm.trans H; with_reducible exact H2_) | with_reducible exact H | (rw [hy185]; exact H) | exact H
                                        have Ny185 := Aside0.mk hy185
                                        clear hy185
                                        have c37b0 := eq_true (of_decide_eq_true (by first | (with_reducible assumption) | assumption) : 0 ≤ (ji15))
                                        by_cases c38 : (ji15) ≤ (x10_5.length : Int)
                                        · rw [if_pos c38] at H
                                          have c38b0 := eq_true c38
                                          have c38b1 : decide ((ji15) ≤ (x10_5.length : Int)) = true := decide_eq_true c38
                                          clear c38
                                          obtain ⟨y188, hy188⟩ : ∃ y_ : List Int, y_ = (x10_5.take ((ji15) : Int).toNat) := ⟨_, rfl⟩
                                          replace H : (if y185.length + y188.length < 17592186044416 then ((some (y185 ++ y188 : List Int)).bind fun y192 => (if 0 ≤ (wrap64 ((ji15) + 1)) then (if (wrap64 ((ji15) + 1)) ≤ (x10_5.length : Int) then ((some (x10_5.drop ((wrap64 ((ji15) + 1)) : Int).toNat : List Int)).bind fun y195 => (if y192.length + y195.length < 17592186044416 then (distaffref26_Rounds.l2 k5 a0 a1 y182 (IntKind.u64.wrap ((IntKind.u64.wrap (x8_5 * 6364136223846793005)) + 1442695040888963407)) x9_2 (y192 ++ y195)) else (none))) else (none)) else (none))) else (none)) = some r := by first | (rw [hy188]; with_reducible exact H) | (have H2_ := (Option.bind_some _ _).symm.trans H; rw [hy188]; with_reducible exact H2_) | (have H2_ := (Option.bind_some _ _).symm.trans H; with_reducible exact H2_) | with_reducible exact H | (rw [hy188]; exact H) | exact H
                                          have Ny188 := Aside0.mk hy188
                                          clear hy188
                                          by_cases c39 : y185.length + y188.length < 17592186044416
                                          · rw [if_pos c39] at H
                                            have LMc39 := Aside0.mk c39
                                            clear c39
                                            obtain ⟨y192, hy192⟩ : ∃ y_ : List Int, y_ = (y185 ++ y188) := ⟨_, rfl⟩
                                            replace H : (if 0 ≤ (wrap64 ((ji15) + 1)) then (if (wrap64 ((ji15) + 1)) ≤ (x10_5.length : Int) then ((some (x10_5.drop ((wrap64 ((ji15) + 1)) : Int).toNat : List Int)).bind fun y195 => (if y192.length + y195.length < 17592186044416 then (distaffref26_Rounds.l2 k5 a0 a1 y182 (IntKind.u64.wrap ((IntKind.u64.wrap (x8_5 * 6364136223846793005)) + 1442695040888963407)) x9_2 (y192 ++ y195)) else (none))) else (none)) else (none)) = some r := by first | (rw [hy192]; with_reducible exact H) | (have H2_ := (Option.bind_some _ _).symm.trans H; rw [hy192]; with_reducible exact H2_) | (have H2_ := (Option.bind_some _ _).symm.trans H; with_reducible exact H2_) | with_reducible exact H | (rw [hy192]; exact H) | exact H
                                            have Ny192 := Aside0.mk hy192
                                            clear hy192
                                            obtain ⟨ji40, hji40⟩ : ∃ j_ : Int, (wrap64 ((ji15) + 1)) = j_ := ⟨_, rfl⟩
                                            replace H : (if 0 ≤ (ji40) then (if (ji40) ≤ (x10_5.length : Int) then ((some (x10_5.drop ((ji40) : Int).toNat : List Int)).bind fun y195 => (if y192.length + y195.length < 17592186044416 then (distaffref26_Rounds.l2 k5 a0 a1 y182 (IntKind.u64.wrap ((IntKind.u64.wrap (x8_5 * 6364136223846793005)) + 1442695040888963407)) x9_2 (y192 ++ y195)) else (none))) else (none)) else (none)) = some r := by first | (rw [hji40] at H; exact H) | (simp only [hji40] at H ⊢; exact H)
                                            have hji40w : (IntKind.i64.wrap ((ji15) + 1)) = ji40 := (i64_w _).trans hji40
                                            by_cases c41 : 0 ≤ (ji40)
                                            · rw [if_pos c41] at H
                                              have c41b0 := eq_true c41
                                              have c41b1 : decide (0 ≤ (ji40)) = true := decide_eq_true c41
                                              clear c41
                                              by_cases c42 : (ji40) ≤ (x10_5.length : Int)
                                              · rw [if_pos c42] at H
                                                have c42b0 := eq_true c42
                                                have c42b1 : decide ((ji40) ≤ (x10_5.length : Int)) = true := decide_eq_true c42
                                                clear c42
                                                obtain ⟨y195, hy195⟩ : ∃ y_ : List Int, y_ = (x10_5.drop ((ji40) : Int).toNat) := ⟨_, rfl⟩
                                                replace H : (if y192.length + y195.length < 17592186044416 then (distaffref26_Rounds.l2 k5 a0 a1 y182 (IntKind.u64.wrap ((IntKind.u64.wrap (x8_5 * 6364136223846793005)) + 1442695040888963407)) x9_2 (y192 ++ y195)) else (none)) = some r := by first | (rw [hy195]; with_reducible exact H) | (have H2_ := (Option.bind_some _ _).symm.trans H; rw [hy195]; with_reducible exact H2_) | (have H2_ := (Option.bind_some _ _).symm.trans H; with_reducible exact H2_) | with_reducible exact H | (rw [hy195]; exact H) | exact H
                                                have Ny195 := Aside0.mk hy195
                                                clear hy195
                                                by_cases c43 : y192.length + y195.length < 17592186044416
                                                · rw [if_pos c43] at H
                                                  have LMc43 := Aside0.mk c43
                                                  clear c43
                                                  obtain ⟨y199, hy199⟩ : ∃ y_ : List Int, y_ = (y192 ++ y195) := ⟨_, rfl⟩
                                                  replace H : (distaffref26_Rounds.l2 k5 a0 a1 y182 (IntKind.u64.wrap ((IntKind.u64.wrap (x8_5 * 6364136223846793005)) + 1442695040888963407)) x9_2 y199) = some r := by first | (rw [hy199]; with_reducible exact H) | (have H2_ := (Option.bind_some _ _).symm.trans H; rw [hy199]; with_reducible exact H2_) | (have H2_ := (Option.bind_some _ _).symm.trans H; with_reducible exact H2_) | with_reducible exact H | (rw [hy199]; exact H) | exact H
                                                  have Ny199 := Aside0.mk hy199
                                                  clear hy199
                                                  have H' := Aside0.mk H
                                                  clear H
                                                  obtain ⟨Ao44, co44, eo44⟩ := Kd.R_slice HO_10.out
                                                  subst eo44
                                                  have p160 : 0 ≤ ((ji15) : Int) := of_decide_eq_true (by first | (with_reducible assumption) | assumption)
                                                  have q160 : (ji15) < (x10_5.length : Int) := of_decide_eq_true (by first | (with_reducible assumption) | assumption)
                                                  obtain ⟨ad160, e160, hx160_0⟩ := Kd.at_int (Kd.R_reads' HO_10.out).2.2 (ji15) p160 q160
                                                  cases e160
                                                  replace p160 := eq_true p160
                                                  replace q160 := eq_true q160
                                                  have p181 : 0 ≤ ((ji15) : Int) := of_decide_eq_true (by first | (with_reducible assumption) | assumption)
                                                  have q181 : (ji15) < (x10_5.length : Int) := of_decide_eq_true (by first | (with_reducible assumption) | assumption)
                                                  obtain ⟨ad181, e181, hx181_0⟩ := Kd.at_int (Kd.R_reads' HO_10.out).2.2 (ji15) p181 q181
                                                  obtain rfl : ad160 = ad181 := (by injection e181)
                                                  replace p181 := eq_true p181
                                                  replace q181 := eq_true q181
                                                  try go_wp2_with (first | ((with_reducible refine gate_builtin (b := .append) (xs := #[.tmp 61, .tmp 69]) rfl ?_); at_builtin; refine Kd.R_append k34 (w0 := w) w.heap.size rfl (.tmp 61) (.tmp 69) 22 34 (.agg #[(.int .i64 0), (.int .i64 0), (.int .u64 0)]) 24 rfl Try.underlying22 info34 rfl (by decide) (by omega) u7 x7_5 (⟨1, rd x10_5 (ji15), (IntKind.u64.wrap ((IntKind.u64.wrap (x8_5 * 6364136223846793005)) + 1442695040888963407)) / 4294967296⟩ : S34) [.int .i64 1, .int .i64 (rd x10_5 (ji15)), .int .u64 ((IntKind.u64.wrap ((IntKind.u64.wrap (x8_5 * 6364136223846793005)) + 1442695040888963407)) / 4294967296)] (fun _ => True) (fun _ => False) rfl rfl ?aP (fun _ hk => hk.elim) ?aF ?aO ?aB ?aS ?aL ?_; (case aP => exact k34_mkM _ _ _ (⟨1, rd x10_5 (ji15), (IntKind.u64.wrap ((IntKind.u64.wrap (x8_5 * 6364136223846793005)) + 1442695040888963407)) / 4294967296⟩ : S34)); (case aB => exact (by repeat (first | (with_reducible first | exact HB.out | apply below_alloc | apply pw_below_drewN | apply below_drew1) | exact HB.out))); (case aF => exact (fun _ _ => trivial)); (case aO => exact (by (with_reducible repeat (first | apply Kd.R_alloc | apply Kd.R_drewN | apply Kd.R_drew)); exact HO_7.out)); (case aS => exact (below_size (by repeat (first | (with_reducible first | exact HB.out | apply below_alloc | apply pw_below_drewN | apply below_drew1) | exact HB.out)))); (case aL => have := LMc36.out; omega); intro v183 w45 ho hb hg hat; rw [← Ny182.out] at ho; have n0_ := Aside0.mk (Kd.R_over' (by (with_reducible repeat (first | apply Kd.R_alloc | apply Kd.R_drewN | apply Kd.R_drew)); exact HO_10.out) (Kd.R_typed (by (with_reducible repeat (first | apply Kd.R_alloc | apply Kd.R_drewN | apply Kd.R_drew)); exact HO_7.out)) (by decide) hg); have n1_ := Aside0.mk (hb); have n2_ := Aside0.mk (ho); clear HO_10; clear HB; clear HO_7; have HO_10 := n0_; have HB := n1_; have HO184 := n2_; clear n0_ n1_ n2_; clear ho hb hg hat))
                                                  have n0_ := Aside0.mk (Kd.R_drew HO_10.out)
                                                  have n1_ := Aside0.mk (Kd.R_drew HO184.out)
                                                  have n2_ := Aside0.mk (below_drew1 HB.out)
                                                  clear HO_10
                                                  clear HO184
                                                  clear HB
                                                  have HO_10 := n0_
                                                  have HO184 := n1_
                                                  have HB := n2_
                                                  clear n0_ n1_ n2_
                                                  have q47 : ((ji15) : Int) ≤ ((x10_5.length : Int) : Int) := of_decide_eq_true (by first | (with_reducible assumption) | assumption)
                                                  obtain ⟨i047, hi047, _, hsz47, _⟩ := info_parts info3
                                                  have hroom47 : x10_5.length ≤ co44 := (Kd.R_reads' HO_10.out).2.1
                                                  have hC47 : Kd.C (Kd.int .i64) _ (some ad160) x10_5.length x10_5 := (Kd.R_reads' HO_10.out).2.2
                                                  have hcut47 := cut_to (P := Try.prog) 32 3 .i64 Try.underlying32 hi047 (some ad160) x10_5.length co44 (ji15) (of_decide_eq_true (by first | (with_reducible assumption) | assumption)) q47 hroom47
                                                  have hr47 := Kd.C_take (m := ((ji15) : Int).toNat) hC47 (by omega)
                                                  have hy47 : y188.length = ((ji15) : Int).toNat := (by rw [Ny188.out, List.length_take]; omega)
                                                  rw [← Ny188.out] at hr47
                                                  rw [← hy47] at hcut47
                                                  have HR191 := Aside0.mk hr47
                                                  have HC191 := Aside0.mk (show y188.length ≤ co44 from by omega)
                                                  clear hr47 hC47 hroom47 hi047 hsz47
                                                  have KY47 := Aside0.mk hy47
                                                  clear hy47
                                                  have KL47 := Aside0.mk (show ((ji15) : Int).toNat ≤ x10_5.length from by omega)
                                                  replace q47 := eq_true q47
                                                  have q48 : ((ji40) : Int) ≤ ((x10_5.length : Int) : Int) := of_decide_eq_true (by first | (with_reducible assumption) | assumption)
                                                  obtain ⟨i048, hi048, _, hsz48, _⟩ := info_parts info3
                                                  have hroom48 : x10_5.length ≤ co44 := (Kd.R_reads' HO_10.out).2.1
                                                  have hC48 : Kd.C (Kd.int .i64) _ (some ad160) x10_5.length x10_5 := (Kd.R_reads' HO_10.out).2.2
                                                  have q048 : (0 : Int) ≤ ((ji40) : Int) := of_decide_eq_true (by first | (with_reducible assumption) | assumption)
                                                  have hcut48 := cut_from (P := Try.prog) 32 3 .i64 Try.underlying32 hi048 1 hsz48 (some ad160) x10_5.length co44 (ji40) q048 q48
                                                  have hr48 := Kd.C_drop (m := ((ji40) : Int).toNat) (c := co44) hC48 (by omega) hroom48
                                                  obtain ⟨A48, hA48⟩ : ∃ A1, A1 = (if co44 = ((ji40) : Int).toNat then (some ad160) else ((some ad160) : Option Addr).map (·.add (((ji40) : Int).toNat * 1))) := ⟨_, rfl⟩
                                                  obtain ⟨c48, hc48⟩ : ∃ c1, c1 = co44 - ((ji40) : Int).toNat := ⟨_, rfl⟩
                                                  have hy48 : y195.length = x10_5.length - ((ji40) : Int).toNat := (by rw [Ny195.out, List.length_drop] <;> omega)
                                                  rw [show (x10_5).drop ((ji40) : Int).toNat = y195 from Ny195.out.symm] at hr48
                                                  replace hr48 : Kd.C (Kd.int .i64) _ A48 y195.length y195 := (by rw [hA48]; exact hr48)
                                                  rw [← hy48, ← hA48, ← hc48] at hcut48
                                                  have HR198 := Aside0.mk hr48
                                                  have HC198 := Aside0.mk (show y195.length ≤ c48 from by rw [hy48, hc48]; exact Nat.sub_le_sub_right hroom48 _)
                                                  clear hr48 hC48 hroom48 hi048 hsz48 hc48
                                                  have KY48 := Aside0.mk hy48
                                                  have KA48 := Aside0.mk hA48
                                                  clear hy48 hA48
                                                  have KL48 := Aside0.mk (show ((ji40) : Int).toNat ≤ x10_5.length from by omega)
                                                  replace q48 := eq_true q48
                                                  refine start_ (n := 11) (S := fun w' => True) (ds := []) #[false, false, false, false, false, false, false, false, false, false, false] (by kernel_rfl) rfl rfl trivial (fun hHeld => ?_); refine with_tabW distaffref26_Rounds.tab19 distaffref26_Rounds.bits19 (fun HT_ HW_ => ?_)
                                                  generalize w45.drew = w46 at HO_10 HO184 HB HR191 HR198 hHeld ⊢
                                                  refine pure_ (i := 1) (N := some 72) (v := ?_) (a' := ?_) #[false, true, false, false, false, false, false, false, false, false, false] rfl rfl (any_of HT_.out (by kernel_rfl)) (fun _ _ _ h => h) (Or.inl ⟨by rfl, ?_⟩) ?_ ?_
                                                  rotate_left
                                                  · intro w'
                                                    go_simp
                                                    with_reducible rfl
                                                  rotate_left
                                                  · simp only [Act.put, List.setIfInBounds_toArray, List.set_cons_zero, List.set_cons_succ, i64_w, i32_w]
                                                    rfl
                                                  refine pure_ (i := 2) (N := some 73) (v := ?_) (a' := ?_) #[false, true, true, false, false, false, false, false, false, false, false] rfl rfl (any_of HT_.out (by kernel_rfl)) (fun _ _ _ h => h) (Or.inl ⟨by rfl, ?_⟩) ?_ ?_
                                                  rotate_left
                                                  · intro w'
                                                    go_simp
                                                    with_reducible rfl
                                                  rotate_left
                                                  · simp only [Act.put, List.setIfInBounds_toArray, List.set_cons_zero, List.set_cons_succ, i64_w, i32_w]
                                                    rfl
                                                  refine pure_ (i := 3) (N := some 74) (v := ?_) (a' := ?_) #[false, true, true, true, false, false, false, false, false, false, false] rfl rfl (any_of HT_.out (by kernel_rfl)) (fun _ _ _ h => h) (Or.inl ⟨by rfl, ?_⟩) ?_ ?_
                                                  rotate_left
                                                  · intro w'
                                                    go_simp
                                                    with_reducible rfl
                                                  rotate_left
                                                  · simp only [Act.put, List.setIfInBounds_toArray, List.set_cons_zero, List.set_cons_succ, i64_w, i32_w]
                                                    rfl
                                                  refine pure_ (i := 5) (N := some 76) (v := ?_) (a' := ?_) #[false, true, true, true, false, true, false, false, false, false, false] rfl rfl (any_of HT_.out (by kernel_rfl)) (fun _ _ _ h => h) (Or.inl ⟨by rfl, ?_⟩) ?_ ?_
                                                  rotate_left
                                                  · intro w'
                                                    go_simp
                                                    with_reducible rfl
                                                  rotate_left
                                                  · simp only [Act.put, List.setIfInBounds_toArray, List.set_cons_zero, List.set_cons_succ, i64_w, i32_w]
                                                    rfl
                                                  refine pure_ (i := 6) (N := some 77) (v := ?_) (a' := ?_) #[false, true, true, true, false, true, true, false, false, false, false] rfl rfl (any_of HT_.out (by kernel_rfl)) (fun _ _ _ h => h) (Or.inl ⟨by rfl, ?_⟩) ?_ ?_
                                                  rotate_left
                                                  · intro w'
                                                    go_simp
                                                    with_reducible rfl
                                                  rotate_left
                                                  · simp only [Act.put, List.setIfInBounds_toArray, List.set_cons_zero, List.set_cons_succ, i64_w, i32_w]
                                                    rfl
                                                  refine pure_ (i := 7) (N := some 78) (v := ?_) (a' := ?_) #[false, true, true, true, false, true, true, true, false, false, false] rfl rfl (any_of HT_.out (by kernel_rfl)) (fun _ _ _ h => h) (Or.inl ⟨by rfl, ?_⟩) ?_ ?_
                                                  rotate_left
                                                  · intro w'
                                                    go_simp
                                                    with_reducible rfl
                                                  rotate_left
                                                  · simp only [Act.put, List.setIfInBounds_toArray, List.set_cons_zero, List.set_cons_succ, i64_w, i32_w]
                                                    rfl
                                                  refine pure_ (i := 8) (N := some 79) (v := ?_) (a' := ?_) #[false, true, true, true, false, true, true, true, true, false, false] rfl rfl (any_of HT_.out (by kernel_rfl)) (fun _ _ _ h => h) (Or.inl ⟨by rfl, ?_⟩) ?_ ?_
                                                  rotate_left
                                                  · intro w'
                                                    go_simp
                                                    with_reducible rfl
                                                  rotate_left
                                                  · simp only [Act.put, List.setIfInBounds_toArray, List.set_cons_zero, List.set_cons_succ, i64_w, i32_w]
                                                    rfl
                                                  refine one_ (i := 0) (N := some 71) #[true, true, true, true, false, true, true, true, true, false, false] rfl rfl (one_of HT_.out (by kernel_rfl)) (by decide) (fun K hK => ?_)
                                                  refine Kd.R_lit_step (Kd.int .i64) _ 3 ?hg (N := 71) ?hd (xs := ([] : List Int)) (inner := []) (ok := fun _ => True) (okp := fun _ => True) ?hr ?hp (fun _ hk => hk) trivial (Below.refl _ _) (Nat.le_refl _) (by simp) ?_; (case hd => rfl); (case hg => rfl); (case hr => first | (go_simp; done) | (go_simp; rfl)); (case hp => exact (Reps.none _ _))
                                                  intro v186 w49 ho50 hb hg_ hnew_
                                                  clear hg_ hnew_
                                                  (first | rw [← Ny185.out] at ho50 | (simp only [Int.reduceToNat] at ho50; rw [← Ny185.out] at ho50))
                                                  have n0_ := Aside0.mk (Kd.R_elder' (by (with_reducible repeat (first | apply Kd.R_alloc | apply Kd.R_drewN | apply Kd.R_drew)); exact HO_10.out) (Kd.R_base ho50) hb)
                                                  have n1_ := Aside0.mk (Kd.R_below (by (with_reducible repeat (first | apply Kd.R_alloc | apply Kd.R_drewN | apply Kd.R_drew)); exact HO184.out) hb)
                                                  have n2_ := Aside0.mk (Kd.R_lower (Kd.R_new' ho50 (Kd.R_lt (by (with_reducible repeat (first | apply Kd.R_alloc | apply Kd.R_drewN | apply Kd.R_drew)); exact HO_10.out))) (below_size (by repeat (first | (with_reducible first | exact HB.out | apply below_alloc | apply pw_below_drewN | apply below_drew1) | exact HB.out))))
                                                  have n3_ := Aside0.mk (Kd.C_below (by repeat (first | (with_reducible exact HR191.out) | (with_reducible refine Kd.C_alloc ?_ _) | (with_reducible refine Kd.C_drewN ?_ _) | (with_reducible refine Kd.C_drew ?_) | exact HR191.out)) hb)
                                                  have n4_ := Aside0.mk (Kd.C_below (by repeat (first | (with_reducible exact HR198.out) | (with_reducible refine Kd.C_alloc ?_ _) | (with_reducible refine Kd.C_drewN ?_ _) | (with_reducible refine Kd.C_drew ?_) | exact HR198.out)) hb)
                                                  have n5_ := Aside0.mk (below_step (by repeat (first | (with_reducible first | exact HB.out | apply below_alloc | apply pw_below_drewN | apply below_drew1) | exact HB.out)) hb)
                                                  clear HO_10
                                                  clear HO184
                                                  clear HR191
                                                  clear HR198
                                                  clear HB
                                                  have HO_10 := n0_
                                                  have HO184 := n1_
                                                  have HO187 := n2_
                                                  have HR191 := n3_
                                                  have HR198 := n4_
                                                  have HB := n5_
                                                  clear n0_ n1_ n2_ n3_ n4_ n5_
                                                  clear hb ho50
                                                  refine hK.out _ _ trivial (fun hHeld => ?_)
                                                  clear hK K
                                                  refine norm_ (a' := ?_) ?_ ?_
                                                  rotate_left
                                                  · show Act.put _ (some 71) _ = _
                                                    simp only [Act.put, List.setIfInBounds_toArray, List.set_cons_zero, List.set_cons_succ, i64_w, i32_w]
                                                    rfl
                                                  refine one_ (i := 4) (N := some 75) #[true, true, true, true, true, true, true, true, true, false, false] rfl rfl (one_of HT_.out (by kernel_rfl)) (by decide) (fun K hK => ?_)
                                                  refine Kd.R_append_rows_step (Kd.int .i64) (w0 := w) w.heap.size (by rfl) (.tmp 71) (.tmp 74) 32 3 (.int .i64 0) 8 rfl Try.underlying32 info3 rfl (by decide) (by omega) v186 y185 y188 _ _ _ (fun k_ => some k_ ≠ (.slice (some ad160) x10_5.length co44 : Value).ownBlock) (fun _ => False) rfl rfl ?aO ?aR (fun _ _ h => h) (fun _ h => h.elim) ?aF ?aB ?aS ?aL ?_
                                                  (case aR => repeat (first | exact (by repeat (first | (with_reducible exact HR191.out) | (with_reducible refine Kd.C_alloc ?_ _) | (with_reducible refine Kd.C_drewN ?_ _) | (with_reducible refine Kd.C_drew ?_) | exact HR191.out)) | (with_reducible refine Kd.C_alloc ?_ _) | (with_reducible refine Kd.C_drewN ?_ _) | (with_reducible refine Kd.C_drew ?_)))
                                                  (case aB => exact (by repeat (first | (with_reducible first | exact HB.out | apply below_alloc | apply pw_below_drewN | apply below_drew1) | exact HB.out)))
                                                  (case aF => exact (fun k_ hk => Kd.fresh' (Kd.R_lt (by (with_reducible repeat (first | apply Kd.R_alloc | apply Kd.R_drewN | apply Kd.R_drew)); exact HO_10.out)) k_ hk))
                                                  (case aO => exact (by (with_reducible repeat (first | apply Kd.R_alloc | apply Kd.R_drewN | apply Kd.R_drew)); exact Kd.R_mono HO187.out (fun _ hk => hk.2)))
                                                  (case aS => exact (below_size (by repeat (first | (with_reducible first | exact HB.out | apply below_alloc | apply pw_below_drewN | apply below_drew1) | exact HB.out))))
                                                  (case aL => have := LMc39.out; omega)
                                                  intro v193 w51 ho hb hg hat
                                                  rw [← Ny192.out] at ho
                                                  have n0_ := Aside0.mk (Kd.R_after (ok := (fun _ => True)) (by (with_reducible repeat (first | apply Kd.R_alloc | apply Kd.R_drewN | apply Kd.R_drew)); exact HO_10.out) hg hat)
                                                  have n1_ := Aside0.mk (Kd.R_over' (by (with_reducible repeat (first | apply Kd.R_alloc | apply Kd.R_drewN | apply Kd.R_drew)); exact HO184.out) (Kd.R_typed (by (with_reducible repeat (first | apply Kd.R_alloc | apply Kd.R_drewN | apply Kd.R_drew)); exact HO187.out)) (by decide) hg)
                                                  have n2_ := Aside0.mk (hb)
                                                  have n3_ := Aside0.mk ((show Kd.C (Kd.int .i64) w51 (some ad160) y188.length y188 from by rw [Ny188.out]; exact Kd.C_take (m := ((ji15) : Int).toNat) ((Kd.R_reads' (Kd.R_after (ok := (fun _ => True)) (by (with_reducible repeat (first | apply Kd.R_alloc | apply Kd.R_drewN | apply Kd.R_drew)); exact HO_10.out) hg hat)).2.2) KL47.out))
                                                  have n4_ := Aside0.mk ((show Kd.C (Kd.int .i64) w51 A48 y195.length y195 from by rw [Ny195.out, KA48.out]; exact Kd.C_drop (m := ((ji40) : Int).toNat) (c := co44) ((Kd.R_reads' (Kd.R_after (ok := (fun _ => True)) (by (with_reducible repeat (first | apply Kd.R_alloc | apply Kd.R_drewN | apply Kd.R_drew)); exact HO_10.out) hg hat)).2.2) KL48.out ((Kd.R_reads' (Kd.R_after (ok := (fun _ => True)) (by (with_reducible repeat (first | apply Kd.R_alloc | apply Kd.R_drewN | apply Kd.R_drew)); exact HO_10.out) hg hat)).2.1)))
                                                  have n5_ := Aside0.mk (ho)
                                                  clear HO_10
                                                  clear HO184
                                                  clear HB
                                                  clear HR191
                                                  clear HR198
                                                  clear HO187
                                                  have HO_10 := n0_
                                                  have HO184 := n1_
                                                  have HB := n2_
                                                  have HR191 := n3_
                                                  have HR198 := n4_
                                                  have HO194 := n5_
                                                  clear n0_ n1_ n2_ n3_ n4_ n5_
                                                  clear ho hb hg hat
                                                  refine hK.out _ _ trivial (fun hHeld => ?_)
                                                  clear hK K
                                                  refine norm_ (a' := ?_) ?_ ?_
                                                  rotate_left
                                                  · show Act.put _ (some 75) _ = _
                                                    simp only [Act.put, List.setIfInBounds_toArray, List.set_cons_zero, List.set_cons_succ, i64_w, i32_w]
                                                    rfl
                                                  refine one_ (i := 9) (N := some 80) #[true, true, true, true, true, true, true, true, true, true, false] rfl rfl (one_of HT_.out (by kernel_rfl)) (by decide) (fun K hK => ?_)
                                                  refine Kd.R_append_rows_step (Kd.int .i64) (w0 := w) w.heap.size (by rfl) (.tmp 75) (.tmp 79) 32 3 (.int .i64 0) 8 rfl Try.underlying32 info3 rfl (by decide) (by omega) v193 y192 y195 _ _ _ (fun k_ => some k_ ≠ (.slice (some ad160) x10_5.length co44 : Value).ownBlock) (fun _ => False) rfl rfl ?aO ?aR (fun _ _ h => h) (fun _ h => h.elim) ?aF ?aB ?aS ?aL ?_
                                                  (case aR => repeat (first | exact (by repeat (first | (with_reducible exact HR198.out) | (with_reducible refine Kd.C_alloc ?_ _) | (with_reducible refine Kd.C_drewN ?_ _) | (with_reducible refine Kd.C_drew ?_) | exact HR198.out)) | (with_reducible refine Kd.C_alloc ?_ _) | (with_reducible refine Kd.C_drewN ?_ _) | (with_reducible refine Kd.C_drew ?_)))
                                                  (case aB => exact (by repeat (first | (with_reducible first | exact HB.out | apply below_alloc | apply pw_below_drewN | apply below_drew1) | exact HB.out)))
                                                  (case aF => exact (fun k_ hk => Kd.fresh' (Kd.R_lt (by (with_reducible repeat (first | apply Kd.R_alloc | apply Kd.R_drewN | apply Kd.R_drew)); exact HO_10.out)) k_ hk))
                                                  (case aO => exact (by (with_reducible repeat (first | apply Kd.R_alloc | apply Kd.R_drewN | apply Kd.R_drew)); exact HO194.out))
                                                  (case aS => exact (below_size (by repeat (first | (with_reducible first | exact HB.out | apply below_alloc | apply pw_below_drewN | apply below_drew1) | exact HB.out))))
                                                  (case aL => have := LMc43.out; omega)
                                                  intro v200 w52 ho hb hg hat
                                                  rw [← Ny199.out] at ho
                                                  have n0_ := Aside0.mk (Kd.R_after (ok := (fun _ => True)) (by (with_reducible repeat (first | apply Kd.R_alloc | apply Kd.R_drewN | apply Kd.R_drew)); exact HO_10.out) hg hat)
                                                  have n1_ := Aside0.mk (Kd.R_over' (by (with_reducible repeat (first | apply Kd.R_alloc | apply Kd.R_drewN | apply Kd.R_drew)); exact HO184.out) (Kd.R_typed (by (with_reducible repeat (first | apply Kd.R_alloc | apply Kd.R_drewN | apply Kd.R_drew)); exact HO194.out)) (by decide) hg)
                                                  have n2_ := Aside0.mk (hb)
                                                  have n3_ := Aside0.mk ((show Kd.C (Kd.int .i64) w52 (some ad160) y188.length y188 from by rw [Ny188.out]; exact Kd.C_take (m := ((ji15) : Int).toNat) ((Kd.R_reads' (Kd.R_after (ok := (fun _ => True)) (by (with_reducible repeat (first | apply Kd.R_alloc | apply Kd.R_drewN | apply Kd.R_drew)); exact HO_10.out) hg hat)).2.2) KL47.out))
                                                  have n4_ := Aside0.mk ((show Kd.C (Kd.int .i64) w52 A48 y195.length y195 from by rw [Ny195.out, KA48.out]; exact Kd.C_drop (m := ((ji40) : Int).toNat) (c := co44) ((Kd.R_reads' (Kd.R_after (ok := (fun _ => True)) (by (with_reducible repeat (first | apply Kd.R_alloc | apply Kd.R_drewN | apply Kd.R_drew)); exact HO_10.out) hg hat)).2.2) KL48.out ((Kd.R_reads' (Kd.R_after (ok := (fun _ => True)) (by (with_reducible repeat (first | apply Kd.R_alloc | apply Kd.R_drewN | apply Kd.R_drew)); exact HO_10.out) hg hat)).2.1)))
                                                  have n5_ := Aside0.mk (ho)
                                                  clear HO_10
                                                  clear HO184
                                                  clear HB
                                                  clear HR191
                                                  clear HR198
                                                  clear HO194
                                                  have HO_10 := n0_
                                                  have HO184 := n1_
                                                  have HB := n2_
                                                  have HR191 := n3_
                                                  have HR198 := n4_
                                                  have HO201 := n5_
                                                  clear n0_ n1_ n2_ n3_ n4_ n5_
                                                  clear ho hb hg hat
                                                  refine hK.out _ _ trivial (fun hHeld => ?_)
                                                  clear hK K
                                                  refine norm_ (a' := ?_) ?_ ?_
                                                  rotate_left
                                                  · show Act.put _ (some 80) _ = _
                                                    simp only [Act.put, List.setIfInBounds_toArray, List.set_cons_zero, List.set_cons_succ, i64_w, i32_w]
                                                    rfl
                                                  refine pure_ (i := 10) (N := some 10) (v := ?_) (a' := ?_) #[true, true, true, true, true, true, true, true, true, true, true] rfl rfl (any_of HT_.out (by kernel_rfl)) (fun _ _ _ h => h) (Or.inl ⟨by rfl, ?_⟩) ?_ ?_
                                                  rotate_left
                                                  · intro w'
                                                    go_simp
                                                    with_reducible rfl
                                                  rotate_left
                                                  · simp only [Act.put, List.setIfInBounds_toArray, List.set_cons_zero, List.set_cons_succ, i64_w, i32_w]
                                                    rfl
                                                  refine done_ (done_of HT_.out (by kernel_rfl)) ?_
                                                  try go_wp2
                                                  go_roundg k5
                                                  case measure => have := HJ3.out; have := HK2.out; have := HJ6.out; have := HK4.out; have := HK5.out; omega
                                                  case rel => exact ⟨(y182), (IntKind.u64.wrap ((IntKind.u64.wrap (x8_5 * 6364136223846793005)) + 1442695040888963407)), (y199), (by first | rfl | (simp; done) | (simp [*]; done)), H', ⟨by have := HJ3.out; have := HK2.out; have := HJ6.out; have := HK4.out; have := HK5.out; omega⟩, ⟨by (with_reducible repeat (first | apply Kd.R_alloc | apply Kd.R_drewN | apply Kd.R_drew)); exact HO184.out⟩, ⟨by (with_reducible repeat (first | apply Kd.R_alloc | apply Kd.R_drewN | apply Kd.R_drew)); exact Kd.R_mono HO201.out (fun _ hk => trivial)⟩, ⟨by repeat (first | (with_reducible first | exact HB.out | apply below_alloc | apply pw_below_drewN | apply below_drew1) | exact HB.out)⟩⟩
                                                · rw [if_neg c43] at H
                                                  exact absurd H (by simp)
                                              · rw [if_neg c42] at H
                                                exact absurd H (by simp)
                                            · rw [if_neg c41] at H
                                              exact absurd H (by simp)
                                          · rw [if_neg c39] at H
                                            exact absurd H (by simp)
                                        · rw [if_neg c38] at H
                                          exact absurd H (by simp)
                                      · rw [if_neg c36] at H
                                        exact absurd H (by simp)
                                  · rw [if_neg c17] at H
                                    exact absurd H (by simp)
                                · rw [if_neg c16] at H
                                  exact absurd H (by simp)
                            · rw [if_neg c13] at H
                              have c13b0 : decide (0 < (x10_5.length : Int)) = false := decide_eq_false c13
                              have c13b1 : decide (0 < x10_5.length) = false := decide_eq_false (by omega)
                              clear c13
                              have H' := Aside0.mk H
                              clear H
                              obtain ⟨Ao53, co53, eo53⟩ := Kd.R_slice HO_10.out
                              subst eo53
                              go_wp2
                              go_roundg k5
                              case measure => have := HJ3.out; have := HK2.out; have := HJ6.out; have := HK4.out; have := HK5.out; omega
                              case rel => exact ⟨(x7_5), (x8_5), (wrap64 (x9_2 + 1)), (by first | rfl | (simp; done) | (simp [*]; done)), (by first | rfl | (simp; done) | (simp [*]; done)), H', ⟨by have := HJ3.out; have := HK2.out; have := HJ6.out; have := HK4.out; have := HK5.out; omega⟩, ⟨by (with_reducible repeat (first | apply Kd.R_alloc | apply Kd.R_drewN | apply Kd.R_drew)); exact HO_7.out⟩, ⟨by repeat (first | (with_reducible first | exact HB.out | apply below_alloc | apply pw_below_drewN | apply below_drew1) | exact HB.out)⟩⟩
                · replace c9 := Bool.eq_false_iff.mpr c9
                  subst c9
                  have H1 : (some x7_2) = some r := by rw [if_neg (show ¬ (false = true) by decide)] at H; exact H
                  clear H
                  have H := H1
                  clear H1
                  obtain rfl := Option.some.inj H
                  go_wp2
                  go_ret
                  exact ⟨_, by first | rfl | (simp [errW_none, errW_some] <;> rfl) | (simp [*, errW_none, errW_some] <;> rfl), by (with_reducible repeat (first | apply Kd.R_alloc | apply Kd.R_drewN | apply Kd.R_drew)); exact HO_7.out, by repeat (first | (with_reducible first | exact HB.out | apply below_alloc | apply pw_below_drewN | apply below_drew1) | exact HB.out)⟩

end Go.Proofs.Ytjninhbdcllofaa.Fa
