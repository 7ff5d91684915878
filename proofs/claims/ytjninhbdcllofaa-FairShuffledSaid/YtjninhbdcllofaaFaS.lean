import Derived.Test.YtjninhbdcllofaaFa0
import Derived.Test.YtjninhbdcllofaaFa1
import Derived.Test.YtjninhbdcllofaaFa3
import Derived.Test.YtjninhbdcllofaaFa8
namespace Go.Proofs.Ytjninhbdcllofaa.Fa
open Go.RowKit Go.Proofs.YtjninhbdcllofaaW.PrintWords Go.Proofs.YtjninhbdcllofaaW.PrintLast Go.Proofs.YtjninhbdcllofaaW.PrintMore
attribute [local go_sem] max2_int min2_int max_two min_two max_three min_three max_four min_four   -- for this text's walks alone
set_option linter.unusedVariables false
set_option linter.unusedSimpArgs false

/-! ### distafflaw27_FairShuffled: function 6 -/
mutual
def distafflaw27_FairShuffled.l0 : Nat → List Int → Int → List (S34) → Int → Option (Bool)
  | 0, _, _, _, _ => none
  | k + 1, x1, x5, x6, x7 => if x7 < (x1.length : Int) then (distafflaw27_FairShuffled.j1 k x1 x5 x6 x7 (decide (x7 < 40))) else (distafflaw27_FairShuffled.j1 k x1 x5 x6 x7 false)
def distafflaw27_FairShuffled.j1 : Nat → List Int → Int → List (S34) → Int → Bool → Option (Bool)
  | 0, _, _, _, _, _ => none
  | k + 1, x1, x5, x6, x7, x23 => if x23 = true then (distafflaw27_FairShuffled.l1 k x1 x5 x6 x7 ([] : List Int) 0) else ((fair_Fair.f k x5 x6 (wrap64 ((wrap64 (2 * x5)) + 1))).bind fun t156 => (if t156 = true then (if (x6.length : Int) = 0 then ((distafflaw27_awake.f k).bind fun t157 => (some t157)) else ((fair_Fair.f k x5 x6 x5).bind fun t158 => (if t158 = true then (some false) else ((distafflaw27_awake.f k).bind fun t159 => (some t159))))) else (some false)))
def distafflaw27_FairShuffled.l1 : Nat → List Int → Int → List (S34) → Int → List Int → Int → Option (Bool)
  | 0, _, _, _, _, _, _ => none
  | k + 1, x1, x5, x6, x7, x8, x9 => if x9 ≤ x5 then (if x8.length < 17592186044416 then (distafflaw27_FairShuffled.l1 k x1 x5 x6 x7 (x8 ++ [x9]) (wrap64 (x9 + 1))) else (none)) else (if 0 ≤ x7 then (if x7 < (x1.length : Int) then (distafflaw27_FairShuffled.l2 k x1 x5 x6 x7 x8 (rd x1 x7)) else (none)) else (none))
def distafflaw27_FairShuffled.l2 : Nat → List Int → Int → List (S34) → Int → List Int → Int → Option (Bool)
  | 0, _, _, _, _, _, _ => none
  | k + 1, x1, x5, x6, x7, x8, x10 => if (x8.length : Int) > 0 then (if (IntKind.u64.wrap ((x8.length : Int))) = 0 then (none) else (if 0 ≤ (wrap64 (Int.tmod x10 (IntKind.u64.wrap ((x8.length : Int))))) then (if (wrap64 (Int.tmod x10 (IntKind.u64.wrap ((x8.length : Int))))) < (x8.length : Int) then (if (rd x8 (wrap64 (Int.tmod x10 (IntKind.u64.wrap ((x8.length : Int)))))) = x5 then (if x6.length < 5864062014805 then (if (wrap64 (Int.tmod x10 (IntKind.u64.wrap ((x8.length : Int))))) ≤ (x8.length : Int) then ((some (x8.take ((wrap64 (Int.tmod x10 (IntKind.u64.wrap ((x8.length : Int))))) : Int).toNat : List Int)).bind fun y170 => (if ([] : List Int).length + y170.length < 17592186044416 then ((some (([] : List Int) ++ y170 : List Int)).bind fun y174 => (if 0 ≤ (wrap64 ((wrap64 (Int.tmod x10 (IntKind.u64.wrap ((x8.length : Int))))) + 1)) then (if (wrap64 ((wrap64 (Int.tmod x10 (IntKind.u64.wrap ((x8.length : Int))))) + 1)) ≤ (x8.length : Int) then ((some (x8.drop ((wrap64 ((wrap64 (Int.tmod x10 (IntKind.u64.wrap ((x8.length : Int))))) + 1)) : Int).toNat : List Int)).bind fun y177 => (if y174.length + y177.length < 17592186044416 then (distafflaw27_FairShuffled.l2 k x1 x5 (x6 ++ [(⟨2, 0, 0⟩ : S34)]) x7 (y174 ++ y177) (IntKind.u64.wrap (Int.tdiv x10 (IntKind.u64.wrap ((x8.length : Int)))))) else (none))) else (none)) else (none))) else (none))) else (none)) else (none)) else (if x6.length < 5864062014805 then (if (wrap64 (Int.tmod x10 (IntKind.u64.wrap ((x8.length : Int))))) ≤ (x8.length : Int) then ((some (x8.take ((wrap64 (Int.tmod x10 (IntKind.u64.wrap ((x8.length : Int))))) : Int).toNat : List Int)).bind fun y187 => (if ([] : List Int).length + y187.length < 17592186044416 then ((some (([] : List Int) ++ y187 : List Int)).bind fun y191 => (if 0 ≤ (wrap64 ((wrap64 (Int.tmod x10 (IntKind.u64.wrap ((x8.length : Int))))) + 1)) then (if (wrap64 ((wrap64 (Int.tmod x10 (IntKind.u64.wrap ((x8.length : Int))))) + 1)) ≤ (x8.length : Int) then ((some (x8.drop ((wrap64 ((wrap64 (Int.tmod x10 (IntKind.u64.wrap ((x8.length : Int))))) + 1)) : Int).toNat : List Int)).bind fun y194 => (if y191.length + y194.length < 17592186044416 then (distafflaw27_FairShuffled.l2 k x1 x5 (x6 ++ [(⟨1, rd x8 (wrap64 (Int.tmod x10 (IntKind.u64.wrap ((x8.length : Int))))), 0⟩ : S34)]) x7 (y191 ++ y194) (IntKind.u64.wrap (Int.tdiv x10 (IntKind.u64.wrap ((x8.length : Int)))))) else (none))) else (none)) else (none))) else (none))) else (none)) else (none))) else (none)) else (none))) else (distafflaw27_FairShuffled.l0 k x1 x5 x6 (wrap64 (x7 + 1)))
end
def distafflaw27_FairShuffled.f (k : Nat) (a0 : Int) (l1 : List Int) : Option (Bool) := (distaffkeep_Within.f a0 6).bind fun t155 => (distafflaw27_FairShuffled.l0 k l1 (wrap64 (1 + t155)) ([] : List (S34)) 0)
theorem distafflaw27_FairShuffled.mono_l : ∀ k, (∀ y0 y1 y2 y3, LeO (distafflaw27_FairShuffled.l0 k y0 y1 y2 y3) (distafflaw27_FairShuffled.l0 (k + 1) y0 y1 y2 y3)) ∧ (∀ y0 y1 y2 y3 y4, LeO (distafflaw27_FairShuffled.j1 k y0 y1 y2 y3 y4) (distafflaw27_FairShuffled.j1 (k + 1) y0 y1 y2 y3 y4)) ∧ (∀ y0 y1 y2 y3 y4 y5, LeO (distafflaw27_FairShuffled.l1 k y0 y1 y2 y3 y4 y5) (distafflaw27_FairShuffled.l1 (k + 1) y0 y1 y2 y3 y4 y5)) ∧ (∀ y0 y1 y2 y3 y4 y5, LeO (distafflaw27_FairShuffled.l2 k y0 y1 y2 y3 y4 y5) (distafflaw27_FairShuffled.l2 (k + 1) y0 y1 y2 y3 y4 y5))
  | 0 => ⟨fun _ _ _ _ r h => by simp [distafflaw27_FairShuffled.l0] at h, fun _ _ _ _ _ r h => by simp [distafflaw27_FairShuffled.j1] at h, fun _ _ _ _ _ _ r h => by simp [distafflaw27_FairShuffled.l1] at h, fun _ _ _ _ _ _ r h => by simp [distafflaw27_FairShuffled.l2] at h⟩
  | k + 1 => by
    obtain ⟨ih0, ih1, ih2, ih3⟩ := distafflaw27_FairShuffled.mono_l k
    refine ⟨?_, ?_, ?_, ?_⟩
    · intro y0 y1 y2 y3
      unfold distafflaw27_FairShuffled.l0
      repeat' first
      | (with_reducible exact ih0 _ _ _ _)
      | (with_reducible exact ih1 _ _ _ _ _)
      | (with_reducible exact ih2 _ _ _ _ _ _)
      | (with_reducible exact ih3 _ _ _ _ _ _)
      | (with_reducible exact distafflaw27_awake.mono _)
      | (with_reducible exact fair_Fair.mono _ _ _ _)
      | (with_reducible exact LeO.refl _)
      | (with_reducible exact LeO.none _)
      | (with_reducible refine LeO.ite ?_ ?_)
      | (with_reducible refine LeO.bind ?_ (fun _ => ?_))
      | exact ih0 _ _ _ _
      | exact ih1 _ _ _ _ _
      | exact ih2 _ _ _ _ _ _
      | exact ih3 _ _ _ _ _ _
      | exact distafflaw27_awake.mono _
      | exact fair_Fair.mono _ _ _ _
      | exact LeO.none _
      | refine LeO.ite ?_ ?_
      | refine LeO.bind ?_ (fun _ => ?_)
    · intro y0 y1 y2 y3 y4
      unfold distafflaw27_FairShuffled.j1
      repeat' first
      | (with_reducible exact ih0 _ _ _ _)
      | (with_reducible exact ih1 _ _ _ _ _)
      | (with_reducible exact ih2 _ _ _ _ _ _)
      | (with_reducible exact ih3 _ _ _ _ _ _)
      | (with_reducible exact distafflaw27_awake.mono _)
      | (with_reducible exact fair_Fair.mono _ _ _ _)
      | (with_reducible exact LeO.refl _)
      | (with_reducible exact LeO.none _)
      | (with_reducible refine LeO.ite ?_ ?_)
      | (with_reducible refine LeO.bind ?_ (fun _ => ?_))
      | exact ih0 _ _ _ _
      | exact ih1 _ _ _ _ _
      | exact ih2 _ _ _ _ _ _
      | exact ih3 _ _ _ _ _ _
      | exact distafflaw27_awake.mono _
      | exact fair_Fair.mono _ _ _ _
      | exact LeO.none _
      | refine LeO.ite ?_ ?_
      | refine LeO.bind ?_ (fun _ => ?_)
    · intro y0 y1 y2 y3 y4 y5
      unfold distafflaw27_FairShuffled.l1
      repeat' first
      | (with_reducible exact ih0 _ _ _ _)
      | (with_reducible exact ih1 _ _ _ _ _)
      | (with_reducible exact ih2 _ _ _ _ _ _)
      | (with_reducible exact ih3 _ _ _ _ _ _)
      | (with_reducible exact distafflaw27_awake.mono _)
      | (with_reducible exact fair_Fair.mono _ _ _ _)
      | (with_reducible exact LeO.refl _)
      | (with_reducible exact LeO.none _)
      | (with_reducible refine LeO.ite ?_ ?_)
      | (with_reducible refine LeO.bind ?_ (fun _ => ?_))
      | exact ih0 _ _ _ _
      | exact ih1 _ _ _ _ _
      | exact ih2 _ _ _ _ _ _
      | exact ih3 _ _ _ _ _ _
      | exact distafflaw27_awake.mono _
      | exact fair_Fair.mono _ _ _ _
      | exact LeO.none _
      | refine LeO.ite ?_ ?_
      | refine LeO.bind ?_ (fun _ => ?_)
    · intro y0 y1 y2 y3 y4 y5
      unfold distafflaw27_FairShuffled.l2
      repeat' first
      | (with_reducible exact ih0 _ _ _ _)
      | (with_reducible exact ih1 _ _ _ _ _)
      | (with_reducible exact ih2 _ _ _ _ _ _)
      | (with_reducible exact ih3 _ _ _ _ _ _)
      | (with_reducible exact distafflaw27_awake.mono _)
      | (with_reducible exact fair_Fair.mono _ _ _ _)
      | (with_reducible exact LeO.refl _)
      | (with_reducible exact LeO.none _)
      | (with_reducible refine LeO.ite ?_ ?_)
      | (with_reducible refine LeO.bind ?_ (fun _ => ?_))
      | exact ih0 _ _ _ _
      | exact ih1 _ _ _ _ _
      | exact ih2 _ _ _ _ _ _
      | exact ih3 _ _ _ _ _ _
      | exact distafflaw27_awake.mono _
      | exact fair_Fair.mono _ _ _ _
      | exact LeO.none _
      | refine LeO.ite ?_ ?_
      | refine LeO.bind ?_ (fun _ => ?_)
theorem distafflaw27_FairShuffled.mono : ∀ a0 a1 k, LeO (distafflaw27_FairShuffled.f k a0 a1) (distafflaw27_FairShuffled.f (k + 1) a0 a1) := by
  intro a0 a1 k
  obtain ⟨ih0, ih1, ih2, ih3⟩ := distafflaw27_FairShuffled.mono_l k
  unfold distafflaw27_FairShuffled.f
  repeat' first
      | (with_reducible exact ih0 _ _ _ _)
      | (with_reducible exact ih1 _ _ _ _ _)
      | (with_reducible exact ih2 _ _ _ _ _ _)
      | (with_reducible exact ih3 _ _ _ _ _ _)
      | (with_reducible exact distafflaw27_awake.mono _)
      | (with_reducible exact fair_Fair.mono _ _ _ _)
      | (with_reducible exact LeO.refl _)
      | (with_reducible exact LeO.none _)
      | (with_reducible refine LeO.ite ?_ ?_)
      | (with_reducible refine LeO.bind ?_ (fun _ => ?_))
      | exact ih0 _ _ _ _
      | exact ih1 _ _ _ _ _
      | exact ih2 _ _ _ _ _ _
      | exact ih3 _ _ _ _ _ _
      | exact distafflaw27_awake.mono _
      | exact fair_Fair.mono _ _ _ _
      | exact LeO.none _
      | refine LeO.ite ?_ ?_
      | refine LeO.bind ?_ (fun _ => ?_)
def distafflaw27_FairShuffled.T19 : Bool × List (List Nat × List Nat) := (true, [([], []), ([], []), ([0, 1], [0, 1]), ([2], [2]), ([], []), ([], []), ([5], [5]), ([4, 6], [4, 6]), ([3, 7, 3], [3, 7]), ([8, 8, 0, 1, 2, 3, 4, 5, 6, 7, 8], [0, 4, 8])])
def distafflaw27_FairShuffled.B19 : List Nat := [0, 0, 3, 7, 0, 0, 32, 112, 255, 511]
theorem distafflaw27_FairShuffled.tab19 : rtab .any (opsOf Try.f6 19) = distafflaw27_FairShuffled.T19 := by kernel_rfl
theorem distafflaw27_FairShuffled.bits19 : waitsOk distafflaw27_FairShuffled.T19.2 distafflaw27_FairShuffled.B19 = true := by kernel_rfl
set_option maxHeartbeats 2000000 in
set_option maxRecDepth 100000 in
theorem distafflaw27_FairShuffled.calls (k : Nat) (a0 : Int) (A1 : Option Addr) (c1 : Nat) (l1 : List Int) (r : Bool) (w : World) (hr1 : Kd.C (Kd.int .u64) w A1 l1.length l1) (hc1 : l1.length ≤ c1) (h : distafflaw27_FairShuffled.f k a0 l1 = some r) :
    Calls Try.prog 6 #[.int .i64 a0, .slice A1 l1.length c1] w fun e w' => e = .returned (.bool r) ∧ Below w.heap.size w w' := by
  have hu34 := Try.underlying34
  have HR1 := Aside0.mk hr1
  have HC1 := Aside0.mk hc1
  clear hr1 hc1
  have HB := Aside0.mk (Below.refl w.heap.size w)
  have H : ((distaffkeep_Within.f a0 6).bind fun t155 => (distafflaw27_FairShuffled.l0 k l1 (wrap64 (1 + t155)) ([] : List (S34)) 0)) = some r := h
  clear h
  replace H := Option.bind_eq_some_iff.mp H
  obtain ⟨t155, A30, H⟩ := H
  replace H : (distafflaw27_FairShuffled.l0 k l1 (wrap64 (1 + t155)) ([] : List (S34)) 0) = some r := H
  have A3 := Aside0.mk A30
  clear A30
  have H' := Aside0.mk H
  clear H
  go_enter Try.func6, Try.ntmps6
  go_wp2_with (first | ((with_reducible refine gate_callee (f := 15) rfl ?_); refine goesL_ (some 14) rfl rfl Try.func15 (by kernel_rfl) rfl #[.int .i64 a0, .int .i64 6] rfl (by (try simp only [List.map_toArray, List.map_cons, List.map_nil]); first | done | rfl | (simp only [List.length_drop, List.length_take]; rfl)) ?_; (with_reducible refine (distaffkeep_Within.calls a0 6 t155 _ A3.out).mono ?_); rintro e w' ⟨rfl, ⟨nd, rfl⟩⟩; refine ⟨_, rfl, ?_⟩))
  go_loopg [6, 7] k (fun kq v6 v7 w' => ∃ (x6_1 : List (S34)) (x7_1 : Int), v7 = .int .i64 x7_1 ∧ Aside0 (distafflaw27_FairShuffled.l0 kq l1 (wrap64 (1 + t155)) x6_1 x7_1 = some r) ∧ Aside0 (kq ≤ k) ∧ Aside0 (Kd.R k34 34 w' w.heap.size (fun _ => True) v6 x6_1) ∧ Aside0 (Below w.heap.size w w'))
  case atStart => exact ⟨(([] : List (S34))), (0), (by first | rfl | (simp; done) | (simp [*]; done)), H', ⟨Nat.le_refl _⟩, ⟨by first | exact Kd.R_nil _ _ _ _ _ | exact Kd.N_nil _ _ _ _ _ | exact Kd.V_nil _ _ _ _ _ | exact Kd.Q_nil _ _ _ _ _ | exact Kd.S_nil _ _ _ _ _⟩, ⟨by repeat (first | (with_reducible first | exact HB.out | apply below_alloc | apply pw_below_drewN | apply below_drew1) | exact HB.out)⟩⟩
  case round =>
    clear H'
    try clear c1
    try clear p2
    obtain ⟨x6_1, x7_1, rfl, HA, HK1, HO_6, HB⟩ := hrel
    cases gk with
    | zero => exact absurd HA.out (by simp [distafflaw27_FairShuffled.l0])
    | succ k1 =>
      have H := HA.out
      clear HA
      simp only [distafflaw27_FairShuffled.l0] at H
      have HC4 := Aside0.mk H
      clear H
      go_upto_region 4 with (fail)
      go_cut [23] (fun v23 wc => ∃ (kq : Nat) (x23_3 : Bool), v23 = .bool x23_3 ∧ Aside0 (distafflaw27_FairShuffled.j1 kq l1 (wrap64 (1 + t155)) x6_1 x7_1 x23_3 = some r) ∧ Aside0 (kq ≤ k1) ∧ Aside0 (Kd.R k34 34 wc w.heap.size (fun _ => True) u6 x6_1) ∧ Aside0 (Below w.heap.size w wc))
      case first =>
        have H := HC4.out
        clear HC4
        by_cases c5 : x7_1 < (l1.length : Int)
        · rw [if_pos c5] at H
          have c5b0 : decide (x7_1 < (l1.length : Int)) = true := decide_eq_true c5
          clear c5
          (first | rw [c5b0] | (simp only [i64_w, i32_w]; rw [c5b0]) | skip)
          have H' := Aside0.mk H
          clear H
          go_wp2
          go_meet
          case rel => exact ⟨_, (decide (x7_1 < 40)), (by first | rfl | (simp; done) | (simp [*]; done)), H', ⟨by have := HK1.out; first | omega | exact Nat.le_refl _⟩, ⟨by (with_reducible repeat (first | apply Kd.R_alloc | apply Kd.R_drewN | apply Kd.R_drew)); exact HO_6.out⟩, ⟨by repeat (first | (with_reducible first | exact HB.out | apply below_alloc | apply pw_below_drewN | apply below_drew1) | exact HB.out)⟩⟩
        · rw [if_neg c5] at H
          have c5b0 : decide (x7_1 < (l1.length : Int)) = false := decide_eq_false c5
          clear c5
          (first | rw [c5b0] | (simp only [i64_w, i32_w]; rw [c5b0]) | skip)
          have H' := Aside0.mk H
          clear H
          go_wp2
          go_meet
          case rel => exact ⟨_, (false), (by first | rfl | (simp; done) | (simp [*]; done)), H', ⟨by have := HK1.out; first | omega | exact Nat.le_refl _⟩, ⟨by (with_reducible repeat (first | apply Kd.R_alloc | apply Kd.R_drewN | apply Kd.R_drew)); exact HO_6.out⟩, ⟨by repeat (first | (with_reducible first | exact HB.out | apply below_alloc | apply pw_below_drewN | apply below_drew1) | exact HB.out)⟩⟩
      case rest =>
        clear HC4
        try clear c1
        try clear p2
        try clear c5
        try clear c5b0
        try clear p2
        obtain ⟨kq, x23_3, rfl, HA, HJ3, HO_6, HB⟩ := hcut
        cases kq with
        | zero => exact absurd HA.out (by simp [distafflaw27_FairShuffled.j1])
        | succ kj3 =>
          have H := HA.out
          clear HA
          simp only [distafflaw27_FairShuffled.j1] at H
          by_cases c6 : x23_3 = true
          · subst c6
            have H1 : (distafflaw27_FairShuffled.l1 kj3 l1 (wrap64 (1 + t155)) x6_1 x7_1 ([] : List Int) 0) = some r := by rw [if_pos rfl] at H; exact H
            clear H
            have H := H1
            clear H1
            have H' := Aside0.mk H
            clear H
            go_wp2
            go_loopg [8, 9] kj3 (fun kq v8 v9 w' => ∃ (x8_3 : List Int) (x9_3 : Int), v9 = .int .i64 x9_3 ∧ Aside0 (distafflaw27_FairShuffled.l1 kq l1 (wrap64 (1 + t155)) x6_1 x7_1 x8_3 x9_3 = some r) ∧ Aside0 (kq ≤ kj3) ∧ Aside0 (Kd.R k34 34 w' w.heap.size (fun _ => True) u6 x6_1) ∧ Aside0 (Kd.R (Kd.int .i64) 3 w' w.heap.size (fun _ => True) v8 x8_3) ∧ Aside0 (Below w.heap.size w w'))
            case atStart => exact ⟨(([] : List Int)), (0), (by first | rfl | (simp; done) | (simp [*]; done)), H', ⟨Nat.le_refl _⟩, ⟨by (with_reducible repeat (first | apply Kd.R_alloc | apply Kd.R_drewN | apply Kd.R_drew)); exact HO_6.out⟩, ⟨by first | exact Kd.R_nil _ _ _ _ _ | exact Kd.N_nil _ _ _ _ _ | exact Kd.V_nil _ _ _ _ _ | exact Kd.Q_nil _ _ _ _ _ | exact Kd.S_nil _ _ _ _ _⟩, ⟨by repeat (first | (with_reducible first | exact HB.out | apply below_alloc | apply pw_below_drewN | apply below_drew1) | exact HB.out)⟩⟩
            case round =>
              clear H'
              try clear c1
              try clear p2
              try clear c5
              try clear c5b0
              try clear c6
              try clear p6
              try clear p2
              obtain ⟨x8_3, x9_3, rfl, HA, HK3, HO_6, HO_8, HB⟩ := hrel
              cases gk with
              | zero => exact absurd HA.out (by simp [distafflaw27_FairShuffled.l1])
              | succ k3 =>
                have H := HA.out
                clear HA
                simp only [distafflaw27_FairShuffled.l1] at H
                by_cases c7 : x9_3 ≤ (wrap64 (1 + t155))
                · rw [if_pos c7] at H
                  have c7b0 : decide (x9_3 ≤ (wrap64 (1 + t155))) = true := decide_eq_true c7
                  clear c7
                  by_cases c8 : x8_3.length < 17592186044416
                  · rw [if_pos c8] at H
                    have LMc8 := Aside0.mk c8
                    clear c8
                    obtain ⟨y160, hy160⟩ : ∃ y_ : List Int, y_ = (x8_3 ++ [x9_3]) := ⟨_, rfl⟩
                    replace H : (distafflaw27_FairShuffled.l1 k3 l1 (wrap64 (1 + t155)) x6_1 x7_1 y160 (wrap64 (x9_3 + 1))) = some r := by first | (rw [hy160]; with_reducible exact H) | (have H2_ := (Option.bind_some _ _).symm.trans H; rw [hy160]; with_reducible exact H2_) | (have H2_ := (Option.bind_some _ _).symm.trans H; with_reducible exact H2_) | with_reducible exact H | (rw [hy160]; exact H) | exact H
                    have Ny160 := Aside0.mk hy160
                    clear hy160
                    have H' := Aside0.mk H
                    clear H
                    go_wp2_with (first | ((with_reducible refine gate_builtin (b := .append) (xs := #[.tmp 31, .tmp 33]) rfl ?_); (try (refine gate_guard (by rfl) ?_; dsimp only)); at_builtin; refine Kd.R_append (Kd.int .i64) (w0 := w) w.heap.size rfl (.tmp 31) (.tmp 33) 32 3 (.int .i64 0) 8 rfl Try.underlying32 info3 rfl (by decide) (by omega) u8 x8_3 x9_3 [.int .i64 x9_3] (fun _ => True) (fun _ => False) rfl rfl ?aP (fun _ hk => hk.elim) ?aF ?aO ?aB ?aS ?aL ?_; (case aP => exact rfl); (case aB => exact (by repeat (first | (with_reducible first | exact HB.out | apply below_alloc | apply pw_below_drewN | apply below_drew1) | exact HB.out))); (case aF => exact (fun _ _ => trivial)); (case aO => exact (by (with_reducible repeat (first | apply Kd.R_alloc | apply Kd.R_drewN | apply Kd.R_drew)); exact HO_8.out)); (case aS => exact (below_size (by repeat (first | (with_reducible first | exact HB.out | apply below_alloc | apply pw_below_drewN | apply below_drew1) | exact HB.out)))); (case aL => have := LMc8.out; omega); intro v161 w9 ho hb hg hat; rw [← Ny160.out] at ho; have n0_ := Aside0.mk (Kd.R_over' (by (with_reducible repeat (first | apply Kd.R_alloc | apply Kd.R_drewN | apply Kd.R_drew)); exact HO_6.out) (Kd.R_typed (by (with_reducible repeat (first | apply Kd.R_alloc | apply Kd.R_drewN | apply Kd.R_drew)); exact HO_8.out)) (by decide) hg); have n1_ := Aside0.mk (hb); have n2_ := Aside0.mk (ho); clear HO_6; clear HB; clear HO_8; have HO_6 := n0_; have HB := n1_; have HO162 := n2_; clear n0_ n1_ n2_; clear ho hb hg hat))
                    go_roundg k3
                    case measure => have := HK1.out; have := HJ3.out; have := HK3.out; omega
                    case rel => exact ⟨(y160), (wrap64 (x9_3 + 1)), (by first | rfl | (simp; done) | (simp [*]; done)), H', ⟨by have := HK1.out; have := HJ3.out; have := HK3.out; omega⟩, ⟨by (with_reducible repeat (first | apply Kd.R_alloc | apply Kd.R_drewN | apply Kd.R_drew)); exact HO_6.out⟩, ⟨by (with_reducible repeat (first | apply Kd.R_alloc | apply Kd.R_drewN | apply Kd.R_drew)); exact HO162.out⟩, ⟨by repeat (first | (with_reducible first | exact HB.out | apply below_alloc | apply pw_below_drewN | apply below_drew1) | exact HB.out)⟩⟩
                  · rw [if_neg c8] at H
                    exact absurd H (by simp)
                · rw [if_neg c7] at H
                  have c7b0 : decide (x9_3 ≤ (wrap64 (1 + t155))) = false := decide_eq_false c7
                  clear c7
                  by_cases c10 : 0 ≤ x7_1
                  · rw [if_pos c10] at H
                    have c10b0 : decide (0 ≤ x7_1) = true := decide_eq_true c10
                    clear c10
                    by_cases c11 : x7_1 < (l1.length : Int)
                    · rw [if_pos c11] at H
                      have c11b0 : decide (x7_1 < (l1.length : Int)) = true := decide_eq_true c11
                      clear c11
                      have H' := Aside0.mk H
                      clear H
                      have p163 : 0 ≤ (x7_1 : Int) := of_decide_eq_true (by first | (with_reducible assumption) | assumption)
                      have q163 : x7_1 < (l1.length : Int) := of_decide_eq_true (by first | (with_reducible assumption) | assumption)
                      obtain ⟨ad163, e163, hx163_0⟩ := Kd.at_int HR1.out x7_1 p163 q163
                      cases e163
                      replace hx163_0 := (HB.out.cell (World.block_lt_of_cell? w _ hx163_0)).trans hx163_0
                      replace p163 := eq_true p163
                      replace q163 := eq_true q163
                      go_wp2
                      go_loopg [6, 8, 10] k3 (fun kq v6 v8 v10 w' => ∃ (x6_4 : List (S34)) (x8_4 : List Int) (x10_4 : Int), v10 = .int .u64 x10_4 ∧ Aside0 (distafflaw27_FairShuffled.l2 kq l1 (wrap64 (1 + t155)) x6_4 x7_1 x8_4 x10_4 = some r) ∧ Aside0 (kq ≤ k3) ∧ Aside0 (Kd.R k34 34 w' w.heap.size (fun _ => True) v6 x6_4) ∧ Aside0 (Kd.R (Kd.int .i64) 3 w' w.heap.size (fun _ => True) v8 x8_4) ∧ Aside0 (Below w.heap.size w w'))
                      case atStart => exact ⟨(x6_1), (x8_3), (rd l1 x7_1), (by first | rfl | (simp; done) | (simp [*]; done)), H', ⟨Nat.le_refl _⟩, ⟨by (with_reducible repeat (first | apply Kd.R_alloc | apply Kd.R_drewN | apply Kd.R_drew)); exact HO_6.out⟩, ⟨by (with_reducible repeat (first | apply Kd.R_alloc | apply Kd.R_drewN | apply Kd.R_drew)); exact HO_8.out⟩, ⟨by repeat (first | (with_reducible first | exact HB.out | apply below_alloc | apply pw_below_drewN | apply below_drew1) | exact HB.out)⟩⟩
                      case round =>
                        clear H'
                        try clear c1
                        try clear p1
                        try clear q1
                        try clear hx1
                        try clear p2
                        try clear c5
                        try clear c5b0
                        try clear c6
                        try clear p6
                        try clear c7
                        try clear c7b0
                        try clear c8
                        try clear c10
                        try clear c10b0
                        try clear c11
                        try clear c11b0
                        try clear hx163_0
                        try clear p163
                        try clear p2
                        try clear p6
                        try clear q163
                        obtain ⟨x6_4, x8_4, x10_4, rfl, HA, HK4, HO_6, HO_8, HB⟩ := hrel
                        cases gk with
                        | zero => exact absurd HA.out (by simp [distafflaw27_FairShuffled.l2])
                        | succ k4 =>
                          have H := HA.out
                          clear HA
                          simp only [distafflaw27_FairShuffled.l2] at H
                          by_cases c12 : (x8_4.length : Int) > 0
                          · rw [if_pos c12] at H
                            have c12b0 : decide (0 < (x8_4.length : Int)) = true := decide_eq_true c12
                            have c12b1 : decide (0 < x8_4.length) = true := decide_eq_true (by omega)
                            clear c12
                            by_cases c13 : (IntKind.u64.wrap ((x8_4.length : Int))) = 0
                            · rw [if_pos c13] at H
                              exact absurd H (by simp)
                            · rw [if_neg c13] at H
                              have c13b0 : ((IntKind.u64.wrap ((x8_4.length : Int))) == 0) = false := beq_eq_false_iff_ne.mpr c13
                              have c13b1 : ((IntKind.u64.wrap ((x8_4.length : Int))) != 0) = true := bne_iff_ne.mpr c13
                              obtain ⟨ji14, hji14⟩ : ∃ j_ : Int, (wrap64 (Int.tmod x10_4 (IntKind.u64.wrap ((x8_4.length : Int))))) = j_ := ⟨_, rfl⟩
                              replace H : (if 0 ≤ (ji14) then (if (ji14) < (x8_4.length : Int) then (if (rd x8_4 (ji14)) = (wrap64 (1 + t155)) then (if x6_4.length < 5864062014805 then (if (ji14) ≤ (x8_4.length : Int) then ((some (x8_4.take ((ji14) : Int).toNat : List Int)).bind fun y170 => (if ([] : List Int).length + y170.length < 17592186044416 then ((some (([] : List Int) ++ y170 : List Int)).bind fun y174 => (if 0 ≤ (wrap64 ((ji14) + 1)) then (if (wrap64 ((ji14) + 1)) ≤ (x8_4.length : Int) then ((some (x8_4.drop ((wrap64 ((ji14) + 1)) : Int).toNat : List Int)).bind fun y177 => (if y174.length + y177.length < 17592186044416 then (distafflaw27_FairShuffled.l2 k4 l1 (wrap64 (1 + t155)) (x6_4 ++ [(⟨2, 0, 0⟩ : S34)]) x7_1 (y174 ++ y177) (IntKind.u64.wrap (Int.tdiv x10_4 (IntKind.u64.wrap ((x8_4.length : Int)))))) else (none))) else (none)) else (none))) else (none))) else (none)) else (none)) else (if x6_4.length < 5864062014805 then (if (ji14) ≤ (x8_4.length : Int) then ((some (x8_4.take ((ji14) : Int).toNat : List Int)).bind fun y187 => (if ([] : List Int).length + y187.length < 17592186044416 then ((some (([] : List Int) ++ y187 : List Int)).bind fun y191 => (if 0 ≤ (wrap64 ((ji14) + 1)) then (if (wrap64 ((ji14) + 1)) ≤ (x8_4.length : Int) then ((some (x8_4.drop ((wrap64 ((ji14) + 1)) : Int).toNat : List Int)).bind fun y194 => (if y191.length + y194.length < 17592186044416 then (distafflaw27_FairShuffled.l2 k4 l1 (wrap64 (1 + t155)) (x6_4 ++ [(⟨1, rd x8_4 (ji14), 0⟩ : S34)]) x7_1 (y191 ++ y194) (IntKind.u64.wrap (Int.tdiv x10_4 (IntKind.u64.wrap ((x8_4.length : Int)))))) else (none))) else (none)) else (none))) else (none))) else (none)) else (none))) else (none)) else (none)) = some r := by first | (rw [hji14] at H; exact H) | (simp only [hji14] at H ⊢; exact H)
                              have hji14w : (IntKind.i64.wrap (Int.tmod x10_4 (IntKind.u64.wrap ((x8_4.length : Int))))) = ji14 := (i64_w _).trans hji14
                              by_cases c15 : 0 ≤ (ji14)
                              · rw [if_pos c15] at H
                                have c15b0 : decide (0 ≤ (ji14)) = true := decide_eq_true c15
                                clear c15
                                by_cases c16 : (ji14) < (x8_4.length : Int)
                                · rw [if_pos c16] at H
                                  have c16b0 : decide ((ji14) < (x8_4.length : Int)) = true := decide_eq_true c16
                                  clear c16
                                  by_cases c17 : (rd x8_4 (ji14)) = (wrap64 (1 + t155))
                                  · rw [if_pos c17] at H
                                    have c17b0 : ((rd x8_4 (ji14)) == (wrap64 (1 + t155))) = true := beq_iff_eq.mpr c17
                                    have c17b1 : ((rd x8_4 (ji14)) != (wrap64 (1 + t155))) = false := bne_eq_false_iff_eq.mpr c17
                                    clear c17
                                    by_cases c18 : x6_4.length < 5864062014805
                                    · rw [if_pos c18] at H
                                      have LMc18 := Aside0.mk c18
                                      clear c18
                                      obtain ⟨y167, hy167⟩ : ∃ y_ : List (S34), y_ = (x6_4 ++ [(⟨2, 0, 0⟩ : S34)]) := ⟨_, rfl⟩
                                      replace H : (if (ji14) ≤ (x8_4.length : Int) then ((some (x8_4.take ((ji14) : Int).toNat : List Int)).bind fun y170 => (if ([] : List Int).length + y170.length < 17592186044416 then ((some (([] : List Int) ++ y170 : List Int)).bind fun y174 => (if 0 ≤ (wrap64 ((ji14) + 1)) then (if (wrap64 ((ji14) + 1)) ≤ (x8_4.length : Int) then ((some (x8_4.drop ((wrap64 ((ji14) + 1)) : Int).toNat : List Int)).bind fun y177 => (if y174.length + y177.length < 17592186044416 then (distafflaw27_FairShuffled.l2 k4 l1 (wrap64 (1 + t155)) y167 x7_1 (y174 ++ y177) (IntKind.u64.wrap (Int.tdiv x10_4 (IntKind.u64.wrap ((x8_4.length : Int)))))) else (none))) else (none)) else (none))) else (none))) else (none)) = some r := by first | (rw [hy167]; with_reducible exact H) | (have H2_ := (Option.bind_some _ _).symm.trans H; rw [hy167]; with_reducible exact H2_) | (have H2_ := (Option.bind_some _ _).symm.trans H; with_reducible exact H2_) | with_reducible exact H | (rw [hy167]; exact H) | exact H
                                      have Ny167 := Aside0.mk hy167
                                      clear hy167
                                      have c19b0 := eq_true (of_decide_eq_true (by first | (with_reducible assumption) | assumption) : 0 ≤ (ji14))
                                      by_cases c20 : (ji14) ≤ (x8_4.length : Int)
                                      · rw [if_pos c20] at H
                                        have c20b0 := eq_true c20
                                        have c20b1 : decide ((ji14) ≤ (x8_4.length : Int)) = true := decide_eq_true c20
                                        clear c20
                                        obtain ⟨y170, hy170⟩ : ∃ y_ : List Int, y_ = (x8_4.take ((ji14) : Int).toNat) := ⟨_, rfl⟩
                                        replace H : (if ([] : List Int).length + y170.length < 17592186044416 then ((some (([] : List Int) ++ y170 : List Int)).bind fun y174 => (if 0 ≤ (wrap64 ((ji14) + 1)) then (if (wrap64 ((ji14) + 1)) ≤ (x8_4.length : Int) then ((some (x8_4.drop ((wrap64 ((ji14) + 1)) : Int).toNat : List Int)).bind fun y177 => (if y174.length + y177.length < 17592186044416 then (distafflaw27_FairShuffled.l2 k4 l1 (wrap64 (1 + t155)) y167 x7_1 (y174 ++ y177) (IntKind.u64.wrap (Int.tdiv x10_4 (IntKind.u64.wrap ((x8_4.length : Int)))))) else (none))) else (none)) else (none))) else (none)) = some r := by first | (rw [hy170]; with_reducible exact H) | (have H2_ := (Option.bind_some _ _).symm.trans H; rw [hy170]; with_reducible exact H2_) | (have H2_ := (Option.bind_some _ _).symm.trans H; with_reducible exact H2_) | with_reducible exact H | (rw [hy170]; exact H) | exact H
                                        have Ny170 := Aside0.mk hy170
                                        clear hy170
                                        by_cases c21 : ([] : List Int).length + y170.length < 17592186044416
                                        · rw [if_pos c21] at H
                                          have LMc21 := Aside0.mk c21
                                          clear c21
                                          obtain ⟨y174, hy174⟩ : ∃ y_ : List Int, y_ = (([] : List Int) ++ y170) := ⟨_, rfl⟩
                                          replace H : (if 0 ≤ (wrap64 ((ji14) + 1)) then (if (wrap64 ((ji14) + 1)) ≤ (x8_4.length : Int) then ((some (x8_4.drop ((wrap64 ((ji14) + 1)) : Int).toNat : List Int)).bind fun y177 => (if y174.length + y177.length < 17592186044416 then (distafflaw27_FairShuffled.l2 k4 l1 (wrap64 (1 + t155)) y167 x7_1 (y174 ++ y177) (IntKind.u64.wrap (Int.tdiv x10_4 (IntKind.u64.wrap ((x8_4.length : Int)))))) else (none))) else (none)) else (none)) = some r := by first | (rw [hy174]; with_reducible exact H) | (have H2_ := (Option.bind_some _ _).symm.trans H; rw [hy174]; with_reducible exact H2_) | (have H2_ := (Option.bind_some _ _).symm.trans H; with_reducible exact H2_) | with_reducible exact H | (rw [hy174]; exact H) | exact H
                                          have Ny174 := Aside0.mk hy174
                                          clear hy174
                                          obtain ⟨ji22, hji22⟩ : ∃ j_ : Int, (wrap64 ((ji14) + 1)) = j_ := ⟨_, rfl⟩
                                          replace H : (if 0 ≤ (ji22) then (if (ji22) ≤ (x8_4.length : Int) then ((some (x8_4.drop ((ji22) : Int).toNat : List Int)).bind fun y177 => (if y174.length + y177.length < 17592186044416 then (distafflaw27_FairShuffled.l2 k4 l1 (wrap64 (1 + t155)) y167 x7_1 (y174 ++ y177) (IntKind.u64.wrap (Int.tdiv x10_4 (IntKind.u64.wrap ((x8_4.length : Int)))))) else (none))) else (none)) else (none)) = some r := by first | (rw [hji22] at H; exact H) | (simp only [hji22] at H ⊢; exact H)
                                          have hji22w : (IntKind.i64.wrap ((ji14) + 1)) = ji22 := (i64_w _).trans hji22
                                          by_cases c23 : 0 ≤ (ji22)
                                          · rw [if_pos c23] at H
                                            have c23b0 := eq_true c23
                                            have c23b1 : decide (0 ≤ (ji22)) = true := decide_eq_true c23
                                            clear c23
                                            by_cases c24 : (ji22) ≤ (x8_4.length : Int)
                                            · rw [if_pos c24] at H
                                              have c24b0 := eq_true c24
                                              have c24b1 : decide ((ji22) ≤ (x8_4.length : Int)) = true := decide_eq_true c24
                                              clear c24
                                              obtain ⟨y177, hy177⟩ : ∃ y_ : List Int, y_ = (x8_4.drop ((ji22) : Int).toNat) := ⟨_, rfl⟩
                                              replace H : (if y174.length + y177.length < 17592186044416 then (distafflaw27_FairShuffled.l2 k4 l1 (wrap64 (1 + t155)) y167 x7_1 (y174 ++ y177) (IntKind.u64.wrap (Int.tdiv x10_4 (IntKind.u64.wrap ((x8_4.length : Int)))))) else (none)) = some r := by first | (rw [hy177]; with_reducible exact H) | (have H2_ := (Option.bind_some _ _).symm.trans H; rw [hy177]; with_reducible exact H2_) | (have H2_ := (Option.bind_some _ _).symm.trans H; with_reducible exact H2_) | with_reducible exact H | (rw [hy177]; exact H) | exact H
                                              have Ny177 := Aside0.mk hy177
                                              clear hy177
                                              by_cases c25 : y174.length + y177.length < 17592186044416
                                              · rw [if_pos c25] at H
                                                have LMc25 := Aside0.mk c25
                                                clear c25
                                                obtain ⟨y181, hy181⟩ : ∃ y_ : List Int, y_ = (y174 ++ y177) := ⟨_, rfl⟩
                                                replace H : (distafflaw27_FairShuffled.l2 k4 l1 (wrap64 (1 + t155)) y167 x7_1 y181 (IntKind.u64.wrap (Int.tdiv x10_4 (IntKind.u64.wrap ((x8_4.length : Int)))))) = some r := by first | (rw [hy181]; with_reducible exact H) | (have H2_ := (Option.bind_some _ _).symm.trans H; rw [hy181]; with_reducible exact H2_) | (have H2_ := (Option.bind_some _ _).symm.trans H; with_reducible exact H2_) | with_reducible exact H | (rw [hy181]; exact H) | exact H
                                                have Ny181 := Aside0.mk hy181
                                                clear hy181
                                                have H' := Aside0.mk H
                                                clear H
                                                obtain ⟨Ao26, co26, eo26⟩ := Kd.R_slice HO_8.out
                                                subst eo26
                                                have p164 : 0 ≤ ((ji14) : Int) := of_decide_eq_true (by first | (with_reducible assumption) | assumption)
                                                have q164 : (ji14) < (x8_4.length : Int) := of_decide_eq_true (by first | (with_reducible assumption) | assumption)
                                                obtain ⟨ad164, e164, hx164_0⟩ := Kd.at_int (Kd.R_reads' HO_8.out).2.2 (ji14) p164 q164
                                                cases e164
                                                replace p164 := eq_true p164
                                                replace q164 := eq_true q164
                                                go_upto_region 15 with fail
                                                go_upto_region 16 with ((with_reducible refine gate_dst (N := 12) rfl ?_); refine box_event ?hg (N := 12) ?hd (cs := #[.int .i64 0, .int .i64 0, .int .u64 0]) (t := 34) ?hr ?_; (case hd => rfl); (case hg => rfl); (case hr => first | (go_simp; done) | (go_simp; rfl)); intro gb165 hg w27 hbox hb; have n0_ := Aside0.mk (Kd.R_below (Kd.R_elderB (by (with_reducible repeat (first | apply Kd.R_alloc | apply Kd.R_drewN | apply Kd.R_drew)); exact HO_6.out) gb165 (Nat.le_of_eq hg.symm)) hb); have n1_ := Aside0.mk (Kd.R_below (by (with_reducible repeat (first | apply Kd.R_alloc | apply Kd.R_drewN | apply Kd.R_drew)); exact HO_8.out) hb); have n2_ := Aside0.mk (below_step (by repeat (first | (with_reducible first | exact HB.out | apply below_alloc | apply pw_below_drewN | apply below_drew1) | exact HB.out)) hb); have n3_ := Aside0.mk (hbox); have n4_ := Aside0.mk ((by rw [hg]; exact (below_size (by repeat (first | (with_reducible first | exact HB.out | apply below_alloc | apply pw_below_drewN | apply below_drew1) | exact HB.out))) : w.heap.size ≤ gb165)); have n5_ := Aside0.mk ((by rw [hg]; exact (below_size (by repeat (first | (with_reducible first | exact HB.out | apply below_alloc | apply pw_below_drewN | apply below_drew1) | exact HB.out))) : w.heap.size ≤ gb165)); clear HO_6; clear HO_8; clear HB; have HO_6 := n0_; have HO_8 := n1_; have HB := n2_; have BK165 := n3_; have GW165 := n4_; have GE165 := n5_; clear n0_ n1_ n2_ n3_ n4_ n5_; clear hb hbox hg; have hcz28_0 : w27.cell? ⟨gb165, 0, none⟩ = some (.int .i64 0) := (blk_cell BK165.out 0).trans rfl; have hcz28_1 : w27.cell? ⟨gb165, 1, none⟩ = some (.int .i64 0) := (blk_cell BK165.out 1).trans rfl; have hcz28_2 : w27.cell? ⟨gb165, 2, none⟩ = some (.int .u64 0) := (blk_cell BK165.out 2).trans rfl; have hfz28_0 := blk_frozen BK165.out 0; have hfz28_1 := blk_frozen BK165.out 1; have hfz28_2 := blk_frozen BK165.out 2; have p166 : 0 ≤ ((ji14) : Int) := of_decide_eq_true (by first | (with_reducible assumption) | assumption); have q166 : (ji14) < (x8_4.length : Int) := of_decide_eq_true (by first | (with_reducible assumption) | assumption); obtain ⟨ad166, e166, hx166_0⟩ := Kd.at_int (Kd.R_reads' HO_8.out).2.2 (ji14) p166 q166; obtain rfl : ad164 = ad166 := (by injection e166); have hn166_0 : ad164.block ≠ gb165 := Kd.own_blk (Kd.R_ne HO_8.out BK165.out (by decide)); have hn166_1 : ad164.block ≠ gb165 := Kd.own_blk (Kd.R_ne HO_8.out BK165.out (by decide)); have hn166_2 : ad164.block ≠ gb165 := Kd.own_blk (Kd.R_ne HO_8.out BK165.out (by decide)); replace hx166_0 := (cell_far (p := ⟨gb165, 0, none⟩) (by first | (rw [add_block]; exact hn166_0) | (show (Addr.add _ _).block ≠ _; rw [add_block]; exact hn166_0) | exact hn166_0) (.int .i64 1)).trans hx166_0; replace hx166_0 := (cell_far (p := ⟨gb165, 1, none⟩) (by first | (rw [add_block]; exact hn166_1) | (show (Addr.add _ _).block ≠ _; rw [add_block]; exact hn166_1) | exact hn166_1) (.int .i64 (rd x8_4 (ji14)))).trans hx166_0; replace hx166_0 := (cell_far (p := ⟨gb165, 2, none⟩) (by first | (rw [add_block]; exact hn166_2) | (show (Addr.add _ _).block ≠ _; rw [add_block]; exact hn166_2) | exact hn166_2) (.int .u64 0)).trans hx166_0; clear hn166_0; clear hn166_1; clear hn166_2; replace p166 := eq_true p166; replace q166 := eq_true q166)
                                                go_upto_region 18 with fail
                                                obtain ⟨W8, hW8⟩ : ∃ W8 : World, W8 = ((((((w27.setCell ⟨gb165, 0, none⟩ (.int .i64 1)).setCell ⟨gb165, 1, none⟩ (.int .i64 (rd x8_4 ji14))).setCell ⟨gb165, 2, none⟩ (.int .u64 0)).setCell ⟨gb165, 0, none⟩ (.int .i64 2)).setCell ⟨gb165, 1, none⟩ (.int .i64 0)).setCell ⟨gb165, 2, none⟩ (.int .u64 0)) := ⟨_, rfl⟩
                                                rw [← hW8]
                                                have BK9 : Aside0 (W8.heap[gb165]? = some (.cells #[.int .i64 2, .int .i64 0, .int .u64 0] 34 (0, 0))) := ⟨by rw [hW8]; exact blk_put (cs := #[.int .i64 2, .int .i64 0, .int .u64 0]) (blk_put (cs := #[.int .i64 2, .int .i64 (rd x8_4 ji14), .int .u64 0]) (blk_put (cs := #[.int .i64 1, .int .i64 (rd x8_4 ji14), .int .u64 0]) (blk_put (cs := #[.int .i64 1, .int .i64 (rd x8_4 ji14), .int .u64 0]) (blk_put (cs := #[.int .i64 1, .int .i64 0, .int .u64 0]) (blk_put (cs := #[.int .i64 0, .int .i64 0, .int .u64 0]) BK165.out 0 _ rfl) 1 _ rfl) 2 _ rfl) 0 _ rfl) 1 _ rfl) 2 _ rfl⟩
                                                have HO6' : Aside0 (k34.R 34 W8 w.heap.size (fun k_ => k_ ≠ gb165) u6 x6_4) := ⟨by rw [hW8]; exact Kd.R_far (p := ⟨gb165, 2, none⟩) (Kd.R_far (p := ⟨gb165, 1, none⟩) (Kd.R_far (p := ⟨gb165, 0, none⟩) (Kd.R_far (p := ⟨gb165, 2, none⟩) (Kd.R_far (p := ⟨gb165, 1, none⟩) (Kd.R_far (p := ⟨gb165, 0, none⟩) (Kd.R_mono HO_6.out (fun _ hk => hk.2)) (fun _ hk => hk) _) (fun _ hk => hk) _) (fun _ hk => hk) _) (fun _ hk => hk) _) (fun _ hk => hk) _) (fun _ hk => hk) _⟩
                                                have HO8' : Aside0 ((Kd.int .i64).R 3 W8 w.heap.size (fun k_ => k_ ≠ gb165) (.slice (some ad164) x8_4.length co26) x8_4) := ⟨by rw [hW8]; exact Kd.R_far (p := ⟨gb165, 2, none⟩) (Kd.R_far (p := ⟨gb165, 1, none⟩) (Kd.R_far (p := ⟨gb165, 0, none⟩) (Kd.R_far (p := ⟨gb165, 2, none⟩) (Kd.R_far (p := ⟨gb165, 1, none⟩) (Kd.R_far (p := ⟨gb165, 0, none⟩) (Kd.R_mono (Kd.R_types HO_8.out BK165.out (by decide)) (fun _ hk => hk.2)) (fun _ hk => hk) _) (fun _ hk => hk) _) (fun _ hk => hk) _) (fun _ hk => hk) _) (fun _ hk => hk) _) (fun _ hk => hk) _⟩
                                                have HB' : Aside0 (Below w.heap.size w W8) := ⟨by rw [hW8]; exact below_set (below_set (below_set (below_set (below_set (below_set (HB.out) GE165.out) GE165.out) GE165.out) GE165.out) GE165.out) GE165.out⟩
                                                clear hx166_0 hcz28_0 hcz28_1 hcz28_2 hfz28_0 hfz28_1 hfz28_2
                                                clear hW8 HO_6 HO_8 HB BK165
                                                have HB := HB'
                                                clear HB'
                                                have hfr0 := blk_frozen BK9.out 0
                                                have hd0 : W8.cell? ⟨gb165, 0, none⟩ = some (.int .i64 2) := (blk_cell BK9.out 0).trans rfl
                                                have hd1 : W8.cell? ⟨gb165, 1, none⟩ = some (.int .i64 0) := (blk_cell BK9.out 1).trans rfl
                                                have hd2 : W8.cell? ⟨gb165, 2, none⟩ = some (.int .u64 0) := (blk_cell BK9.out 2).trans rfl
                                                try go_wp2_with ((with_reducible refine gate_builtin (b := .append) (xs := #[.tmp 65, .tmp 67]) rfl ?_); at_builtin; refine Kd.R_append k34 (w0 := w) w.heap.size rfl (.tmp 65) (.tmp 67) 22 34 (.agg #[(.int .i64 0), (.int .i64 0), (.int .u64 0)]) 24 rfl Try.underlying22 info34 rfl (by decide) (by omega) u6 x6_4 (⟨2, 0, 0⟩ : S34) [.int .i64 2, .int .i64 0, .int .u64 0] (fun k_ => k_ ≠ gb165) (fun _ => False) rfl (by first | (go_simp; done) | (go_simp; rfl)) ?aP (fun _ hk => hk.elim) ?aF ?aO ?aB ?aS ?aL ?_; (case aP => exact k34_mkM _ _ _ (⟨2, 0, 0⟩ : S34)); (case aB => exact (by repeat (first | (with_reducible first | exact HB.out | apply below_alloc | apply pw_below_drewN | apply below_drew1) | exact HB.out))); (case aF => exact (fun k_ hk => Kd.freshB (g := gb165) (o := .cells #[.int .i64 2, .int .i64 0, .int .u64 0] 34 (0, 0)) (by (with_reducible repeat (first | refine blk_drewN ?_ _ | refine blk_drew ?_ | refine blk_alloc ?_ _)); exact BK9.out) k_ hk)); (case aO => exact (by (with_reducible repeat (first | apply Kd.R_alloc | apply Kd.R_drewN | apply Kd.R_drew)); exact HO6'.out)); (case aS => exact (below_size (by repeat (first | (with_reducible first | exact HB.out | apply below_alloc | apply pw_below_drewN | apply below_drew1) | exact HB.out)))); (case aL => have := LMc18.out; omega); intro v168 w29 ho hb hg hat; rw [← Ny167.out] at ho; have n0_ := Aside0.mk (Kd.R_mono (ok' := fun _ => True) (Kd.R_over' (by (with_reducible repeat (first | apply Kd.R_alloc | apply Kd.R_drewN | apply Kd.R_drew)); exact HO8'.out) (Kd.R_typed (by (with_reducible repeat (first | apply Kd.R_alloc | apply Kd.R_drewN | apply Kd.R_drew)); exact HO6'.out)) (by decide) hg) (fun _ _ => trivial)); have n1_ := Aside0.mk (blk_grown (g := gb165) (o := .cells #[.int .i64 2, .int .i64 0, .int .u64 0] 34 (0, 0)) (by (with_reducible repeat (first | refine blk_drewN ?_ _ | refine blk_drew ?_ | refine blk_alloc ?_ _)); exact BK9.out) hg (Kd.R_away HO6'.out (fun _ hk => hk))); have n2_ := Aside0.mk (hb); have n3_ := Aside0.mk (ho); clear HO8' BK9 HB HO6'; have HO_8 := n0_; have BK165 := n1_; have HB := n2_; have HO169 := n3_; clear n0_ n1_ n2_ n3_; clear ho hb hg hat)
                                                clear hd0 hd1 hd2 hfr0
                                                have n0_ := Aside0.mk (Kd.R_drew HO_8.out)
                                                have n1_ := Aside0.mk (Kd.R_drew HO169.out)
                                                have n2_ := Aside0.mk (blk_drew BK165.out)
                                                have n3_ := Aside0.mk (below_drew1 HB.out)
                                                clear HO_8
                                                clear HO169
                                                clear BK165
                                                clear HB
                                                have HO_8 := n0_
                                                have HO169 := n1_
                                                have BK165 := n2_
                                                have HB := n3_
                                                clear n0_ n1_ n2_ n3_
                                                have q31 : ((ji14) : Int) ≤ ((x8_4.length : Int) : Int) := of_decide_eq_true (by first | (with_reducible assumption) | assumption)
                                                obtain ⟨i031, hi031, _, hsz31, _⟩ := info_parts info3
                                                have hroom31 : x8_4.length ≤ co26 := (Kd.R_reads' HO_8.out).2.1
                                                have hC31 : Kd.C (Kd.int .i64) _ (some ad164) x8_4.length x8_4 := (Kd.R_reads' HO_8.out).2.2
                                                have hcut31 := cut_to (P := Try.prog) 32 3 .i64 Try.underlying32 hi031 (some ad164) x8_4.length co26 (ji14) (of_decide_eq_true (by first | (with_reducible assumption) | assumption)) q31 hroom31
                                                have hr31 := Kd.C_take (m := ((ji14) : Int).toNat) hC31 (by omega)
                                                have hy31 : y170.length = ((ji14) : Int).toNat := (by rw [Ny170.out, List.length_take]; omega)
                                                rw [← Ny170.out] at hr31
                                                rw [← hy31] at hcut31
                                                have HR173 := Aside0.mk hr31
                                                have HC173 := Aside0.mk (show y170.length ≤ co26 from by omega)
                                                clear hr31 hC31 hroom31 hi031 hsz31
                                                have KY31 := Aside0.mk hy31
                                                clear hy31
                                                have KL31 := Aside0.mk (show ((ji14) : Int).toNat ≤ x8_4.length from by omega)
                                                replace q31 := eq_true q31
                                                have q32 : ((ji22) : Int) ≤ ((x8_4.length : Int) : Int) := of_decide_eq_true (by first | (with_reducible assumption) | assumption)
                                                obtain ⟨i032, hi032, _, hsz32, _⟩ := info_parts info3
                                                have hroom32 : x8_4.length ≤ co26 := (Kd.R_reads' HO_8.out).2.1
                                                have hC32 : Kd.C (Kd.int .i64) _ (some ad164) x8_4.length x8_4 := (Kd.R_reads' HO_8.out).2.2
                                                have q032 : (0 : Int) ≤ ((ji22) : Int) := of_decide_eq_true (by first | (with_reducible assumption) | assumption)
                                                have hcut32 := cut_from (P := Try.prog) 32 3 .i64 Try.underlying32 hi032 1 hsz32 (some ad164) x8_4.length co26 (ji22) q032 q32
                                                have hr32 := Kd.C_drop (m := ((ji22) : Int).toNat) (c := co26) hC32 (by omega) hroom32
                                                obtain ⟨A32, hA32⟩ : ∃ A1, A1 = (if co26 = ((ji22) : Int).toNat then (some ad164) else ((some ad164) : Option Addr).map (·.add (((ji22) : Int).toNat * 1))) := ⟨_, rfl⟩
                                                obtain ⟨c32, hc32⟩ : ∃ c1, c1 = co26 - ((ji22) : Int).toNat := ⟨_, rfl⟩
                                                have hy32 : y177.length = x8_4.length - ((ji22) : Int).toNat := (by rw [Ny177.out, List.length_drop] <;> omega)
                                                rw [show (x8_4).drop ((ji22) : Int).toNat = y177 from Ny177.out.symm] at hr32
                                                replace hr32 : Kd.C (Kd.int .i64) _ A32 y177.length y177 := (by rw [hA32]; exact hr32)
                                                rw [← hy32, ← hA32, ← hc32] at hcut32
                                                have HR180 := Aside0.mk hr32
                                                have HC180 := Aside0.mk (show y177.length ≤ c32 from by rw [hy32, hc32]; exact Nat.sub_le_sub_right hroom32 _)
                                                clear hr32 hC32 hroom32 hi032 hsz32 hc32
                                                have KY32 := Aside0.mk hy32
                                                have KA32 := Aside0.mk hA32
                                                clear hy32 hA32
                                                have KL32 := Aside0.mk (show ((ji22) : Int).toNat ≤ x8_4.length from by omega)
                                                replace q32 := eq_true q32
                                                refine start_ (n := 10) (S := fun w' => True) (ds := []) #[false, false, false, false, false, false, false, false, false, false] (by kernel_rfl) rfl rfl trivial (fun hHeld => ?_); refine with_tabW distafflaw27_FairShuffled.tab19 distafflaw27_FairShuffled.bits19 (fun HT_ HW_ => ?_)
                                                generalize w29.drew = w30 at HO_8 HO169 BK165 HB HR173 HR180 hHeld ⊢
                                                refine pure_ (i := 0) (N := some 69) (v := ?_) (a' := ?_) #[true, false, false, false, false, false, false, false, false, false] rfl rfl (any_of HT_.out (by kernel_rfl)) (fun _ _ _ h => h) (Or.inl ⟨by rfl, ?_⟩) ?_ ?_
                                                rotate_left
                                                · intro w'
                                                  go_simp
                                                  with_reducible rfl
                                                rotate_left
                                                · simp only [Act.put, List.setIfInBounds_toArray, List.set_cons_zero, List.set_cons_succ, i64_w, i32_w]
                                                  rfl
                                                refine pure_ (i := 1) (N := some 70) (v := ?_) (a' := ?_) #[true, true, false, false, false, false, false, false, false, false] rfl rfl (any_of HT_.out (by kernel_rfl)) (fun _ _ _ h => h) (Or.inl ⟨by rfl, ?_⟩) ?_ ?_
                                                rotate_left
                                                · intro w'
                                                  go_simp
                                                  with_reducible rfl
                                                rotate_left
                                                · simp only [Act.put, List.setIfInBounds_toArray, List.set_cons_zero, List.set_cons_succ, i64_w, i32_w]
                                                  rfl
                                                refine pure_ (i := 2) (N := some 71) (v := ?_) (a' := ?_) #[true, true, true, false, false, false, false, false, false, false] rfl rfl (any_of HT_.out (by kernel_rfl)) (fun _ _ _ h => h) (Or.inl ⟨by rfl, ?_⟩) ?_ ?_
                                                rotate_left
                                                · intro w'
                                                  go_simp
                                                  with_reducible rfl
                                                rotate_left
                                                · simp only [Act.put, List.setIfInBounds_toArray, List.set_cons_zero, List.set_cons_succ, i64_w, i32_w]
                                                  rfl
                                                refine pure_ (i := 4) (N := some 73) (v := ?_) (a' := ?_) #[true, true, true, false, true, false, false, false, false, false] rfl rfl (any_of HT_.out (by kernel_rfl)) (fun _ _ _ h => h) (Or.inl ⟨by rfl, ?_⟩) ?_ ?_
                                                rotate_left
                                                · intro w'
                                                  go_simp
                                                  with_reducible rfl
                                                rotate_left
                                                · simp only [Act.put, List.setIfInBounds_toArray, List.set_cons_zero, List.set_cons_succ, i64_w, i32_w]
                                                  rfl
                                                refine pure_ (i := 5) (N := some 74) (v := ?_) (a' := ?_) #[true, true, true, false, true, true, false, false, false, false] rfl rfl (any_of HT_.out (by kernel_rfl)) (fun _ _ _ h => h) (Or.inl ⟨by rfl, ?_⟩) ?_ ?_
                                                rotate_left
                                                · intro w'
                                                  go_simp
                                                  with_reducible rfl
                                                rotate_left
                                                · simp only [Act.put, List.setIfInBounds_toArray, List.set_cons_zero, List.set_cons_succ, i64_w, i32_w]
                                                  rfl
                                                refine pure_ (i := 6) (N := some 75) (v := ?_) (a' := ?_) #[true, true, true, false, true, true, true, false, false, false] rfl rfl (any_of HT_.out (by kernel_rfl)) (fun _ _ _ h => h) (Or.inl ⟨by rfl, ?_⟩) ?_ ?_
                                                rotate_left
                                                · intro w'
                                                  go_simp
                                                  with_reducible rfl
                                                rotate_left
                                                · simp only [Act.put, List.setIfInBounds_toArray, List.set_cons_zero, List.set_cons_succ, i64_w, i32_w]
                                                  rfl
                                                refine pure_ (i := 7) (N := some 76) (v := ?_) (a' := ?_) #[true, true, true, false, true, true, true, true, false, false] rfl rfl (any_of HT_.out (by kernel_rfl)) (fun _ _ _ h => h) (Or.inl ⟨by rfl, ?_⟩) ?_ ?_
                                                rotate_left
                                                · intro w'
                                                  go_simp
                                                  with_reducible rfl
                                                rotate_left
                                                · simp only [Act.put, List.setIfInBounds_toArray, List.set_cons_zero, List.set_cons_succ, i64_w, i32_w]
                                                  rfl
                                                refine one_ (i := 3) (N := some 72) #[true, true, true, true, true, true, true, true, false, false] rfl rfl (one_of HT_.out (by kernel_rfl)) (by decide) (fun K hK => ?_)
                                                refine Kd.R_append_rows_step (Kd.int .i64) (w0 := w) w.heap.size (by rfl) (.const (.slice none 0 0)) (.tmp 71) 32 3 (.int .i64 0) 8 rfl Try.underlying32 info3 rfl (by decide) (by omega) (.slice none 0 0) ([] : List Int) y170 _ _ _ (fun k_ => some k_ ≠ (.slice (some ad164) x8_4.length co26 : Value).ownBlock) (fun _ => False) rfl rfl ?aO ?aR (fun _ _ h => h) (fun _ h => h.elim) ?aF ?aB ?aS ?aL ?_
                                                (case aR => repeat (first | exact (by repeat (first | (with_reducible exact HR173.out) | (with_reducible refine Kd.C_alloc ?_ _) | (with_reducible refine Kd.C_drewN ?_ _) | (with_reducible refine Kd.C_drew ?_) | exact HR173.out)) | (with_reducible refine Kd.C_alloc ?_ _) | (with_reducible refine Kd.C_drewN ?_ _) | (with_reducible refine Kd.C_drew ?_)))
                                                (case aB => exact (by repeat (first | (with_reducible first | exact HB.out | apply below_alloc | apply pw_below_drewN | apply below_drew1 | refine below_set ?_ GE165.out) | exact HB.out)))
                                                (case aF => exact (fun k_ hk => Kd.fresh' (Kd.R_lt (by (with_reducible repeat (first | apply Kd.R_alloc | apply Kd.R_drewN | apply Kd.R_drew)); exact HO_8.out)) k_ hk))
                                                (case aO => exact ((Kd.R_nil _ _ _ _ (fun k_ => some k_ ≠ (.slice (some ad164) x8_4.length co26 : Value).ownBlock))))
                                                (case aS => exact (below_size (by repeat (first | (with_reducible first | exact HB.out | apply below_alloc | apply pw_below_drewN | apply below_drew1 | refine below_set ?_ GE165.out) | exact HB.out))))
                                                (case aL => have := LMc21.out; omega)
                                                intro v175 w33 ho hb hg hat
                                                rw [← Ny174.out] at ho
                                                have n0_ := Aside0.mk (Kd.R_after (Kd.R_apart_nil (by (with_reducible repeat (first | apply Kd.R_alloc | apply Kd.R_drewN | apply Kd.R_drew)); exact HO_8.out)) hg hat)
                                                have n1_ := Aside0.mk (blk_grown (g := gb165) (o := .cells #[.int .i64 2, .int .i64 0, .int .u64 0] 34 (0, 0)) (by (with_reducible repeat (first | refine blk_drewN ?_ _ | refine blk_drew ?_ | refine blk_alloc ?_ _)); exact BK165.out) hg (by simp [Value.ownBlock]))
                                                have n2_ := Aside0.mk (Kd.R_grown (by (with_reducible repeat (first | apply Kd.R_alloc | apply Kd.R_drewN | apply Kd.R_drew)); exact HO169.out) hg (fun _ _ => by simp [Value.ownBlock]))
                                                have n3_ := Aside0.mk (hb)
                                                have n4_ := Aside0.mk ((show Kd.C (Kd.int .i64) w33 (some ad164) y170.length y170 from by rw [Ny170.out]; exact Kd.C_take (m := ((ji14) : Int).toNat) ((Kd.R_reads' (Kd.R_after (Kd.R_apart_nil (by (with_reducible repeat (first | apply Kd.R_alloc | apply Kd.R_drewN | apply Kd.R_drew)); exact HO_8.out)) hg hat)).2.2) KL31.out))
                                                have n5_ := Aside0.mk ((show Kd.C (Kd.int .i64) w33 A32 y177.length y177 from by rw [Ny177.out, KA32.out]; exact Kd.C_drop (m := ((ji22) : Int).toNat) (c := co26) ((Kd.R_reads' (Kd.R_after (Kd.R_apart_nil (by (with_reducible repeat (first | apply Kd.R_alloc | apply Kd.R_drewN | apply Kd.R_drew)); exact HO_8.out)) hg hat)).2.2) KL32.out ((Kd.R_reads' (Kd.R_after (Kd.R_apart_nil (by (with_reducible repeat (first | apply Kd.R_alloc | apply Kd.R_drewN | apply Kd.R_drew)); exact HO_8.out)) hg hat)).2.1)))
                                                have n6_ := Aside0.mk (ho)
                                                clear HO_8
                                                clear BK165
                                                clear HO169
                                                clear HB
                                                clear HR173
                                                clear HR180
                                                have HO_8 := n0_
                                                have BK165 := n1_
                                                have HO169 := n2_
                                                have HB := n3_
                                                have HR173 := n4_
                                                have HR180 := n5_
                                                have HO176 := n6_
                                                clear n0_ n1_ n2_ n3_ n4_ n5_ n6_
                                                clear ho hb hg hat
                                                refine hK.out _ _ trivial (fun hHeld => ?_)
                                                clear hK K
                                                refine norm_ (a' := ?_) ?_ ?_
                                                rotate_left
                                                · show Act.put _ (some 72) _ = _
                                                  simp only [Act.put, List.setIfInBounds_toArray, List.set_cons_zero, List.set_cons_succ, i64_w, i32_w]
                                                  rfl
                                                refine one_ (i := 8) (N := some 77) #[true, true, true, true, true, true, true, true, true, false] rfl rfl (one_of HT_.out (by kernel_rfl)) (by decide) (fun K hK => ?_)
                                                refine Kd.R_append_rows_step (Kd.int .i64) (w0 := w) w.heap.size (by rfl) (.tmp 72) (.tmp 76) 32 3 (.int .i64 0) 8 rfl Try.underlying32 info3 rfl (by decide) (by omega) v175 y174 y177 _ _ _ (fun k_ => some k_ ≠ (.slice (some ad164) x8_4.length co26 : Value).ownBlock) (fun _ => False) rfl rfl ?aO ?aR (fun _ _ h => h) (fun _ h => h.elim) ?aF ?aB ?aS ?aL ?_
                                                (case aR => repeat (first | exact (by repeat (first | (with_reducible exact HR180.out) | (with_reducible refine Kd.C_alloc ?_ _) | (with_reducible refine Kd.C_drewN ?_ _) | (with_reducible refine Kd.C_drew ?_) | exact HR180.out)) | (with_reducible refine Kd.C_alloc ?_ _) | (with_reducible refine Kd.C_drewN ?_ _) | (with_reducible refine Kd.C_drew ?_)))
                                                (case aB => exact (by repeat (first | (with_reducible first | exact HB.out | apply below_alloc | apply pw_below_drewN | apply below_drew1 | refine below_set ?_ GE165.out) | exact HB.out)))
                                                (case aF => exact (fun k_ hk => Kd.fresh' (Kd.R_lt (by (with_reducible repeat (first | apply Kd.R_alloc | apply Kd.R_drewN | apply Kd.R_drew)); exact HO_8.out)) k_ hk))
                                                (case aO => exact (by (with_reducible repeat (first | apply Kd.R_alloc | apply Kd.R_drewN | apply Kd.R_drew)); exact HO176.out))
                                                (case aS => exact (below_size (by repeat (first | (with_reducible first | exact HB.out | apply below_alloc | apply pw_below_drewN | apply below_drew1 | refine below_set ?_ GE165.out) | exact HB.out))))
                                                (case aL => have := LMc25.out; omega)
                                                intro v182 w34 ho hb hg hat
                                                rw [← Ny181.out] at ho
                                                have n0_ := Aside0.mk (Kd.R_after (ok := (fun _ => True)) (by (with_reducible repeat (first | apply Kd.R_alloc | apply Kd.R_drewN | apply Kd.R_drew)); exact HO_8.out) hg hat)
                                                have n1_ := Aside0.mk (blk_grown (g := gb165) (o := .cells #[.int .i64 2, .int .i64 0, .int .u64 0] 34 (0, 0)) (by (with_reducible repeat (first | refine blk_drewN ?_ _ | refine blk_drew ?_ | refine blk_alloc ?_ _)); exact BK165.out) hg (Kd.R_ne HO176.out BK165.out (by decide)))
                                                have n2_ := Aside0.mk (Kd.R_over' (by (with_reducible repeat (first | apply Kd.R_alloc | apply Kd.R_drewN | apply Kd.R_drew)); exact HO169.out) (Kd.R_typed (by (with_reducible repeat (first | apply Kd.R_alloc | apply Kd.R_drewN | apply Kd.R_drew)); exact HO176.out)) (by decide) hg)
                                                have n3_ := Aside0.mk (hb)
                                                have n4_ := Aside0.mk ((show Kd.C (Kd.int .i64) w34 (some ad164) y170.length y170 from by rw [Ny170.out]; exact Kd.C_take (m := ((ji14) : Int).toNat) ((Kd.R_reads' (Kd.R_after (ok := (fun _ => True)) (by (with_reducible repeat (first | apply Kd.R_alloc | apply Kd.R_drewN | apply Kd.R_drew)); exact HO_8.out) hg hat)).2.2) KL31.out))
                                                have n5_ := Aside0.mk ((show Kd.C (Kd.int .i64) w34 A32 y177.length y177 from by rw [Ny177.out, KA32.out]; exact Kd.C_drop (m := ((ji22) : Int).toNat) (c := co26) ((Kd.R_reads' (Kd.R_after (ok := (fun _ => True)) (by (with_reducible repeat (first | apply Kd.R_alloc | apply Kd.R_drewN | apply Kd.R_drew)); exact HO_8.out) hg hat)).2.2) KL32.out ((Kd.R_reads' (Kd.R_after (ok := (fun _ => True)) (by (with_reducible repeat (first | apply Kd.R_alloc | apply Kd.R_drewN | apply Kd.R_drew)); exact HO_8.out) hg hat)).2.1)))
                                                have n6_ := Aside0.mk (ho)
                                                clear HO_8
                                                clear BK165
                                                clear HO169
                                                clear HB
                                                clear HR173
                                                clear HR180
                                                clear HO176
                                                have HO_8 := n0_
                                                have BK165 := n1_
                                                have HO169 := n2_
                                                have HB := n3_
                                                have HR173 := n4_
                                                have HR180 := n5_
                                                have HO183 := n6_
                                                clear n0_ n1_ n2_ n3_ n4_ n5_ n6_
                                                clear ho hb hg hat
                                                refine hK.out _ _ trivial (fun hHeld => ?_)
                                                clear hK K
                                                refine norm_ (a' := ?_) ?_ ?_
                                                rotate_left
                                                · show Act.put _ (some 77) _ = _
                                                  simp only [Act.put, List.setIfInBounds_toArray, List.set_cons_zero, List.set_cons_succ, i64_w, i32_w]
                                                  rfl
                                                refine pure_ (i := 9) (N := some 8) (v := ?_) (a' := ?_) #[true, true, true, true, true, true, true, true, true, true] rfl rfl (any_of HT_.out (by kernel_rfl)) (fun _ _ _ h => h) (Or.inl ⟨by rfl, ?_⟩) ?_ ?_
                                                rotate_left
                                                · intro w'
                                                  go_simp
                                                  with_reducible rfl
                                                rotate_left
                                                · simp only [Act.put, List.setIfInBounds_toArray, List.set_cons_zero, List.set_cons_succ, i64_w, i32_w]
                                                  rfl
                                                refine done_ (done_of HT_.out (by kernel_rfl)) ?_
                                                try go_wp2
                                                go_roundg k4
                                                case measure => have := HK1.out; have := HJ3.out; have := HK3.out; have := HK4.out; omega
                                                case rel => exact ⟨(y167), (y181), (IntKind.u64.wrap (Int.tdiv x10_4 (IntKind.u64.wrap ((x8_4.length : Int))))), (by first | rfl | (simp; done) | (simp [*]; done)), H', ⟨by have := HK1.out; have := HJ3.out; have := HK3.out; have := HK4.out; omega⟩, ⟨by (with_reducible repeat (first | apply Kd.R_alloc | apply Kd.R_drewN | apply Kd.R_drew)); exact Kd.R_mono HO169.out (fun _ hk => trivial)⟩, ⟨by (with_reducible repeat (first | apply Kd.R_alloc | apply Kd.R_drewN | apply Kd.R_drew)); exact Kd.R_mono HO183.out (fun _ hk => trivial)⟩, ⟨by repeat (first | (with_reducible first | exact HB.out | apply below_alloc | apply pw_below_drewN | apply below_drew1 | refine below_set ?_ GE165.out) | exact HB.out)⟩⟩
                                              · rw [if_neg c25] at H
                                                exact absurd H (by simp)
                                            · rw [if_neg c24] at H
                                              exact absurd H (by simp)
                                          · rw [if_neg c23] at H
                                            exact absurd H (by simp)
                                        · rw [if_neg c21] at H
                                          exact absurd H (by simp)
                                      · rw [if_neg c20] at H
                                        exact absurd H (by simp)
                                    · rw [if_neg c18] at H
                                      exact absurd H (by simp)
                                  · rw [if_neg c17] at H
                                    have c17b0 : ((rd x8_4 (ji14)) == (wrap64 (1 + t155))) = false := beq_eq_false_iff_ne.mpr c17
                                    have c17b1 : ((rd x8_4 (ji14)) != (wrap64 (1 + t155))) = true := bne_iff_ne.mpr c17
                                    by_cases c35 : x6_4.length < 5864062014805
                                    · rw [if_pos c35] at H
                                      have LMc35 := Aside0.mk c35
                                      clear c35
                                      obtain ⟨y184, hy184⟩ : ∃ y_ : List (S34), y_ = (x6_4 ++ [(⟨1, rd x8_4 (ji14), 0⟩ : S34)]) := ⟨_, rfl⟩
                                      replace H : (if (ji14) ≤ (x8_4.length : Int) then ((some (x8_4.take ((ji14) : Int).toNat : List Int)).bind fun y187 => (if ([] : List Int).length + y187.length < 17592186044416 then ((some (([] : List Int) ++ y187 : List Int)).bind fun y191 => (if 0 ≤ (wrap64 ((ji14) + 1)) then (if (wrap64 ((ji14) + 1)) ≤ (x8_4.length : Int) then ((some (x8_4.drop ((wrap64 ((ji14) + 1)) : Int).toNat : List Int)).bind fun y194 => (if y191.length + y194.length < 17592186044416 then (distafflaw27_FairShuffled.l2 k4 l1 (wrap64 (1 + t155)) y184 x7_1 (y191 ++ y194) (IntKind.u64.wrap (Int.tdiv x10_4 (IntKind.u64.wrap ((x8_4.length : Int)))))) else (none))) else (none)) else (none))) else (none))) else (none)) = some r := by first | (rw [hy184]; with_reducible exact H) | (have H2_ := (Option.bind_some _ _).symm.trans H; rw [hy184]; with_reducible exact H2_) | (have H2_ := (Option.bind_some _ _).symm.trans H; with_reducible exact H2_) | with_reducible exact H | (rw [hy184]; exact H) | exact H
                                      have Ny184 := Aside0.mk hy184
                                      clear hy184
                                      have c36b0 := eq_true (of_decide_eq_true (by first | (with_reducible assumption) | assumption) : 0 ≤ (ji14))
                                      by_cases c37 : (ji14) ≤ (x8_4.length : Int)
                                      · rw [if_pos c37] at H
                                        have c37b0 := eq_true c37
                                        have c37b1 : decide ((ji14) ≤ (x8_4.length : Int)) = true := decide_eq_true c37
                                        clear c37
                                        obtain ⟨y187, hy187⟩ : ∃ y_ : List Int, y_ = (x8_4.take ((ji14) : Int).toNat) := ⟨_, rfl⟩
                                        replace H : (if ([] : List Int).length + y187.length < 17592186044416 then ((some (([] : List Int) ++ y187 : List Int)).bind fun y191 => (if 0 ≤ (wrap64 ((ji14) + 1)) then (if (wrap64 ((ji14) + 1)) ≤ (x8_4.length : Int) then ((some (x8_4.drop ((wrap64 ((ji14) + 1)) : Int).toNat : List Int)).bind fun y194 => (if y191.length + y194.length < 17592186044416 then (distafflaw27_FairShuffled.l2 k4 l1 (wrap64 (1 + t155)) y184 x7_1 (y191 ++ y194) (IntKind.u64.wrap (Int.tdiv x10_4 (IntKind.u64.wrap ((x8_4.length : Int)))))) else (none))) else (none)) else (none))) else (none)) = some r := by first | (rw [hy187]; with_reducible exact H) | (have H2_ := (Option.bind_some _ _).symm.trans H; rw [hy187]; with_reducible exact H2_) | (have H2_ := (Option.bind_some _ _).symm.trans H; with_reducible exact H2_) | with_reducible exact H | (rw [hy187]; exact H) | exact H
                                        have Ny187 := Aside0.mk hy187
                                        clear hy187
                                        by_cases c38 : ([] : List Int).length + y187.length < 17592186044416
                                        · rw [if_pos c38] at H
                                          have LMc38 := Aside0.mk c38
                                          clear c38
                                          obtain ⟨y191, hy191⟩ : ∃ y_ : List Int, y_ = (([] : List Int) ++ y187) := ⟨_, rfl⟩
                                          replace H : (if 0 ≤ (wrap64 ((ji14) + 1)) then (if (wrap64 ((ji14) + 1)) ≤ (x8_4.length : Int) then ((some (x8_4.drop ((wrap64 ((ji14) + 1)) : Int).toNat : List Int)).bind fun y194 => (if y191.length + y194.length < 17592186044416 then (distafflaw27_FairShuffled.l2 k4 l1 (wrap64 (1 + t155)) y184 x7_1 (y191 ++ y194) (IntKind.u64.wrap (Int.tdiv x10_4 (IntKind.u64.wrap ((x8_4.length : Int)))))) else (none))) else (none)) else (none)) = some r := by first | (rw [hy191]; with_reducible exact H) | (have H2_ := (Option.bind_some _ _).symm.trans H; rw [hy191]; with_reducible exact H2_) | (have H2_ := (Option.bind_some _ _).symm.trans H; with_reducible exact H2_) | with_reducible exact H | (rw [hy191]; exact H) | exact H
                                          have Ny191 := Aside0.mk hy191
                                          clear hy191
                                          obtain ⟨ji39, hji39⟩ : ∃ j_ : Int, (wrap64 ((ji14) + 1)) = j_ := ⟨_, rfl⟩
                                          replace H : (if 0 ≤ (ji39) then (if (ji39) ≤ (x8_4.length : Int) then ((some (x8_4.drop ((ji39) : Int).toNat : List Int)).bind fun y194 => (if y191.length + y194.length < 17592186044416 then (distafflaw27_FairShuffled.l2 k4 l1 (wrap64 (1 + t155)) y184 x7_1 (y191 ++ y194) (IntKind.u64.wrap (Int.tdiv x10_4 (IntKind.u64.wrap ((x8_4.length : Int)))))) else (none))) else (none)) else (none)) = some r := by first | (rw [hji39] at H; exact H) | (simp only [hji39] at H ⊢; exact H)
                                          have hji39w : (IntKind.i64.wrap ((ji14) + 1)) = ji39 := (i64_w _).trans hji39
                                          by_cases c40 : 0 ≤ (ji39)
                                          · rw [if_pos c40] at H
                                            have c40b0 := eq_true c40
                                            have c40b1 : decide (0 ≤ (ji39)) = true := decide_eq_true c40
                                            clear c40
                                            by_cases c41 : (ji39) ≤ (x8_4.length : Int)
                                            · rw [if_pos c41] at H
                                              have c41b0 := eq_true c41
                                              have c41b1 : decide ((ji39) ≤ (x8_4.length : Int)) = true := decide_eq_true c41
                                              clear c41
                                              obtain ⟨y194, hy194⟩ : ∃ y_ : List Int, y_ = (x8_4.drop ((ji39) : Int).toNat) := ⟨_, rfl⟩
                                              replace H : (if y191.length + y194.length < 17592186044416 then (distafflaw27_FairShuffled.l2 k4 l1 (wrap64 (1 + t155)) y184 x7_1 (y191 ++ y194) (IntKind.u64.wrap (Int.tdiv x10_4 (IntKind.u64.wrap ((x8_4.length : Int)))))) else (none)) = some r := by first | (rw [hy194]; with_reducible exact H) | (have H2_ := (Option.bind_some _ _).symm.trans H; rw [hy194]; with_reducible exact H2_) | (have H2_ := (Option.bind_some _ _).symm.trans H; with_reducible exact H2_) | with_reducible exact H | (rw [hy194]; exact H) | exact H
                                              have Ny194 := Aside0.mk hy194
                                              clear hy194
                                              by_cases c42 : y191.length + y194.length < 17592186044416
                                              · rw [if_pos c42] at H
                                                have LMc42 := Aside0.mk c42
                                                clear c42
                                                obtain ⟨y198, hy198⟩ : ∃ y_ : List Int, y_ = (y191 ++ y194) := ⟨_, rfl⟩
                                                replace H : (distafflaw27_FairShuffled.l2 k4 l1 (wrap64 (1 + t155)) y184 x7_1 y198 (IntKind.u64.wrap (Int.tdiv x10_4 (IntKind.u64.wrap ((x8_4.length : Int)))))) = some r := by first | (rw [hy198]; with_reducible exact H) | (have H2_ := (Option.bind_some _ _).symm.trans H; rw [hy198]; with_reducible exact H2_) | (have H2_ := (Option.bind_some _ _).symm.trans H; with_reducible exact H2_) | with_reducible exact H | (rw [hy198]; exact H) | exact H
                                                have Ny198 := Aside0.mk hy198
                                                clear hy198
                                                have H' := Aside0.mk H
                                                clear H
                                                obtain ⟨Ao43, co43, eo43⟩ := Kd.R_slice HO_8.out
                                                subst eo43
                                                have p164 : 0 ≤ ((ji14) : Int) := of_decide_eq_true (by first | (with_reducible assumption) | assumption)
                                                have q164 : (ji14) < (x8_4.length : Int) := of_decide_eq_true (by first | (with_reducible assumption) | assumption)
                                                obtain ⟨ad164, e164, hx164_0⟩ := Kd.at_int (Kd.R_reads' HO_8.out).2.2 (ji14) p164 q164
                                                cases e164
                                                replace p164 := eq_true p164
                                                replace q164 := eq_true q164
                                                go_upto_region 15 with fail
                                                go_upto_region 16 with ((with_reducible refine gate_dst (N := 12) rfl ?_); refine box_event ?hg (N := 12) ?hd (cs := #[.int .i64 0, .int .i64 0, .int .u64 0]) (t := 34) ?hr ?_; (case hd => rfl); (case hg => rfl); (case hr => first | (go_simp; done) | (go_simp; rfl)); intro gb165 hg w44 hbox hb; have n0_ := Aside0.mk (Kd.R_below (Kd.R_elderB (by (with_reducible repeat (first | apply Kd.R_alloc | apply Kd.R_drewN | apply Kd.R_drew)); exact HO_6.out) gb165 (Nat.le_of_eq hg.symm)) hb); have n1_ := Aside0.mk (Kd.R_below (by (with_reducible repeat (first | apply Kd.R_alloc | apply Kd.R_drewN | apply Kd.R_drew)); exact HO_8.out) hb); have n2_ := Aside0.mk (below_step (by repeat (first | (with_reducible first | exact HB.out | apply below_alloc | apply pw_below_drewN | apply below_drew1) | exact HB.out)) hb); have n3_ := Aside0.mk (hbox); have n4_ := Aside0.mk ((by rw [hg]; exact (below_size (by repeat (first | (with_reducible first | exact HB.out | apply below_alloc | apply pw_below_drewN | apply below_drew1) | exact HB.out))) : w.heap.size ≤ gb165)); have n5_ := Aside0.mk ((by rw [hg]; exact (below_size (by repeat (first | (with_reducible first | exact HB.out | apply below_alloc | apply pw_below_drewN | apply below_drew1) | exact HB.out))) : w.heap.size ≤ gb165)); clear HO_6; clear HO_8; clear HB; have HO_6 := n0_; have HO_8 := n1_; have HB := n2_; have BK165 := n3_; have GW165 := n4_; have GE165 := n5_; clear n0_ n1_ n2_ n3_ n4_ n5_; clear hb hbox hg; have hcz45_0 : w44.cell? ⟨gb165, 0, none⟩ = some (.int .i64 0) := (blk_cell BK165.out 0).trans rfl; have hcz45_1 : w44.cell? ⟨gb165, 1, none⟩ = some (.int .i64 0) := (blk_cell BK165.out 1).trans rfl; have hcz45_2 : w44.cell? ⟨gb165, 2, none⟩ = some (.int .u64 0) := (blk_cell BK165.out 2).trans rfl; have hfz45_0 := blk_frozen BK165.out 0; have hfz45_1 := blk_frozen BK165.out 1; have hfz45_2 := blk_frozen BK165.out 2; have p166 : 0 ≤ ((ji14) : Int) := of_decide_eq_true (by first | (with_reducible assumption) | assumption); have q166 : (ji14) < (x8_4.length : Int) := of_decide_eq_true (by first | (with_reducible assumption) | assumption); obtain ⟨ad166, e166, hx166_0⟩ := Kd.at_int (Kd.R_reads' HO_8.out).2.2 (ji14) p166 q166; obtain rfl : ad164 = ad166 := (by injection e166); have hn166_0 : ad164.block ≠ gb165 := Kd.own_blk (Kd.R_ne HO_8.out BK165.out (by decide)); have hn166_1 : ad164.block ≠ gb165 := Kd.own_blk (Kd.R_ne HO_8.out BK165.out (by decide)); have hn166_2 : ad164.block ≠ gb165 := Kd.own_blk (Kd.R_ne HO_8.out BK165.out (by decide)); replace hx166_0 := (cell_far (p := ⟨gb165, 0, none⟩) (by first | (rw [add_block]; exact hn166_0) | (show (Addr.add _ _).block ≠ _; rw [add_block]; exact hn166_0) | exact hn166_0) (.int .i64 1)).trans hx166_0; replace hx166_0 := (cell_far (p := ⟨gb165, 1, none⟩) (by first | (rw [add_block]; exact hn166_1) | (show (Addr.add _ _).block ≠ _; rw [add_block]; exact hn166_1) | exact hn166_1) (.int .i64 (rd x8_4 (ji14)))).trans hx166_0; replace hx166_0 := (cell_far (p := ⟨gb165, 2, none⟩) (by first | (rw [add_block]; exact hn166_2) | (show (Addr.add _ _).block ≠ _; rw [add_block]; exact hn166_2) | exact hn166_2) (.int .u64 0)).trans hx166_0; clear hn166_0; clear hn166_1; clear hn166_2; replace p166 := eq_true p166; replace q166 := eq_true q166)
                                                go_upto_region 18 with fail
                                                obtain ⟨W8, hW8⟩ : ∃ W8 : World, W8 = (((w44.setCell ⟨gb165, 0, none⟩ (.int .i64 1)).setCell ⟨gb165, 1, none⟩ (.int .i64 (rd x8_4 ji14))).setCell ⟨gb165, 2, none⟩ (.int .u64 0)) := ⟨_, rfl⟩
                                                rw [← hW8]
                                                have BK9 : Aside0 (W8.heap[gb165]? = some (.cells #[.int .i64 1, .int .i64 (rd x8_4 ji14), .int .u64 0] 34 (0, 0))) := ⟨by rw [hW8]; exact blk_put (cs := #[.int .i64 1, .int .i64 (rd x8_4 ji14), .int .u64 0]) (blk_put (cs := #[.int .i64 1, .int .i64 0, .int .u64 0]) (blk_put (cs := #[.int .i64 0, .int .i64 0, .int .u64 0]) BK165.out 0 _ rfl) 1 _ rfl) 2 _ rfl⟩
                                                have HO6' : Aside0 (k34.R 34 W8 w.heap.size (fun k_ => k_ ≠ gb165) u6 x6_4) := ⟨by rw [hW8]; exact Kd.R_far (p := ⟨gb165, 2, none⟩) (Kd.R_far (p := ⟨gb165, 1, none⟩) (Kd.R_far (p := ⟨gb165, 0, none⟩) (Kd.R_mono HO_6.out (fun _ hk => hk.2)) (fun _ hk => hk) _) (fun _ hk => hk) _) (fun _ hk => hk) _⟩
                                                have HO8' : Aside0 ((Kd.int .i64).R 3 W8 w.heap.size (fun k_ => k_ ≠ gb165) (.slice (some ad164) x8_4.length co43) x8_4) := ⟨by rw [hW8]; exact Kd.R_far (p := ⟨gb165, 2, none⟩) (Kd.R_far (p := ⟨gb165, 1, none⟩) (Kd.R_far (p := ⟨gb165, 0, none⟩) (Kd.R_mono (Kd.R_types HO_8.out BK165.out (by decide)) (fun _ hk => hk.2)) (fun _ hk => hk) _) (fun _ hk => hk) _) (fun _ hk => hk) _⟩
                                                have HB' : Aside0 (Below w.heap.size w W8) := ⟨by rw [hW8]; exact below_set (below_set (below_set (HB.out) GE165.out) GE165.out) GE165.out⟩
                                                clear hx166_0 hcz45_0 hcz45_1 hcz45_2 hfz45_0 hfz45_1 hfz45_2
                                                clear hW8 HO_6 HO_8 HB BK165
                                                have HB := HB'
                                                clear HB'
                                                have hfr0 := blk_frozen BK9.out 0
                                                have hd0 : W8.cell? ⟨gb165, 0, none⟩ = some (.int .i64 1) := (blk_cell BK9.out 0).trans rfl
                                                have hd1 : W8.cell? ⟨gb165, 1, none⟩ = some (.int .i64 (rd x8_4 ji14)) := (blk_cell BK9.out 1).trans rfl
                                                have hd2 : W8.cell? ⟨gb165, 2, none⟩ = some (.int .u64 0) := (blk_cell BK9.out 2).trans rfl
                                                try go_wp2_with ((with_reducible refine gate_builtin (b := .append) (xs := #[.tmp 65, .tmp 67]) rfl ?_); at_builtin; refine Kd.R_append k34 (w0 := w) w.heap.size rfl (.tmp 65) (.tmp 67) 22 34 (.agg #[(.int .i64 0), (.int .i64 0), (.int .u64 0)]) 24 rfl Try.underlying22 info34 rfl (by decide) (by omega) u6 x6_4 (⟨1, rd x8_4 ji14, 0⟩ : S34) [.int .i64 1, .int .i64 (rd x8_4 ji14), .int .u64 0] (fun k_ => k_ ≠ gb165) (fun _ => False) rfl (by first | (go_simp; done) | (go_simp; rfl)) ?aP (fun _ hk => hk.elim) ?aF ?aO ?aB ?aS ?aL ?_; (case aP => exact k34_mkM _ _ _ (⟨1, rd x8_4 ji14, 0⟩ : S34)); (case aB => exact (by repeat (first | (with_reducible first | exact HB.out | apply below_alloc | apply pw_below_drewN | apply below_drew1) | exact HB.out))); (case aF => exact (fun k_ hk => Kd.freshB (g := gb165) (o := .cells #[.int .i64 1, .int .i64 (rd x8_4 ji14), .int .u64 0] 34 (0, 0)) (by (with_reducible repeat (first | refine blk_drewN ?_ _ | refine blk_drew ?_ | refine blk_alloc ?_ _)); exact BK9.out) k_ hk)); (case aO => exact (by (with_reducible repeat (first | apply Kd.R_alloc | apply Kd.R_drewN | apply Kd.R_drew)); exact HO6'.out)); (case aS => exact (below_size (by repeat (first | (with_reducible first | exact HB.out | apply below_alloc | apply pw_below_drewN | apply below_drew1) | exact HB.out)))); (case aL => have := LMc35.out; omega); intro v185 w46 ho hb hg hat; rw [← Ny184.out] at ho; have n0_ := Aside0.mk (Kd.R_mono (ok' := fun _ => True) (Kd.R_over' (by (with_reducible repeat (first | apply Kd.R_alloc | apply Kd.R_drewN | apply Kd.R_drew)); exact HO8'.out) (Kd.R_typed (by (with_reducible repeat (first | apply Kd.R_alloc | apply Kd.R_drewN | apply Kd.R_drew)); exact HO6'.out)) (by decide) hg) (fun _ _ => trivial)); have n1_ := Aside0.mk (blk_grown (g := gb165) (o := .cells #[.int .i64 1, .int .i64 (rd x8_4 ji14), .int .u64 0] 34 (0, 0)) (by (with_reducible repeat (first | refine blk_drewN ?_ _ | refine blk_drew ?_ | refine blk_alloc ?_ _)); exact BK9.out) hg (Kd.R_away HO6'.out (fun _ hk => hk))); have n2_ := Aside0.mk (hb); have n3_ := Aside0.mk (ho); clear HO8' BK9 HB HO6'; have HO_8 := n0_; have BK165 := n1_; have HB := n2_; have HO186 := n3_; clear n0_ n1_ n2_ n3_; clear ho hb hg hat)
                                                clear hd0 hd1 hd2 hfr0
                                                have n0_ := Aside0.mk (Kd.R_drew HO_8.out)
                                                have n1_ := Aside0.mk (Kd.R_drew HO186.out)
                                                have n2_ := Aside0.mk (blk_drew BK165.out)
                                                have n3_ := Aside0.mk (below_drew1 HB.out)
                                                clear HO_8
                                                clear HO186
                                                clear BK165
                                                clear HB
                                                have HO_8 := n0_
                                                have HO186 := n1_
                                                have BK165 := n2_
                                                have HB := n3_
                                                clear n0_ n1_ n2_ n3_
                                                have q48 : ((ji14) : Int) ≤ ((x8_4.length : Int) : Int) := of_decide_eq_true (by first | (with_reducible assumption) | assumption)
                                                obtain ⟨i048, hi048, _, hsz48, _⟩ := info_parts info3
                                                have hroom48 : x8_4.length ≤ co43 := (Kd.R_reads' HO_8.out).2.1
                                                have hC48 : Kd.C (Kd.int .i64) _ (some ad164) x8_4.length x8_4 := (Kd.R_reads' HO_8.out).2.2
                                                have hcut48 := cut_to (P := Try.prog) 32 3 .i64 Try.underlying32 hi048 (some ad164) x8_4.length co43 (ji14) (of_decide_eq_true (by first | (with_reducible assumption) | assumption)) q48 hroom48
                                                have hr48 := Kd.C_take (m := ((ji14) : Int).toNat) hC48 (by omega)
                                                have hy48 : y187.length = ((ji14) : Int).toNat := (by rw [Ny187.out, List.length_take]; omega)
                                                rw [← Ny187.out] at hr48
                                                rw [← hy48] at hcut48
                                                have HR190 := Aside0.mk hr48
                                                have HC190 := Aside0.mk (show y187.length ≤ co43 from by omega)
                                                clear hr48 hC48 hroom48 hi048 hsz48
                                                have KY48 := Aside0.mk hy48
                                                clear hy48
                                                have KL48 := Aside0.mk (show ((ji14) : Int).toNat ≤ x8_4.length from by omega)
                                                replace q48 := eq_true q48
                                                have q49 : ((ji39) : Int) ≤ ((x8_4.length : Int) : Int) := of_decide_eq_true (by first | (with_reducible assumption) | assumption)
                                                obtain ⟨i049, hi049, _, hsz49, _⟩ := info_parts info3
                                                have hroom49 : x8_4.length ≤ co43 := (Kd.R_reads' HO_8.out).2.1
                                                have hC49 : Kd.C (Kd.int .i64) _ (some ad164) x8_4.length x8_4 := (Kd.R_reads' HO_8.out).2.2
                                                have q049 : (0 : Int) ≤ ((ji39) : Int) := of_decide_eq_true (by first | (with_reducible assumption) | assumption)
                                                have hcut49 := cut_from (P := Try.prog) 32 3 .i64 Try.underlying32 hi049 1 hsz49 (some ad164) x8_4.length co43 (ji39) q049 q49
                                                have hr49 := Kd.C_drop (m := ((ji39) : Int).toNat) (c := co43) hC49 (by omega) hroom49
                                                obtain ⟨A49, hA49⟩ : ∃ A1, A1 = (if co43 = ((ji39) : Int).toNat then (some ad164) else ((some ad164) : Option Addr).map (·.add (((ji39) : Int).toNat * 1))) := ⟨_, rfl⟩
                                                obtain ⟨c49, hc49⟩ : ∃ c1, c1 = co43 - ((ji39) : Int).toNat := ⟨_, rfl⟩
                                                have hy49 : y194.length = x8_4.length - ((ji39) : Int).toNat := (by rw [Ny194.out, List.length_drop] <;> omega)
                                                rw [show (x8_4).drop ((ji39) : Int).toNat = y194 from Ny194.out.symm] at hr49
                                                replace hr49 : Kd.C (Kd.int .i64) _ A49 y194.length y194 := (by rw [hA49]; exact hr49)
                                                rw [← hy49, ← hA49, ← hc49] at hcut49
                                                have HR197 := Aside0.mk hr49
                                                have HC197 := Aside0.mk (show y194.length ≤ c49 from by rw [hy49, hc49]; exact Nat.sub_le_sub_right hroom49 _)
                                                clear hr49 hC49 hroom49 hi049 hsz49 hc49
                                                have KY49 := Aside0.mk hy49
                                                have KA49 := Aside0.mk hA49
                                                clear hy49 hA49
                                                have KL49 := Aside0.mk (show ((ji39) : Int).toNat ≤ x8_4.length from by omega)
                                                replace q49 := eq_true q49
                                                refine start_ (n := 10) (S := fun w' => True) (ds := []) #[false, false, false, false, false, false, false, false, false, false] (by kernel_rfl) rfl rfl trivial (fun hHeld => ?_); refine with_tabW distafflaw27_FairShuffled.tab19 distafflaw27_FairShuffled.bits19 (fun HT_ HW_ => ?_)
                                                generalize w46.drew = w47 at HO_8 HO186 BK165 HB HR190 HR197 hHeld ⊢
                                                refine pure_ (i := 0) (N := some 69) (v := ?_) (a' := ?_) #[true, false, false, false, false, false, false, false, false, false] rfl rfl (any_of HT_.out (by kernel_rfl)) (fun _ _ _ h => h) (Or.inl ⟨by rfl, ?_⟩) ?_ ?_
                                                rotate_left
                                                · intro w'
                                                  go_simp
                                                  with_reducible rfl
                                                rotate_left
                                                · simp only [Act.put, List.setIfInBounds_toArray, List.set_cons_zero, List.set_cons_succ, i64_w, i32_w]
                                                  rfl
                                                refine pure_ (i := 1) (N := some 70) (v := ?_) (a' := ?_) #[true, true, false, false, false, false, false, false, false, false] rfl rfl (any_of HT_.out (by kernel_rfl)) (fun _ _ _ h => h) (Or.inl ⟨by rfl, ?_⟩) ?_ ?_
                                                rotate_left
                                                · intro w'
                                                  go_simp
                                                  with_reducible rfl
                                                rotate_left
                                                · simp only [Act.put, List.setIfInBounds_toArray, List.set_cons_zero, List.set_cons_succ, i64_w, i32_w]
                                                  rfl
                                                refine pure_ (i := 2) (N := some 71) (v := ?_) (a' := ?_) #[true, true, true, false, false, false, false, false, false, false] rfl rfl (any_of HT_.out (by kernel_rfl)) (fun _ _ _ h => h) (Or.inl ⟨by rfl, ?_⟩) ?_ ?_
                                                rotate_left
                                                · intro w'
                                                  go_simp
                                                  with_reducible rfl
                                                rotate_left
                                                · simp only [Act.put, List.setIfInBounds_toArray, List.set_cons_zero, List.set_cons_succ, i64_w, i32_w]
                                                  rfl
                                                refine pure_ (i := 4) (N := some 73) (v := ?_) (a' := ?_) #[true, true, true, false, true, false, false, false, false, false] rfl rfl (any_of HT_.out (by kernel_rfl)) (fun _ _ _ h => h) (Or.inl ⟨by rfl, ?_⟩) ?_ ?_
                                                rotate_left
                                                · intro w'
                                                  go_simp
                                                  with_reducible rfl
                                                rotate_left
                                                · simp only [Act.put, List.setIfInBounds_toArray, List.set_cons_zero, List.set_cons_succ, i64_w, i32_w]
                                                  rfl
                                                refine pure_ (i := 5) (N := some 74) (v := ?_) (a' := ?_) #[true, true, true, false, true, true, false, false, false, false] rfl rfl (any_of HT_.out (by kernel_rfl)) (fun _ _ _ h => h) (Or.inl ⟨by rfl, ?_⟩) ?_ ?_
                                                rotate_left
                                                · intro w'
                                                  go_simp
                                                  with_reducible rfl
                                                rotate_left
                                                · simp only [Act.put, List.setIfInBounds_toArray, List.set_cons_zero, List.set_cons_succ, i64_w, i32_w]
                                                  rfl
                                                refine pure_ (i := 6) (N := some 75) (v := ?_) (a' := ?_) #[true, true, true, false, true, true, true, false, false, false] rfl rfl (any_of HT_.out (by kernel_rfl)) (fun _ _ _ h => h) (Or.inl ⟨by rfl, ?_⟩) ?_ ?_
                                                rotate_left
                                                · intro w'
                                                  go_simp
                                                  with_reducible rfl
                                                rotate_left
                                                · simp only [Act.put, List.setIfInBounds_toArray, List.set_cons_zero, List.set_cons_succ, i64_w, i32_w]
                                                  rfl
                                                refine pure_ (i := 7) (N := some 76) (v := ?_) (a' := ?_) #[true, true, true, false, true, true, true, true, false, false] rfl rfl (any_of HT_.out (by kernel_rfl)) (fun _ _ _ h => h) (Or.inl ⟨by rfl, ?_⟩) ?_ ?_
                                                rotate_left
                                                · intro w'
                                                  go_simp
                                                  with_reducible rfl
                                                rotate_left
                                                · simp only [Act.put, List.setIfInBounds_toArray, List.set_cons_zero, List.set_cons_succ, i64_w, i32_w]
                                                  rfl
                                                refine one_ (i := 3) (N := some 72) #[true, true, true, true, true, true, true, true, false, false] rfl rfl (one_of HT_.out (by kernel_rfl)) (by decide) (fun K hK => ?_)
                                                refine Kd.R_append_rows_step (Kd.int .i64) (w0 := w) w.heap.size (by rfl) (.const (.slice none 0 0)) (.tmp 71) 32 3 (.int .i64 0) 8 rfl Try.underlying32 info3 rfl (by decide) (by omega) (.slice none 0 0) ([] : List Int) y187 _ _ _ (fun k_ => some k_ ≠ (.slice (some ad164) x8_4.length co43 : Value).ownBlock) (fun _ => False) rfl rfl ?aO ?aR (fun _ _ h => h) (fun _ h => h.elim) ?aF ?aB ?aS ?aL ?_
                                                (case aR => repeat (first | exact (by repeat (first | (with_reducible exact HR190.out) | (with_reducible refine Kd.C_alloc ?_ _) | (with_reducible refine Kd.C_drewN ?_ _) | (with_reducible refine Kd.C_drew ?_) | exact HR190.out)) | (with_reducible refine Kd.C_alloc ?_ _) | (with_reducible refine Kd.C_drewN ?_ _) | (with_reducible refine Kd.C_drew ?_)))
                                                (case aB => exact (by repeat (first | (with_reducible first | exact HB.out | apply below_alloc | apply pw_below_drewN | apply below_drew1 | refine below_set ?_ GE165.out) | exact HB.out)))
                                                (case aF => exact (fun k_ hk => Kd.fresh' (Kd.R_lt (by (with_reducible repeat (first | apply Kd.R_alloc | apply Kd.R_drewN | apply Kd.R_drew)); exact HO_8.out)) k_ hk))
                                                (case aO => exact ((Kd.R_nil _ _ _ _ (fun k_ => some k_ ≠ (.slice (some ad164) x8_4.length co43 : Value).ownBlock))))
                                                (case aS => exact (below_size (by repeat (first | (with_reducible first | exact HB.out | apply below_alloc | apply pw_below_drewN | apply below_drew1 | refine below_set ?_ GE165.out) | exact HB.out))))
                                                (case aL => have := LMc38.out; omega)
                                                intro v192 w50 ho hb hg hat
                                                rw [← Ny191.out] at ho
                                                have n0_ := Aside0.mk (Kd.R_after (Kd.R_apart_nil (by (with_reducible repeat (first | apply Kd.R_alloc | apply Kd.R_drewN | apply Kd.R_drew)); exact HO_8.out)) hg hat)
                                                have n1_ := Aside0.mk (blk_grown (g := gb165) (o := .cells #[.int .i64 1, .int .i64 (rd x8_4 (ji14)), .int .u64 0] 34 (0, 0)) (by (with_reducible repeat (first | refine blk_drewN ?_ _ | refine blk_drew ?_ | refine blk_alloc ?_ _)); exact BK165.out) hg (by simp [Value.ownBlock]))
                                                have n2_ := Aside0.mk (Kd.R_grown (by (with_reducible repeat (first | apply Kd.R_alloc | apply Kd.R_drewN | apply Kd.R_drew)); exact HO186.out) hg (fun _ _ => by simp [Value.ownBlock]))
                                                have n3_ := Aside0.mk (hb)
                                                have n4_ := Aside0.mk ((show Kd.C (Kd.int .i64) w50 (some ad164) y187.length y187 from by rw [Ny187.out]; exact Kd.C_take (m := ((ji14) : Int).toNat) ((Kd.R_reads' (Kd.R_after (Kd.R_apart_nil (by (with_reducible repeat (first | apply Kd.R_alloc | apply Kd.R_drewN | apply Kd.R_drew)); exact HO_8.out)) hg hat)).2.2) KL48.out))
                                                have n5_ := Aside0.mk ((show Kd.C (Kd.int .i64) w50 A49 y194.length y194 from by rw [Ny194.out, KA49.out]; exact Kd.C_drop (m := ((ji39) : Int).toNat) (c := co43) ((Kd.R_reads' (Kd.R_after (Kd.R_apart_nil (by (with_reducible repeat (first | apply Kd.R_alloc | apply Kd.R_drewN | apply Kd.R_drew)); exact HO_8.out)) hg hat)).2.2) KL49.out ((Kd.R_reads' (Kd.R_after (Kd.R_apart_nil (by (with_reducible repeat (first | apply Kd.R_alloc | apply Kd.R_drewN | apply Kd.R_drew)); exact HO_8.out)) hg hat)).2.1)))
                                                have n6_ := Aside0.mk (ho)
                                                clear HO_8
                                                clear BK165
                                                clear HO186
                                                clear HB
                                                clear HR190
                                                clear HR197
                                                have HO_8 := n0_
                                                have BK165 := n1_
                                                have HO186 := n2_
                                                have HB := n3_
                                                have HR190 := n4_
                                                have HR197 := n5_
                                                have HO193 := n6_
                                                clear n0_ n1_ n2_ n3_ n4_ n5_ n6_
                                                clear ho hb hg hat
                                                refine hK.out _ _ trivial (fun hHeld => ?_)
                                                clear hK K
                                                refine norm_ (a' := ?_) ?_ ?_
                                                rotate_left
                                                · show Act.put _ (some 72) _ = _
                                                  simp only [Act.put, List.setIfInBounds_toArray, List.set_cons_zero, List.set_cons_succ, i64_w, i32_w]
                                                  rfl
                                                refine one_ (i := 8) (N := some 77) #[true, true, true, true, true, true, true, true, true, false] rfl rfl (one_of HT_.out (by kernel_rfl)) (by decide) (fun K hK => ?_)
                                                refine Kd.R_append_rows_step (Kd.int .i64) (w0 := w) w.heap.size (by rfl) (.tmp 72) (.tmp 76) 32 3 (.int .i64 0) 8 rfl Try.underlying32 info3 rfl (by decide) (by omega) v192 y191 y194 _ _ _ (fun k_ => some k_ ≠ (.slice (some ad164) x8_4.length co43 : Value).ownBlock) (fun _ => False) rfl rfl ?aO ?aR (fun _ _ h => h) (fun _ h => h.elim) ?aF ?aB ?aS ?aL ?_
                                                (case aR => repeat (first | exact (by repeat (first | (with_reducible exact HR197.out) | (with_reducible refine Kd.C_alloc ?_ _) | (with_reducible refine Kd.C_drewN ?_ _) | (with_reducible refine Kd.C_drew ?_) | exact HR197.out)) | (with_reducible refine Kd.C_alloc ?_ _) | (with_reducible refine Kd.C_drewN ?_ _) | (with_reducible refine Kd.C_drew ?_)))
                                                (case aB => exact (by repeat (first | (with_reducible first | exact HB.out | apply below_alloc | apply pw_below_drewN | apply below_drew1 | refine below_set ?_ GE165.out) | exact HB.out)))
                                                (case aF => exact (fun k_ hk => Kd.fresh' (Kd.R_lt (by (with_reducible repeat (first | apply Kd.R_alloc | apply Kd.R_drewN | apply Kd.R_drew)); exact HO_8.out)) k_ hk))
                                                (case aO => exact (by (with_reducible repeat (first | apply Kd.R_alloc | apply Kd.R_drewN | apply Kd.R_drew)); exact HO193.out))
                                                (case aS => exact (below_size (by repeat (first | (with_reducible first | exact HB.out | apply below_alloc | apply pw_below_drewN | apply below_drew1 | refine below_set ?_ GE165.out) | exact HB.out))))
                                                (case aL => have := LMc42.out; omega)
                                                intro v199 w51 ho hb hg hat
                                                rw [← Ny198.out] at ho
                                                have n0_ := Aside0.mk (Kd.R_after (ok := (fun _ => True)) (by (with_reducible repeat (first | apply Kd.R_alloc | apply Kd.R_drewN | apply Kd.R_drew)); exact HO_8.out) hg hat)
                                                have n1_ := Aside0.mk (blk_grown (g := gb165) (o := .cells #[.int .i64 1, .int .i64 (rd x8_4 (ji14)), .int .u64 0] 34 (0, 0)) (by (with_reducible repeat (first | refine blk_drewN ?_ _ | refine blk_drew ?_ | refine blk_alloc ?_ _)); exact BK165.out) hg (Kd.R_ne HO193.out BK165.out (by decide)))
                                                have n2_ := Aside0.mk (Kd.R_over' (by (with_reducible repeat (first | apply Kd.R_alloc | apply Kd.R_drewN | apply Kd.R_drew)); exact HO186.out) (Kd.R_typed (by (with_reducible repeat (first | apply Kd.R_alloc | apply Kd.R_drewN | apply Kd.R_drew)); exact HO193.out)) (by decide) hg)
                                                have n3_ := Aside0.mk (hb)
                                                have n4_ := Aside0.mk ((show Kd.C (Kd.int .i64) w51 (some ad164) y187.length y187 from by rw [Ny187.out]; exact Kd.C_take (m := ((ji14) : Int).toNat) ((Kd.R_reads' (Kd.R_after (ok := (fun _ => True)) (by (with_reducible repeat (first | apply Kd.R_alloc | apply Kd.R_drewN | apply Kd.R_drew)); exact HO_8.out) hg hat)).2.2) KL48.out))
                                                have n5_ := Aside0.mk ((show Kd.C (Kd.int .i64) w51 A49 y194.length y194 from by rw [Ny194.out, KA49.out]; exact Kd.C_drop (m := ((ji39) : Int).toNat) (c := co43) ((Kd.R_reads' (Kd.R_after (ok := (fun _ => True)) (by (with_reducible repeat (first | apply Kd.R_alloc | apply Kd.R_drewN | apply Kd.R_drew)); exact HO_8.out) hg hat)).2.2) KL49.out ((Kd.R_reads' (Kd.R_after (ok := (fun _ => True)) (by (with_reducible repeat (first | apply Kd.R_alloc | apply Kd.R_drewN | apply Kd.R_drew)); exact HO_8.out) hg hat)).2.1)))
                                                have n6_ := Aside0.mk (ho)
                                                clear HO_8
                                                clear BK165
                                                clear HO186
                                                clear HB
                                                clear HR190
                                                clear HR197
                                                clear HO193
                                                have HO_8 := n0_
                                                have BK165 := n1_
                                                have HO186 := n2_
                                                have HB := n3_
                                                have HR190 := n4_
                                                have HR197 := n5_
                                                have HO200 := n6_
                                                clear n0_ n1_ n2_ n3_ n4_ n5_ n6_
                                                clear ho hb hg hat
                                                refine hK.out _ _ trivial (fun hHeld => ?_)
                                                clear hK K
                                                refine norm_ (a' := ?_) ?_ ?_
                                                rotate_left
                                                · show Act.put _ (some 77) _ = _
                                                  simp only [Act.put, List.setIfInBounds_toArray, List.set_cons_zero, List.set_cons_succ, i64_w, i32_w]
                                                  rfl
                                                refine pure_ (i := 9) (N := some 8) (v := ?_) (a' := ?_) #[true, true, true, true, true, true, true, true, true, true] rfl rfl (any_of HT_.out (by kernel_rfl)) (fun _ _ _ h => h) (Or.inl ⟨by rfl, ?_⟩) ?_ ?_
                                                rotate_left
                                                · intro w'
                                                  go_simp
                                                  with_reducible rfl
                                                rotate_left
                                                · simp only [Act.put, List.setIfInBounds_toArray, List.set_cons_zero, List.set_cons_succ, i64_w, i32_w]
                                                  rfl
                                                refine done_ (done_of HT_.out (by kernel_rfl)) ?_
                                                try go_wp2
                                                go_roundg k4
                                                case measure => have := HK1.out; have := HJ3.out; have := HK3.out; have := HK4.out; omega
                                                case rel => exact ⟨(y184), (y198), (IntKind.u64.wrap (Int.tdiv x10_4 (IntKind.u64.wrap ((x8_4.length : Int))))), (by first | rfl | (simp; done) | (simp [*]; done)), H', ⟨by have := HK1.out; have := HJ3.out; have := HK3.out; have := HK4.out; omega⟩, ⟨by (with_reducible repeat (first | apply Kd.R_alloc | apply Kd.R_drewN | apply Kd.R_drew)); exact Kd.R_mono HO186.out (fun _ hk => trivial)⟩, ⟨by (with_reducible repeat (first | apply Kd.R_alloc | apply Kd.R_drewN | apply Kd.R_drew)); exact Kd.R_mono HO200.out (fun _ hk => trivial)⟩, ⟨by repeat (first | (with_reducible first | exact HB.out | apply below_alloc | apply pw_below_drewN | apply below_drew1 | refine below_set ?_ GE165.out) | exact HB.out)⟩⟩
                                              · rw [if_neg c42] at H
                                                exact absurd H (by simp)
                                            · rw [if_neg c41] at H
                                              exact absurd H (by simp)
                                          · rw [if_neg c40] at H
                                            exact absurd H (by simp)
                                        · rw [if_neg c38] at H
                                          exact absurd H (by simp)
                                      · rw [if_neg c37] at H
                                        exact absurd H (by simp)
                                    · rw [if_neg c35] at H
                                      exact absurd H (by simp)
                                · rw [if_neg c16] at H
                                  exact absurd H (by simp)
                              · rw [if_neg c15] at H
                                exact absurd H (by simp)
                          · rw [if_neg c12] at H
                            have c12b0 : decide (0 < (x8_4.length : Int)) = false := decide_eq_false c12
                            have c12b1 : decide (0 < x8_4.length) = false := decide_eq_false (by omega)
                            clear c12
                            have H' := Aside0.mk H
                            clear H
                            obtain ⟨Ao52, co52, eo52⟩ := Kd.R_slice HO_8.out
                            subst eo52
                            go_wp2
                            go_roundg k4
                            case measure => have := HK1.out; have := HJ3.out; have := HK3.out; have := HK4.out; omega
                            case rel => exact ⟨(x6_4), (wrap64 (x7_1 + 1)), (by first | rfl | (simp; done) | (simp [*]; done)), H', ⟨by have := HK1.out; have := HJ3.out; have := HK3.out; have := HK4.out; omega⟩, ⟨by (with_reducible repeat (first | apply Kd.R_alloc | apply Kd.R_drewN | apply Kd.R_drew)); exact HO_6.out⟩, ⟨by repeat (first | (with_reducible first | exact HB.out | apply below_alloc | apply pw_below_drewN | apply below_drew1) | exact HB.out)⟩⟩
                    · rw [if_neg c11] at H
                      exact absurd H (by simp)
                  · rw [if_neg c10] at H
                    exact absurd H (by simp)
          · replace c6 := Bool.eq_false_iff.mpr c6
            subst c6
            have H1 : ((fair_Fair.f kj3 (wrap64 (1 + t155)) x6_1 (wrap64 ((wrap64 (2 * (wrap64 (1 + t155)))) + 1))).bind fun t156 => (if t156 = true then (if (x6_1.length : Int) = 0 then ((distafflaw27_awake.f kj3).bind fun t157 => (some t157)) else ((fair_Fair.f kj3 (wrap64 (1 + t155)) x6_1 (wrap64 (1 + t155))).bind fun t158 => (if t158 = true then (some false) else ((distafflaw27_awake.f kj3).bind fun t159 => (some t159))))) else (some false))) = some r := by rw [if_neg (show ¬ (false = true) by decide)] at H; exact H
            clear H
            have H := H1
            clear H1
            replace H := Option.bind_eq_some_iff.mp H
            obtain ⟨t156, A530, H⟩ := H
            replace H : (if t156 = true then (if (x6_1.length : Int) = 0 then ((distafflaw27_awake.f kj3).bind fun t157 => (some t157)) else ((fair_Fair.f kj3 (wrap64 (1 + t155)) x6_1 (wrap64 (1 + t155))).bind fun t158 => (if t158 = true then (some false) else ((distafflaw27_awake.f kj3).bind fun t159 => (some t159))))) else (some false)) = some r := H
            have A53 := Aside0.mk A530
            clear A530
            by_cases c54 : t156 = true
            · subst c54
              have H1 : (if (x6_1.length : Int) = 0 then ((distafflaw27_awake.f kj3).bind fun t157 => (some t157)) else ((fair_Fair.f kj3 (wrap64 (1 + t155)) x6_1 (wrap64 (1 + t155))).bind fun t158 => (if t158 = true then (some false) else ((distafflaw27_awake.f kj3).bind fun t159 => (some t159))))) = some r := by rw [if_pos rfl] at H; exact H
              clear H
              have H := H1
              clear H1
              by_cases c55 : (x6_1.length : Int) = 0
              · rw [if_pos c55] at H
                have c55b0 : ((x6_1.length : Int) == 0) = true := beq_iff_eq.mpr c55
                have c55b1 : ((x6_1.length : Int) != 0) = false := bne_eq_false_iff_eq.mpr c55
                clear c55
                replace H := Option.bind_eq_some_iff.mp H
                obtain ⟨t157, A560, H⟩ := H
                replace H : (some t157) = some r := H
                have A56 := Aside0.mk A560
                clear A560
                obtain rfl := Option.some.inj H
                obtain ⟨Ao57, co57, eo57⟩ := Kd.R_slice HO_6.out
                subst eo57
                go_wp2_with (first | ((with_reducible refine gate_callee (f := 10) rfl ?_); refine goesL_ (some 83) rfl rfl Try.func10 (by kernel_rfl) rfl #[.int .i64 (wrap64 (1 + t155)), .slice Ao57 x6_1.length co57, .int .i64 (wrap64 ((wrap64 (2 * (wrap64 (1 + t155)))) + 1))] rfl (by (try simp only [List.map_toArray, List.map_cons, List.map_nil]); first | done | rfl | (simp only [List.length_drop, List.length_take]; rfl)) ?_; (with_reducible refine (fair_Fair.calls kj3 (wrap64 (1 + t155)) _ _ x6_1 (wrap64 ((wrap64 (2 * (wrap64 (1 + t155)))) + 1)) true _ ?side1 ?side2 A53.out).mono ?_); (case side1 => repeat (first | exact (Kd.R_reads' HO_6.out).2.2 | (with_reducible refine Kd.C_alloc ?_ _) | (with_reducible refine Kd.C_drewN ?_ _) | (with_reducible refine Kd.C_drew ?_))); (case side2 => exact (Kd.R_reads' HO_6.out).2.1); rintro e w58 ⟨rfl, hb⟩; refine ⟨_, rfl, ?_⟩; have n0_ := Aside0.mk (Kd.R_below (by (with_reducible repeat (first | apply Kd.R_alloc | apply Kd.R_drewN | apply Kd.R_drew)); exact HO_6.out) hb); have n1_ := Aside0.mk (below_step (by repeat (first | (with_reducible first | exact HB.out | apply below_alloc | apply pw_below_drewN | apply below_drew1) | exact HB.out)) hb); clear HO_6; clear HB; have HO_6 := n0_; have HB := n1_; clear n0_ n1_; (try clear hb); (try clear hb2); (try clear hk); (try clear hi)) | (go_at_call 9; (with_reducible refine (distafflaw27_awake.calls kj3  t157 _ A56.out).mono ?_); rintro e w59 ⟨rfl, hb⟩; have n0_ := Aside0.mk (Kd.R_below (by (with_reducible repeat (first | apply Kd.R_alloc | apply Kd.R_drewN | apply Kd.R_drew)); exact HO_6.out) hb); have n1_ := Aside0.mk (below_step (by repeat (first | (with_reducible first | exact HB.out | apply below_alloc | apply pw_below_drewN | apply below_drew1) | exact HB.out)) hb); clear HO_6; clear HB; have HO_6 := n0_; have HB := n1_; clear n0_ n1_; (try clear hb); (try clear hb2); (try clear hk); (try clear hi)))
                go_ret
                exact ⟨by first | rfl | (simp [errW_none, errW_some] <;> rfl) | (simp [*, errW_none, errW_some] <;> rfl), by repeat (first | (with_reducible first | exact HB.out | apply below_alloc | apply pw_below_drewN | apply below_drew1) | exact HB.out)⟩
              · rw [if_neg c55] at H
                have c55b0 : ((x6_1.length : Int) == 0) = false := beq_eq_false_iff_ne.mpr c55
                have c55b1 : ((x6_1.length : Int) != 0) = true := bne_iff_ne.mpr c55
                have c55b2 : ¬ (x6_1 = []) := fun h_ => c55 (by rw [h_]; rfl)
                replace H := Option.bind_eq_some_iff.mp H
                obtain ⟨t158, A600, H⟩ := H
                replace H : (if t158 = true then (some false) else ((distafflaw27_awake.f kj3).bind fun t159 => (some t159))) = some r := H
                have A60 := Aside0.mk A600
                clear A600
                by_cases c61 : t158 = true
                · subst c61
                  have H1 : (some false) = some r := by rw [if_pos rfl] at H; exact H
                  clear H
                  have H := H1
                  clear H1
                  obtain rfl := Option.some.inj H
                  obtain ⟨Ao62, co62, eo62⟩ := Kd.R_slice HO_6.out
                  subst eo62
                  go_wp2_with (first | ((with_reducible refine gate_callee (f := 10) rfl ?_); refine goesL_ (some 83) rfl rfl Try.func10 (by kernel_rfl) rfl #[.int .i64 (wrap64 (1 + t155)), .slice Ao62 x6_1.length co62, .int .i64 (wrap64 ((wrap64 (2 * (wrap64 (1 + t155)))) + 1))] rfl (by (try simp only [List.map_toArray, List.map_cons, List.map_nil]); first | done | rfl | (simp only [List.length_drop, List.length_take]; rfl)) ?_; (with_reducible refine (fair_Fair.calls kj3 (wrap64 (1 + t155)) _ _ x6_1 (wrap64 ((wrap64 (2 * (wrap64 (1 + t155)))) + 1)) true _ ?side1 ?side2 A53.out).mono ?_); (case side1 => repeat (first | exact (Kd.R_reads' HO_6.out).2.2 | (with_reducible refine Kd.C_alloc ?_ _) | (with_reducible refine Kd.C_drewN ?_ _) | (with_reducible refine Kd.C_drew ?_))); (case side2 => exact (Kd.R_reads' HO_6.out).2.1); rintro e w63 ⟨rfl, hb⟩; refine ⟨_, rfl, ?_⟩; have n0_ := Aside0.mk (Kd.R_below (by (with_reducible repeat (first | apply Kd.R_alloc | apply Kd.R_drewN | apply Kd.R_drew)); exact HO_6.out) hb); have n1_ := Aside0.mk (below_step (by repeat (first | (with_reducible first | exact HB.out | apply below_alloc | apply pw_below_drewN | apply below_drew1) | exact HB.out)) hb); clear HO_6; clear HB; have HO_6 := n0_; have HB := n1_; clear n0_ n1_; (try clear hb); (try clear hb2); (try clear hk); (try clear hi)) | (go_at_call 10; (with_reducible refine (fair_Fair.calls kj3 (wrap64 (1 + t155)) _ _ x6_1 (wrap64 (1 + t155)) true _ ?side1 ?side2 A60.out).mono ?_); (case side1 => repeat (first | exact (Kd.R_reads' HO_6.out).2.2 | (with_reducible refine Kd.C_alloc ?_ _) | (with_reducible refine Kd.C_drewN ?_ _) | (with_reducible refine Kd.C_drew ?_))); (case side2 => exact (Kd.R_reads' HO_6.out).2.1); rintro e w64 ⟨rfl, hb⟩; have n0_ := Aside0.mk (Kd.R_below (by (with_reducible repeat (first | apply Kd.R_alloc | apply Kd.R_drewN | apply Kd.R_drew)); exact HO_6.out) hb); have n1_ := Aside0.mk (below_step (by repeat (first | (with_reducible first | exact HB.out | apply below_alloc | apply pw_below_drewN | apply below_drew1) | exact HB.out)) hb); clear HO_6; clear HB; have HO_6 := n0_; have HB := n1_; clear n0_ n1_; (try clear hb); (try clear hb2); (try clear hk); (try clear hi)))
                  go_ret
                  exact ⟨by first | rfl | (simp [errW_none, errW_some] <;> rfl) | (simp [*, errW_none, errW_some] <;> rfl), by repeat (first | (with_reducible first | exact HB.out | apply below_alloc | apply pw_below_drewN | apply below_drew1) | exact HB.out)⟩
                · replace c61 := Bool.eq_false_iff.mpr c61
                  subst c61
                  have H1 : ((distafflaw27_awake.f kj3).bind fun t159 => (some t159)) = some r := by rw [if_neg (show ¬ (false = true) by decide)] at H; exact H
                  clear H
                  have H := H1
                  clear H1
                  replace H := Option.bind_eq_some_iff.mp H
                  obtain ⟨t159, A650, H⟩ := H
                  replace H : (some t159) = some r := H
                  have A65 := Aside0.mk A650
                  clear A650
                  obtain rfl := Option.some.inj H
                  obtain ⟨Ao66, co66, eo66⟩ := Kd.R_slice HO_6.out
                  subst eo66
                  go_wp2_with (first | ((with_reducible refine gate_callee (f := 10) rfl ?_); refine goesL_ (some 83) rfl rfl Try.func10 (by kernel_rfl) rfl #[.int .i64 (wrap64 (1 + t155)), .slice Ao66 x6_1.length co66, .int .i64 (wrap64 ((wrap64 (2 * (wrap64 (1 + t155)))) + 1))] rfl (by (try simp only [List.map_toArray, List.map_cons, List.map_nil]); first | done | rfl | (simp only [List.length_drop, List.length_take]; rfl)) ?_; (with_reducible refine (fair_Fair.calls kj3 (wrap64 (1 + t155)) _ _ x6_1 (wrap64 ((wrap64 (2 * (wrap64 (1 + t155)))) + 1)) true _ ?side1 ?side2 A53.out).mono ?_); (case side1 => repeat (first | exact (Kd.R_reads' HO_6.out).2.2 | (with_reducible refine Kd.C_alloc ?_ _) | (with_reducible refine Kd.C_drewN ?_ _) | (with_reducible refine Kd.C_drew ?_))); (case side2 => exact (Kd.R_reads' HO_6.out).2.1); rintro e w67 ⟨rfl, hb⟩; refine ⟨_, rfl, ?_⟩; have n0_ := Aside0.mk (Kd.R_below (by (with_reducible repeat (first | apply Kd.R_alloc | apply Kd.R_drewN | apply Kd.R_drew)); exact HO_6.out) hb); have n1_ := Aside0.mk (below_step (by repeat (first | (with_reducible first | exact HB.out | apply below_alloc | apply pw_below_drewN | apply below_drew1) | exact HB.out)) hb); clear HO_6; clear HB; have HO_6 := n0_; have HB := n1_; clear n0_ n1_; (try clear hb); (try clear hb2); (try clear hk); (try clear hi)) | (go_at_call 10; (with_reducible refine (fair_Fair.calls kj3 (wrap64 (1 + t155)) _ _ x6_1 (wrap64 (1 + t155)) false _ ?side1 ?side2 A60.out).mono ?_); (case side1 => repeat (first | exact (Kd.R_reads' HO_6.out).2.2 | (with_reducible refine Kd.C_alloc ?_ _) | (with_reducible refine Kd.C_drewN ?_ _) | (with_reducible refine Kd.C_drew ?_))); (case side2 => exact (Kd.R_reads' HO_6.out).2.1); rintro e w68 ⟨rfl, hb⟩; have n0_ := Aside0.mk (Kd.R_below (by (with_reducible repeat (first | apply Kd.R_alloc | apply Kd.R_drewN | apply Kd.R_drew)); exact HO_6.out) hb); have n1_ := Aside0.mk (below_step (by repeat (first | (with_reducible first | exact HB.out | apply below_alloc | apply pw_below_drewN | apply below_drew1) | exact HB.out)) hb); clear HO_6; clear HB; have HO_6 := n0_; have HB := n1_; clear n0_ n1_; (try clear hb); (try clear hb2); (try clear hk); (try clear hi)) | (go_at_call 9; (with_reducible refine (distafflaw27_awake.calls kj3  t159 _ A65.out).mono ?_); rintro e w69 ⟨rfl, hb⟩; have n0_ := Aside0.mk (Kd.R_below (by (with_reducible repeat (first | apply Kd.R_alloc | apply Kd.R_drewN | apply Kd.R_drew)); exact HO_6.out) hb); have n1_ := Aside0.mk (below_step (by repeat (first | (with_reducible first | exact HB.out | apply below_alloc | apply pw_below_drewN | apply below_drew1) | exact HB.out)) hb); clear HO_6; clear HB; have HO_6 := n0_; have HB := n1_; clear n0_ n1_; (try clear hb); (try clear hb2); (try clear hk); (try clear hi)))
                  go_ret
                  exact ⟨by first | rfl | (simp [errW_none, errW_some] <;> rfl) | (simp [*, errW_none, errW_some] <;> rfl), by repeat (first | (with_reducible first | exact HB.out | apply below_alloc | apply pw_below_drewN | apply below_drew1) | exact HB.out)⟩
            · replace c54 := Bool.eq_false_iff.mpr c54
              subst c54
              have H1 : (some false) = some r := by rw [if_neg (show ¬ (false = true) by decide)] at H; exact H
              clear H
              have H := H1
              clear H1
              obtain rfl := Option.some.inj H
              obtain ⟨Ao70, co70, eo70⟩ := Kd.R_slice HO_6.out
              subst eo70
              go_wp2_with (first | ((with_reducible refine gate_callee (f := 10) rfl ?_); refine goesL_ (some 83) rfl rfl Try.func10 (by kernel_rfl) rfl #[.int .i64 (wrap64 (1 + t155)), .slice Ao70 x6_1.length co70, .int .i64 (wrap64 ((wrap64 (2 * (wrap64 (1 + t155)))) + 1))] rfl (by (try simp only [List.map_toArray, List.map_cons, List.map_nil]); first | done | rfl | (simp only [List.length_drop, List.length_take]; rfl)) ?_; (with_reducible refine (fair_Fair.calls kj3 (wrap64 (1 + t155)) _ _ x6_1 (wrap64 ((wrap64 (2 * (wrap64 (1 + t155)))) + 1)) false _ ?side1 ?side2 A53.out).mono ?_); (case side1 => repeat (first | exact (Kd.R_reads' HO_6.out).2.2 | (with_reducible refine Kd.C_alloc ?_ _) | (with_reducible refine Kd.C_drewN ?_ _) | (with_reducible refine Kd.C_drew ?_))); (case side2 => exact (Kd.R_reads' HO_6.out).2.1); rintro e w71 ⟨rfl, hb⟩; refine ⟨_, rfl, ?_⟩; have n0_ := Aside0.mk (Kd.R_below (by (with_reducible repeat (first | apply Kd.R_alloc | apply Kd.R_drewN | apply Kd.R_drew)); exact HO_6.out) hb); have n1_ := Aside0.mk (below_step (by repeat (first | (with_reducible first | exact HB.out | apply below_alloc | apply pw_below_drewN | apply below_drew1) | exact HB.out)) hb); clear HO_6; clear HB; have HO_6 := n0_; have HB := n1_; clear n0_ n1_; (try clear hb); (try clear hb2); (try clear hk); (try clear hi)))
              go_ret
              exact ⟨by first | rfl | (simp [errW_none, errW_some] <;> rfl) | (simp [*, errW_none, errW_some] <;> rfl), by repeat (first | (with_reducible first | exact HB.out | apply below_alloc | apply pw_below_drewN | apply below_drew1) | exact HB.out)⟩

/-- THE ONE PURE STATEMENT of distafflaw27_FairShuffled: yours. -/
def distafflaw27_FairShuffled.Pure : Prop := ∀ (a0 : Int) (l1 : List Int), (Lit.int .i64 a0).wf = true → l1.length ≤ maxLen → l1.length * 8 ≤ 140737488351232 → (∀ x ∈ l1, (Lit.int .u64 x).wf = true) → ∃ k, distafflaw27_FairShuffled.f k a0 l1 = some true
theorem distafflaw27_FairShuffled.walk (P : distafflaw27_FairShuffled.Pure) (a0 : Int) (a1 : Option Addr) (len1 cap1 : Nat) (z1 : List Int) (w : World) (w0 : (Lit.int .i64 a0).wf = true) (w1 : (a1 = none ∧ len1 = 0 ∧ cap1 = 0 ∧ z1 = []) ∨ ∃ x, a1 = some x ∧ len1 ≤ cap1 ∧ cap1 ≤ maxLen ∧ z1.length = cap1 ∧ (∀ i, i < z1.length → w.cell? (x.add i) = some (.int .u64 (z1.getD i 0))) ∧ ∀ n ∈ z1, (Lit.int .u64 n).wf = true) (y1 : len1 * 8 ≤ 140737488351232) :
    Calls Try.prog 6 #[.int .i64 a0, .slice a1 len1 cap1] w fun e w' => e = .returned (.bool true) ∧ Below w.heap.size w w' := by
  obtain ⟨l1, rfl, hr1, hm1, hw1, hc1⟩ := ReadsInt.ofRowC w1
  obtain ⟨k, h⟩ := P a0 l1 w0 hm1 y1 hw1
  refine (distafflaw27_FairShuffled.calls k a0 _ _ l1 true w (Kd.C_of_reads (d := (0 : Int)) (h1 := fun _ => rfl) hr1) hc1 h).mono ?_
  rintro e w' ⟨rfl, hd⟩
  exact ⟨rfl, hd⟩

end Go.Proofs.Ytjninhbdcllofaa.Fa
