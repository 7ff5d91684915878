/- The walk of FairGrows. -/
import Derived.Test.YtjninhbdcllofaaFa4
import Derived.Test.YtjninhbdcllofaaPuB
namespace Go.Proofs.Ytjninhbdcllofaa.Gr
set_option linter.unusedVariables false
set_option linter.unusedSimpArgs false
open Go.RowKit Go.Proofs.Ytjninhbdcllofaa.Fa Go.Proofs.Ytjninhbdcllofaa.Pure Go.Proofs.YtjninhbdcllofaaW.PrintWords Go.Proofs.YtjninhbdcllofaaW.PrintLast Go.Proofs.YtjninhbdcllofaaW.PrintMore

def upf (v m : Int) : Int := if v > 2305843009213693952 ∨ m > 2305843009213693952 then v else v + m

set_option maxHeartbeats 1000000 in
theorem up_any (v m : Int) (p : Addr) (w : World) (hc : w.cell? p = some (.int .i64 m)) (h0 : 0 ≤ m) (hv : -9223372036854775808 ≤ v) :
    Calls Try.prog 18 #[.int .i64 v, .pointer (some p)] w fun e w' => e = .returned (.int .i64 (upf v m)) ∧ w = w' := by
  by_cases h1 : v > 2305843009213693952
  · have hr : upf v m = v := by unfold upf; rw [if_pos (.inl h1)]
    rw [hr]
    clear hr
    have b1 : decide ((2305843009213693952 : Int) < v) = true := decide_eq_true h1
    clear h1
    go_enter Try.func18, Try.ntmps18
    go_wp2
    go_ret
    exact ⟨rfl, rfl⟩
  · by_cases h2 : m > 2305843009213693952
    · have hr : upf v m = v := by unfold upf; rw [if_pos (.inr h2)]
      rw [hr]
      clear hr
      have b1 : decide ((2305843009213693952 : Int) < v) = false := decide_eq_false h1
      have b2 : decide ((2305843009213693952 : Int) < m) = true := decide_eq_true h2
      clear h1 h2
      go_enter Try.func18, Try.ntmps18
      go_wp2
      go_ret
      exact ⟨rfl, rfl⟩
    · have hr : upf v m = v + m := by unfold upf; rw [if_neg (by omega)]
      rw [hr]
      clear hr
      have b1 : decide ((2305843009213693952 : Int) < v) = false := decide_eq_false h1
      have b2 : decide ((2305843009213693952 : Int) < m) = false := decide_eq_false h2
      have h3 : v ≤ 2305843009213693952 := by omega
      have h4 : m ≤ 2305843009213693952 := by omega
      clear h1 h2
      go_enter Try.func18, Try.ntmps18
      go_wp2
      go_ret
      exact ⟨rfl, rfl⟩

set_option maxHeartbeats 1000000 in
theorem grows_pos (a0 a1 a2 m b0 b1 b2 b3 : Int) (w : World) (k0 : Aside0 (fair_Bound.f a0 a1 a2 = some b0)) (hm : 0 ≤ m)
    (k1 : Aside0 (fair_Bound.f (upf a0 m) a1 a2 = some b1)) (k2 : Aside0 (fair_Bound.f a0 (upf a1 m) a2 = some b2)) (k3 : Aside0 (fair_Bound.f a0 a1 (upf a2 m) = some b3))
    (h0 : 0 < b0) (h1 : b0 ≤ 4611686018427387904) (h2 : b0 ≤ b1) (h3 : b0 ≤ b2) (h4 : b0 ≤ b3)
    (r0 : -9223372036854775808 ≤ a0) (r1 : -9223372036854775808 ≤ a1) (r2 : -9223372036854775808 ≤ a2) :
    Calls Try.prog 8 #[.int .i64 a0, .int .i64 a1, .int .i64 a2, .int .i64 m] w fun e w' => e = .returned (.bool true) ∧ Below w.heap.size w w' := by
  have hmf : ∀ (fn : Fn) (first cap : Array Value) (w : World), (Instr.makeFunc fn first cap).run Try.prog w = .ok (.func fn first cap) w := fun _ _ _ _ => rfl
  have d0 : decide (m < 0) = false := decide_eq_false (by omega)
  have d1 : decide (0 < b0) = true := decide_eq_true h0
  have d2 : decide (b0 ≤ 4611686018427387904) = true := decide_eq_true h1
  have d3 : decide (b0 ≤ b1) = true := decide_eq_true h2
  have d4 : decide (b0 ≤ b2) = true := decide_eq_true h3
  have d5 : decide (b0 ≤ b3) = true := decide_eq_true h4
  clear h0 h1 h2 h3 h4
  go_enter Try.func8, Try.ntmps8
  go_wp2_with fail
  refine (fair_Bound.calls a0 a1 a2 b0 _ k0.out).mono ?_
  rintro e w1 ⟨rfl, hb1⟩
  have hc1 : w1.cell? ⟨w.heap.size, 0, none⟩ = some (.int .i64 m) := (hb1.cell (p := ⟨w.heap.size, 0, none⟩) (by simp)).trans (by simp)
  have HB1 : Aside0 (Below w.heap.size w w1) := ⟨((Below.refl _ _).alloc (Nat.le_refl _) _).trans (hb1.mono (by simp))⟩
  have hz1 : w.heap.size < w1.heap.size := by have := hb1.size; simp at this; omega
  clear hb1
  go_wp2_with fail
  refine (up_any a0 m _ _ hc1 hm r0).mono ?_
  rintro e w' ⟨rfl, rfl⟩
  go_wp2_with fail
  refine (fair_Bound.calls _ a1 a2 b1 _ k1.out).mono ?_
  rintro e w2 ⟨rfl, hb2⟩
  have hc2 : w2.cell? ⟨w.heap.size, 0, none⟩ = some (.int .i64 m) := (hb2.cell (p := ⟨w.heap.size, 0, none⟩) hz1).trans hc1
  have HB2 : Aside0 (Below w.heap.size w w2) := ⟨HB1.out.trans (hb2.mono (Nat.le_of_lt hz1))⟩
  have hz2 : w.heap.size < w2.heap.size := Nat.lt_of_lt_of_le hz1 hb2.size
  clear hb2 HB1 hc1 hz1
  go_wp2_with fail
  refine (up_any a1 m _ _ hc2 hm r1).mono ?_
  rintro e w' ⟨rfl, rfl⟩
  go_wp2_with fail
  refine (fair_Bound.calls a0 _ a2 b2 _ k2.out).mono ?_
  rintro e w3 ⟨rfl, hb3⟩
  have hc3 : w3.cell? ⟨w.heap.size, 0, none⟩ = some (.int .i64 m) := (hb3.cell (p := ⟨w.heap.size, 0, none⟩) hz2).trans hc2
  have HB3 : Aside0 (Below w.heap.size w w3) := ⟨HB2.out.trans (hb3.mono (Nat.le_of_lt hz2))⟩
  have hz3 : w.heap.size < w3.heap.size := Nat.lt_of_lt_of_le hz2 hb3.size
  clear hb3 HB2 hc2 hz2
  go_wp2_with fail
  refine (up_any a2 m _ _ hc3 hm r2).mono ?_
  rintro e w' ⟨rfl, rfl⟩
  go_wp2_with fail
  refine (fair_Bound.calls a0 a1 _ b3 _ k3.out).mono ?_
  rintro e w4 ⟨rfl, hb4⟩
  have hc4 : w4.cell? ⟨w.heap.size, 0, none⟩ = some (.int .i64 m) := (hb4.cell (p := ⟨w.heap.size, 0, none⟩) hz3).trans hc3
  have HB4 : Aside0 (Below w.heap.size w w4) := ⟨HB3.out.trans (hb4.mono (Nat.le_of_lt hz3))⟩
  have hz4 : w.heap.size < w4.heap.size := Nat.lt_of_lt_of_le hz3 hb4.size
  clear hb4 HB3 hc3 hz3
  go_wp2_with fail
  refine (distafflaw27_awake.calls 60 true _ awake_ok).mono ?_
  rintro e w5 ⟨rfl, hb5⟩
  have HB5 : Aside0 (Below w.heap.size w w5) := ⟨HB4.out.trans (hb5.mono (Nat.le_of_lt hz4))⟩
  clear hb5 HB4 hc4 hz4
  go_wp2_with fail
  go_ret
  exact ⟨rfl, HB5.out⟩

set_option maxHeartbeats 1000000 in
theorem grows_neg (a0 a1 a2 m b0 b1 b2 b3 : Int) (w : World) (k0 : Aside0 (fair_Bound.f a0 a1 a2 = some b0)) (hm : m < 0)
    (k1 : Aside0 (fair_Bound.f (upf a0 0) a1 a2 = some b1)) (k2 : Aside0 (fair_Bound.f a0 (upf a1 0) a2 = some b2)) (k3 : Aside0 (fair_Bound.f a0 a1 (upf a2 0) = some b3))
    (h0 : 0 < b0) (h1 : b0 ≤ 4611686018427387904) (h2 : b0 ≤ b1) (h3 : b0 ≤ b2) (h4 : b0 ≤ b3)
    (r0 : -9223372036854775808 ≤ a0) (r1 : -9223372036854775808 ≤ a1) (r2 : -9223372036854775808 ≤ a2) :
    Calls Try.prog 8 #[.int .i64 a0, .int .i64 a1, .int .i64 a2, .int .i64 m] w fun e w' => e = .returned (.bool true) ∧ Below w.heap.size w w' := by
  have hmf : ∀ (fn : Fn) (first cap : Array Value) (w : World), (Instr.makeFunc fn first cap).run Try.prog w = .ok (.func fn first cap) w := fun _ _ _ _ => rfl
  have d0 : decide (m < 0) = true := decide_eq_true hm
  have d1 : decide (0 < b0) = true := decide_eq_true h0
  have d2 : decide (b0 ≤ 4611686018427387904) = true := decide_eq_true h1
  have d3 : decide (b0 ≤ b1) = true := decide_eq_true h2
  have d4 : decide (b0 ≤ b2) = true := decide_eq_true h3
  have d5 : decide (b0 ≤ b3) = true := decide_eq_true h4
  clear h0 h1 h2 h3 h4
  go_enter Try.func8, Try.ntmps8
  go_wp2_with fail
  refine (fair_Bound.calls a0 a1 a2 b0 _ k0.out).mono ?_
  rintro e wa ⟨rfl, hb1⟩
  have hca : wa.cell? ⟨w.heap.size, 0, none⟩ = some (.int .i64 m) := (hb1.cell (p := ⟨w.heap.size, 0, none⟩) (by simp)).trans (by simp)
  have hfa : wa.frozen? ⟨w.heap.size, 0, none⟩ = false := (hb1.frozen (p := ⟨w.heap.size, 0, none⟩) (by simp)).trans (by simp)
  have HBa : Aside0 (Below w.heap.size w wa) := ⟨((Below.refl _ _).alloc (Nat.le_refl _) _).trans (hb1.mono (by simp))⟩
  have hza : w.heap.size < wa.heap.size := by have := hb1.size; simp at this; omega
  clear hb1
  go_upto_region 4 with fail
  obtain ⟨w1, hw1⟩ : ∃ w1 : World, w1 = wa.setCell ⟨w.heap.size, 0, none⟩ (.int .i64 0) := ⟨_, rfl⟩
  rw [← hw1]
  have hc1 : w1.cell? ⟨w.heap.size, 0, none⟩ = some (.int .i64 0) := by rw [hw1]; exact World.cell?_setCell_same' _ _ _ (by rw [hca]; rfl)
  have HB1 : Aside0 (Below w.heap.size w w1) := ⟨by rw [hw1]; exact below_set HBa.out (Nat.le_refl _)⟩
  have hz1 : w.heap.size < w1.heap.size := by rw [hw1]; simpa using hza
  clear hw1 hca hfa HBa hza
  go_wp2_with fail
  refine (up_any a0 0 _ _ hc1 (by omega) r0).mono ?_
  rintro e w' ⟨rfl, rfl⟩
  go_wp2_with fail
  refine (fair_Bound.calls _ a1 a2 b1 _ k1.out).mono ?_
  rintro e w2 ⟨rfl, hb2⟩
  have hc2 : w2.cell? ⟨w.heap.size, 0, none⟩ = some (.int .i64 0) := (hb2.cell (p := ⟨w.heap.size, 0, none⟩) hz1).trans hc1
  have HB2 : Aside0 (Below w.heap.size w w2) := ⟨HB1.out.trans (hb2.mono (Nat.le_of_lt hz1))⟩
  have hz2 : w.heap.size < w2.heap.size := Nat.lt_of_lt_of_le hz1 hb2.size
  clear hb2 HB1 hc1 hz1
  go_wp2_with fail
  refine (up_any a1 0 _ _ hc2 (by omega) r1).mono ?_
  rintro e w' ⟨rfl, rfl⟩
  go_wp2_with fail
  refine (fair_Bound.calls a0 _ a2 b2 _ k2.out).mono ?_
  rintro e w3 ⟨rfl, hb3⟩
  have hc3 : w3.cell? ⟨w.heap.size, 0, none⟩ = some (.int .i64 0) := (hb3.cell (p := ⟨w.heap.size, 0, none⟩) hz2).trans hc2
  have HB3 : Aside0 (Below w.heap.size w w3) := ⟨HB2.out.trans (hb3.mono (Nat.le_of_lt hz2))⟩
  have hz3 : w.heap.size < w3.heap.size := Nat.lt_of_lt_of_le hz2 hb3.size
  clear hb3 HB2 hc2 hz2
  go_wp2_with fail
  refine (up_any a2 0 _ _ hc3 (by omega) r2).mono ?_
  rintro e w' ⟨rfl, rfl⟩
  go_wp2_with fail
  refine (fair_Bound.calls a0 a1 _ b3 _ k3.out).mono ?_
  rintro e w4 ⟨rfl, hb4⟩
  have hc4 : w4.cell? ⟨w.heap.size, 0, none⟩ = some (.int .i64 0) := (hb4.cell (p := ⟨w.heap.size, 0, none⟩) hz3).trans hc3
  have HB4 : Aside0 (Below w.heap.size w w4) := ⟨HB3.out.trans (hb4.mono (Nat.le_of_lt hz3))⟩
  have hz4 : w.heap.size < w4.heap.size := Nat.lt_of_lt_of_le hz3 hb4.size
  clear hb4 HB3 hc3 hz3
  go_wp2_with fail
  refine (distafflaw27_awake.calls 60 true _ awake_ok).mono ?_
  rintro e w5 ⟨rfl, hb5⟩
  have HB5 : Aside0 (Below w.heap.size w w5) := ⟨HB4.out.trans (hb5.mono (Nat.le_of_lt hz4))⟩
  clear hb5 HB4 hc4 hz4
  go_wp2_with fail
  go_ret
  exact ⟨rfl, HB5.out⟩

def bnd (w t b : Int) : Int := cap62 (prod (mx b 1) (mx w 1) (mx t 1) (300 + 1300 * (mn (mx w 1) 1125899906842624 - 1)))

theorem mx_mono {a b : Int} (h : a ≤ b) : mx a 1 ≤ mx b 1 := by unfold mx; split <;> split <;> omega
theorem mx_one (a : Int) : 1 ≤ mx a 1 := by unfold mx; split <;> omega
theorem mn_mono {a b c : Int} (h : a ≤ b) : mn a c ≤ mn b c := by unfold mn; split <;> split <;> omega
theorem mn_one {a : Int} (h : 1 ≤ a) : 1 ≤ mn a 1125899906842624 := by unfold mn; split <;> omega
theorem cap_mono {a b : Int} (h : a ≤ b) : cap62 a ≤ cap62 b := by unfold cap62; split <;> split <;> omega

theorem bnd_mono {w t b w' t' b' : Int} (h1 : w ≤ w') (h2 : t ≤ t') (h3 : b ≤ b') : bnd w t b ≤ bnd w' t' b' := by
  unfold bnd
  have e1 := mn_one (mx_one w)
  have e2 := mn_mono (c := 1125899906842624) (mx_mono h1)
  exact cap_mono (prod_mono (mx_one b) (mx_one w) (mx_one t) (by omega) (mx_mono h3) (mx_mono h1) (mx_mono h2) (by omega))

theorem bnd_range (w t b : Int) : 0 < bnd w t b ∧ bnd w t b ≤ 4611686018427387904 := by
  unfold bnd
  have e1 := mn_one (mx_one w)
  have p1 := mul_ge (mul_ge (mul_ge (mul_ge (mx_one b) (mx_one w)) (show 1 ≤ mx t 1 + 2 by have := mx_one t; omega)) (show 1 ≤ mx t 1 + 2 by have := mx_one t; omega)) (show 1 ≤ 300 + 1300 * (mn (mx w 1) 1125899906842624 - 1) by omega)
  have := cap_ge _ p1
  unfold prod
  omega

theorem up_ge {v m : Int} (h : 0 ≤ m) : v ≤ upf v m := by unfold upf; split <;> omega
theorem up_le {v m : Int} (hv : v ≤ 9223372036854775807) : upf v m ≤ 9223372036854775807 := by unfold upf; split <;> omega

theorem FairGrows (a0 a1 a2 a3 : Int) (w : World) (h0 : (Lit.int .i64 a0).wf = true) (h1 : (Lit.int .i64 a1).wf = true) (h2 : (Lit.int .i64 a2).wf = true) (_h3 : (Lit.int .i64 a3).wf = true) :
    Calls Try.prog 8 #[.int .i64 a0, .int .i64 a1, .int .i64 a2, .int .i64 a3] w fun e w' => e = .returned (.bool true) ∧ Below w.heap.size w w' := by
  have r0 := wf_range h0
  have r1 := wf_range h1
  have r2 := wf_range h2
  have hb := bnd_range a0 a1 a2
  by_cases hm : a3 < 0
  · exact grows_neg a0 a1 a2 a3 (bnd a0 a1 a2) (bnd (upf a0 0) a1 a2) (bnd a0 (upf a1 0) a2) (bnd a0 a1 (upf a2 0)) w ⟨bound_u _ _ _ r0.2 r1.2 r2.2⟩ hm ⟨bound_u _ _ _ (up_le r0.2) r1.2 r2.2⟩ ⟨bound_u _ _ _ r0.2 (up_le r1.2) r2.2⟩ ⟨bound_u _ _ _ r0.2 r1.2 (up_le r2.2)⟩
      hb.1 hb.2 (bnd_mono (up_ge (Int.le_refl _)) (Int.le_refl _) (Int.le_refl _)) (bnd_mono (Int.le_refl _) (up_ge (Int.le_refl _)) (Int.le_refl _)) (bnd_mono (Int.le_refl _) (Int.le_refl _) (up_ge (Int.le_refl _))) r0.1 r1.1 r2.1
  · have hm' : 0 ≤ a3 := by omega
    exact grows_pos a0 a1 a2 a3 (bnd a0 a1 a2) (bnd (upf a0 a3) a1 a2) (bnd a0 (upf a1 a3) a2) (bnd a0 a1 (upf a2 a3)) w ⟨bound_u _ _ _ r0.2 r1.2 r2.2⟩ hm' ⟨bound_u _ _ _ (up_le r0.2) r1.2 r2.2⟩ ⟨bound_u _ _ _ r0.2 (up_le r1.2) r2.2⟩ ⟨bound_u _ _ _ r0.2 r1.2 (up_le r2.2)⟩
      hb.1 hb.2 (bnd_mono (up_ge hm') (Int.le_refl _) (Int.le_refl _)) (bnd_mono (Int.le_refl _) (up_ge hm') (Int.le_refl _)) (bnd_mono (Int.le_refl _) (Int.le_refl _) (up_ge hm')) r0.1 r1.1 r2.1

end Go.Proofs.Ytjninhbdcllofaa.Gr
