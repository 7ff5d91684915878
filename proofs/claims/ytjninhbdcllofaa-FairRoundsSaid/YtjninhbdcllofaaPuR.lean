/- What is proved: for every number of workers, of rounds and every seed the two scripts are one, as long as the document says, and fair. No conditions. -/
import Derived.Test.YtjninhbdcllofaaFa9
import Derived.Test.YtjninhbdcllofaaFs
import Derived.Test.YtjninhbdcllofaaFt
namespace Go.Proofs.Ytjninhbdcllofaa.Pure
set_option linter.unusedVariables false
set_option linter.unusedSimpArgs false
open Go.RowKit Go.Proofs.Ytjninhbdcllofaa.Fa Go.Proofs.Ytjninhbdcllofaa.Fp Go.Proofs.Ytjninhbdcllofaa.Fq Go.Proofs.Ytjninhbdcllofaa.Fs Go.Proofs.Ytjninhbdcllofaa.Ft Go.Proofs.YtjninhbdcllofaaW.PrintWords Go.Proofs.YtjninhbdcllofaaW.PrintLast Go.Proofs.YtjninhbdcllofaaW.PrintMore

theorem wf64 {n : Int} (h : (Lit.int .i64 n).wf = true) : -9223372036854775808 ≤ n ∧ n ≤ 9223372036854775807 := by
  have h' : (decide ((-9223372036854775808 : Int) ≤ n) && decide (n ≤ 9223372036854775807)) = true := h
  rw [Bool.and_eq_true] at h'
  exact ⟨of_decide_eq_true h'.1, of_decide_eq_true h'.2⟩

theorem script_len (x0 x1 s : Int) (h1 : x1 ≤ 300) : (script x0 x1 s).length ≤ 19500 := by
  unfold script
  split
  · simp
  · rw [play_len]
    have h2 : x1.toNat * (x0.toNat + 1) ≤ 300 * 65 := Nat.mul_le_mul (by omega) (by omega)
    omega

theorem j0_ev (x0 x1 x2 : Int) (h1 : x1 ≤ 300) : Ev (fun k => distafflaw27_FairRounds.j0 k x0 x1 x2) true := by
  have hlen := script_len x0 x1 x2 h1
  refine Ev.step (fun k => by rw [distafflaw27_FairRounds.j0]) (Ev.bind (rounds_ev x0 x1 x2 (by omega)) (Ev.bind (refRounds_ev x0 x1 x2 (by omega)) (Ev.bind (same_ev (script x0 x1 x2) (by omega)) ?_)))
  -- where there is nothing to do
  have empty : script x0 x1 x2 = [] → Ev (fun k => distafflaw27_FairRounds.j1 k x0 x1 (script x0 x1 x2) true) true := by
    intro he
    refine Ev.step (f := fun k => (distafflaw27_awake.f k).bind fun t => some t) (fun k => ?_) (Ev.bind awake_ev (Ev.now _))
    rw [he]
    simp only [distafflaw27_FairRounds.j1, if_true]
    rw [if_pos (by simp)]
  by_cases ha : x0 < 1
  · refine Ev.congr (fun k => ?_) (empty (by unfold script; rw [if_pos (.inl ha)]))
    rw [if_pos rfl, if_pos ha]
  by_cases hb : x0 > 64
  · refine Ev.congr (fun k => ?_) (empty (by unfold script; rw [if_pos (.inr hb)]))
    rw [if_pos rfl, if_neg ha, if_pos hb]
  by_cases hc : x1 < 1
  · refine Ev.congr (fun k => ?_) (empty (by unfold script; rw [if_neg (by omega), show x1.toNat = 0 by omega]; rfl))
    rw [if_pos rfl, if_neg ha, if_neg hb, decide_eq_true hc]
  have hs : script x0 x1 x2 = play x0.toNat x1.toNat x2 := by unfold script; rw [if_neg (by omega)]
  obtain ⟨b, hbv, hbi⟩ := fair_spec x0 (2 * x0 + 1) (script x0 x1 x2) (by omega)
  have hm : mx x0 0 = x0 := by unfold mx; rw [if_neg (by omega)]
  have hbt : b = true := by
    rw [hbi, hm, show (2 * x0 + 1).toNat = 2 * x0.toNat + 1 by omega, hs]
    exact ⟨by omega, play_fair _ _ _⟩
  subst hbt
  have hl : ((script x0 x1 x2).length : Int) = wrap64 (x1 * wrap64 (x0 + 1)) := by
    rw [w64 (n := x0 + 1) (by omega) (by omega), hs, play_len]
    have e : ((x1.toNat * (x0.toNat + 1) : Nat) : Int) = x1 * (x0 + 1) := by
      rw [Int.natCast_mul, Int.natCast_add, Int.toNat_of_nonneg (by omega), Int.toNat_of_nonneg (by omega)]; rfl
    rw [e]
    rw [hs, play_len] at hlen
    have : x1 * (x0 + 1) ≤ 19500 := by rw [← e]; omega
    have : 0 ≤ x1 * (x0 + 1) := by rw [← e]; omega
    rw [w64 (by omega) (by omega)]
  refine Ev.congr (f := fun k => distafflaw27_FairRounds.j1 k x0 x1 (script x0 x1 x2) false) (fun k => ?_) (Ev.step (f := fun k => (fair_Fair.f k x0 (script x0 x1 x2) (2 * x0 + 1)).bind fun t => if t = true then (distafflaw27_awake.f k).bind fun t => some t else some false) (fun k => ?_) (Ev.bind hbv ?_))
  · rw [if_pos rfl, if_neg ha, if_neg hb, decide_eq_false hc]
  · simp only [distafflaw27_FairRounds.j1, if_false, Bool.false_eq_true]
    rw [if_pos hl, w64 (n := 2 * x0) (by omega) (by omega), w64 (by omega) (by omega)]
  · exact Ev.congr (fun k => by rw [if_pos rfl]) (Ev.bind awake_ev (Ev.now _))

theorem FairRounds : distafflaw27_FairRounds.Pure := by
  intro a0 a1 a2 h0 h1 h2
  refine Ev.rounds (g := fun k => distafflaw27_FairRounds.f k a0 a1 a2) ?_
  by_cases h : a1 > 300
  · exact Ev.congr (fun k => by unfold distafflaw27_FairRounds.f; rw [if_pos h]) (j0_ev a0 300 a2 (by omega))
  · exact Ev.congr (fun k => by unfold distafflaw27_FairRounds.f; rw [if_neg h]) (j0_ev a0 a1 a2 (by omega))

end Go.Proofs.Ytjninhbdcllofaa.Pure
