/- For every number of workers, script and window the call FairAsks returns true and leaves its arguments as they were. No conditions. -/
import Derived.Test.YtjninhbdcllofaaRows
import Derived.Test.YtjninhbdcllofaaAs
import Derived.Test.YtjninhbdcllofaaOp
import Derived.Test.YtjninhbdcllofaaKe
import Derived.WalkKit
import Derived.ProofKit
import Derived.OpenShut
import Derived.ShutString
import Derived.ChangeOld
import Derived.Below
import Derived.SizedLaws
namespace Go.Proofs.Ytjninhbdcllofaa.fairAsks
open Go.ChangeShapes Go.WideShapes Go.ChangeAt Go.RowKit
open Go.ChangeMaps (open_string shut_string)
set_option linter.unusedVariables false
theorem own : ownKnob Try.prog.godebug = none := by kernel_rfl
set_option maxRecDepth 100000 in
theorem lifted (os : Os) (started : os.Started) (H : Type) (enc : TypeId × Value → H) :
    ReturnsInHanded {} Try.checked os 3 .any (Rows.fairAsksSpec.pre6 enc Try.prog Try.f3 Rows.fairAsksRow.domain false) (Rows.fairAsksSpec.post enc Try.prog Try.f3 false true false false) := by
  refine returnsInHanded_of_change_sized (C := Try.checked) own started (by kernel_rfl) Try.func3
    (ChangeSpec.witness6 (enc := enc) (C := Try.checked) false ⟨#[], #[.int .i64 0, .slice none 0 0, .int .i64 0], []⟩ 8 (by kernel_rfl) (by kernel_rfl) (by kernel_rfl) (by kernel_rfl)) ?_
  intro W base args ds gs before hval0 hW hcnd hsz0 _
  have hsz : (DataW.weightsEach Try.prog (Try.f3.params.toList ++ Rows.fairAsksSpec.plain.varTypes Try.prog) (ds ++ gs)).all (· ≤ reachBytes) = true := hsz0
  have hval : ∀ (j : Nat) t v, Try.f3.params[j]? = some t → args[j]? = some v → Value.okWide Try.prog W .any base t v := hval0
  have hW' := hW
  obtain ⟨p, q, hA0, hV, rfl, hfz, hnd⟩ := hW
  have hA : DataW.TrodAll enc Try.prog W 0 (fun _ => true) true Try.f3.params.toList args.toList ds p := hA0
  rw [Try.params3] at hA hval hsz
  obtain ⟨v0, vs0, d0, ds0, p0, q0, hargs, rfl, rfl, h0, r0⟩ := trodAll_cons hA
  obtain ⟨v1, vs1, d1, ds1, p1, q1, rfl, rfl, rfl, h1, r1⟩ := trodAll_cons r0
  obtain ⟨v2, vs2, d2, ds2, p2, q2, rfl, rfl, rfl, h2, r2⟩ := trodAll_cons r1
  obtain ⟨rfl, rfl, rfl⟩ := trodAll_nil r2
  obtain rfl : args = #[v0, v1, v2] := by cases args; simp_all
  obtain ⟨rfl, rfl⟩ := trodVars_none hV
  obtain ⟨a0, rfl, rfl, rfl, w0⟩ := open_int Try.underlying3 (hval 0 3 v0 rfl rfl) h0
  have hs1 := Op.open_entries (hval 1 22 v1 rfl rfl) h1
  obtain ⟨a2, rfl, rfl, rfl, w2⟩ := open_int Try.underlying3 (hval 2 3 v2 rfl rfl) h2
  have r2 : a2 ≤ 9223372036854775807 := by
    have h' : (decide ((-9223372036854775808 : Int) ≤ a2) && decide (a2 ≤ 9223372036854775807)) = true := w2
    rw [Bool.and_eq_true] at h'
    exact of_decide_eq_true h'.2
  have main : Calls Try.prog 3 #[.int .i64 a0, v1, .int .i64 a2] W fun e W' => e = .returned (.bool true) ∧ Below W.heap.size W W' := by
    rcases hs1 with rfl | ⟨ad, c, l, rfl, hc, hm, hC⟩
    · obtain ⟨k, b, k1, k2, k3, k4⟩ := As.asks_all a0 a2 [] (by simp) r2
      exact As.asks_nil a0 a2 W k b k1 k2 k3 k4
    · by_cases hl : 3000 < l.length
      · exact As.asks_far a0 a2 (some ad) c l W hl
      · obtain ⟨k, b, k1, k2, k3, k4⟩ := As.asks_all a0 a2 l (by omega) r2
        exact As.asks_near a0 a2 ad c l W (by omega) hC hc k b k1 k2 k3 k4
  refine main.mono fun e W' ⟨he, bel⟩ => ?_
  subst he
  exact ⟨_, rfl, _, _, _, [], _, [], hW', trodAll_mk1 (shut_bool Try.underlying4 _), Ke.keep_all (ts := [3, 22, 34, 26]) (by kernel_rfl) bel (by intro t ht; rw [Try.params3] at ht; revert t; decide) hA0, rfl, bel.frame _, fun h => by cases h⟩
theorem over : Rows.fairAsksRow.holds Try.pinned (OpenSpec.ofChange Rows.fairAsksSpec) :=
  OpenClaim.holds_of_wide 3 Try.f3 rfl rfl rfl rfl rfl rfl rfl ⟨rfl, rfl, rfl, rfl, rfl⟩ rfl rfl rfl rfl rfl (by kernel_rfl) Try.func3 (by kernel_rfl)
    (of_decide_eq_true (by kernel_rfl)) (by unfold Func.isWrapper; first | (rw [if_pos (by decide +kernel)]; kernel_rfl) | (rw [if_neg (by decide +kernel)]; exact ⟨rfl, rfl⟩))
    (fun os started H enc _ => lifted os started H enc)
theorem proved : Rows.FairAsksSaid := over
end Go.Proofs.Ytjninhbdcllofaa.fairAsks
namespace Go.Proofs.Ytjninhbdcllofaa
/-- The row, under a short name, for the claim. -/
theorem fairAsks_holds : Rows.FairAsksSaid := fairAsks.proved
end Go.Proofs.Ytjninhbdcllofaa
