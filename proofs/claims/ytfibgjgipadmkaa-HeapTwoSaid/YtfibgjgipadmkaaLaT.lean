/- For every list of deadlines the call HeapTwo returns true and leaves its argument as it was. No conditions. -/
import Derived.Test.YtfibgjgipadmkaaRows
import Derived.Test.YtfibgjgipadmkaaOp
import Derived.Test.YtfibgjgipadmkaaKd
import Derived.Test.YtfibgjgipadmkaaKe
import Derived.WalkKit
import Derived.ProofKit
import Derived.OpenShut
import Derived.ShutString
import Derived.ChangeOld
import Derived.Below
import Derived.SizedLaws
namespace Go.Proofs.Ytfibgjgipadmkaa.heapTwo
open Go.ChangeShapes Go.WideShapes Go.ChangeAt Go.RowKit
open Go.ChangeMaps (open_string shut_string)
set_option linter.unusedVariables false
theorem own : ownKnob Try.prog.godebug = none := by kernel_rfl
set_option maxRecDepth 100000 in
theorem lifted (os : Os) (started : os.Started) (H : Type) (enc : TypeId × Value → H) :
    ReturnsInHanded {} Try.checked os 7 .any (Rows.heapTwoSpec.pre6 enc Try.prog Try.f7 Rows.heapTwoRow.domain false) (Rows.heapTwoSpec.post enc Try.prog Try.f7 false true false false) := by
  refine returnsInHanded_of_change_sized (C := Try.checked) own started (by kernel_rfl) Try.func7
    (ChangeSpec.witness6 (enc := enc) (C := Try.checked) false ⟨#[], #[.slice none 0 0], []⟩ 8 (by kernel_rfl) (by kernel_rfl) (by kernel_rfl) (by kernel_rfl)) ?_
  intro W base args ds gs before hval0 hW hcnd hsz0 _
  have hval : ∀ (j : Nat) t v, Try.f7.params[j]? = some t → args[j]? = some v → Value.okWide Try.prog W .any base t v := hval0
  have hW' := hW
  obtain ⟨p, q, hA0, hV, rfl, hfz, hnd⟩ := hW
  have hA : DataW.TrodAll enc Try.prog W 0 (fun _ => true) true Try.f7.params.toList args.toList ds p := hA0
  rw [Try.params7] at hA hval
  obtain ⟨v0, vs0, d0, ds0, p0, q0, hargs, rfl, rfl, h0, r0⟩ := trodAll_cons hA
  obtain ⟨rfl, rfl, rfl⟩ := trodAll_nil r0
  obtain rfl : args = #[v0] := by cases args; simp_all
  obtain ⟨rfl, rfl⟩ := trodVars_none hV
  obtain ⟨a0, len, cap, dl, rfl, hN, hwf⟩ := Hp.open_nums (hval 0 22 v0 rfl rfl) h0
  have main : Calls Try.prog 7 #[.slice a0 len cap] W fun e W' => e = .returned (.bool true) ∧ Below W.heap.size W W' := by
    by_cases hl : 100 < len
    · exact Hp.two_long W a0 len cap hl
    · exact Hp.two_any W a0 len cap (by omega) dl hN
  refine main.mono fun e W' ⟨he, bel⟩ => ?_
  subst he
  exact ⟨_, rfl, _, _, _, [], _, [], hW', trodAll_mk1 (shut_bool Try.underlying4 _), Ke.keep_all (ts := [22, 27]) (by kernel_rfl) bel (by intro t ht; rw [Try.params7] at ht; revert t; decide) hA0, rfl, bel.frame _, fun h => by cases h⟩
theorem over : Rows.heapTwoRow.holds Try.pinned (OpenSpec.ofChange Rows.heapTwoSpec) :=
  OpenClaim.holds_of_wide 7 Try.f7 rfl rfl rfl rfl rfl rfl rfl ⟨rfl, rfl, rfl, rfl, rfl⟩ rfl rfl rfl rfl rfl (by kernel_rfl) Try.func7 (by kernel_rfl)
    (of_decide_eq_true (by kernel_rfl)) (by unfold Func.isWrapper; first | (rw [if_pos (by decide +kernel)]; kernel_rfl) | (rw [if_neg (by decide +kernel)]; exact ⟨rfl, rfl⟩))
    (fun os started H enc _ => lifted os started H enc)
theorem proved : Rows.HeapTwoSaid := over
end Go.Proofs.Ytfibgjgipadmkaa.heapTwo
namespace Go.Proofs.Ytfibgjgipadmkaa
/-- The row, under a short name, for the claim. -/
theorem heapTwo_holds : Rows.HeapTwoSaid := heapTwo.proved
end Go.Proofs.Ytfibgjgipadmkaa
