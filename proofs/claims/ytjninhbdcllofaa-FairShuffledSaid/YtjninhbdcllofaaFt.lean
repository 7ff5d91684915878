/- Plain law of the comparison of two scripts and of the document's example. -/
import Derived.Test.YtjninhbdcllofaaFa3
import Derived.Test.YtjninhbdcllofaaFa5
import Derived.Test.YtjninhbdcllofaaFq
namespace Go.Proofs.Ytjninhbdcllofaa.Ft
set_option linter.unusedVariables false
set_option linter.unusedSimpArgs false
open Go.RowKit Go.Proofs.Ytjninhbdcllofaa.Fa Go.Proofs.Ytjninhbdcllofaa.Fp Go.Proofs.Ytjninhbdcllofaa.Fq Go.Proofs.YtjninhbdcllofaaW.PrintWords Go.Proofs.YtjninhbdcllofaaW.PrintLast Go.Proofs.YtjninhbdcllofaaW.PrintMore

theorem awake_ev : Ev (fun k => distafflaw27_awake.f k) true := Ev.of distafflaw27_awake.mono (k := 60) (by kernel_rfl)

theorem same_l0 (l : List S34) (hl : l.length ≤ 140737488355328) : ∀ d i, i + d = l.length → Ev (fun k => distafflaw27_same.l0 k l l (i : Int)) true := by
  intro d
  induction d with
  | zero =>
    intro i hi
    refine Ev.step (f := fun _ => some true) (fun k => ?_) (Ev.now _)
    simp only [distafflaw27_same.l0]; rw [if_neg (by omega)]
  | succ d ih =>
    intro i hi
    refine Ev.step (fun k => ?_) (ih (i + 1) (by omega))
    simp only [distafflaw27_same.l0]
    rw [if_pos (by omega), if_pos (by omega), if_pos (by omega), if_neg (by simp), w64 (by omega) (by omega)]; rfl

theorem same_ev (l : List S34) (hl : l.length ≤ 140737488355328) : Ev (fun k => distafflaw27_same.f k l l) true :=
  Ev.congr (fun k => by unfold distafflaw27_same.f; rw [if_pos rfl]; rfl) (same_l0 l hl l.length 0 (by omega))

end Go.Proofs.Ytjninhbdcllofaa.Ft
