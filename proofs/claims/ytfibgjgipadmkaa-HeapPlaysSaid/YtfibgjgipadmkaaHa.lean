/- ahead: which of two things comes first. -/
import Derived.Test.YtfibgjgipadmkaaProg
import Derived.WalkKit
import Derived.Below
import Derived.KernelRfl
import Derived.Lib.Hide
import Derived.Outline
namespace Go.Proofs.Ytfibgjgipadmkaa.Hp
set_option linter.unusedVariables false
set_option linter.unusedSimpArgs false
open Go.RowKit

/-- a thing: its deadline, whose it is, its handle -/
structure Th where
  d : Int
  w : Int
  h : Int

def Th.val (t : Th) : Value := .agg #[.int .u64 t.d, .int .u64 t.w, .int .i64 t.h]
def aheadB (a b : Th) : Bool := decide (a.d < b.d) || (a.d == b.d && decide (a.h < b.h))

set_option maxHeartbeats 1000000 in
theorem ahead_any (a b : Th) (w : World) :
    Calls Try.prog 27 #[.agg #[.int .u64 a.d, .int .u64 a.w, .int .i64 a.h], .agg #[.int .u64 b.d, .int .u64 b.w, .int .i64 b.h]] w fun e w' => e = .returned (.bool (aheadB a b)) ∧ Below w.heap.size w w' := by
  obtain ⟨ad, aw, ah⟩ := a
  obtain ⟨bd, bw, bh⟩ := b
  by_cases h1 : ad < bd
  · have hr : aheadB ⟨ad, aw, ah⟩ ⟨bd, bw, bh⟩ = true := by unfold aheadB; simp [h1]
    rw [hr]
    clear hr
    have b1 : decide (ad < bd) = true := decide_eq_true h1
    clear h1
    go_enter Try.func27, Try.ntmps27
    go_wp2
    go_ret
    exact ⟨rfl, ((Below.refl _ _).alloc (Nat.le_refl _) _).alloc (by simp) _⟩
  · by_cases h2 : ad = bd
    · subst h2
      have hr : aheadB ⟨ad, aw, ah⟩ ⟨ad, bw, bh⟩ = decide (ah < bh) := by unfold aheadB; simp
      rw [hr]
      clear hr
      go_enter Try.func27, Try.ntmps27
      go_wp2
      go_ret
      exact ⟨rfl, ((Below.refl _ _).alloc (Nat.le_refl _) _).alloc (by simp) _⟩
    · have hr : aheadB ⟨ad, aw, ah⟩ ⟨bd, bw, bh⟩ = false := by unfold aheadB; simp [h1, h2]
      rw [hr]
      clear hr
      have b1 : decide (ad < bd) = false := decide_eq_false h1
      have b2 : (ad == bd) = false := by simp [h2]
      clear h1 h2
      go_enter Try.func27, Try.ntmps27
      go_wp2
      go_ret
      exact ⟨rfl, ((Below.refl _ _).alloc (Nat.le_refl _) _).alloc (by simp) _⟩

end Go.Proofs.Ytfibgjgipadmkaa.Hp
