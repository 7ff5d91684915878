/- A slice of numbers that came in, opened to a function. -/
import Derived.Test.YtfibgjgipadmkaaOp
import Derived.Test.YtfibgjgipadmkaaJc
namespace Go.Proofs.Ytfibgjgipadmkaa.Hp
open Go.ChangeShapes Go.WideShapes Go.ChangeAt Go.RowKit
set_option linter.unusedVariables false
set_option linter.unusedSimpArgs false

set_option maxRecDepth 100000 in
theorem open_row {H : Type} {enc : TypeId × Value → H} {W : World} {base : Nat} {v : Value} {d : DataW H} {p : List MemPlace} (hv : Value.okWide Try.prog W .any base 33 v)
    (h : ∃ fuel, DataW.trod enc Try.prog W 0 (fun _ => true) true fuel 33 v.cells.toList = some (d, p)) :
    ∃ a len cap ds, v = .slice a len cap ∧ Ints W a len ds := by
  obtain ⟨a, len, cap, rfl⟩ := okWide_slice Try.underlying33 hv
  obtain ⟨fuel, hf⟩ := h
  rcases open_ints Try.underlying33 Try.underlying3 (by kernel_rfl) hf with ⟨hcs, _⟩ | ⟨x, l, c, zs, hcs, _, hl, hm, hz, _, hcell, hwz⟩
  · simp [Value.cells] at hcs
    obtain ⟨rfl, rfl, rfl⟩ := hcs
    exact ⟨none, 0, 0, fun _ => 0, rfl, .inl rfl⟩
  · simp [Value.cells] at hcs
    obtain ⟨rfl, rfl, rfl⟩ := hcs
    have hzl : zs.length = cap := by simpa using hz
    refine ⟨_, len, cap, fun i => zs.getD i 0, rfl, ?_⟩
    · by_cases h0 : len = 0
      · exact .inl h0
      · refine .inr ⟨_, rfl, ?_, fun i hi => hcell i (by omega)⟩
        have := cell_lt (hcell 0 (by omega))
        rwa [add_block'] at this

end Go.Proofs.Ytfibgjgipadmkaa.Hp
