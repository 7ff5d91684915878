/- A slice of unsigned numbers that came in, opened to a function. -/
import Derived.Test.YtfibgjgipadmkaaJa
import Derived.WalkKit
import Derived.ProofKit
import Derived.OpenShut
import Derived.ChangeOld
import Derived.SizedLaws
namespace Go.Proofs.Ytfibgjgipadmkaa.Hp
open Go.ChangeShapes Go.WideShapes Go.ChangeAt Go.RowKit
set_option linter.unusedVariables false
set_option linter.unusedSimpArgs false

theorem cell_lt {w : World} {a : Addr} {v : Value} (h : w.cell? a = some v) : a.block < w.heap.size := by
  by_cases hb : a.block < w.heap.size
  · exact hb
  · unfold World.cell? at h
    rw [Array.getElem?_eq_none (by omega)] at h
    cases h

set_option maxRecDepth 100000 in
theorem open_nums {H : Type} {enc : TypeId × Value → H} {W : World} {base : Nat} {v : Value} {d : DataW H} {p : List MemPlace} (hv : Value.okWide Try.prog W .any base 22 v)
    (h : ∃ fuel, DataW.trod enc Try.prog W 0 (fun _ => true) true fuel 22 v.cells.toList = some (d, p)) :
    ∃ a len cap ds, v = .slice a len cap ∧ Nums W a len ds ∧ ∀ i, i < len → 0 ≤ ds i ∧ ds i ≤ 18446744073709551615 := by
  obtain ⟨a, len, cap, rfl⟩ := okWide_slice Try.underlying22 hv
  obtain ⟨fuel, hf⟩ := h
  rcases open_ints Try.underlying22 Try.underlying27 (by kernel_rfl) hf with ⟨hcs, _⟩ | ⟨x, l, c, zs, hcs, _, hl, hm, hz, _, hcell, hwz⟩
  · simp [Value.cells] at hcs
    obtain ⟨rfl, rfl, rfl⟩ := hcs
    exact ⟨none, 0, 0, fun _ => 0, rfl, .inl rfl, fun i hi => by omega⟩
  · simp [Value.cells] at hcs
    obtain ⟨rfl, rfl, rfl⟩ := hcs
    have hzl : zs.length = cap := by simpa using hz
    refine ⟨_, len, cap, fun i => zs.getD i 0, rfl, ?_, ?_⟩
    · by_cases h0 : len = 0
      · exact .inl h0
      · refine .inr ⟨_, rfl, ?_, fun i hi => hcell i (by omega)⟩
        have := cell_lt (hcell 0 (by omega))
        rwa [add_block'] at this
    · intro i hi
      have hm : zs.getD i 0 ∈ zs := by rw [List.getD_eq_getElem?_getD, List.getElem?_eq_getElem (by omega)]; exact List.getElem_mem _
      have := hwz _ hm
      simp only [Lit.wf, Bool.and_eq_true, decide_eq_true_eq] at this
      exact this

end Go.Proofs.Ytfibgjgipadmkaa.Hp
