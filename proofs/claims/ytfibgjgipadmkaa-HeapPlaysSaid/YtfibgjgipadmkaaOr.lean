/- A script that came in, opened to a function. -/
import Derived.Test.YtfibgjgipadmkaaOp
import Derived.Test.YtfibgjgipadmkaaQf
import Derived.Deep.Slices
import Derived.Deep.Fields
import Derived.ChangeSame
namespace Go.Proofs.Ytfibgjgipadmkaa.Hp
open Go.ChangeShapes Go.WideShapes Go.ChangeAt Go.RowKit Go.Deep
set_option linter.unusedVariables false
set_option linter.unusedSimpArgs false

section
variable {H : Type} {enc : TypeId × Value → H} {w : World}

theorem cells43 : Try.prog.cellsOf 43 = 4 := by kernel_rfl

set_option maxRecDepth 1000000 in
theorem op_of {n : Nat} {cs : List Value} {x : DataW H × List MemPlace} (h : DataW.trod enc Try.prog w 0 (fun _ => true) true n 43 cs = some x) : ∃ s : Op4, cs = [.int .i64 s.o, .int .i64 s.h, .int .u64 s.d, .int .u64 s.x] ∧ (Lit.int .i64 s.h).wf = true := by
  obtain ⟨xs, m, _, _, hcl, hxl, hf⟩ := DataW.trod_struct Try.underlying43 h
  rw [cells43] at hcl
  have e3 : Try.prog.cellsOf 3 = 1 := by kernel_rfl
  have e27 : Try.prog.cellsOf 27 = 1 := by kernel_rfl
  have hx : ∀ i, i < 4 → ∃ y, xs[i]? = some y := fun i hi => ⟨_, List.getElem?_eq_getElem (by rw [hxl]; exact hi)⟩
  obtain ⟨y0, hy0⟩ := hx 0 (by omega)
  obtain ⟨y1, hy1⟩ := hx 1 (by omega)
  obtain ⟨y2, hy2⟩ := hx 2 (by omega)
  obtain ⟨y3, hy3⟩ := hx 3 (by omega)
  have h0 : DataW.trod enc Try.prog w 0 (fun _ => true) true m 3 ((cs.drop 0).take (Try.prog.cellsOf 3)) = some y0 := (hf 0 _ rfl).trans hy0
  have h1 : DataW.trod enc Try.prog w 0 (fun _ => true) true m 3 ((cs.drop 1).take (Try.prog.cellsOf 3)) = some y1 := (hf 1 _ rfl).trans hy1
  have h2 : DataW.trod enc Try.prog w 0 (fun _ => true) true m 27 ((cs.drop 2).take (Try.prog.cellsOf 27)) = some y2 := (hf 2 _ rfl).trans hy2
  have h3 : DataW.trod enc Try.prog w 0 (fun _ => true) true m 27 ((cs.drop 3).take (Try.prog.cellsOf 27)) = some y3 := (hf 3 _ rfl).trans hy3
  rw [e3] at h0 h1
  rw [e27] at h2 h3
  match cs, hcl with
  | [c0, c1, c2, c3], _ =>
    obtain ⟨n0, hn0, r0⟩ := DataW.trod_int Try.underlying3 h0
    obtain ⟨n1, hn1, r1⟩ := DataW.trod_int Try.underlying3 h1
    obtain ⟨n2, hn2, r2⟩ := DataW.trod_int Try.underlying27 h2
    obtain ⟨n3, hn3, r3⟩ := DataW.trod_int Try.underlying27 h3
    have g0 : [c0] = [.int .i64 n0] := hn0
    have g1 : [c1] = [.int .i64 n1] := hn1
    have g2 : [c2] = [.int .u64 n2] := hn2
    have g3 : [c3] = [.int .u64 n3] := hn3
    injection g0 with g0
    injection g1 with g1
    injection g2 with g2
    injection g3 with g3
    subst g0 g1 g2 g3
    exact ⟨⟨n0, n1, n2, n3⟩, rfl, r1.2⟩

instance : Inhabited Op4 := ⟨⟨0, 0, 0, 0⟩⟩

set_option maxRecDepth 1000000 in
theorem open_ops {base : Nat} {v : Value} {d : DataW H} {p : List MemPlace} (hv : Value.okWide Try.prog w .any base 37 v) (h : ∃ fuel, DataW.trod enc Try.prog w 0 (fun _ => true) true fuel 37 v.cells.toList = some (d, p)) :
    ∃ a len cap f, v = .slice a len cap ∧ Ops w a len f ∧ ∀ i, i < len → (Lit.int .i64 (f i).h).wf = true := by
  obtain ⟨a0, n0, c0, rfl⟩ := okWide_slice Try.underlying37 hv
  obtain ⟨n, hn⟩ := h
  have hn' : DataW.trod enc Try.prog w 0 (fun _ => true) true n 37 [.slice a0 n0 c0] = some (d, p) := hn
  rcases open_slice Try.underlying37 hn' with ⟨h0, _⟩ | ⟨a, len, cap, m, n, D, Pl, hcs, hb, hl, hm, hmm, hx, hi⟩
  · injection h0 with h0
    exact ⟨none, 0, 0, fun _ => default, h0, .inl rfl, fun i hi => absurd hi (Nat.not_lt_zero _)⟩
  · injection hcs with hcs
    injection hcs with h1 h2 h3
    subst h1 h2 h3
    rw [if_pos rfl] at hmm
    subst hmm
    have key : ∀ i, i < n0 → ∃ s : Op4, (∀ j u, ([.int .i64 s.o, .int .i64 s.h, .int .u64 s.d, .int .u64 s.x] : List Value)[j]? = some u → w.cell? (a.add (i * 4 + j)) = some u) ∧ (Lit.int .i64 s.h).wf = true := by
      intro i hi'
      obtain ⟨cs', hc, ht⟩ := hi i (by omega)
      obtain ⟨s, rfl, hw⟩ := op_of ht
      rw [cells43] at hc
      obtain ⟨_, _, hat⟩ := World.cells?_some hc
      refine ⟨s, fun j u hj => ?_, hw⟩
      have hj3 : j < 4 := by have := (List.getElem?_eq_some_iff.1 hj).1; simpa using this
      rw [← Deep.add_add]
      exact (hat j hj3).trans hj
    obtain ⟨f, hf⟩ := choose_lt key
    refine ⟨some a, n0, m, f, rfl, ?_, fun i hi => (hf i hi).2⟩
    by_cases h0 : n0 = 0
    · exact .inl h0
    · refine .inr ⟨a, rfl, ?_, fun i hi => (hf i hi).1⟩
      have := cell_lt ((hf 0 (by omega)).1 0 _ rfl)
      rwa [add_block'] at this
end
end Go.Proofs.Ytfibgjgipadmkaa.Hp
