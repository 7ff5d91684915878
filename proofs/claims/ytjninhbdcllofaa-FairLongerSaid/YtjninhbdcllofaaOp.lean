/- A slice of entries that came in, opened to a list. -/
import Derived.Test.YtjninhbdcllofaaFa0
import Derived.Deep.Slices
import Derived.Deep.Fields
import Derived.ChangeSame
import Derived.OpenShut
namespace Go.Proofs.Ytjninhbdcllofaa.Op
set_option linter.unusedVariables false
set_option linter.unusedSimpArgs false
open Go.ChangeShapes Go.WideShapes Go.RowKit Go.Deep Go.Proofs.Ytjninhbdcllofaa.Fa Go.Proofs.YtjninhbdcllofaaW.PrintWords

section
variable {H : Type} {enc : TypeId × Value → H} {w : World}

theorem cells34 : Try.prog.cellsOf 34 = 3 := by kernel_rfl

theorem entry_of {n : Nat} {cs : List Value} {x : DataW H × List MemPlace} (h : DataW.trod enc Try.prog w 0 (fun _ => true) true n 34 cs = some x) : ∃ s : S34, cs = [.int .i64 s.f0, .int .i64 s.f1, .int .u64 s.f2] := by
  obtain ⟨xs, m, _, _, hcl, hxl, hf⟩ := DataW.trod_struct Try.underlying34 h
  rw [cells34] at hcl
  have e3 : Try.prog.cellsOf 3 = 1 := by kernel_rfl
  have e26 : Try.prog.cellsOf 26 = 1 := by kernel_rfl
  have hx : ∀ i, i < 3 → ∃ y, xs[i]? = some y := fun i hi => ⟨_, List.getElem?_eq_getElem (by rw [hxl]; exact hi)⟩
  obtain ⟨y0, hy0⟩ := hx 0 (by omega)
  obtain ⟨y1, hy1⟩ := hx 1 (by omega)
  obtain ⟨y2, hy2⟩ := hx 2 (by omega)
  have h0 : DataW.trod enc Try.prog w 0 (fun _ => true) true m 3 ((cs.drop 0).take (Try.prog.cellsOf 3)) = some y0 := (hf 0 _ rfl).trans hy0
  have h1 : DataW.trod enc Try.prog w 0 (fun _ => true) true m 3 ((cs.drop 1).take (Try.prog.cellsOf 3)) = some y1 := (hf 1 _ rfl).trans hy1
  have h2 : DataW.trod enc Try.prog w 0 (fun _ => true) true m 26 ((cs.drop 2).take (Try.prog.cellsOf 26)) = some y2 := (hf 2 _ rfl).trans hy2
  rw [e3] at h0 h1
  rw [e26] at h2
  match cs, hcl with
  | [c0, c1, c2], _ =>
    obtain ⟨n0, hn0, _⟩ := DataW.trod_int Try.underlying3 h0
    obtain ⟨n1, hn1, _⟩ := DataW.trod_int Try.underlying3 h1
    obtain ⟨n2, hn2, _⟩ := DataW.trod_int Try.underlying26 h2
    have g0 : [c0] = [.int .i64 n0] := hn0
    have g1 : [c1] = [.int .i64 n1] := hn1
    have g2 : [c2] = [.int .u64 n2] := hn2
    injection g0 with g0
    injection g1 with g1
    injection g2 with g2
    subst g0 g1 g2
    exact ⟨⟨n0, n1, n2⟩, rfl⟩

theorem open_entries {base : Nat} {v : Value} {d : DataW H} {p : List MemPlace} (hv : Value.okWide Try.prog w .any base 22 v) (h : DataW.Trod enc Try.prog w 0 (fun _ => true) true 22 v d p) :
    v = .slice none 0 0 ∨ ∃ (ad : Addr) (c : Nat) (l : List S34), v = .slice (some ad) l.length c ∧ l.length ≤ c ∧ c ≤ maxLen ∧ Kd.C k34 w (some ad) l.length l := by
  obtain ⟨a0, n0, c0, rfl⟩ := okWide_slice Try.underlying22 hv
  obtain ⟨n, hn⟩ := h
  have hn' : DataW.trod enc Try.prog w 0 (fun _ => true) true n 22 [.slice a0 n0 c0] = some (d, p) := hn
  rcases open_slice Try.underlying22 hn' with ⟨h0, _⟩ | ⟨a, len, cap, m, n, D, Pl, hcs, hb, hl, hm, hmm, hx, hi⟩
  · left; injection h0
  · right
    injection hcs with hcs
    injection hcs with h1 h2 h3
    subst h1 h2 h3
    rw [if_pos rfl] at hmm
    subst hmm
    have key : ∀ i, i < n0 → ∃ s : S34, ∀ j u, ([.int .i64 s.f0, .int .i64 s.f1, .int .u64 s.f2] : List Value)[j]? = some u → w.cell? (a.add (i * 3 + j)) = some u := by
      intro i hi'
      obtain ⟨cs', hc, ht⟩ := hi i (by omega)
      obtain ⟨s, rfl⟩ := entry_of ht
      rw [cells34] at hc
      obtain ⟨_, _, hat⟩ := World.cells?_some hc
      refine ⟨s, fun j u hj => ?_⟩
      have hj3 : j < 3 := by have := (List.getElem?_eq_some_iff.1 hj).1; simpa using this
      rw [← Deep.add_add]
      exact (hat j hj3).trans hj
    obtain ⟨f, hf⟩ := (haveI : Inhabited S34 := ⟨z34⟩; choose_lt key)
    refine ⟨a, m, (List.range n0).map f, by simp, by simpa using hl, hm, ?_⟩
    refine ⟨rfl, ?_, fun _ => ⟨a, rfl, fun j q hq => ?_⟩⟩
    · simp only [List.length_map, List.length_range]; unfold maxLen at hm; omega
    · rw [List.getElem?_map] at hq
      obtain ⟨j', hj', rfl⟩ := Option.map_eq_some_iff.1 hq
      obtain ⟨hlt, rfl⟩ : j < n0 ∧ j' = j := by
        have := List.getElem?_eq_some_iff.1 hj'
        obtain ⟨h1, h2⟩ := this
        simp at h1 h2
        exact ⟨h1, h2.symm⟩
      exact ⟨_, rfl, k34_mk _ _, fun i u hu => hf j' hlt i u hu⟩

end
end Go.Proofs.Ytjninhbdcllofaa.Op
