/- sort.Slice, as All calls it, at any length: the things in order. -/
import Derived.Test.YtfibgjgipadmkaaSj
namespace Go.Proofs.Ytfibgjgipadmkaa.Hp
set_option linter.unusedVariables false
set_option linter.unusedSimpArgs false
open Go.RowKit Go.Maps Go.ChangeMaps Go.Lib Go.Sort

theorem svK (n : Nat) (h2 : 2 ≤ n) : Lib.swapperK n svE 25 = 9 := by
  have a : svE.hasPointers = false := by kernel_rfl
  have b : svE.bytes = 24 := by kernel_rfl
  have c : (n == 0) = false := by simp; omega
  have d : (n == 1) = false := by simp; omega
  simp [Lib.swapperK, a, b, c, d]

theorem arr_at (S : List Th) (i : Nat) : S.toArray[i]! = at' S i := by
  unfold at'
  rw [List.getElem!_toArray, List.getD_eq_getElem?_getD]
  rw [List.getElem!_eq_getElem?_getD]
  rfl

theorem flat_at (T : List Th) (t : Nat) (h : t < T.length * 3) : (flat T)[t]? = some ((cells (at' T (t / 3)))[t % 3]!) := by
  have e := flat_get T (t / 3) (t % 3) (by omega) (Nat.mod_lt _ (by omega))
  rw [show t / 3 * 3 + t % 3 = t by omega] at e
  rw [e]
  have hl : t % 3 < (cells (at' T (t / 3))).length := by simp [cells]; omega
  rw [List.getElem?_eq_getElem hl, getElem!_pos (cells (at' T (t / 3))) (t % 3) hl]

/-- the row as the sort's walks see it -/
theorem sh_of {w : World} {B blk cap Bs : Nat} {T : List Th} (hown : w.ownsRow B 58 3 (.slice (some ⟨blk, 0, none⟩) T.length cap) T.length (flat T)) (hBs : w.cell? ⟨Bs, 0, none⟩ = some (.slice (some ⟨blk, 0, none⟩) T.length cap)) (hB1 : Bs < w.heap.size) (hB2 : Bs ≠ blk) : SH blk Bs T.length cap T.toArray w := by
  obtain ⟨hl, h | ⟨g', cap', cur, h, hB, hg, hn, hc, hcs, htk⟩⟩ := hown
  · exact absurd h.1 (by simp)
  · injection h with h1 h2 h3
    injection h1 with h1
    injection h1 with h1
    subst h1 h3
    refine ⟨fun j hj => ?_, by simp, hBs, hB1, (Array.getElem?_eq_some_iff.1 hg).1, hB2, cur, hg, hcs⟩
    rw [size_flatK] at hj
    rw [get_flatK _ _ _ _ hj, arr_at]
    have hj' : j < T.length * 3 := by simpa using hj
    refine ⟨(cell_of_row w blk (0 + j) _ 58 (0, 0) hg).trans ?_, frozen_of_row w blk (0 + j) _ 58 hg⟩
    rw [Nat.zero_add]
    have e := flat_at T j hj'
    rw [← htk, List.getElem?_take] at e
    rw [if_pos hj'] at e
    simpa using e

/-- and back -/
theorem own_of {w : World} {B blk cap Bs N : Nat} {d : Array Th} (h : SH blk Bs N cap d w) (hB : B ≤ blk) (hn : N ≤ cap) (hc : cap ≤ maxLen) : w.ownsRow B 58 3 (.slice (some ⟨blk, 0, none⟩) N cap) N (flat d.toList) := by
  obtain ⟨cur, hg, hcs⟩ := h.shape
  have hN : d.toList.length = N := by simpa using h.size
  refine ⟨by rw [flat_len, hN], .inr ⟨blk, cap, cur, rfl, hB, hg, hn, hc, hcs, ?_⟩⟩
  apply List.ext_getElem?
  intro t
  rw [List.getElem?_take]
  by_cases ht : t < N * 3
  · rw [if_pos ht, flat_at _ _ (by rw [hN]; exact ht)]
    have hk : t < (flatK cells 3 d).size := by rw [size_flatK, h.size]; exact ht
    have e := (h.holds t hk).1
    rw [Nat.zero_add] at e
    have e2 := (cell_of_row w blk t _ 58 (0, 0) hg).symm.trans e
    rw [get_flatK _ _ _ _ (by rw [h.size]; exact ht)] at e2
    have e3 : d[t / 3]! = at' d.toList (t / 3) := by rw [← arr_at]
    rw [e3] at e2
    simpa using e2
  · rw [if_neg ht, List.getElem?_eq_none (by rw [flat_len, hN]; omega)]

theorem sort_pdq (T : List Th) (h2 : 2 ≤ T.length) (hN : T.length ≤ 1000000000) : SortOK T (pdq aheadB T.toArray 0 T.length (Lib.bitLen T.length) true true).toList := by
  have hps := pdq_sorts aheadB swo_ahead T.toArray 0 T.length (Lib.bitLen T.length) true true (Nat.zero_le _) (by simp) (Or.inl rfl)
  have hsz : (pdq aheadB T.toArray 0 T.length (Lib.bitLen T.length) true true).size = T.length := by simpa using hps.1.1
  refine ⟨by rw [Array.length_toList, hsz], fun w B blk cap Bs hown hBs hB1 hB2 => ?_⟩
  have hsh := sh_of hown hBs hB1 hB2
  have hlim : Lib.bitLen T.length < 1000000000 := Nat.lt_of_le_of_lt (Lib.bitLen_le T.length 62 (by omega) (by omega)) (by omega)
  obtain ⟨hBb, hnc, hcm⟩ : B ≤ blk ∧ T.length ≤ cap ∧ cap ≤ maxLen := by
    obtain ⟨hl, h | ⟨g', cap', cur, h, hB, hg, hn, hc, hcs, htk⟩⟩ := hown
    · exact absurd h.1 (by simp)
    · injection h with h1 h2 h3
      injection h1 with h1
      injection h1 with h1
      subst h1 h3
      exact ⟨hB, hn, hc⟩
  clear hown
  generalize hD : pdq aheadB T.toArray 0 T.length (Lib.bitLen T.length) true true = D at *
  have hBw : Go.RowKit.Below w.heap.size w (sliceWorld Try.prog Try.sv6_ren 54 (some ⟨blk, 0, none⟩) T.length cap w) := ((Go.RowKit.Below.refl _ _).alloc (Nat.le_refl _) _).alloc (by simp) _
  have hp := pdq_any (blk := blk) (Bs := Bs) (N := T.length) (cap := cap) (sf := 44) (sb := #[.slice (some ⟨blk, 0, none⟩) T.length cap, typeHandle Try.prog 58])
    (swapSwapsK_of_literal false 44 (fun args W => run_callFunc_extern Try.func44 (by kernel_rfl) (by kernel_rfl) (by kernel_rfl) (e := Extern.ReflectliteSwapper.swap false) (by kernel_rfl) args W) 58 svE (by kernel_rfl) cells 3 (fun _ => rfl) (by kernel_rfl) (fun _ => by kernel_rfl)
      (fun x v hv => by simp [cells] at hv; rcases hv with rfl | rfl | rfl <;> rfl) blk 0 T.length cap) hN (T.length + 1) 0 T.length (Lib.bitLen T.length) T.toArray _ (by omega) (hsh.below hBw) (Nat.zero_le _) (Nat.le_refl _) hlim (Or.inl rfl)
  rw [hD] at hp
  have hB : sliceBound Try.prog 58 svE 25 (some ⟨blk, 0, none⟩) T.length cap = #[.slice (some ⟨blk, 0, none⟩) T.length cap, typeHandle Try.prog 58] := by
    unfold sliceBound; rw [if_neg (by rw [svK _ h2]; omega)]
  rw [← hB] at hp
  have hr := Any.sort_Slice_of_pdq Try.sv6 54 58 svT svE (by kernel_rfl) (by kernel_rfl) (by kernel_rfl) (by kernel_rfl) 25 (fun _ => by kernel_rfl) (some ⟨blk, 0, none⟩) T.length cap (by omega) 44 (by rw [svK _ h2]; kernel_rfl) (.func 30) #[] #[.pointer (some ⟨Bs, 0, none⟩)] w
    (fun w' => SH blk Bs T.length cap D w' ∧ Fr (fun k => k = blk) (sliceWorld Try.prog Try.sv6_ren 54 (some ⟨blk, 0, none⟩) T.length cap w) w') hp
  refine Calls.mono hr ?_
  rintro e w' ⟨rfl, hs, hf⟩
  exact ⟨rfl, own_of hs hBb hnc hcm, ((Fr.refl _ w).of_below hBw).trans hf⟩

theorem sort_to (T L : List Th) (hp : T.Perm L) (hs : L.Pairwise (fun a b => aheadB a b = true)) (hN : T.length ≤ 1000000000) : SortOK T L := by
  by_cases h2 : 2 ≤ T.length
  · have h := sort_pdq T h2 hN
    have hps := pdq_sorts aheadB swo_ahead T.toArray 0 T.length (Lib.bitLen T.length) true true (Nat.zero_le _) (by simp) (Or.inl rfl)
    generalize pdq aheadB T.toArray 0 T.length (Lib.bitLen T.length) true true = D at h hps
    obtain ⟨⟨hsz, _, hpm⟩, hso⟩ := hps
    have hsz' : D.size = T.length := by simpa using hsz
    have hPD : D.toList.Perm L := by
      have e1 : D.extract 0 T.length = D := by rw [← hsz']; simp
      have e2 : T.toArray.extract 0 T.length = T.toArray := by simp
      rw [e1, e2] at hpm
      exact hpm.trans hp
    have e : D.toList = L := by
      refine List.Perm.eq_of_pairwise (le := fun a b => aheadB b a = false) ?_ ?_ ?_ hPD
      · intro a b ha hb h1 h2
        have ha' := hPD.mem_iff.1 ha
        obtain ⟨i, hi, rfl⟩ := List.getElem_of_mem ha'
        obtain ⟨j, hj, rfl⟩ := List.getElem_of_mem hb
        have hp2 := List.pairwise_iff_getElem.1 hs
        rcases Nat.lt_trichotomy i j with h | h | h
        · have := hp2 i j hi hj h; rw [this] at h2; cases h2
        · subst h; rfl
        · have := hp2 j i hj hi h; rw [this] at h1; cases h1
      · rw [List.pairwise_iff_getElem]
        intro i j hi hj hij
        have := hso i j (Nat.zero_le _) hij (by rw [← hsz']; simpa using hj)
        simp only [Array.length_toList] at hi hj
        rw [getElem!_pos D i hi, getElem!_pos D j hj] at this
        simpa using this
      · refine hs.imp fun {a b} h => ?_
        rw [aheadB_iff] at h
        rw [← Bool.not_eq_true, aheadB_iff]
        omega
    rw [← e]; exact h
  · have hl := hp.length_eq
    have e : T = L := by
      rcases T with _ | ⟨x, _ | ⟨y, T⟩⟩
      · exact (List.nil_perm.1 hp).symm
      · exact List.singleton_perm.1 hp
      · simp at h2
    rw [← e]; exact sort_tiny T (by omega)

end Go.Proofs.Ytfibgjgipadmkaa.Hp
