/- What is proved: rounds in each of which all are served once are fair, whatever their order; with a window as long as the number of workers they are not. No conditions. -/
import Derived.Test.YtjninhbdcllofaaFaS
import Derived.Test.YtjninhbdcllofaaFs
import Derived.Test.YtjninhbdcllofaaFt
import Derived.Test.YtjninhbdcllofaaLo
namespace Go.Proofs.Ytjninhbdcllofaa.Pure
set_option linter.unusedVariables false
set_option linter.unusedSimpArgs false
open Go.RowKit Go.Proofs.Ytjninhbdcllofaa.Fa Go.Proofs.Ytjninhbdcllofaa.Fp Go.Proofs.Ytjninhbdcllofaa.Fq Go.Proofs.Ytjninhbdcllofaa.Fs Go.Proofs.Ytjninhbdcllofaa.Ft Go.Proofs.YtjninhbdcllofaaW.PrintWords Go.Proofs.YtjninhbdcllofaaW.PrintLast Go.Proofs.YtjninhbdcllofaaW.PrintMore

/-- a row of entries serves all of a list -/
def Serves (n : Nat) (left : List Int) (d : List S34) : Prop := d.length = left.length ∧ ∀ v ∈ left, ∃ j, j < left.length ∧ who n (at' d j) = some v.toNat
/-- rows, each of which serves all -/
def Full (n m : Nat) (l : List S34) : Prop := l.length = m * (n + 1) ∧ ∀ r, r < m → ∀ k, k ≤ n → ∃ j, j < n + 1 ∧ who n (at' l (r * (n + 1) + j)) = some k

theorem full_snoc {n m : Nat} {l d : List S34} (h : Full n m l) (hd : Serves n (ints (n + 1)) d) : Full n (m + 1) (l ++ d) := by
  have hdl : d.length = n + 1 := by rw [hd.1, ints_len]
  refine ⟨by rw [List.length_append, h.1, hdl, Nat.add_mul]; omega, fun r hr k hk => ?_⟩
  by_cases hrm : r < m
  · obtain ⟨j, hj, hw⟩ := h.2 r hrm k hk
    have hlt : r * (n + 1) + j < l.length := by
      have : (r + 1) * (n + 1) ≤ m * (n + 1) := Nat.mul_le_mul_right _ hrm
      rw [h.1]; rw [Nat.add_mul] at this; omega
    exact ⟨j, hj, by rw [at_left hlt]; exact hw⟩
  · obtain rfl : r = m := by omega
    obtain ⟨j, hj, hw⟩ := hd.2 (k : Int) (ints_mem.2 (by omega))
    rw [ints_len] at hj
    refine ⟨j, hj, ?_⟩
    rw [← h.1, at_right]
    simpa using hw

theorem tmod_pick (x : Int) (hx : 0 ≤ x) (m : Nat) (h : 0 < m) (hm : m ≤ 1000000) : ∃ i : Nat, i < m ∧ wrap64 (Int.tmod x (IntKind.u64.wrap (m : Int))) = (i : Int) := by
  rw [u64_len hm, Int.tmod_eq_emod_of_nonneg hx]
  have h1 := Int.emod_nonneg x (show (m : Int) ≠ 0 by omega)
  have h2 := Int.emod_lt_of_pos x (show 0 < (m : Int) by omega)
  rw [w64 (by omega) (by omega)]
  exact ⟨(x % (m : Int)).toNat, by omega, by omega⟩

def entryS (n : Nat) (v : Int) : S34 := if v = (n : Int) then ⟨2, 0, 0⟩ else ⟨1, v, 0⟩

theorem who_entryS (n : Nat) (v : Int) (h0 : 0 ≤ v) (h1 : v ≤ n) : who n (entryS n v) = some v.toNat := by
  unfold entryS who
  by_cases h : v = (n : Int)
  · rw [if_pos h]; simp [h]
  · rw [if_neg h]
    simp only [if_true]
    rw [if_pos (by omega)]

theorem s2_step (k : Nat) (l : List Int) (n : Nat) (acc : List S34) (x7 : Int) (left : List Int) (x : Int) (hx : 0 ≤ x) (h : 0 < left.length) (hl : left.length ≤ 1000) (ha : acc.length < 5864062014805) :
    ∃ (i : Nat), i < left.length ∧ ∀ k, distafflaw27_FairShuffled.l2 (k + 1) l (n : Int) acc x7 left x = distafflaw27_FairShuffled.l2 k l (n : Int) (acc ++ [entryS n (left.getD i 0)]) x7 (left.eraseIdx i) (IntKind.u64.wrap (Int.tdiv x (IntKind.u64.wrap (left.length : Int)))) := by
  obtain ⟨i, hi, he⟩ := tmod_pick x hx left.length h (by omega)
  refine ⟨i, hi, fun k => ?_⟩
  simp only [distafflaw27_FairShuffled.l2, Option.bind_some]
  rw [he]
  have hii : (((i : Nat) : Int) + 1).toNat = i + 1 := by omega
  rw [if_pos (by omega), if_neg (by rw [u64_len (by omega)]; omega), if_pos (by omega), if_pos (by omega)]
  simp only [List.nil_append, List.length_nil, Nat.zero_add, List.length_take, List.length_drop]
  unfold rd
  rw [Int.toNat_natCast]
  by_cases hv : left.getD i 0 = (n : Int)
  · have e1 : entryS n (left.getD i 0) = ⟨2, 0, 0⟩ := by unfold entryS; rw [if_pos hv]
    rw [if_pos hv, e1, if_pos ha, if_pos (by omega), if_pos (by omega), w64 (by omega) (by omega), if_pos (by omega), if_pos (by omega), hii, if_pos (by omega), ← List.eraseIdx_eq_take_drop_succ]
  · have e1 : entryS n (left.getD i 0) = ⟨1, left.getD i 0, 0⟩ := by unfold entryS; rw [if_neg hv]
    rw [if_neg hv, e1, if_pos ha, if_pos (by omega), if_pos (by omega), w64 (by omega) (by omega), if_pos (by omega), if_pos (by omega), hii, if_pos (by omega), ← List.eraseIdx_eq_take_drop_succ]

theorem s2_ev (l : List Int) (n : Nat) (x7 : Int) : ∀ m (left : List Int) (x : Int) (acc : List S34), left.length = m → m ≤ 1000 → acc.length + m < 5864062014805 → 0 ≤ x → (∀ v ∈ left, 0 ≤ v ∧ v ≤ n) →
    ∃ d, Serves n left d ∧ ∀ r, Ev (fun k => distafflaw27_FairShuffled.l0 k l (n : Int) (acc ++ d) (wrap64 (x7 + 1))) r → Ev (fun k => distafflaw27_FairShuffled.l2 k l (n : Int) acc x7 left x) r := by
  intro m
  induction m with
  | zero =>
    intro left x acc hl _ _ _ _
    have hnil : left = [] := List.length_eq_zero_iff.1 hl
    subst hnil
    refine ⟨[], ⟨rfl, fun v hv => by simp at hv⟩, fun r h => Ev.step (fun k => ?_) h⟩
    simp only [distafflaw27_FairShuffled.l2, List.append_nil]
    rw [if_neg (by simp)]
  | succ m ih =>
    intro left x acc hl hm ha hx hv
    obtain ⟨i, hi, hs⟩ := s2_step 0 l n acc x7 left x hx (by omega) (by omega) (by omega)
    have hu := u64_range (Int.tdiv x (IntKind.u64.wrap (left.length : Int)))
    obtain ⟨d, hd, hk⟩ := ih (left.eraseIdx i) (IntKind.u64.wrap (Int.tdiv x (IntKind.u64.wrap (left.length : Int)))) (acc ++ [entryS n (left.getD i 0)]) (by rw [erase_len _ _ hi]; omega) (by omega) (by simp; omega) hu.1 (fun v h => hv v (mem_erase h))
    have hel := erase_len left i hi
    refine ⟨entryS n (left.getD i 0) :: d, ⟨by rw [List.length_cons, hd.1, hel]; omega, fun v hvm => ?_⟩, fun r h => Ev.step hs (hk r ?_)⟩
    · rcases mem_split hi hvm with e | he
      · refine ⟨0, by omega, ?_⟩
        rw [at_cons_zero, ← e]
        exact who_entryS n v (hv v hvm).1 (hv v hvm).2
      · obtain ⟨j, hj, hw⟩ := hd.2 v he
        exact ⟨j + 1, by omega, by rw [at_cons_succ]; exact hw⟩
    · simp only [List.append_assoc, List.singleton_append]
      exact h

theorem s1_ev (l : List Int) (n : Nat) (hn : n ≤ 64) (acc : List S34) (i : Nat) (hi : i < l.length) (r : Bool) (h : Ev (fun k => distafflaw27_FairShuffled.l2 k l (n : Int) acc (i : Int) (ints (n + 1)) (rd l (i : Int))) r) : ∀ d j, j + d = n + 1 →
    Ev (fun k => distafflaw27_FairShuffled.l1 k l (n : Int) acc (i : Int) (ints j) (j : Int)) r := by
  intro d
  induction d with
  | zero =>
    intro j hj
    refine Ev.step (fun k => ?_) h
    simp only [distafflaw27_FairShuffled.l1]
    rw [if_neg (by omega), if_pos (by omega), if_pos (by omega), show j = n + 1 by omega]
  | succ d ih =>
    intro j hj
    refine Ev.step (fun k => ?_) (ih (j + 1) (by omega))
    simp only [distafflaw27_FairShuffled.l1]
    rw [if_pos (by omega), if_pos (by rw [ints_len]; omega), w64 (by omega) (by omega), ← ints_succ]; rfl

theorem s_end (l : List Int) (n m : Nat) (hn : 1 ≤ n) (hn6 : n ≤ 64) (hm : m ≤ 40) (acc : List S34) (x7 : Int) (hf : Full n m acc) : Ev (fun k => distafflaw27_FairShuffled.j1 k l (n : Int) acc x7 false) true := by
  have hlen : acc.length ≤ 40 * 65 := by rw [hf.1]; exact Nat.mul_le_mul hm (by omega)
  have hmx : (mx (n : Int) 0).toNat = n := by unfold mx; rw [if_neg (by omega)]; omega
  obtain ⟨b, hb, hbi⟩ := fair_spec (n : Int) (2 * (n : Int) + 1) acc (by omega)
  have hbt : b = true := by
    rw [hbi, hmx, show (2 * (n : Int) + 1).toNat = 2 * n + 1 by omega]
    exact ⟨by omega, fair_rows m hf.1 hf.2⟩
  subst hbt
  obtain ⟨c, hc, hci⟩ := fair_spec (n : Int) (n : Int) acc (by omega)
  refine Ev.step (f := fun k => (fair_Fair.f k (n : Int) acc (2 * (n : Int) + 1)).bind fun t156 => (if t156 = true then (if (acc.length : Int) = 0 then ((distafflaw27_awake.f k).bind fun t157 => (some t157)) else ((fair_Fair.f k (n : Int) acc (n : Int)).bind fun t158 => (if t158 = true then (some false) else ((distafflaw27_awake.f k).bind fun t159 => (some t159))))) else (some false))) (fun k => ?_) (Ev.bind hb ?_)
  · simp only [distafflaw27_FairShuffled.j1, if_false, Bool.false_eq_true]
    rw [w64 (n := 2 * (n : Int)) (by omega) (by omega), w64 (by omega) (by omega)]
  by_cases h0 : (acc.length : Int) = 0
  · refine Ev.congr (f := fun k => (distafflaw27_awake.f k).bind fun t => some t) (fun k => by rw [if_pos rfl, if_pos h0]) (Ev.bind awake_ev (Ev.now _))
  · have hcf : c = false := by
      rw [Bool.eq_false_iff]
      intro hct
      have := (hci.1 hct).2
      rw [hmx, Int.toNat_natCast] at this
      have hm0 : 1 ≤ m := by
        rcases Nat.eq_zero_or_pos m with h | h
        · rw [h] at hf; have := hf.1; omega
        · exact h
      have h1 : 1 * (n + 1) ≤ m * (n + 1) := Nat.mul_le_mul_right _ hm0
      have := fair_room this (by rw [hf.1]; omega)
      omega
    subst hcf
    refine Ev.congr (fun k => by rw [if_pos rfl, if_neg h0]) (Ev.bind hc (Ev.congr (f := fun k => (distafflaw27_awake.f k).bind fun t => some t) (fun k => by simp) (Ev.bind awake_ev (Ev.now _))))

theorem s0_ev (l : List Int) (hl : l.length ≤ 140737488355328) (hw : ∀ x ∈ l, 0 ≤ x) (n : Nat) (hn : 1 ≤ n) (hn6 : n ≤ 64) : ∀ d i (acc : List S34), i + d = 40 → i ≤ l.length → Full n i acc →
    Ev (fun k => distafflaw27_FairShuffled.l0 k l (n : Int) acc (i : Int)) true := by
  intro d
  induction d with
  | zero =>
    intro i acc hi hil hf
    refine Ev.step (fun k => ?_) (s_end l n i hn hn6 (by omega) acc (i : Int) hf)
    simp only [distafflaw27_FairShuffled.l0]
    by_cases h : (i : Int) < (l.length : Int)
    · rw [if_pos h, decide_eq_false (by omega)]
    · rw [if_neg h]
  | succ d ih =>
    intro i acc hi hil hf
    have hlen : acc.length ≤ 40 * 65 := by rw [hf.1]; exact Nat.mul_le_mul (by omega) (by omega)
    by_cases h : (i : Int) < (l.length : Int)
    · have hx : 0 ≤ rd l (i : Int) := by
        unfold rd
        rw [Int.toNat_natCast, List.getD_eq_getElem?_getD, List.getElem?_eq_getElem (by omega)]
        exact hw _ (List.getElem_mem _)
      obtain ⟨dd, hd, hk⟩ := s2_ev l n (i : Int) (n + 1) (ints (n + 1)) (rd l (i : Int)) acc (ints_len _) (by omega) (by omega) hx (fun v hv => by have := ints_mem.1 hv; omega)
      have hnext := ih (i + 1) (acc ++ dd) (by omega) (by omega) (full_snoc hf hd)
      have h2 := hk true (by rw [w64 (by omega) (by omega)]; exact hnext)
      have h1 := s1_ev l n hn6 acc i (by omega) true h2 (n + 1) 0 (by omega)
      refine Ev.step (f := fun k => distafflaw27_FairShuffled.j1 k l (n : Int) acc (i : Int) true) (fun k => ?_) (Ev.step (fun k => ?_) h1)
      · simp only [distafflaw27_FairShuffled.l0]; rw [if_pos h, decide_eq_true (by omega)]
      · simp only [distafflaw27_FairShuffled.j1, if_true]; simp [ints]
    · refine Ev.step (fun k => ?_) (s_end l n i hn hn6 (by omega) acc (i : Int) hf)
      simp only [distafflaw27_FairShuffled.l0]
      rw [if_neg h]

theorem FairShuffled : distafflaw27_FairShuffled.Pure := by
  intro a0 l w0 hl hl8 hw
  refine Ev.rounds (g := fun k => distafflaw27_FairShuffled.f k a0 l) ?_
  obtain ⟨r, hr, h0, h1⟩ := Lo.within_spec a0 6 (by omega) (by omega)
  obtain ⟨q, rfl⟩ := Int.eq_ofNat_of_zero_le h0
  have hx : ∀ x ∈ l, 0 ≤ x := by
    intro x hx
    have h' : (decide ((0 : Int) ≤ x) && decide (x ≤ 18446744073709551615)) = true := hw x hx
    rw [Bool.and_eq_true] at h'
    exact of_decide_eq_true h'.1
  have := s0_ev l (by omega) hx (1 + q) (by omega) (by omega) 40 0 [] (by omega) (by omega) ⟨by simp, fun r hr => by omega⟩
  refine Ev.congr (fun k => ?_) this
  unfold distafflaw27_FairShuffled.f
  rw [hr]
  simp only [Option.bind_some]
  rw [w64 (by omega) (by omega)]
  simp

end Go.Proofs.Ytjninhbdcllofaa.Pure
