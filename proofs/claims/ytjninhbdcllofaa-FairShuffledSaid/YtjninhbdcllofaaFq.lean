/- Plain law of the program's Fair: it answers true just where the window is at least 1 and every window serves all. -/
import Derived.Test.YtjninhbdcllofaaFa1
import Derived.Test.YtjninhbdcllofaaFp
import Derived.IntWalk
namespace Go.Proofs.Ytjninhbdcllofaa.Fq
set_option linter.unusedVariables false
set_option linter.unusedSimpArgs false
open Go.RowKit Go.Proofs.Ytjninhbdcllofaa.Fa Go.Proofs.Ytjninhbdcllofaa.Fp Go.Proofs.YtjninhbdcllofaaW.PrintWords Go.Proofs.YtjninhbdcllofaaW.PrintLast Go.Proofs.YtjninhbdcllofaaW.PrintMore

theorem w64 {n : Int} (h0 : -9223372036854775808 ≤ n) (h1 : n ≤ 9223372036854775807) : wrap64 n = n := IntWalk.wrap64_in n ⟨h0, h1⟩

/-- where everybody was served last, below i -/
def lst (n : Nat) (l : List S34) (i : Nat) : List Int := (List.range (n + 1)).map fun k => occ n l k i

theorem lst_length (n : Nat) (l : List S34) (i : Nat) : (lst n l i).length = n + 1 := by simp [lst]

theorem lst_get (n : Nat) (l : List S34) (i k : Nat) (hk : k ≤ n) : rd (lst n l i) (k : Int) = occ n l k i := by
  unfold rd lst
  rw [Int.toNat_natCast, List.getD_eq_getElem?_getD, List.getElem?_map, List.getElem?_range (by omega)]; rfl

theorem lst_hit {n : Nat} {l : List S34} {i k : Nat} (h : who n (at' l i) = some k) : (lst n l i).set k (i : Int) = lst n l (i + 1) := by
  apply List.ext_getElem?
  intro j
  unfold lst
  rw [List.getElem?_set]
  simp only [List.length_map, List.length_range, List.getElem?_map]
  by_cases hj : k = j
  · subst hj
    have := who_le h
    rw [if_pos rfl, if_pos (by omega), List.getElem?_range (by omega)]
    simp [occ, h]
  · rw [if_neg hj]
    by_cases hjn : j < n + 1
    · rw [List.getElem?_range hjn]
      have : ¬ who n (at' l i) = some j := by rw [h]; intro e; injection e with e; exact hj e
      simp [occ, this]
    · rw [List.getElem?_eq_none (by simp; omega)]; rfl

theorem lst_miss {n : Nat} {l : List S34} {i : Nat} (h : who n (at' l i) = none) : lst n l i = lst n l (i + 1) := by
  unfold lst
  refine List.map_congr_left fun k _ => ?_
  simp [occ, h]

/-- the loop that looks at the ends -/
theorem l2_ev (n : Nat) (l : List S34) (win : Nat) (hL : l.length ≤ 140737488355328) (hn : n ≤ 140737488355328) : ∀ d i, i + d = n + 1 →
    ∃ b, Ev (fun k => fair_Fair.l2 k l (win : Int) (lst n l l.length) ((n + 1 : Nat) : Int) (i : Int)) b ∧ (b = true ↔ ∀ k, i ≤ k → k ≤ n → (l.length : Int) - occ n l k l.length ≤ win) := by
  intro d
  induction d with
  | zero =>
    intro i hi
    refine ⟨true, Ev.step (f := fun _ => some true) (fun k => ?_) (Ev.now _), ?_⟩
    · simp only [fair_Fair.l2]; rw [if_neg (by omega)]
    · simp only [true_iff]; intro k h1 h2; omega
  | succ d ih =>
    intro i hi
    obtain ⟨b, hb, hbi⟩ := ih (i + 1) (by omega)
    have hr := occ_range n l i l.length
    have hg : rd (lst n l l.length) (i : Int) = occ n l i l.length := lst_get n l l.length i (by omega)
    have hlen := lst_length n l l.length
    by_cases hc : (l.length : Int) - occ n l i l.length ≤ win
    · refine ⟨b, Ev.step (fun k => ?_) hb, ?_⟩
      · simp only [fair_Fair.l2]
        rw [if_pos (by omega), if_pos (by omega), if_pos (by omega), hg, w64 (by omega) (by omega), if_neg (by omega), w64 (by omega) (by omega)]
        rfl
      · rw [hbi]
        constructor
        · intro h k h1 h2
          by_cases e : k = i
          · subst e; exact hc
          · exact h k (by omega) h2
        · intro h k h1 h2; exact h k (by omega) h2
    · refine ⟨false, Ev.step (f := fun _ => some false) (fun k => ?_) (Ev.now _), ?_⟩
      · simp only [fair_Fair.l2]
        rw [if_pos (by omega), if_pos (by omega), if_pos (by omega), hg, w64 (by omega) (by omega), if_pos (by omega)]
      · simp only [Bool.false_eq_true, false_iff]
        intro h; exact hc (h i (Nat.le_refl _) (by omega))

theorem rd_at (l : List S34) (i : Nat) : rd_T34 l (i : Int) = at' l i := by unfold rd_T34 at'; rw [Int.toNat_natCast]

/-- what remains of the script -/
theorem l1_ev (n : Nat) (l : List S34) (win : Nat) (hL : l.length ≤ 140737488355328) (hn : n ≤ 140737488355328) : ∀ d i, i + d = l.length →
    ∃ b, Ev (fun k => fair_Fair.l1 k l (win : Int) (n : Int) (lst n l i) l (l.length : Int) (i : Int)) b ∧ (b = true ↔ Gaps n l win i) := by
  intro d
  induction d with
  | zero =>
    intro i hi
    obtain ⟨b, hb, hbi⟩ := l2_ev n l win hL hn (n + 1) 0 (by omega)
    have hi' : i = l.length := by omega
    refine ⟨b, Ev.step (fun k => ?_) hb, ?_⟩
    · simp only [fair_Fair.l1]
      rw [if_neg (by omega), hi', lst_length]; rfl
    · rw [hbi]
      unfold Gaps
      constructor
      · intro h; exact ⟨fun j h1 h2 => by omega, fun k hk => h k (by omega) hk⟩
      · intro h k _ hk; exact h.2 k hk
  | succ d ih =>
    intro i hi
    obtain ⟨b, hb, hbi⟩ := ih (i + 1) (by omega)
    have hlen := lst_length n l i
    have wi : wrap64 ((i : Int) + 1) = ((i + 1 : Nat) : Int) := by rw [w64 (by omega) (by omega)]; rfl
    -- two ways on: somebody is served, or nobody
    have hit : ∀ k, who n (at' l i) = some k → ∀ (g : Nat → Option Bool), (∀ m, g (m + 1) = if wrap64 ((i : Int) - rd (lst n l i) (k : Int)) > (win : Int) then some false else fair_Fair.l1 m l (win : Int) (n : Int) ((lst n l i).set k (i : Int)) l (l.length : Int) (wrap64 ((i : Int) + 1))) →
        ∃ b, Ev g b ∧ (b = true ↔ Gaps n l win i) := by
      intro k hk g hg
      have hkn := who_le hk
      have hr := occ_range n l k i
      rw [lst_get n l i k hkn, w64 (by omega) (by omega)] at hg
      by_cases hc : (i : Int) - occ n l k i > win
      · refine ⟨false, Ev.step (f := fun _ => some false) (fun m => by rw [hg, if_pos hc]) (Ev.now _), ?_⟩
        simp only [Bool.false_eq_true, false_iff]
        intro h
        have := h.1 i (Nat.le_refl _) (by omega) k hk
        omega
      · refine ⟨b, Ev.step (fun m => by rw [hg, if_neg hc, lst_hit hk, wi]) hb, ?_⟩
        rw [hbi]
        unfold Gaps
        constructor
        · intro h
          refine ⟨fun j h1 h2 k' hk' => ?_, h.2⟩
          by_cases e : j = i
          · subst e
            rw [hk] at hk'; injection hk' with hk'; subst hk'; omega
          · exact h.1 j (by omega) h2 k' hk'
        · intro h; exact ⟨fun j h1 h2 => h.1 j (by omega) h2, h.2⟩
    have miss : who n (at' l i) = none → ∀ (g : Nat → Option Bool), (∀ m, g (m + 1) = fair_Fair.l1 m l (win : Int) (n : Int) (lst n l i) l (l.length : Int) (wrap64 ((i : Int) + 1))) →
        ∃ b, Ev g b ∧ (b = true ↔ Gaps n l win i) := by
      intro hk g hg
      refine ⟨b, Ev.step (fun m => by rw [hg, lst_miss hk, wi]) hb, ?_⟩
      rw [hbi]
      unfold Gaps
      constructor
      · intro h
        refine ⟨fun j h1 h2 k' hk' => ?_, h.2⟩
        by_cases e : j = i
        · subst e; rw [hk] at hk'; cases hk'
        · exact h.1 j (by omega) h2 k' hk'
      · intro h; exact ⟨fun j h1 h2 => h.1 j (by omega) h2, h.2⟩
    -- the head of the round
    have head : ∀ m, fair_Fair.l1 (m + 1) l (win : Int) (n : Int) (lst n l i) l (l.length : Int) (i : Int) =
        (if (at' l i).f0 = 1 then (if (at' l i).f1 ≥ 0 then (fair_Fair.j2 m l win n (lst n l i) i n l l.length i (decide ((at' l i).f1 < n)) (at' l i).f0 (at' l i).f1 (at' l i).f2) else (fair_Fair.j2 m l win n (lst n l i) i n l l.length i false (at' l i).f0 (at' l i).f1 (at' l i).f2)) else (fair_Fair.j2 m l win n (lst n l i) i n l l.length i false (at' l i).f0 (at' l i).f1 (at' l i).f2)) := by
      intro m
      simp only [fair_Fair.l1, rd_at]
      rw [if_pos (by omega), if_pos (by omega), if_pos (by omega)]
    by_cases h1 : (at' l i).f0 = 1
    · by_cases h2 : 0 ≤ (at' l i).f1 ∧ (at' l i).f1 < (n : Int)
      · have hk : who n (at' l i) = some (at' l i).f1.toNat := by unfold who; rw [if_pos h1, if_pos h2]
        obtain ⟨c, hc, hci⟩ := hit _ hk (fun m => fair_Fair.j2 m l win n (lst n l i) i n l l.length i true (at' l i).f0 (at' l i).f1 (at' l i).f2) (fun m => by
          simp only [fair_Fair.j2, if_true, if_false, Bool.false_eq_true]
          rw [if_pos h2.1, if_pos (by omega), Int.toNat_of_nonneg h2.1])
        exact ⟨c, Ev.step (fun m => by rw [head, if_pos h1, if_pos h2.1, decide_eq_true h2.2]) hc, hci⟩
      · have hk : who n (at' l i) = none := by unfold who; rw [if_pos h1, if_neg h2]
        obtain ⟨c, hc, hci⟩ := miss hk (fun m => fair_Fair.j2 m l win n (lst n l i) i n l l.length i false (at' l i).f0 (at' l i).f1 (at' l i).f2) (fun m => by
          simp only [fair_Fair.j2, if_true, if_false, Bool.false_eq_true]
          rw [if_neg (by omega)])
        refine ⟨c, Ev.step (fun m => ?_) hc, hci⟩
        rw [head, if_pos h1]
        by_cases h3 : (at' l i).f1 ≥ 0
        · rw [if_pos h3, decide_eq_false (by omega)]
        · rw [if_neg h3]
    · by_cases h2 : (at' l i).f0 = 2
      · have hk : who n (at' l i) = some n := by unfold who; rw [if_neg h1, if_pos h2]
        obtain ⟨c, hc, hci⟩ := hit _ hk (fun m => fair_Fair.j2 m l win n (lst n l i) i n l l.length i false (at' l i).f0 (at' l i).f1 (at' l i).f2) (fun m => by
          simp only [fair_Fair.j2, if_true, if_false, Bool.false_eq_true]
          rw [if_pos h2, if_pos (by omega), if_pos (by omega), Int.toNat_natCast])
        exact ⟨c, Ev.step (fun m => by rw [head, if_neg h1]) hc, hci⟩
      · have hk : who n (at' l i) = none := by unfold who; rw [if_neg h1, if_neg h2]
        obtain ⟨c, hc, hci⟩ := miss hk (fun m => fair_Fair.j2 m l win n (lst n l i) i n l l.length i false (at' l i).f0 (at' l i).f1 (at' l i).f2) (fun m => by
          simp only [fair_Fair.j2, if_true, if_false, Bool.false_eq_true]
          rw [if_neg h2])
        exact ⟨c, Ev.step (fun m => by rw [head, if_neg h1]) hc, hci⟩

/-- the loop that writes -1 everywhere -/
theorem l0_ev (n : Nat) (l : List S34) (win : Nat) (hn : n ≤ 140737488355328) (r : Bool) (h : Ev (fun k => fair_Fair.l1 k l (win : Int) (n : Int) (lst n l 0) l (l.length : Int) 0) r) : ∀ d i, i + d = n + 1 →
    Ev (fun k => fair_Fair.l0 k l (win : Int) (n : Int) (List.replicate i (-1) ++ List.replicate d 0) ((n + 1 : Nat) : Int) (i : Int)) r := by
  intro d
  induction d with
  | zero =>
    intro i hi
    refine Ev.step (fun k => ?_) h
    simp only [fair_Fair.l0]
    rw [if_neg (by omega)]
    have e : List.replicate i (-1 : Int) ++ List.replicate 0 0 = lst n l 0 := by
      rw [List.replicate_zero, List.append_nil, show i = n + 1 by omega]
      symm
      rw [List.eq_replicate_iff]
      exact ⟨lst_length n l 0, fun b hb => by simp [lst, occ] at hb; exact hb.2.symm⟩
    rw [e]
  | succ d ih =>
    intro i hi
    refine Ev.step (fun k => ?_) (ih (i + 1) (by omega))
    simp only [fair_Fair.l0]
    rw [if_pos (by omega), if_pos (by omega), if_pos (by simp; omega), w64 (by omega) (by omega), Int.toNat_natCast]
    have e : (List.replicate i (-1 : Int) ++ List.replicate (d + 1) 0).set i (-1) = List.replicate (i + 1) (-1) ++ List.replicate d 0 := by
      rw [List.set_append_right _ _ (by simp), List.length_replicate, Nat.sub_self, List.replicate_succ, List.set_cons_zero, List.replicate_succ', List.append_assoc]; rfl
    rw [e]; rfl

theorem fair_spec (workers win : Int) (l : List S34) (hL : l.length ≤ 5864062014805) :
    ∃ b, Ev (fun k => fair_Fair.f k workers l win) b ∧ (b = true ↔ (1 ≤ win ∧ FairP (mx workers 0).toNat l win.toNat)) := by
  by_cases h1 : win < 1
  · refine ⟨false, Ev.congr (f := fun _ => some false) (fun k => by unfold fair_Fair.f; rw [if_pos h1]) (Ev.now _), ?_⟩
    simp only [Bool.false_eq_true, false_iff]; intro h; omega
  by_cases h2 : (l.length : Int) < win
  · refine ⟨true, Ev.congr (f := fun _ => some true) (fun k => by unfold fair_Fair.f; rw [if_neg h1, if_pos h2]) (Ev.now _), ?_⟩
    simp only [true_iff]
    exact ⟨by omega, fun k _ p hp => by omega⟩
  have hm : 0 ≤ mx workers 0 := by unfold mx; split <;> omega
  obtain ⟨n, hn⟩ := Int.eq_ofNat_of_zero_le hm
  obtain ⟨wn, hwn⟩ := Int.eq_ofNat_of_zero_le (show 0 ≤ win by omega)
  subst hwn
  rw [Int.toNat_natCast]
  by_cases h3 : mx workers 0 ≥ (wn : Int)
  · refine ⟨false, Ev.congr (f := fun _ => some false) (fun k => by unfold fair_Fair.f; rw [if_neg h1, if_neg h2, if_pos h3]) (Ev.now _), ?_⟩
    simp only [Bool.false_eq_true, false_iff]
    intro h
    have := fair_room h.2 (by omega)
    omega
  · have hnn : (mx workers 0).toNat = n := by omega
    rw [hnn]
    obtain ⟨b, hb, hbi⟩ := l1_ev n l wn (by omega) (by omega) l.length 0 (by omega)
    refine ⟨b, Ev.congr (fun k => ?_) (l0_ev n l wn (by omega) b hb (n + 1) 0 (by omega)), ?_⟩
    · unfold fair_Fair.f
      rw [if_neg h1, if_neg h2, if_neg h3, hn, w64 (by omega) (by omega), if_pos (by omega), if_pos (by omega)]
      simp only [Option.bind_some, List.length_replicate]
      have e : (((n : Int) + 1).toNat) = n + 1 := by omega
      rw [e]; simp
    · rw [hbi, fair_iff]
      constructor
      · intro h; exact ⟨by omega, h⟩
      · intro h; exact h.2

end Go.Proofs.Ytjninhbdcllofaa.Fq
