/- Plain law of the reference's Fair: it answers true just where the window is at least 1 and every window serves all. -/
import Derived.Test.YtjninhbdcllofaaFa7
import Derived.Test.YtjninhbdcllofaaFq
namespace Go.Proofs.Ytjninhbdcllofaa.Fr
set_option linter.unusedVariables false
set_option linter.unusedSimpArgs false
open Go.RowKit Go.Proofs.Ytjninhbdcllofaa.Fa Go.Proofs.Ytjninhbdcllofaa.Fp Go.Proofs.Ytjninhbdcllofaa.Fq Go.Proofs.YtjninhbdcllofaaW.PrintWords Go.Proofs.YtjninhbdcllofaaW.PrintLast Go.Proofs.YtjninhbdcllofaaW.PrintMore

/-- where each worker was picked last -/
def wst (n : Nat) (l : List S34) (i : Nat) : List Int := (List.range n).map fun k => occ n l k i

theorem wst_length (n : Nat) (l : List S34) (i : Nat) : (wst n l i).length = n := by simp [wst]

theorem wst_get (n : Nat) (l : List S34) (i k : Nat) (hk : k < n) : rd (wst n l i) (k : Int) = occ n l k i := by
  unfold rd wst
  rw [Int.toNat_natCast, List.getD_eq_getElem?_getD, List.getElem?_map, List.getElem?_range hk]; rfl

theorem wst_hit {n : Nat} {l : List S34} {i k : Nat} (h : who n (at' l i) = some k) (hk : k < n) : (wst n l i).set k (i : Int) = wst n l (i + 1) := by
  apply List.ext_getElem?
  intro j
  unfold wst
  rw [List.getElem?_set]
  simp only [List.length_map, List.length_range, List.getElem?_map]
  by_cases hj : k = j
  · subst hj
    rw [if_pos rfl, if_pos hk, List.getElem?_range hk]
    simp [occ, h]
  · rw [if_neg hj]
    by_cases hjn : j < n
    · rw [List.getElem?_range hjn]
      have : ¬ who n (at' l i) = some j := by rw [h]; intro e; injection e with e; exact hj e
      simp [occ, this]
    · rw [List.getElem?_eq_none (by simp; omega)]; rfl

theorem wst_miss {n : Nat} {l : List S34} {i : Nat} (h : ∀ k, k < n → who n (at' l i) ≠ some k) : wst n l i = wst n l (i + 1) := by
  unfold wst
  refine List.map_congr_left fun k hk => ?_
  have := h k (by simpa using hk)
  simp [occ, this]

/-- the inner loop: is anybody late? -/
theorem l2_ev (n : Nat) (l : List S34) (win i : Nat) (from_ : Int) (hn : n ≤ 140737488355328) (tick : Int) (b : Bool) (P : Prop)
    (hb : Ev (fun k => distaffref26_Fair.l1 k l (win : Int) (wst n l (i + 1)) tick (wrap64 ((i : Int) + 1))) b) (hbP : b = true ↔ P) : ∀ d w, w + d = n →
    ∃ c, Ev (fun k => distaffref26_Fair.l2 k l (win : Int) (wst n l (i + 1)) tick (i : Int) from_ (w : Int)) c ∧ (c = true ↔ (P ∧ ∀ k, w ≤ k → k < n → from_ ≤ occ n l k (i + 1))) := by
  intro d
  induction d with
  | zero =>
    intro w hw
    refine ⟨b, Ev.step (fun k => ?_) hb, ?_⟩
    · simp only [distaffref26_Fair.l2]; rw [if_neg (by rw [wst_length]; omega)]
    · rw [hbP]; exact ⟨fun h => ⟨h, fun k h1 h2 => by omega⟩, fun h => h.1⟩
  | succ d ih =>
    intro w hw
    obtain ⟨c, hc, hci⟩ := ih (w + 1) (by omega)
    have hg := wst_get n l (i + 1) w (by omega)
    have hlen := wst_length n l (i + 1)
    by_cases h : occ n l w (i + 1) < from_
    · refine ⟨false, Ev.step (f := fun _ => some false) (fun k => ?_) (Ev.now _), ?_⟩
      · simp only [distaffref26_Fair.l2]; rw [if_pos (by omega), if_pos (by omega), hg, if_pos h]
      · simp only [Bool.false_eq_true, false_iff]
        intro hx; have := hx.2 w (Nat.le_refl _) (by omega); omega
    · refine ⟨c, Ev.step (fun k => ?_) hc, ?_⟩
      · simp only [distaffref26_Fair.l2]; rw [if_pos (by omega), if_pos (by omega), hg, if_neg h, w64 (by omega) (by omega)]; rfl
      · rw [hci]
        constructor
        · rintro ⟨h1, h2⟩
          refine ⟨h1, fun k hk1 hk2 => ?_⟩
          by_cases e : k = w
          · subst e; omega
          · exact h2 k (by omega) hk2
        · rintro ⟨h1, h2⟩; exact ⟨h1, fun k hk1 hk2 => h2 k (by omega) hk2⟩

/-- what remains of the script -/
theorem l1_ev (n : Nat) (l : List S34) (win : Nat) (hL : l.length ≤ 140737488355328) (hn : n ≤ 140737488355328) (hw1 : 1 ≤ win) (hw2 : (win : Int) ≤ 9223372036854775807) : ∀ d i, i + d = l.length →
    ∃ b, Ev (fun k => distaffref26_Fair.l1 k l (win : Int) (wst n l i) (occ n l n i) (i : Int)) b ∧ (b = true ↔ StepsW n l win i) := by
  intro d
  induction d with
  | zero =>
    intro i hi
    refine ⟨true, Ev.step (f := fun _ => some true) (fun k => ?_) (Ev.now _), ?_⟩
    · simp only [distaffref26_Fair.l1]; rw [if_neg (by omega)]
    · simp only [true_iff]; intro j h1 h2; omega
  | succ d ih =>
    intro i hi
    obtain ⟨b, hb, hbi⟩ := ih (i + 1) (by omega)
    have wi : wrap64 ((i : Int) + 1) = ((i + 1 : Nat) : Int) := by rw [w64 (by omega) (by omega)]; rfl
    have hlen := wst_length n l i
    -- behind the two notes
    have j4 : ∃ c, Ev (fun k => distaffref26_Fair.j4 k l (win : Int) (wst n l (i + 1)) (occ n l n (i + 1)) (i : Int)) c ∧ (c = true ↔ StepsW n l win i) := by
      by_cases h : i + 1 < win
      · refine ⟨b, Ev.step (fun k => ?_) hb, ?_⟩
        · simp only [distaffref26_Fair.j4]; rw [wi, if_pos (by omega)]
        · rw [hbi]
          constructor
          · intro hs j h1 h2 h3
            exact hs j (by omega) h2 h3
          · intro hs j h1 h2 h3; exact hs j (by omega) h2 h3
      · have hr := occ_range n l n (i + 1)
        have wf : wrap64 (((i + 1 : Nat) : Int) - (win : Int)) = ((i + 1 : Nat) : Int) - win := w64 (by omega) (by omega)
        by_cases ht : occ n l n (i + 1) < ((i + 1 : Nat) : Int) - win
        · refine ⟨false, Ev.step (f := fun _ => some false) (fun k => ?_) (Ev.now _), ?_⟩
          · simp only [distaffref26_Fair.j4]; rw [wi, if_neg (by omega), wf, if_pos ht]
          · simp only [Bool.false_eq_true, false_iff]
            intro hs; have := hs i (Nat.le_refl _) (by omega) (by omega) n (Nat.le_refl _); omega
        · obtain ⟨c, hc, hci⟩ := l2_ev n l win i (((i + 1 : Nat) : Int) - win) hn (occ n l n (i + 1)) b _ (by rw [wi]; exact hb) hbi n 0 (by omega)
          refine ⟨c, Ev.step (fun k => ?_) hc, ?_⟩
          · simp only [distaffref26_Fair.j4]; rw [wi, if_neg (by omega), wf, if_neg ht]; rfl
          · rw [hci]
            constructor
            · rintro ⟨h1, h2⟩ j hj1 hj2 hj3 k hk
              by_cases e : j = i
              · subst e
                by_cases ek : k = n
                · subst ek; omega
                · have := h2 k (by omega) (by omega); omega
              · exact h1 j (by omega) hj2 hj3 k hk
            · intro hs
              refine ⟨fun j hj1 hj2 hj3 k hk => hs j (by omega) hj2 hj3 k hk, fun k _ hk => ?_⟩
              have := hs i (Nat.le_refl _) (by omega) (by omega) k (by omega)
              omega
    obtain ⟨c, hc, hci⟩ := j4
    refine ⟨c, ?_, hci⟩
    -- the two notes
    have hj2 : Ev (fun k => distaffref26_Fair.j2 k l (win : Int) (wst n l i) (occ n l n (i + 1)) (i : Int)) c := by
      by_cases h1 : (at' l i).f0 = 1
      · by_cases h2 : 0 ≤ (at' l i).f1 ∧ (at' l i).f1 < (n : Int)
        · have hk : who n (at' l i) = some (at' l i).f1.toNat := by unfold who; rw [if_pos h1, if_pos h2]
          have e := wst_hit hk (by omega)
          refine Ev.step (f := fun k => distaffref26_Fair.j3 k l (win : Int) (wst n l i) (occ n l n (i + 1)) (i : Int) true) (fun k => ?_) (Ev.step (fun k => ?_) hc)
          · simp only [distaffref26_Fair.j2, rd_at]; rw [if_pos (by omega), if_pos (by omega), if_pos h1, if_pos h2.1, decide_eq_true (by omega)]
          · simp only [distaffref26_Fair.j3, rd_at, if_true]; rw [if_pos (by omega), if_pos (by omega), if_pos h2.1, if_pos (by omega), e]
        · have hk : ∀ k, k < n → who n (at' l i) ≠ some k := by intro k _; unfold who; rw [if_pos h1, if_neg h2]; simp
          rw [← wst_miss hk] at hc
          refine Ev.step (f := fun k => distaffref26_Fair.j3 k l (win : Int) (wst n l i) (occ n l n (i + 1)) (i : Int) false) (fun k => ?_) (Ev.step (fun k => ?_) hc)
          · simp only [distaffref26_Fair.j2, rd_at]; rw [if_pos (by omega), if_pos (by omega), if_pos h1]
            by_cases h3 : (at' l i).f1 ≥ 0
            · rw [if_pos h3, decide_eq_false (by omega)]
            · rw [if_neg h3]
          · simp only [distaffref26_Fair.j3, if_false, Bool.false_eq_true]
      · have hk : ∀ k, k < n → who n (at' l i) ≠ some k := by
          intro k hk; unfold who; rw [if_neg h1]; split
          · intro e; injection e with e; omega
          · simp
        rw [← wst_miss hk] at hc
        refine Ev.step (f := fun k => distaffref26_Fair.j3 k l (win : Int) (wst n l i) (occ n l n (i + 1)) (i : Int) false) (fun k => ?_) (Ev.step (fun k => ?_) hc)
        · simp only [distaffref26_Fair.j2, rd_at]; rw [if_pos (by omega), if_pos (by omega), if_neg h1]
        · simp only [distaffref26_Fair.j3, if_false, Bool.false_eq_true]
    by_cases h2 : (at' l i).f0 = 2
    · have hk : who n (at' l i) = some n := by unfold who; rw [if_neg (by omega), if_pos h2]
      have e : occ n l n (i + 1) = (i : Int) := by simp [occ, hk]
      rw [e] at hj2
      refine Ev.step (fun k => ?_) hj2
      simp only [distaffref26_Fair.l1, rd_at]; rw [if_pos (by omega), if_pos (by omega), if_pos h2]
    · have hk : who n (at' l i) ≠ some n := by
        unfold who; split
        · split
          · intro e; injection e with e; omega
          · simp
        · simp
      have e : occ n l n (i + 1) = occ n l n i := by simp [occ, hk]
      rw [e] at hj2
      refine Ev.step (fun k => ?_) hj2
      simp only [distaffref26_Fair.l1, rd_at]; rw [if_pos (by omega), if_pos (by omega), if_neg h2]

theorem l0_ev (n : Nat) (l : List S34) (win : Nat) (hn : n ≤ 140737488355328) (r : Bool) (h : Ev (fun k => distaffref26_Fair.l1 k l (win : Int) (wst n l 0) (-1) 0) r) : ∀ d i, i + d = n →
    Ev (fun k => distaffref26_Fair.l0 k l (win : Int) (List.replicate i (-1) ++ List.replicate d 0) (-1) (i : Int)) r := by
  intro d
  induction d with
  | zero =>
    intro i hi
    refine Ev.step (fun k => ?_) h
    simp only [distaffref26_Fair.l0]
    rw [if_neg (by simp)]
    have e : List.replicate i (-1 : Int) ++ List.replicate 0 0 = wst n l 0 := by
      rw [List.replicate_zero, List.append_nil, show i = n by omega]
      symm
      rw [List.eq_replicate_iff]
      exact ⟨wst_length n l 0, fun b hb => by simp [wst, occ] at hb; exact hb.2.symm⟩
    rw [e]
  | succ d ih =>
    intro i hi
    refine Ev.step (fun k => ?_) (ih (i + 1) (by omega))
    simp only [distaffref26_Fair.l0]
    rw [if_pos (by simp; omega), if_pos (by omega), w64 (by omega) (by omega), Int.toNat_natCast]
    have e : (List.replicate i (-1 : Int) ++ List.replicate (d + 1) 0).set i (-1) = List.replicate (i + 1) (-1) ++ List.replicate d 0 := by
      rw [List.set_append_right _ _ (by simp), List.length_replicate, Nat.sub_self, List.replicate_succ, List.set_cons_zero, List.replicate_succ', List.append_assoc]; rfl
    rw [e]; rfl

theorem ref_spec (workers win : Int) (l : List S34) (hL : l.length ≤ 5864062014805) (hw2 : win ≤ 9223372036854775807) :
    ∃ b, Ev (fun k => distaffref26_Fair.f k workers l win) b ∧ (b = true ↔ (1 ≤ win ∧ FairP (mx workers 0).toNat l win.toNat)) := by
  by_cases h1 : win < 1
  · refine ⟨false, Ev.congr (f := fun _ => some false) (fun k => by unfold distaffref26_Fair.f; rw [if_pos h1]) (Ev.now _), ?_⟩
    simp only [Bool.false_eq_true, false_iff]; intro h; omega
  have em : mx 0 workers = mx workers 0 := by unfold mx; split <;> split <;> omega
  have hm : 0 ≤ mx workers 0 := by unfold mx; split <;> omega
  obtain ⟨wn, hwn⟩ := Int.eq_ofNat_of_zero_le (show 0 ≤ win by omega)
  subst hwn
  rw [Int.toNat_natCast]
  by_cases h2 : workers > (l.length : Int)
  · refine ⟨decide ((l.length : Int) < (wn : Int)), Ev.congr (f := fun _ => some (decide ((l.length : Int) < (wn : Int)))) (fun k => by unfold distaffref26_Fair.f; rw [if_neg h1, if_pos h2]) (Ev.now _), ?_⟩
    rw [decide_eq_true_iff]
    constructor
    · intro h; exact ⟨by omega, fun k _ p hp => by omega⟩
    · rintro ⟨_, h⟩
      refine Classical.byContradiction fun hc => ?_
      have := fair_room h (by omega)
      have : mx workers 0 = workers := by unfold mx; split <;> omega
      omega
  · obtain ⟨n, hn⟩ := Int.eq_ofNat_of_zero_le hm
    have hnn : (mx workers 0).toNat = n := by omega
    have hnl : n ≤ l.length := by
      have : mx workers 0 ≤ l.length := by unfold mx; split <;> omega
      omega
    rw [hnn]
    obtain ⟨b, hb, hbi⟩ := l1_ev n l wn (by omega) (by omega) (by omega) hw2 l.length 0 (by omega)
    refine ⟨b, Ev.congr (fun k => ?_) (l0_ev n l wn (by omega) b hb n 0 (by omega)), ?_⟩
    · unfold distaffref26_Fair.f
      rw [if_neg h1, if_neg h2, em, hn, if_pos (by omega), if_pos (by omega), Int.toNat_natCast]
      rfl
    · rw [hbi, stepsW_iff (by omega)]
      constructor
      · intro h; exact ⟨by omega, h⟩
      · intro h; exact h.2

end Go.Proofs.Ytjninhbdcllofaa.Fr
