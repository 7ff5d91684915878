/- Plain lists, no Go: what it is for a script to be fair, told by windows and told by gaps. -/
import Derived.Test.YtjninhbdcllofaaFa0
namespace Go.Proofs.Ytjninhbdcllofaa.Fp
open Go.Proofs.Ytjninhbdcllofaa.Fa

/-- whom an entry serves: a worker below n, or the clock (n); none: nobody -/
def who (n : Nat) (x : S34) : Option Nat :=
  if x.f0 = 1 then (if 0 ≤ x.f1 ∧ x.f1 < (n : Int) then some x.f1.toNat else none) else (if x.f0 = 2 then some n else none)

theorem who_le {n : Nat} {x : S34} {k : Nat} (h : who n x = some k) : k ≤ n := by
  unfold who at h
  split at h
  · split at h
    · next hb => injection h with h; omega
    · cases h
  · split at h
    · injection h with h; omega
    · cases h

def at' (l : List S34) (i : Nat) : S34 := l.getD i z34

/-- the last place below i that serves k; -1: there is none -/
def occ (n : Nat) (l : List S34) (k : Nat) : Nat → Int
  | 0 => -1
  | i + 1 => if who n (at' l i) = some k then (i : Int) else occ n l k i

theorem occ_range (n : Nat) (l : List S34) (k : Nat) : ∀ i, -1 ≤ occ n l k i ∧ occ n l k i < (i : Int)
  | 0 => by simp [occ]
  | i + 1 => by
    have := occ_range n l k i
    unfold occ; split <;> omega

theorem occ_hit (n : Nat) (l : List S34) (k : Nat) : ∀ i, ∀ j : Nat, occ n l k i = (j : Int) → who n (at' l j) = some k
  | 0, j, h => by simp [occ] at h
  | i + 1, j, h => by
    unfold occ at h
    split at h
    · next hb => have : i = j := by omega
                 subst this; exact hb
    · exact occ_hit n l k i j h

theorem occ_last (n : Nat) (l : List S34) (k : Nat) : ∀ i, ∀ j : Nat, j < i → who n (at' l j) = some k → (j : Int) ≤ occ n l k i
  | 0, j, h, _ => by omega
  | i + 1, j, h, hw => by
    unfold occ
    split
    · omega
    · next hb =>
      have hne : j ≠ i := fun e => hb (e ▸ hw)
      exact occ_last n l k i j (by omega) hw

/-- every window serves all -/
def FairP (n : Nat) (l : List S34) (win : Nat) : Prop :=
  ∀ k, k ≤ n → ∀ p, p + win ≤ l.length → ∃ j, p ≤ j ∧ j < p + win ∧ who n (at' l j) = some k

/-- told by gaps -/
def Gaps (n : Nat) (l : List S34) (win : Nat) (i : Nat) : Prop :=
  (∀ j, i ≤ j → j < l.length → ∀ k, who n (at' l j) = some k → (j : Int) - occ n l k j ≤ win) ∧ ∀ k, k ≤ n → (l.length : Int) - occ n l k l.length ≤ win

theorem fair_of_gaps {n : Nat} {l : List S34} {win : Nat} (h : Gaps n l win 0) : FairP n l win := by
  intro k hk p hp
  refine Classical.byContradiction fun hno => ?_
  have hno' : ∀ j, p ≤ j → j < p + win → who n (at' l j) ≠ some k := fun j h1 h2 h3 => hno ⟨j, h1, h2, h3⟩
  have small : ∀ i, p ≤ i → (∀ j, p ≤ j → j < i → who n (at' l j) ≠ some k) → occ n l k i < (p : Int) := by
    intro i hi hn
    refine Classical.byContradiction fun hc => ?_
    have hr := occ_range n l k i
    obtain ⟨j, hj⟩ : ∃ j : Nat, occ n l k i = (j : Int) := ⟨(occ n l k i).toNat, by omega⟩
    exact hn j (by omega) (by omega) (occ_hit n l k i j hj)
  have all : ∀ d i, i = p + win + d → i ≤ l.length → ∀ j, p ≤ j → j < i → who n (at' l j) ≠ some k := by
    intro d
    induction d with
    | zero => intro i hi _ j h1 h2; exact hno' j h1 (by omega)
    | succ d ih =>
      intro i hi hl j h1 h2 hw
      have hbefore := ih (i - 1) (by omega) (by omega)
      by_cases hj : j < i - 1
      · exact hbefore j h1 hj hw
      · have hji : j = i - 1 := by omega
        subst hji
        have hs := small (i - 1) (by omega) hbefore
        have := h.1 (i - 1) (by omega) (by omega) k hw
        omega
  have hend := all (l.length - (p + win)) l.length (by omega) (Nat.le_refl _)
  have hs := small l.length (by omega) hend
  have := h.2 k hk
  omega

theorem gaps_of_fair {n : Nat} {l : List S34} {win : Nat} (h : FairP n l win) : Gaps n l win 0 := by
  have key : ∀ (i k : Nat), k ≤ n → i ≤ l.length → (i : Int) - occ n l k i ≤ win := by
    intro i k hk hi
    refine Classical.byContradiction fun hc => ?_
    have hr := occ_range n l k i
    obtain ⟨p, hp⟩ : ∃ p : Nat, occ n l k i + 1 = (p : Int) := ⟨(occ n l k i + 1).toNat, by omega⟩
    obtain ⟨j, h1, h2, h3⟩ := h k hk p (by omega)
    have := occ_last n l k i j (by omega) h3
    omega
  exact ⟨fun j _ hj k hw => key j k (who_le hw) (by omega), fun k hk => key l.length k hk (Nat.le_refl _)⟩

theorem fair_iff (n : Nat) (l : List S34) (win : Nat) : Gaps n l win 0 ↔ FairP n l win := ⟨fair_of_gaps, gaps_of_fair⟩

/-- told step by step (the reference): at each place that ends a window all were served in it -/
def StepsW (n : Nat) (l : List S34) (win : Nat) (i : Nat) : Prop :=
  ∀ j, i ≤ j → j < l.length → win ≤ j + 1 → ∀ k, k ≤ n → (j : Int) + 1 - win ≤ occ n l k (j + 1)

theorem stepsW_iff {n : Nat} {l : List S34} {win : Nat} (hw : 1 ≤ win) : StepsW n l win 0 ↔ FairP n l win := by
  constructor
  · intro h k hk p hp
    have := h (p + win - 1) (by omega) (by omega) (by omega) k hk
    have e : p + win - 1 + 1 = p + win := by omega
    rw [e] at this
    have hr := occ_range n l k (p + win)
    refine ⟨(occ n l k (p + win)).toNat, by omega, by omega, occ_hit n l k (p + win) _ (by omega)⟩
  · intro h j _ hj hwj k hk
    obtain ⟨q, h1, h2, h3⟩ := h k hk (j + 1 - win) (by omega)
    have := occ_last n l k (j + 1) q (by omega) h3
    omega

/-- a window serves no more than it is long -/
theorem pigeon : ∀ (m a : Nat) (f : Nat → Option Nat), (∀ k, k < m → ∃ j, j < a ∧ f j = some k) → m ≤ a := by
  intro m a f h
  have hx : ∀ k : Fin m, ∃ j : Fin a, f j.val = some k.val := fun k => by
    obtain ⟨j, hj, e⟩ := h k.val k.isLt
    exact ⟨⟨j, hj⟩, e⟩
  let g : Fin m → Fin a := fun k => Classical.choose (hx k)
  have hg : ∀ k, f (g k).val = some k.val := fun k => Classical.choose_spec (hx k)
  have inj : ∀ x y, g x = g y → x = y := by
    intro x y e
    have h1 := hg x
    rw [e, hg y] at h1
    exact Fin.ext (by injection h1 with h1; exact h1.symm)
  -- the list of all g k has no double, and all are below a
  have hnd : ((List.finRange m).map g).Nodup := by
    rw [List.nodup_iff_pairwise_ne, List.pairwise_map]
    exact (List.nodup_finRange m).imp (fun {x y} hne e => hne (inj x y e))
  have hsub : ((List.finRange m).map g) ⊆ List.finRange a := fun x _ => List.mem_finRange x
  have := hnd.length_le_of_subset hsub
  simpa using this

theorem fair_room {n : Nat} {l : List S34} {win : Nat} (h : FairP n l win) (hl : win ≤ l.length) : n + 1 ≤ win := by
  refine pigeon (n + 1) win (fun j => who n (at' l j)) fun k hk => ?_
  obtain ⟨j, _, h2, h3⟩ := h k (by omega) 0 (by omega)
  exact ⟨j, by omega, h3⟩

theorem fair_longer {n : Nat} {l : List S34} {win : Nat} (h : FairP n l win) (more : Nat) : FairP n l (win + more) := by
  intro k hk p hp
  obtain ⟨j, h1, h2, h3⟩ := h k hk p (by omega)
  exact ⟨j, h1, by omega, h3⟩

theorem fair_part {n : Nat} {l : List S34} {win : Nat} (h : FairP n l win) (a b : Nat) (hb : b ≤ l.length) : FairP n ((l.take b).drop a) win := by
  intro k hk p hp
  have hlen : ((l.take b).drop a).length = b - a := by simp; omega
  rw [hlen] at hp
  by_cases hab : a ≤ b
  · obtain ⟨j, h1, h2, h3⟩ := h k hk (a + p) (by omega)
    refine ⟨j - a, by omega, by omega, ?_⟩
    have e : at' ((l.take b).drop a) (j - a) = at' l j := by
      unfold at'
      rw [List.getD_eq_getElem?_getD, List.getD_eq_getElem?_getD, List.getElem?_drop, List.getElem?_take]
      rw [if_pos (by omega), show a + (j - a) = j by omega]
    rw [e]; exact h3
  · obtain ⟨j, h1, h2, h3⟩ := h k hk p (by omega)
    have hw : win = 0 := by omega
    omega

/-- a list that is made of rows of n + 1 entries each, in each of which all are served -/
theorem fair_rows {n : Nat} {l : List S34} (m : Nat) (hl : l.length = m * (n + 1)) (h : ∀ r, r < m → ∀ k, k ≤ n → ∃ j, j < n + 1 ∧ who n (at' l (r * (n + 1) + j)) = some k) : FairP n l (2 * n + 1) := by
  intro k hk p hp
  -- the first row that begins at p or behind it
  have hd := Nat.div_add_mod (p + n) (n + 1)
  have hm := Nat.mod_lt (p + n) (show 0 < n + 1 by omega)
  generalize hr : (p + n) / (n + 1) = r at hd
  generalize hq : (p + n) % (n + 1) = q at hd hm
  have hcomm : r * (n + 1) = (n + 1) * r := Nat.mul_comm _ _
  have hrm : r < m := by
    refine Classical.byContradiction fun hc => ?_
    have h1 : m * (n + 1) ≤ r * (n + 1) := Nat.mul_le_mul_right _ (by omega)
    omega
  obtain ⟨j, hj, hw⟩ := h r hrm k hk
  exact ⟨r * (n + 1) + j, by omega, by omega, hw⟩

end Go.Proofs.Ytjninhbdcllofaa.Fp
