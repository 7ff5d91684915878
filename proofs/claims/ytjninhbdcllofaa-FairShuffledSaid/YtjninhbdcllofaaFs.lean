/- Plain law of the two Rounds: both write the same script, and that script is fair. -/
import Derived.Test.YtjninhbdcllofaaFa2
import Derived.Test.YtjninhbdcllofaaFa6
import Derived.Test.YtjninhbdcllofaaFq
namespace Go.Proofs.Ytjninhbdcllofaa.Fs
set_option linter.unusedVariables false
set_option linter.unusedSimpArgs false
open Go.RowKit Go.Proofs.Ytjninhbdcllofaa.Fa Go.Proofs.Ytjninhbdcllofaa.Fp Go.Proofs.Ytjninhbdcllofaa.Fq Go.Proofs.YtjninhbdcllofaaW.PrintWords Go.Proofs.YtjninhbdcllofaaW.PrintLast Go.Proofs.YtjninhbdcllofaaW.PrintMore

def lcg (s : Int) : Int := IntKind.u64.wrap ((IntKind.u64.wrap (s * 6364136223846793005)) + 1442695040888963407)
def high (s : Int) : Int := lcg s / 4294967296
def pickAt (s : Int) (m : Nat) : Nat := (high s % (m : Int)).toNat
def entry (x0 : Int) (v s : Int) : S34 := if v < x0 then ⟨1, v, high s⟩ else ⟨2, 0, 0⟩
def deal (x0 : Int) : Nat → List Int → Int → List S34 × Int
  | 0, _, s => ([], s)
  | n + 1, left, s =>
    (entry x0 (left.getD (pickAt s left.length) 0) s :: (deal x0 n (left.eraseIdx (pickAt s left.length)) (lcg s)).1, (deal x0 n (left.eraseIdx (pickAt s left.length)) (lcg s)).2)
def ints (m : Nat) : List Int := (List.range m).map fun j : Nat => (j : Int)
def play (n : Nat) : Nat → Int → List S34
  | 0, _ => []
  | m + 1, s => (deal n (n + 1) (ints (n + 1)) s).1 ++ play n m (deal n (n + 1) (ints (n + 1)) s).2

theorem u64_range (x : Int) : 0 ≤ IntKind.u64.wrap x ∧ IntKind.u64.wrap x < 18446744073709551616 := by
  show 0 ≤ x % 18446744073709551616 ∧ x % 18446744073709551616 < 18446744073709551616
  omega

theorem u64_len {m : Nat} (h : m ≤ 1000000) : IntKind.u64.wrap (m : Int) = (m : Int) := by
  show (m : Int) % 18446744073709551616 = m
  omega

theorem high_range (s : Int) : 0 ≤ high s ∧ high s < 4294967296 := by
  have := u64_range (IntKind.u64.wrap (s * 6364136223846793005) + 1442695040888963407)
  unfold high lcg
  omega

theorem pick_lt (s : Int) (m : Nat) (h : 0 < m) : pickAt s m < m := by
  unfold pickAt
  have h1 := Int.emod_nonneg (high s) (show (m : Int) ≠ 0 by omega)
  have h2 := Int.emod_lt_of_pos (high s) (show 0 < (m : Int) by omega)
  omega

theorem pick_eq (s : Int) (m : Nat) (h : 0 < m) (hm : m ≤ 1000000) :
    wrap64 (Int.tmod ((IntKind.u64.wrap ((IntKind.u64.wrap (s * 6364136223846793005)) + 1442695040888963407)) / 4294967296) (IntKind.u64.wrap (m : Int))) = (pickAt s m : Int) := by
  rw [u64_len hm]
  have hr := high_range s
  have e : (IntKind.u64.wrap ((IntKind.u64.wrap (s * 6364136223846793005)) + 1442695040888963407)) / 4294967296 = high s := rfl
  rw [e, Int.tmod_eq_emod_of_nonneg hr.1]
  have h1 := Int.emod_nonneg (high s) (show (m : Int) ≠ 0 by omega)
  have h2 := Int.emod_lt_of_pos (high s) (show 0 < (m : Int) by omega)
  rw [w64 (by omega) (by omega)]
  unfold pickAt
  omega

theorem l2_step (k : Nat) (x0 s : Int) (acc : List S34) (left : List Int) (x19 x20 : Int) (h : 0 < left.length) (hl : left.length ≤ 1000) (ha : acc.length < 5864062014805) :
    fair_Rounds.l2 (k + 1) x0 s acc left x19 x20 = fair_Rounds.l2 k x0 (lcg s) (acc ++ [entry x0 (left.getD (pickAt s left.length) 0) s]) (left.eraseIdx (pickAt s left.length)) x19 x20 := by
  simp only [fair_Rounds.l2]
  have hp := pick_lt s left.length h
  rw [pick_eq s left.length h (by omega)]
  rw [if_pos (by omega), if_neg (by rw [u64_len (by omega)]; omega), if_pos (by omega), if_pos (by omega)]
  unfold rd entry
  rw [Int.toNat_natCast]
  by_cases hv : left.getD (pickAt s left.length) 0 < x0
  · rw [if_pos hv, if_pos hv, if_pos ha, if_pos (by omega), w64 (by omega) (by omega), if_pos (by omega), if_pos (by omega)]; rfl
  · rw [if_neg hv, if_neg hv, if_pos ha, if_pos (by omega), w64 (by omega) (by omega), if_pos (by omega), if_pos (by omega)]; rfl

theorem r2_step (k : Nat) (x0 x1 s : Int) (acc : List S34) (left : List Int) (x9 : Int) (h : 0 < left.length) (hl : left.length ≤ 1000) (ha : acc.length < 5864062014805) (hv : ∀ v ∈ left, v ≤ x0) :
    distaffref26_Rounds.l2 (k + 1) x0 x1 acc s x9 left = distaffref26_Rounds.l2 k x0 x1 (acc ++ [entry x0 (left.getD (pickAt s left.length) 0) s]) (lcg s) x9 (left.eraseIdx (pickAt s left.length)) := by
  simp only [distaffref26_Rounds.l2, Option.bind_some]
  have hp := pick_lt s left.length h
  rw [pick_eq s left.length h (by omega)]
  have hi : (((pickAt s left.length : Nat) : Int) + 1).toNat = pickAt s left.length + 1 := by omega
  have hmem : left.getD (pickAt s left.length) 0 ∈ left := by
    rw [List.getD_eq_getElem?_getD, List.getElem?_eq_getElem hp]; exact List.getElem_mem hp
  have hle := hv _ hmem
  rw [if_pos (by omega), if_neg (by rw [u64_len (by omega)]; omega), if_pos (by omega), if_pos (by omega)]
  simp only [List.nil_append, List.length_nil, Nat.zero_add, List.length_take, List.length_drop, List.length_append]
  unfold rd
  rw [Int.toNat_natCast]
  by_cases he : left.getD (pickAt s left.length) 0 = x0
  · have e1 : entry x0 (left.getD (pickAt s left.length) 0) s = ⟨2, 0, 0⟩ := by unfold entry; rw [if_neg (by omega)]
    rw [if_pos he, e1, if_pos ha, if_pos (by omega), if_pos (by omega), w64 (by omega) (by omega), if_pos (by omega), if_pos (by omega), hi, if_pos (by omega), ← List.eraseIdx_eq_take_drop_succ]; rfl
  · have e1 : entry x0 (left.getD (pickAt s left.length) 0) s = ⟨1, left.getD (pickAt s left.length) 0, high s⟩ := by unfold entry; rw [if_pos (by omega)]
    rw [if_neg he, e1, if_pos ha, if_pos (by omega), if_pos (by omega), w64 (by omega) (by omega), if_pos (by omega), if_pos (by omega), hi, if_pos (by omega), ← List.eraseIdx_eq_take_drop_succ]; rfl

theorem erase_len (left : List Int) (i : Nat) (h : i < left.length) : (left.eraseIdx i).length = left.length - 1 := by rw [List.length_eraseIdx, if_pos h]

theorem mem_erase {left : List Int} {i : Nat} {v : Int} (h : v ∈ left.eraseIdx i) : v ∈ left := List.mem_of_mem_eraseIdx h

theorem l2_ev (x0 : Int) (x19 x20 : Int) (r : List S34) : ∀ n (left : List Int) (s : Int) (acc : List S34), left.length = n → n ≤ 1000 → acc.length + n < 5864062014805 →
    Ev (fun k => fair_Rounds.l0 k x0 (deal x0 n left s).2 (acc ++ (deal x0 n left s).1) x19 (wrap64 (x20 + 1))) r → Ev (fun k => fair_Rounds.l2 k x0 s acc left x19 x20) r := by
  intro n
  induction n with
  | zero =>
    intro left s acc hl _ _ h
    refine Ev.step (fun k => ?_) h
    simp only [fair_Rounds.l2, deal, List.append_nil]
    rw [if_neg (by omega)]
  | succ n ih =>
    intro left s acc hl hn ha h
    refine Ev.step (fun k => l2_step k x0 s acc left x19 x20 (by omega) (by omega) (by omega)) (ih _ _ _ ?_ (by omega) (by simp; omega) ?_)
    · rw [erase_len _ _ (pick_lt s left.length (by omega))]; omega
    · simp only [deal, List.append_assoc, List.singleton_append] at h ⊢
      exact h

theorem r2_ev (x0 x1 x9 : Int) (r : List S34) : ∀ n (left : List Int) (s : Int) (acc : List S34), left.length = n → n ≤ 1000 → acc.length + n < 5864062014805 → (∀ v ∈ left, v ≤ x0) →
    Ev (fun k => distaffref26_Rounds.l0 k x0 x1 (acc ++ (deal x0 n left s).1) (deal x0 n left s).2 (wrap64 (x9 + 1))) r → Ev (fun k => distaffref26_Rounds.l2 k x0 x1 acc s x9 left) r := by
  intro n
  induction n with
  | zero =>
    intro left s acc hl _ _ _ h
    refine Ev.step (fun k => ?_) h
    simp only [distaffref26_Rounds.l2, deal, List.append_nil]
    rw [if_neg (by omega)]
  | succ n ih =>
    intro left s acc hl hn ha hv h
    refine Ev.step (fun k => r2_step k x0 x1 s acc left x9 (by omega) (by omega) (by omega) hv) (ih _ _ _ ?_ (by omega) (by simp; omega) (fun v h => hv v (mem_erase h)) ?_)
    · rw [erase_len _ _ (pick_lt s left.length (by omega))]; omega
    · simp only [deal, List.append_assoc, List.singleton_append] at h ⊢
      exact h

theorem ints_len (m : Nat) : (ints m).length = m := by simp [ints]
theorem ints_succ (m : Nat) : ints (m + 1) = ints m ++ [(m : Int)] := by simp [ints, List.range_succ]
theorem ints_mem {m : Nat} {v : Int} : v ∈ ints m ↔ 0 ≤ v ∧ v < m := by
  simp only [ints, List.mem_map, List.mem_range]
  constructor
  · rintro ⟨j, hj, rfl⟩; omega
  · rintro ⟨h0, h1⟩; exact ⟨v.toNat, by omega, by omega⟩

theorem l1_ev (n : Nat) (hn : n ≤ 64) (s : Int) (acc : List S34) (x19 x20 : Int) (r : List S34) (h : Ev (fun k => fair_Rounds.l2 k (n : Int) s acc (ints (n + 1)) x19 x20) r) : ∀ d i, i + d = n + 1 →
    Ev (fun k => fair_Rounds.l1 k (n : Int) s acc (ints i) x19 x20 ((n + 1 : Nat) : Int) (i : Int)) r := by
  intro d
  induction d with
  | zero =>
    intro i hi
    refine Ev.step (fun k => ?_) h
    simp only [fair_Rounds.l1]
    rw [if_neg (by omega), show i = n + 1 by omega]
  | succ d ih =>
    intro i hi
    refine Ev.step (fun k => ?_) (ih (i + 1) (by omega))
    simp only [fair_Rounds.l1]
    rw [if_pos (by omega), if_pos (by rw [ints_len]; omega), w64 (by omega) (by omega), ← ints_succ]; rfl

theorem r1_ev (n : Nat) (hn : n ≤ 64) (s : Int) (acc : List S34) (x1 x9 : Int) (r : List S34) (h : Ev (fun k => distaffref26_Rounds.l2 k (n : Int) x1 acc s x9 (ints (n + 1))) r) : ∀ d i, i + d = n + 1 →
    Ev (fun k => distaffref26_Rounds.l1 k (n : Int) x1 acc s x9 (ints i) (i : Int)) r := by
  intro d
  induction d with
  | zero =>
    intro i hi
    refine Ev.step (fun k => ?_) h
    simp only [distaffref26_Rounds.l1]
    rw [if_neg (by omega), show i = n + 1 by omega]
  | succ d ih =>
    intro i hi
    refine Ev.step (fun k => ?_) (ih (i + 1) (by omega))
    simp only [distaffref26_Rounds.l1]
    rw [if_pos (by omega), if_pos (by rw [ints_len]; omega), w64 (by omega) (by omega), ← ints_succ]; rfl

theorem deal_len (x0 : Int) : ∀ n (left : List Int) (s : Int), (deal x0 n left s).1.length = n
  | 0, _, _ => rfl
  | n + 1, left, s => by simp [deal, deal_len x0 n]

theorem play_len (n : Nat) : ∀ m s, (play n m s).length = m * (n + 1)
  | 0, _ => by simp [play]
  | m + 1, s => by simp only [play, List.length_append, deal_len, play_len n m]; rw [Nat.add_mul]; omega

theorem l0_ev (n : Nat) (hn : n ≤ 64) (M : Nat) (hM : M ≤ 65536) : ∀ d j (s : Int) (acc : List S34), j + d = M → acc.length + d * 1000 < 5864062014805 →
    Ev (fun k => fair_Rounds.l0 k (n : Int) s acc (M : Int) (j : Int)) (acc ++ play n d s) := by
  intro d
  induction d with
  | zero =>
    intro j s acc hj _
    refine Ev.step (f := fun _ => some (acc ++ play n 0 s)) (fun k => ?_) (Ev.now _)
    simp only [fair_Rounds.l0, play, List.append_nil]
    rw [if_neg (by omega)]
  | succ d ih =>
    intro j s acc hj ha
    refine Ev.step (fun k => ?_) (l1_ev n hn s acc (M : Int) (j : Int) _ (l2_ev (n : Int) (M : Int) (j : Int) _ (n + 1) (ints (n + 1)) s acc (ints_len _) (by omega) (by omega) ?_) (n + 1) 0 (by omega))
    · simp only [fair_Rounds.l0]
      rw [if_pos (by omega), w64 (by omega) (by omega)]; simp [ints]
    · rw [w64 (by omega) (by omega)]
      have := ih (j + 1) (deal n (n + 1) (ints (n + 1)) s).2 (acc ++ (deal n (n + 1) (ints (n + 1)) s).1) (by omega) (by simp [deal_len]; omega)
      simp only [play, ← List.append_assoc]
      exact this

theorem r0_ev (n : Nat) (hn : n ≤ 64) (M : Nat) (hM : M ≤ 65536) : ∀ d j (s : Int) (acc : List S34), j + d = M → acc.length + d * 1000 < 5864062014805 →
    Ev (fun k => distaffref26_Rounds.l0 k (n : Int) (M : Int) acc s (j : Int)) (acc ++ play n d s) := by
  intro d
  induction d with
  | zero =>
    intro j s acc hj _
    refine Ev.step (f := fun k => distaffref26_Rounds.j2 k (n : Int) (M : Int) acc s (j : Int) false) (fun k => ?_) (Ev.step (f := fun _ => some (acc ++ play n 0 s)) (fun k => ?_) (Ev.now _))
    · simp only [distaffref26_Rounds.l0]
      rw [if_neg (by omega)]
    · simp only [distaffref26_Rounds.j2, play, List.append_nil, if_false, Bool.false_eq_true]
  | succ d ih =>
    intro j s acc hj ha
    refine Ev.step (f := fun k => distaffref26_Rounds.j2 k (n : Int) (M : Int) acc s (j : Int) true) (fun k => ?_) (Ev.step (fun k => ?_) (r1_ev n hn s acc (M : Int) (j : Int) _ (r2_ev (n : Int) (M : Int) (j : Int) _ (n + 1) (ints (n + 1)) s acc (ints_len _) (by omega) (by omega) (fun v hv => by have := ints_mem.1 hv; omega) ?_) (n + 1) 0 (by omega)))
    · simp only [distaffref26_Rounds.l0]
      rw [if_pos (by omega), decide_eq_true (by omega)]
    · simp only [distaffref26_Rounds.j2, if_true]; simp [ints]
    · rw [w64 (by omega) (by omega)]
      have := ih (j + 1) (deal n (n + 1) (ints (n + 1)) s).2 (acc ++ (deal n (n + 1) (ints (n + 1)) s).1) (by omega) (by simp [deal_len]; omega)
      simp only [play, ← List.append_assoc]
      exact this

/-- the script -/
def script (x0 x1 s : Int) : List S34 := if x0 < 1 ∨ x0 > 64 then [] else play x0.toNat x1.toNat s

theorem rounds_ev (x0 x1 s : Int) (h1 : x1 ≤ 65536) : Ev (fun k => fair_Rounds.f k x0 x1 s) (script x0 x1 s) := by
  unfold script
  by_cases ha : x0 < 1
  · rw [if_pos (.inl ha)]
    refine Ev.congr (f := fun k => fair_Rounds.j0 k x0 x1 s true) (fun k => by unfold fair_Rounds.f; rw [if_pos ha]) (Ev.step (f := fun _ => some []) (fun k => ?_) (Ev.now _))
    simp only [fair_Rounds.j0, if_true]
  by_cases hb : x0 > 64
  · rw [if_pos (.inr hb)]
    refine Ev.congr (f := fun k => fair_Rounds.j0 k x0 x1 s true) (fun k => by unfold fair_Rounds.f; rw [if_neg ha, decide_eq_true hb]) (Ev.step (f := fun _ => some []) (fun k => ?_) (Ev.now _))
    simp only [fair_Rounds.j0, if_true]
  rw [if_neg (by omega)]
  obtain ⟨n, rfl⟩ := Int.eq_ofNat_of_zero_le (show 0 ≤ x0 by omega)
  refine Ev.congr (f := fun k => fair_Rounds.j0 k n x1 s false) (fun k => by unfold fair_Rounds.f; rw [if_neg ha, decide_eq_false hb]) (Ev.step (f := fun k => fair_Rounds.l0 k n s [] x1 0) (fun k => ?_) ?_)
  · simp only [fair_Rounds.j0, if_false, Bool.false_eq_true]
    have : mn x1 65536 = x1 := by unfold mn; split <;> omega
    rw [this]
  · by_cases hx : x1 < 0
    · refine Ev.step (f := fun _ => some (play (n : Int).toNat x1.toNat s)) (fun k => ?_) (Ev.now _)
      simp only [fair_Rounds.l0]
      rw [if_neg (by omega), show x1.toNat = 0 by omega]; rfl
    · obtain ⟨M, rfl⟩ := Int.eq_ofNat_of_zero_le (show 0 ≤ x1 by omega)
      have := l0_ev n (by omega) M (by omega) M 0 s [] (by omega) (by simp; omega)
      simpa using this

theorem refRounds_ev (x0 x1 s : Int) (h1 : x1 ≤ 65536) : Ev (fun k => distaffref26_Rounds.f k x0 x1 s) (script x0 x1 s) := by
  unfold script
  by_cases ha : x0 < 1
  · rw [if_pos (.inl ha)]
    refine Ev.congr (f := fun k => distaffref26_Rounds.j0 k x0 x1 s true) (fun k => by unfold distaffref26_Rounds.f; rw [if_pos ha]) (Ev.step (f := fun _ => some []) (fun k => ?_) (Ev.now _))
    simp only [distaffref26_Rounds.j0, if_true]
  by_cases hb : x0 > 64
  · rw [if_pos (.inr hb)]
    refine Ev.congr (f := fun k => distaffref26_Rounds.j0 k x0 x1 s true) (fun k => by unfold distaffref26_Rounds.f; rw [if_neg ha, decide_eq_true hb]) (Ev.step (f := fun _ => some []) (fun k => ?_) (Ev.now _))
    simp only [distaffref26_Rounds.j0, if_true]
  rw [if_neg (by omega)]
  obtain ⟨n, rfl⟩ := Int.eq_ofNat_of_zero_le (show 0 ≤ x0 by omega)
  refine Ev.congr (f := fun k => distaffref26_Rounds.j0 k n x1 s false) (fun k => by unfold distaffref26_Rounds.f; rw [if_neg ha, decide_eq_false hb]) (Ev.step (f := fun k => distaffref26_Rounds.l0 k n x1 [] s 0) (fun k => ?_) ?_)
  · simp only [distaffref26_Rounds.j0, if_false, Bool.false_eq_true]
  · by_cases hx : x1 < 0
    · refine Ev.step (f := fun k => distaffref26_Rounds.j2 k (n : Int) x1 [] s 0 false) (fun k => ?_) (Ev.step (f := fun _ => some (play (n : Int).toNat x1.toNat s)) (fun k => ?_) (Ev.now _))
      · simp only [distaffref26_Rounds.l0]
        rw [if_neg (by omega)]
      · simp only [distaffref26_Rounds.j2, if_false, Bool.false_eq_true]
        rw [show x1.toNat = 0 by omega]; rfl
    · obtain ⟨M, rfl⟩ := Int.eq_ofNat_of_zero_le (show 0 ≤ x1 by omega)
      have := r0_ev n (by omega) M (by omega) M 0 s [] (by omega) (by simp; omega)
      simpa using this

theorem who_entry (n : Nat) (v s : Int) (h0 : 0 ≤ v) (h1 : v ≤ n) : who n (entry n v s) = some v.toNat := by
  unfold entry who
  by_cases h : v < (n : Int)
  · rw [if_pos h]; simp [h0, h]
  · rw [if_neg h]
    have : v = n := by omega
    simp [this]

theorem at_cons_zero (x : S34) (l : List S34) : at' (x :: l) 0 = x := rfl
theorem at_cons_succ (x : S34) (l : List S34) (j : Nat) : at' (x :: l) (j + 1) = at' l j := by simp [at']

theorem mem_split {left : List Int} {i : Nat} (h : i < left.length) {v : Int} (hv : v ∈ left) : v = left.getD i 0 ∨ v ∈ left.eraseIdx i := by
  rw [List.eraseIdx_eq_take_drop_succ, List.mem_append]
  rw [← List.take_append_drop i left, List.mem_append] at hv
  rcases hv with hv | hv
  · exact .inr (.inl hv)
  · rw [List.drop_eq_getElem_cons h, List.mem_cons] at hv
    rcases hv with hv | hv
    · left; rw [List.getD_eq_getElem?_getD, List.getElem?_eq_getElem h]; exact hv
    · exact .inr (.inr hv)

theorem deal_all (n : Nat) : ∀ m (left : List Int) (s : Int), left.length = m → (∀ v ∈ left, 0 ≤ v ∧ v ≤ n) → ∀ v ∈ left, ∃ j, j < m ∧ who n (at' (deal n m left s).1 j) = some v.toNat
  | 0, left, s, hl, _, v, hv => by have := List.length_pos_of_mem hv; omega
  | m + 1, left, s, hl, hb, v, hv => by
    have hp := pick_lt s left.length (by omega)
    simp only [deal]
    rcases mem_split hp hv with e | he
    · refine ⟨0, by omega, ?_⟩
      rw [at_cons_zero, ← e]
      exact who_entry n v s (hb v hv).1 (hb v hv).2
    · obtain ⟨j, hj, hw⟩ := deal_all n m (left.eraseIdx (pickAt s left.length)) (lcg s) (by rw [erase_len _ _ hp]; omega) (fun u hu => hb u (mem_erase hu)) v he
      exact ⟨j + 1, by omega, by rw [at_cons_succ]; exact hw⟩

theorem at_left {a b : List S34} {j : Nat} (h : j < a.length) : at' (a ++ b) j = at' a j := by
  unfold at'; rw [List.getD_eq_getElem?_getD, List.getD_eq_getElem?_getD, List.getElem?_append_left h]
theorem at_right {a b : List S34} {j : Nat} : at' (a ++ b) (a.length + j) = at' b j := by
  unfold at'; rw [List.getD_eq_getElem?_getD, List.getD_eq_getElem?_getD, List.getElem?_append_right (by omega)]; congr 2; omega

theorem play_rows (n : Nat) : ∀ m (s : Int) r, r < m → ∀ k, k ≤ n → ∃ j, j < n + 1 ∧ who n (at' (play n m s) (r * (n + 1) + j)) = some k
  | 0, _, r, hr, _, _ => by omega
  | m + 1, s, 0, _, k, hk => by
    obtain ⟨j, hj, hw⟩ := deal_all n (n + 1) (ints (n + 1)) s (ints_len _) (fun v hv => by have := ints_mem.1 hv; omega) (k : Int) (ints_mem.2 (by omega))
    refine ⟨j, hj, ?_⟩
    simp only [play, Nat.zero_mul, Nat.zero_add]
    rw [at_left (by rw [deal_len]; exact hj)]
    simpa using hw
  | m + 1, s, r + 1, hr, k, hk => by
    obtain ⟨j, hj, hw⟩ := play_rows n m (deal n (n + 1) (ints (n + 1)) s).2 r (by omega) k hk
    refine ⟨j, hj, ?_⟩
    have e : (r + 1) * (n + 1) + j = (deal n (n + 1) (ints (n + 1)) s).1.length + (r * (n + 1) + j) := by rw [deal_len, Nat.add_mul]; omega
    simp only [play]
    rw [e, at_right]; exact hw

theorem play_fair (n m : Nat) (s : Int) : FairP n (play n m s) (2 * n + 1) := fair_rows m (play_len n m s) (play_rows n m s)

end Go.Proofs.Ytjninhbdcllofaa.Fs
