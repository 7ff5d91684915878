/- What up and down make of a row: its heap's order, its things, its places (no program in sight). -/
import Derived.Test.YtfibgjgipadmkaaHi
import Derived.Maps.Views
namespace Go.Proofs.Ytfibgjgipadmkaa.Hp
set_option linter.unusedVariables false
set_option linter.unusedSimpArgs false
open Go.RowKit Go.Maps Go.ChangeMaps

theorem ahead_irr (a : Th) : aheadB a a = false := by simp [aheadB]
theorem ahead_iff (a b : Th) : aheadB a b = true ↔ a.d < b.d ∨ (a.d = b.d ∧ a.h < b.h) := by simp [aheadB]
theorem ahead_not (a b : Th) : aheadB a b = false ↔ ¬ (a.d < b.d ∨ (a.d = b.d ∧ a.h < b.h)) := by
  rw [← ahead_iff]; cases aheadB a b <;> simp
theorem ahead_trans {a b c : Th} (h : aheadB a b = true) (k : aheadB b c = true) : aheadB a c = true := by rw [ahead_iff] at *; omega
theorem ahead_asymm {a b : Th} (h : aheadB a b = true) : aheadB b a = false := by rw [ahead_iff] at h; rw [ahead_not]; omega
theorem ahead_nt {a b c : Th} (h : aheadB a b = false) (k : aheadB b c = false) : aheadB a c = false := by rw [ahead_not] at *; omega
theorem ahead_nl {a b c : Th} (h : aheadB c a = false) (k : aheadB b a = true) : aheadB c b = false := by rw [ahead_not] at *; rw [ahead_iff] at k; omega

theorem at_set_ne {T : List Th} {i c : Nat} (t : Th) (h : ¬ c = i) : at' (T.set i t) c = at' T c := by
  unfold at'; rw [List.getD_eq_getElem?_getD, List.getD_eq_getElem?_getD, List.getElem?_set_ne (by omega)]
theorem at_set_if {T : List Th} {i : Nat} (t : Th) (hi : i < T.length) (c : Nat) : at' (T.set i t) c = if c = i then t else at' T c := by
  split
  · next h => subst h; exact at_set hi t
  · next h => exact at_set_ne t h
theorem at_two {T : List Th} {i p : Nat} (P t : Th) (hi : i < T.length) (hp : p < T.length) (c : Nat) : at' ((T.set i P).set p t) c = if c = p then t else if c = i then P else at' T c := by
  rw [at_set_if t (by rw [List.length_set]; exact hp), at_set_if P hi]
theorem at_mem {T : List Th} {i : Nat} (h : i < T.length) : at' T i ∈ T := by
  unfold at'; rw [List.getD_eq_getElem?_getD, List.getElem?_eq_getElem h]; exact List.getElem_mem h
theorem mem_at {T : List Th} {t : Th} (h : t ∈ T) : ∃ i, i < T.length ∧ at' T i = t := by
  obtain ⟨i, hi, he⟩ := List.getElem_of_mem h
  exact ⟨i, hi, by unfold at'; rw [List.getD_eq_getElem?_getD, List.getElem?_eq_getElem hi]; exact he⟩
theorem at_take {T : List Th} {n c : Nat} (h : c < n) : at' (T.take n) c = at' T c := by
  unfold at'; rw [List.getD_eq_getElem?_getD, List.getD_eq_getElem?_getD, List.getElem?_take, if_pos h]

/-- no child comes ahead of its parent -/
def Heapy (T : List Th) : Prop := ∀ c, 0 < c → c < T.length → aheadB (at' T c) (at' T ((c - 1) / 2)) = false
def UpOK (V : List Th) (i : Nat) : Prop := (∀ c, 0 < c → c < V.length → c ≠ i → aheadB (at' V c) (at' V ((c - 1) / 2)) = false) ∧ (∀ c, 0 < c → c < V.length → (c - 1) / 2 = i → 0 < i → aheadB (at' V c) (at' V ((i - 1) / 2)) = false)
def DownOK (V : List Th) (i : Nat) : Prop := (∀ c, 0 < c → c < V.length → (c - 1) / 2 ≠ i → aheadB (at' V c) (at' V ((c - 1) / 2)) = false) ∧ (∀ c, 0 < c → c < V.length → (c - 1) / 2 = i → 0 < i → aheadB (at' V c) (at' V ((i - 1) / 2)) = false)

theorem upF_heap (t : Th) : ∀ (k i : Nat) (T : List Th) (D : DataW Unit), i < T.length → i < k → UpOK (T.set i t) i → Heapy (upF t k i T D).1
  | 0, _, _, _, _, h, _ => by omega
  | k + 1, i, T, D, hi, hk, ⟨h1, h2⟩ => by
    have e0 := fun c => at_set_if t hi c
    unfold upF
    split
    · next hc =>
      obtain ⟨hi0, hah⟩ := hc
      have hp : (i - 1) / 2 < T.length := by omega
      obtain ⟨p, hpe⟩ : ∃ p, p = (i - 1) / 2 := ⟨_, rfl⟩
      rw [← hpe] at hp hah ⊢
      have hpi : p < i := by omega
      have e := fun c => at_two (at' T p) t hi hp c
      refine upF_heap t k p _ _ (by rw [List.length_set]; exact hp) (by omega) ⟨?_, ?_⟩
      · intro c hc0 hcl hcp
        simp only [List.length_set] at hcl
        rw [e, e, if_neg hcp]
        by_cases hci : c = i
        · rw [if_pos hci, hci, if_pos hpe.symm]; exact ahead_asymm hah
        · rw [if_neg hci]
          have g1 := h1 c hc0 (by simpa using hcl) hci
          rw [e0, e0, if_neg hci] at g1
          by_cases hq : (c - 1) / 2 = p
          · rw [if_pos hq]
            rw [if_neg (by omega), hq] at g1
            exact ahead_nl g1 hah
          · rw [if_neg hq]
            by_cases hqi : (c - 1) / 2 = i
            · rw [if_pos hqi]
              have g2 := h2 c hc0 (by simpa using hcl) hqi hi0
              rw [e0, e0, if_neg hci, ← hpe, if_neg (by omega)] at g2
              exact g2
            · rw [if_neg hqi]
              rw [if_neg hqi] at g1
              exact g1
      · intro c hc0 hcl hcp hp0
        simp only [List.length_set] at hcl
        have gp := h1 p hp0 (by simpa using hp) (by omega)
        rw [e0, e0, if_neg (by omega), if_neg (by omega)] at gp
        rw [e, e, if_neg (by omega), if_neg (by omega : ¬ (p - 1) / 2 = p), if_neg (by omega : ¬ (p - 1) / 2 = i)]
        by_cases hci : c = i
        · rw [if_pos hci]; exact gp
        · rw [if_neg hci]
          have g1 := h1 c hc0 (by simpa using hcl) hci
          rw [e0, e0, if_neg hci, hcp, if_neg (by omega)] at g1
          exact ahead_nt g1 gp
    · next hc =>
      intro c hc0 hcl
      simp only [List.length_set] at hcl
      by_cases hci : c = i
      · subst hci
        have : aheadB t (at' T ((c - 1) / 2)) = false := by
          cases h : aheadB t (at' T ((c - 1) / 2)) with
          | false => rfl
          | true => exact absurd ⟨hc0, h⟩ hc
        rw [e0, e0, if_pos rfl, if_neg (by omega)]
        exact this
      · exact h1 c hc0 (by simpa using hcl) hci

theorem kid_or (T : List Th) (i : Nat) : kid T i = 2 * i + 1 ∨ (kid T i = 2 * i + 2 ∧ 2 * i + 2 < T.length) := by
  unfold kid; split
  · next h => exact .inr ⟨rfl, h.1⟩
  · exact .inl rfl
theorem kid_min (T : List Th) (i c : Nat) (hc : c < T.length) (hp : c = 2 * i + 1 ∨ c = 2 * i + 2) : aheadB (at' T c) (at' T (kid T i)) = false := by
  unfold kid; split
  · next h =>
    rcases hp with rfl | rfl
    · exact ahead_asymm h.2
    · exact ahead_irr _
  · next h =>
    rcases hp with rfl | rfl
    · exact ahead_irr _
    · cases h2 : aheadB (at' T (2 * i + 2)) (at' T (2 * i + 1)) with
      | false => rfl
      | true => exact absurd ⟨hc, h2⟩ h

theorem downF_heap (t : Th) : ∀ (k i : Nat) (T : List Th) (D : DataW Unit), i < T.length → T.length - i < k → DownOK (T.set i t) i → Heapy (downF t k i T D).1
  | 0, _, _, _, _, h, _ => by omega
  | k + 1, i, T, D, hi, hk, ⟨h1, h2⟩ => by
    have e0 := fun c => at_set_if t hi c
    have hkm := kid_min T i
    have hko := kid_or T i
    unfold downF
    split
    · next hc =>
      obtain ⟨hi0, hah⟩ := hc
      obtain ⟨p, hpe⟩ : ∃ p, p = kid T i := ⟨_, rfl⟩
      rw [← hpe] at hah hkm hko ⊢
      have hp : p < T.length := by omega
      have hpp : (p - 1) / 2 = i := by omega
      have e := fun c => at_two (at' T p) t hi hp c
      refine downF_heap t k p _ _ (by rw [List.length_set]; exact hp) (by rw [List.length_set]; omega) ⟨?_, ?_⟩
      · intro c hc0 hcl hcp
        simp only [List.length_set] at hcl
        rw [e, e, if_neg hcp]
        by_cases hcq : c = p
        · rw [if_pos hcq, hcq, hpp, if_pos rfl]; exact ahead_asymm hah
        · rw [if_neg hcq]
          by_cases hci : c = i
          · rw [if_pos hci, if_neg (by omega)]
            have g2 := h2 p (by omega) (by simpa using hp) hpp (by omega)
            rw [e0, e0, if_neg (by omega), if_neg (by omega)] at g2
            rw [hci]; exact g2
          · rw [if_neg hci]
            by_cases hqi : (c - 1) / 2 = i
            · rw [if_pos hqi]; exact hkm c hcl (by omega)
            · rw [if_neg hqi]
              have g1 := h1 c hc0 (by simpa using hcl) hqi
              rw [e0, e0, if_neg hci, if_neg hqi] at g1
              exact g1
      · intro c hc0 hcl hcp hp0
        simp only [List.length_set] at hcl
        rw [e, e, hpp, if_neg (by omega), if_neg (by omega : ¬ c = i), if_neg (by omega : ¬ i = p), if_pos rfl]
        have g1 := h1 c hc0 (by simpa using hcl) (by omega)
        rw [e0, e0, if_neg (by omega), hcp, if_neg (by omega)] at g1
        exact g1
    · next hc =>
      intro c hc0 hcl
      simp only [List.length_set] at hcl
      by_cases hqi : (c - 1) / 2 = i
      · rw [e0, e0, if_neg (by omega), if_pos hqi]
        have g := hkm c hcl (by omega)
        have g2 : aheadB (at' T (kid T i)) t = false := by
          cases h : aheadB (at' T (kid T i)) t with
          | false => rfl
          | true => exact absurd ⟨by omega, h⟩ hc
        exact ahead_nt g g2
      · exact h1 c hc0 (by simpa using hcl) hqi

/-- the same things -/
theorem set_swap {T : List Th} {i p : Nat} (t : Th) (hi : i < T.length) (hp : p < T.length) (hne : ¬ p = i) : ((T.set i (at' T p)).set p t).Perm (T.set i t) := by
  have h := List.set_set_perm (show i < (T.set i t).length by simpa using hi) (show p < (T.set i t).length by simpa using hp)
  rw [List.set_set] at h
  have e1 : (T.set i t)[p]'(by simpa using hp) = at' T p := by
    rw [List.getElem_set_ne (by omega)]; unfold at'; rw [List.getD_eq_getElem?_getD, List.getElem?_eq_getElem hp]; rfl
  have e2 : (T.set i t)[i]'(by simpa using hi) = t := by rw [List.getElem_set_self]
  rw [e1, e2] at h
  exact h
theorem upF_perm (t : Th) : ∀ (k i : Nat) (T : List Th) (D : DataW Unit), i < T.length → i < k → (upF t k i T D).1.Perm (T.set i t)
  | 0, _, _, _, _, h => by omega
  | k + 1, i, T, D, hi, hk => by
    unfold upF
    split
    · next hc => exact (upF_perm t k _ _ _ (by rw [List.length_set]; omega) (by omega)).trans (set_swap t hi (by omega) (by omega))
    · exact List.Perm.refl _
theorem downF_len (t : Th) : ∀ (k i : Nat) (T : List Th) (D : DataW Unit), (downF t k i T D).1.length = T.length
  | 0, _, _, _ => rfl
  | k + 1, i, T, D => by
    unfold downF
    split
    · rw [downF_len t k]; simp
    · simp
theorem downF_perm (t : Th) : ∀ (k i : Nat) (T : List Th) (D : DataW Unit), i < T.length → T.length - i < k → (downF t k i T D).1.Perm (T.set i t)
  | 0, _, _, _, _, h => by omega
  | k + 1, i, T, D, hi, hk => by
    have hko := kid_or T i
    unfold downF
    split
    · next hc => exact (downF_perm t k _ _ _ (by rw [List.length_set]; omega) (by rw [List.length_set]; omega)).trans (set_swap t hi (by omega) (by omega))
    · exact List.Perm.refl _

/-- the map says where each thing is, and nothing else -/
structure Agree (T : List Th) (D : DataW Unit) : Prop where
  isMap : IsMap D
  at_ : ∀ i, i < T.length → has D (.int .i64 (at' T i).h) = true ∧ D.atKey (.int .i64 (at' T i).h) (.lit (.int .i64 0)) = .lit (.int .i64 i)
  only : ∀ h, has D (.int .i64 h) = true → ∃ i, i < T.length ∧ (at' T i).h = h
/-- .. but for a hole, into which t goes -/
structure Hole (T : List Th) (D : DataW Unit) (i : Nat) (t : Th) : Prop where
  isMap : IsMap D
  at_ : ∀ k, k < T.length → k ≠ i → has D (.int .i64 (at' T k).h) = true ∧ D.atKey (.int .i64 (at' T k).h) (.lit (.int .i64 0)) = .lit (.int .i64 k)
  only : ∀ h, has D (.int .i64 h) = true → (∃ k, k < T.length ∧ k ≠ i ∧ (at' T k).h = h) ∨ h = t.h
  none_ : ∀ k, k < T.length → k ≠ i → (at' T k).h ≠ t.h

theorem lit_inj {i j : Nat} (h : DataW.lit (H := Unit) (.int .i64 (i : Int)) = .lit (.int .i64 (j : Int))) : i = j := by injection h with h; injection h with _ h; omega
theorem key_inj {a b : Int} (h : ¬ a = b) : Lit.int .i64 a ≠ .int .i64 b := by intro e; injection e with _ e; exact h e
theorem Agree.inj {T : List Th} {D : DataW Unit} (A : Agree T D) {i j : Nat} (hi : i < T.length) (hj : j < T.length) (h : (at' T i).h = (at' T j).h) : i = j := by
  have a := (A.at_ i hi).2; rw [h, (A.at_ j hj).2] at a; exact (lit_inj a).symm
theorem Hole.inj {T : List Th} {D : DataW Unit} {q : Nat} {t : Th} (A : Hole T D q t) {i j : Nat} (hi : i < T.length) (hj : j < T.length) (hiq : i ≠ q) (hjq : j ≠ q) (h : (at' T i).h = (at' T j).h) : i = j := by
  have a := (A.at_ i hi hiq).2; rw [h, (A.at_ j hj hjq).2] at a; exact (lit_inj a).symm

theorem isMap_put {D : DataW Unit} (h : IsMap D) (k : Lit) (d : DataW Unit) : IsMap (D.put k d) := by
  obtain ⟨es, rfl⟩ := h; exact ⟨_, rfl⟩
theorem isMap_del {D : DataW Unit} (h : IsMap D) (k : Lit) : IsMap (D.del k) := by
  obtain ⟨es, rfl⟩ := h; exact ⟨_, rfl⟩

theorem ik (h : Int) : WideAt.IsKeyLit (.int .i64 h) := trivial
theorem Hole.shut {T : List Th} {D : DataW Unit} {i : Nat} {t : Th} (A : Hole T D i t) (hi : i < T.length) : Agree (T.set i t) (D.put (.int .i64 t.h) (.lit (.int .i64 i))) := by
  have e0 := fun c => at_set_if t hi c
  refine ⟨isMap_put A.isMap _ _, ?_, ?_⟩
  · intro k hk
    simp only [List.length_set] at hk
    rw [e0]
    by_cases h : k = i
    · rw [if_pos h, h]; exact ⟨has_put_same A.isMap (ik _) _, atKey_put_same A.isMap (ik _) _ _⟩
    · rw [if_neg h]
      have hne := key_inj (A.none_ k hk h)
      rw [has_put_other hne, atKey_put_other hne]
      exact A.at_ k hk h
  · intro h hh
    by_cases hht : h = t.h
    · exact ⟨i, by simpa using hi, by rw [e0, if_pos rfl, hht]⟩
    · rw [has_put_other (key_inj hht)] at hh
      rcases A.only h hh with ⟨k, hk, hki, e⟩ | e
      · exact ⟨k, by simpa using hk, by rw [e0, if_neg hki]; exact e⟩
      · exact absurd e hht
theorem Hole.step {T : List Th} {D : DataW Unit} {i p : Nat} {t : Th} (A : Hole T D i t) (hi : i < T.length) (hp : p < T.length) (hne : p ≠ i) :
    Hole (T.set i (at' T p)) (D.put (.int .i64 (at' T p).h) (.lit (.int .i64 i))) p t := by
  have e0 := fun c => at_set_if (at' T p) hi c
  refine ⟨isMap_put A.isMap _ _, ?_, ?_, ?_⟩
  · intro k hk hkp
    simp only [List.length_set] at hk
    rw [e0]
    by_cases h : k = i
    · rw [if_pos h, h]; exact ⟨has_put_same A.isMap (ik _) _, atKey_put_same A.isMap (ik _) _ _⟩
    · rw [if_neg h]
      have hn := key_inj (fun e => hkp (A.inj hk hp h hne e))
      rw [has_put_other hn, atKey_put_other hn]
      exact A.at_ k hk h
  · intro h hh
    by_cases hht : h = (at' T p).h
    · exact .inl ⟨i, by simpa using hi, fun e => hne e.symm, by rw [e0, if_pos rfl, hht]⟩
    · rw [has_put_other (key_inj hht)] at hh
      rcases A.only h hh with ⟨k, hk, hki, e⟩ | e
      · exact .inl ⟨k, by simpa using hk, fun e2 => hht (by rw [← e, e2]), by rw [e0, if_neg hki]; exact e⟩
      · exact .inr e
  · intro k hk hkp
    simp only [List.length_set] at hk
    rw [e0]
    by_cases h : k = i
    · rw [if_pos h]; exact A.none_ p hp hne
    · rw [if_neg h]; exact A.none_ k hk h
theorem upF_agree (t : Th) : ∀ (k i : Nat) (T : List Th) (D : DataW Unit), i < T.length → i < k → Hole T D i t → Agree (upF t k i T D).1 (upF t k i T D).2
  | 0, _, _, _, _, h, _ => by omega
  | k + 1, i, T, D, hi, hk, A => by
    unfold upF
    split
    · next hc => exact upF_agree t k _ _ _ (by rw [List.length_set]; omega) (by omega) (A.step hi (by omega) (by omega))
    · exact A.shut hi
theorem downF_agree (t : Th) : ∀ (k i : Nat) (T : List Th) (D : DataW Unit), i < T.length → T.length - i < k → Hole T D i t → Agree (downF t k i T D).1 (downF t k i T D).2
  | 0, _, _, _, _, h, _ => by omega
  | k + 1, i, T, D, hi, hk, A => by
    have hko := kid_or T i
    unfold downF
    split
    · next hc => exact downF_agree t k _ _ _ (by rw [List.length_set]; omega) (by rw [List.length_set]; omega) (A.step hi (by omega) (by omega))
    · exact A.shut hi
theorem Agree.hole {T : List Th} {D : DataW Unit} (A : Agree T D) {i : Nat} (hi : i < T.length) : Hole T D i (at' T i) :=
  ⟨A.isMap, fun k hk _ => A.at_ k hk, fun h hh => by
    obtain ⟨k, hk, e⟩ := A.only h hh
    by_cases hki : k = i
    · exact .inr (by rw [← e, hki])
    · exact .inl ⟨k, hk, hki, e⟩, fun k hk hki e => hki (A.inj hk hi e)⟩

end Go.Proofs.Ytfibgjgipadmkaa.Hp
