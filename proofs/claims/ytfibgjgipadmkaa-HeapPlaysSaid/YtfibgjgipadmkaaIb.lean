/- A heap as a row in order: what each method makes of it. -/
import Derived.Test.YtfibgjgipadmkaaIa
import Derived.Test.YtfibgjgipadmkaaHl
namespace Go.Proofs.Ytfibgjgipadmkaa.Hp
set_option linter.unusedVariables false
set_option linter.unusedSimpArgs false
open Go.RowKit Go.Maps Go.ChangeMaps

theorem heapy_top {T : List Th} (h : Heapy T) : ∀ c, c < T.length → aheadB (at' T c) (at' T 0) = false := by
  intro c
  induction c using Nat.strongRecOn with
  | ind c ih =>
    intro hc
    by_cases h0 : c = 0
    · rw [h0]; exact ahead_irr _
    · exact ahead_nt (h c (by omega) hc) (ih _ (by omega) (by omega))

/-- the heap at g holds the things of L, in order -/
structure HV (w : World) (B g m : Nat) (v : Value) (L : List Th) (last : Int) (n : Nat) : Prop where
  ex : ∃ T D, Raw w B g m v T n D last ∧ Heapy T ∧ Agree T D ∧ T.Perm L
  sorted : L.Pairwise (fun a b => aheadB a b = true)
  hs : ∀ t ∈ L, 1 ≤ t.h ∧ t.h ≤ last
  h0 : 0 ≤ last
  h1 : last ≤ 1000000
  len : L.length ≤ 1000000

theorem agree_nodup {T : List Th} {D : DataW Unit} (A : Agree T D) : (T.map Th.h).Nodup := by
  rw [List.nodup_iff_pairwise_ne, List.pairwise_iff_getElem]
  intro i j hi hj hij
  rw [List.length_map] at hi hj
  rw [List.getElem_map, List.getElem_map]
  intro e
  have ei : ∀ k (hk : k < T.length), at' T k = T[k] := fun k hk => by unfold at'; rw [List.getD_eq_getElem?_getD, List.getElem?_eq_getElem hk]; rfl
  have := A.inj hi hj (by rw [ei i hi, ei j hj]; exact e)
  omega
theorem HV.nodup {w : World} {B g m n : Nat} {v : Value} {L : List Th} {last : Int} (H : HV w B g m v L last n) : (L.map Th.h).Nodup := by
  obtain ⟨T, D, R, hH, A, hp⟩ := H.ex
  exact (hp.map Th.h).nodup_iff.1 (agree_nodup A)
theorem wf_of {T L : List Th} {last : Int} (hp : T.Perm L) (hs : ∀ t ∈ L, 1 ≤ t.h ∧ t.h ≤ last) (h1 : last ≤ 1000000) : WF T := fun t ht => by
  have := hs t (hp.mem_iff.1 ht)
  exact WalkArith.wf_i64 (by omega)
theorem top_of {T L : List Th} {t : Th} (hH : Heapy T) (hp : T.Perm (t :: L)) (hs : (t :: L).Pairwise (fun a b => aheadB a b = true)) : at' T 0 = t := by
  have hl : 0 < T.length := by rw [hp.length_eq]; simp
  obtain ⟨i, hi, he⟩ := mem_at (hp.mem_iff.2 List.mem_cons_self : t ∈ T)
  have h1 := heapy_top hH i hi
  rw [he] at h1
  rcases List.mem_cons.1 (hp.mem_iff.1 (at_mem hl)) with h | h
  · exact h
  · have := (List.pairwise_cons.1 hs).1 _ h
    rw [this] at h1; cases h1

def ins (L : List Th) (t : Th) : List Th := L.takeWhile (fun x => decide (x.d ≤ t.d)) ++ t :: L.dropWhile (fun x => decide (x.d ≤ t.d))
theorem ins_perm (L : List Th) (t : Th) : (ins L t).Perm (t :: L) := by
  unfold ins
  refine List.perm_middle.trans ?_
  rw [List.takeWhile_append_dropWhile]
theorem ins_len (L : List Th) (t : Th) : (ins L t).length = L.length + 1 := by rw [(ins_perm L t).length_eq]; rfl
theorem ins_sorted (t : Th) : ∀ L : List Th, (∀ x ∈ L, x.h < t.h) → L.Pairwise (fun a b => aheadB a b = true) → (ins L t).Pairwise (fun a b => aheadB a b = true)
  | [], _, _ => by simp [ins]
  | x :: L, hh, hs => by
    obtain ⟨h1, h2⟩ := List.pairwise_cons.1 hs
    have hx := hh x List.mem_cons_self
    unfold ins
    by_cases hd : x.d ≤ t.d
    · rw [List.takeWhile_cons_of_pos (by simpa using hd), List.dropWhile_cons_of_pos (by simpa using hd), List.cons_append]
      have ih := ins_sorted t L (fun y hy => hh y (List.mem_cons_of_mem _ hy)) h2
      refine List.pairwise_cons.2 ⟨fun y hy => ?_, ih⟩
      rcases List.mem_cons.1 ((ins_perm L t).mem_iff.1 hy) with rfl | hy
      · rw [ahead_iff]; omega
      · exact h1 y hy
    · rw [List.takeWhile_cons_of_neg (by simpa using hd), List.dropWhile_cons_of_neg (by simpa using hd), List.nil_append]
      refine List.pairwise_cons.2 ⟨fun y hy => ?_, hs⟩
      rcases List.mem_cons.1 hy with rfl | hy
      · rw [ahead_iff]; omega
      · have := h1 y hy; rw [ahead_iff] at this ⊢; omega

theorem at_app {T : List Th} {t : Th} {k : Nat} (h : k < T.length) : at' (T ++ [t]) k = at' T k := by
  unfold at'; rw [List.getD_eq_getElem?_getD, List.getD_eq_getElem?_getD, List.getElem?_append_left h]
theorem at_end {T : List Th} {t : Th} : at' (T ++ [t]) T.length = t := by
  unfold at'; simp [List.getD_eq_getElem?_getD]
theorem set_end {T : List Th} {t : Th} : (T ++ [t]).set T.length t = T ++ [t] := by simp
theorem set_at {T : List Th} {i : Nat} (h : i < T.length) : T.set i (at' T i) = T := by
  unfold at'; rw [List.getD_eq_getElem?_getD, List.getElem?_eq_getElem h]; exact List.set_getElem_self h

/-- the blocks that a heap's method may turn -/
def Foot (g m : Nat) (v : Value) (k : Nat) : Prop := k = g ∨ k = m ∨ some k = v.ownBlock

theorem put_hv (w : World) (B g m : Nat) (v : Value) (L : List Th) (last : Int) (n : Nat) (H : HV w B g m v L last n) (d x : Int) (hB : B ≤ w.heap.size) (h1 : last < 1000000) (hl : L.length < 1000000) (hn : n < 700000000) :
    Calls Try.prog 10 #[.pointer (some ⟨g, 0, none⟩), .int .u64 d, .int .u64 x] w fun e w' => e = .returned (.int .i64 (last + 1)) ∧ ∃ v' n', n' ≤ n + L.length + 1 ∧
      HV w' B g m v' (ins L ⟨d, x, last + 1⟩) (last + 1) n' ∧ Fr (Foot g m v) w w' ∧ ∀ k, v'.ownBlock = some k → v.ownBlock = some k ∨ w.heap.size ≤ k := by
  obtain ⟨T, D, R, hH, A, hp⟩ := H.ex
  have hTl := hp.length_eq
  have h0 := H.h0
  have hhs := H.hs
  refine (put_any w B g m v T n D last R d x hB H.h0 H.h1 (by omega) (by omega) (wf_of hp H.hs H.h1)).mono ?_
  rintro e w' ⟨rfl, gb, cap, n', hn', hgb, R', hF⟩
  refine ⟨rfl, _, n', by omega, ⟨⟨_, _, R', ?_, ?_, ?_⟩, ?_, ?_, by omega, by omega, by rw [ins_len]; omega⟩, hF, ?_⟩
  · refine upF_heap _ _ _ _ _ (by simp) (by omega) ?_
    rw [set_end]
    refine ⟨fun c hc0 hcl hcn => ?_, fun c hc0 hcl hcp h0 => ?_⟩
    · simp only [List.length_append, List.length_cons, List.length_nil] at hcl
      rw [at_app (by omega), at_app (by omega)]
      exact hH c hc0 (by omega)
    · simp only [List.length_append, List.length_cons, List.length_nil] at hcl
      omega
  · refine upF_agree _ _ _ _ _ (by simp) (by omega) ⟨A.isMap, ?_, ?_, ?_⟩
    · intro k hk hkn
      simp only [List.length_append, List.length_cons, List.length_nil] at hk
      rw [at_app (by omega)]; exact A.at_ k (by omega)
    · intro h hh
      obtain ⟨k, hk, e⟩ := A.only h hh
      exact .inl ⟨k, by simp; omega, by omega, by rw [at_app hk]; exact e⟩
    · intro k hk hkn
      simp only [List.length_append, List.length_cons, List.length_nil] at hk
      rw [at_app (by omega)]
      have := H.hs _ (hp.mem_iff.1 (at_mem (show k < T.length by omega)))
      show _ ≠ last + 1
      omega
  · refine (upF_perm _ _ _ _ _ (by simp) (by omega)).trans ?_
    rw [set_end]
    refine (List.perm_append_singleton _ _).trans ?_
    exact (hp.cons _).trans (ins_perm _ _).symm
  · exact ins_sorted _ _ (fun y hy => by have := H.hs y hy; show y.h < last + 1; omega) H.sorted
  · intro y hy
    rcases List.mem_cons.1 ((ins_perm _ _).mem_iff.1 hy) with rfl | hy
    · constructor
      · show 1 ≤ last + 1; omega
      · exact Int.le_refl _
    · have := H.hs y hy; omega
  · intro k hk
    have : k = gb := by simpa [Value.ownBlock] using hk.symm
    rw [this]; exact hgb

theorem first_nil_hv (w : World) (B g m : Nat) (v : Value) (last : Int) (n : Nat) (H : HV w B g m v [] last n) :
    Calls Try.prog 16 #[.pointer (some ⟨g, 0, none⟩)] w fun e w' => e = .returned (.tuple #[.int .u64 0, .int .u64 0, .bool false]) ∧ w = w' := by
  obtain ⟨T, D, R, hH, A, hp⟩ := H.ex
  obtain rfl := List.Perm.eq_nil hp
  exact first_nil w B g m v n D last R
theorem first_hv (w : World) (B g m : Nat) (v : Value) (t : Th) (L : List Th) (last : Int) (n : Nat) (H : HV w B g m v (t :: L) last n) :
    Calls Try.prog 16 #[.pointer (some ⟨g, 0, none⟩)] w fun e w' => e = .returned (.tuple #[.int .u64 t.d, .int .u64 t.w, .bool true]) ∧ Below w.heap.size w w' := by
  obtain ⟨T, D, R, hH, A, hp⟩ := H.ex
  have h := first_any w B g m v T n D last R (by rw [hp.length_eq]; simp)
  rwa [top_of hH hp H.sorted] at h
theorem new_hv (w : World) (B : Nat) (hB : B ≤ w.heap.size) :
    Calls Try.prog 8 #[] w fun e w' => e = .returned (.pointer (some ⟨w.heap.size + 1, 0, none⟩)) ∧ HV w' B (w.heap.size + 1) w.heap.size (.slice none 0 0) [] 0 0 ∧ Below w.heap.size w w' := by
  refine (new_any w B hB).mono ?_
  rintro e w' ⟨rfl, R, hb⟩
  exact ⟨rfl, ⟨⟨[], _, R, fun c _ hc => by simp at hc, ⟨⟨_, rfl⟩, fun i hi => by simp at hi, fun h hh => by simp [has] at hh⟩, List.Perm.refl _⟩, List.Pairwise.nil, fun t ht => by simp at ht, by omega, by omega, by simp⟩, hb⟩

theorem rest_perm {X T L : List Th} {t : Th} (h : (X ++ [t]).Perm T) (hX : ∀ x ∈ X, x.h ≠ t.h) (hp : T.Perm L) : X.Perm (L.filter (fun x => !(x.h == t.h))) := by
  have k := (h.trans hp).filter (fun x => !(x.h == t.h))
  rw [List.filter_append] at k
  have e1 : X.filter (fun x => !(x.h == t.h)) = X := List.filter_eq_self.2 (fun x hx => by simpa using hX x hx)
  rw [e1] at k
  simpa using k
theorem filter_sorted {L : List Th} (p : Th → Bool) (h : L.Pairwise (fun a b => aheadB a b = true)) : (L.filter p).Pairwise (fun a b => aheadB a b = true) := h.filter p

theorem drop_none_hv (w : World) (B g m : Nat) (v : Value) (L : List Th) (last : Int) (n : Nat) (H : HV w B g m v L last n) (h : Int) (hh : (Lit.int .i64 h).wf = true) (hno : ∀ t ∈ L, t.h ≠ h) :
    Calls Try.prog 14 #[.pointer (some ⟨g, 0, none⟩), .int .i64 h] w fun e w' => e = .returned (.tuple #[.int .u64 0, .bool false]) ∧ w = w' := by
  obtain ⟨T, D, R, hH, A, hp⟩ := H.ex
  refine drop_no w B g m v T n D last R h hh ?_
  cases hc : has D (.int .i64 h) with
  | false => rfl
  | true =>
    obtain ⟨i, hi, e⟩ := A.only h hc
    exact absurd e (hno _ (hp.mem_iff.1 (at_mem hi)))

theorem take_end {T : List Th} {L : Nat} (h : T.length = L + 1) : T.take L ++ [at' T L] = T := by
  have : at' T L = T[L]'(by omega) := by unfold at'; rw [List.getD_eq_getElem?_getD, List.getElem?_eq_getElem (by omega)]; rfl
  rw [this, ← List.take_succ_eq_append_getElem, ← h, List.take_length]

theorem drop_hv (w : World) (B g m : Nat) (v : Value) (L : List Th) (last : Int) (n : Nat) (H : HV w B g m v L last n) (t : Th) (ht : t ∈ L) (hn : n < 600000000) :
    Calls Try.prog 14 #[.pointer (some ⟨g, 0, none⟩), .int .i64 t.h] w fun e w' => e = .returned (.tuple #[.int .u64 t.w, .bool true]) ∧ ∃ v' n', n' ≤ n + 2 * L.length + 3 ∧
      HV w' B g m v' (L.filter (fun x => !(x.h == t.h))) last n' ∧ Fr (Foot g m v) w w' ∧ ∀ k, v'.ownBlock = some k → v.ownBlock = some k ∨ w.heap.size ≤ k := by
  obtain ⟨T, D, R, hH, A, hp⟩ := H.ex
  have hTl := hp.length_eq
  have hll := H.len
  have hwf := wf_of hp H.hs H.h1
  obtain ⟨i, hi, he⟩ := mem_at (hp.mem_iff.2 ht)
  have hwt : (Lit.int .i64 t.h).wf = true := hwf _ (hp.mem_iff.2 ht)
  have hai := A.at_ i hi
  rw [he] at hai
  obtain ⟨N, hN⟩ : ∃ N, T.length = N + 1 := ⟨T.length - 1, by omega⟩
  have hle : (L.filter (fun x => !(x.h == t.h))).length ≤ L.length := List.length_filter_le _ _
  rcases R.shape with ⟨_, hnil⟩ | ⟨sb, cap, hv⟩
  · rw [hnil] at hN; simp at hN
  subst hv
  rw [hN] at R
  have hself : T = T.take N ++ [at' T N] := (take_end hN).symm
  have hft : (T.take N).length = N := by rw [List.length_take]; omega
  by_cases hiN : i = N
  · subst hiN
    rw [he] at hself
    refine (drop_end w B g m sb cap i T n D last R hN t.h hwt hai.1 hai.2 (by omega)).mono ?_
    rintro e w' ⟨rfl, R', hF⟩
    have hne : ∀ x ∈ T.take i, x.h ≠ t.h := fun x hx e => by
      obtain ⟨k, hk, hke⟩ := mem_at hx
      rw [hft] at hk
      rw [at_take hk] at hke
      have := A.inj (i := k) (j := i) (by omega) hi (by rw [hke, he]; exact e)
      omega
    refine ⟨by rw [he], _, n, by omega, ⟨⟨_, _, R', ?_, ?_, ?_⟩, H.sorted.filter _, fun x hx => H.hs x (List.mem_filter.1 hx).1, H.h0, H.h1, by omega⟩, ?_, ?_⟩
    · intro c hc0 hcl
      rw [hft] at hcl
      rw [at_take (by omega), at_take (by omega)]
      exact hH c hc0 (by omega)
    · refine ⟨isMap_del A.isMap _, ?_, ?_⟩
      · intro k hk
        rw [hft] at hk
        rw [at_take hk]
        have hkn : Lit.int .i64 (at' T k).h ≠ .int .i64 t.h := key_inj (fun e => by have := A.inj (i := k) (j := i) (by omega) hi (by rw [he]; exact e); omega)
        rw [has_del_other hkn, atKey_del_other hkn]
        exact A.at_ k (by omega)
      · intro q hq
        by_cases hqt : q = t.h
        · rw [hqt, has_del_same] at hq; cases hq
        · rw [has_del_other (key_inj hqt)] at hq
          obtain ⟨k, hk, e⟩ := A.only q hq
          have hki : k ≠ i := fun e2 => hqt (by rw [← e, e2, he])
          exact ⟨k, by omega, by rw [at_take (by omega)]; exact e⟩
    · exact rest_perm (by rw [← hself]) hne hp
    · exact hF.mono (fun k hk => by
        rcases hk with h | h | h
        · exact .inl h
        · exact .inr (.inl h)
        · exact .inr (.inr (by simp [Value.ownBlock, h])))
    · intro k hk; exact .inl (by simpa [Value.ownBlock] using hk)
  · obtain ⟨u, hu⟩ : ∃ u, u = at' T N := ⟨_, rfl⟩
    have hiL : i < (T.take N).length := by omega
    have eT1 : ∀ c, c < N → at' (T.take N) c = at' T c := fun c hc => at_take hc
    have eT2 := fun c => at_set_if (T := T.take N) u hiL c
    have hNi : ∀ k, k < N → k ≠ i → (at' T k).h ≠ t.h := fun k hk hki e => hki (A.inj (by omega) hi (by rw [he]; exact e))
    have hNu : ∀ k, k < N → (at' T k).h ≠ u.h := fun k hk e => by have := A.inj (i := k) (j := N) (by omega) (by omega) (by rw [← hu]; exact e); omega
    have hut : u.h ≠ t.h := fun e => hiN (A.inj hi (by omega) (by rw [he, ← hu]; exact e.symm))
    -- the hole at i
    have Ho : Hole (T.take N) (D.del (.int .i64 t.h)) i u := by
      refine ⟨isMap_del A.isMap _, ?_, ?_, ?_⟩
      · intro k hk hki
        rw [hft] at hk
        rw [eT1 k hk, has_del_other (key_inj (hNi k hk hki)), atKey_del_other (key_inj (hNi k hk hki))]
        exact A.at_ k (by omega)
      · intro q hq
        by_cases hqt : q = t.h
        · rw [hqt, has_del_same] at hq; cases hq
        · rw [has_del_other (key_inj hqt)] at hq
          obtain ⟨k, hk, e⟩ := A.only q hq
          have hki : k ≠ i := fun e2 => hqt (by rw [← e, e2, he])
          by_cases hkN : k = N
          · exact .inr (by rw [← e, hkN, hu])
          · exact .inl ⟨k, by omega, hki, by rw [eT1 k (by omega)]; exact e⟩
      · intro k hk hki
        rw [hft] at hk
        rw [eT1 k hk]; exact hNu k hk
    have A2 := Ho.shut hiL
    have hl2 : ((T.take N).set i u).length = N := by rw [List.length_set]; exact hft
    have Ho2 := A2.hole (i := i) (by omega)
    rw [at_set hiL] at Ho2
    have A3 := upF_agree u (i + 1) i _ _ (by omega) (by omega) Ho2
    have P3 := upF_perm u (i + 1) i ((T.take N).set i u) ((D.del (.int .i64 t.h)).put (.int .i64 u.h) (.lit (.int .i64 i))) (by omega) (by omega)
    rw [List.set_set] at P3
    have hl3 := P3.length_eq
    rw [hl2] at hl3
    -- where it came to
    have hum : u ∈ (T.take N).set i u := by
      have := at_mem (T := (T.take N).set i u) (i := i) (by omega)
      rwa [at_set hiL] at this
    obtain ⟨j, hj, hje⟩ := mem_at (P3.mem_iff.2 hum)
    have hD : DownOK ((upF u (i + 1) i ((T.take N).set i u) ((D.del (.int .i64 t.h)).put (.int .i64 u.h) (.lit (.int .i64 i)))).1) j := by
      have second : ∀ {c : Nat}, 0 < c → c < N → (c - 1) / 2 = i → 0 < i → aheadB (at' T c) (at' T ((i - 1) / 2)) = false := fun {c} hc0 hcl hcp h0 => by
        have a := hH c hc0 (by omega); rw [hcp] at a
        exact ahead_nt a (hH i h0 hi)
      by_cases hc : 0 < i ∧ aheadB u (at' ((T.take N).set i u) ((i - 1) / 2)) = true
      · have hah := hc.2
        rw [eT2, if_neg (by omega), eT1 _ (by omega)] at hah
        have hup : Heapy (upF u (i + 1) i ((T.take N).set i u) ((D.del (.int .i64 t.h)).put (.int .i64 u.h) (.lit (.int .i64 i)))).1 := by
          refine upF_heap u (i + 1) i _ _ (by omega) (by omega) ?_
          rw [List.set_set]
          refine ⟨fun c hc0 hcl hci => ?_, fun c hc0 hcl hcp h0 => ?_⟩
          · rw [hl2] at hcl
            rw [eT2, eT2, if_neg hci, eT1 c hcl]
            by_cases hq : (c - 1) / 2 = i
            · rw [if_pos hq]; exact ahead_nl (second hc0 hcl hq hc.1) hah
            · rw [if_neg hq, eT1 _ (by omega)]; exact hH c hc0 (by omega)
          · rw [hl2] at hcl
            rw [eT2, eT2, if_neg (by omega), if_neg (by omega), eT1 c hcl, eT1 _ (by omega)]
            exact second hc0 hcl hcp h0
        refine ⟨fun c hc0 hcl _ => hup c hc0 hcl, fun c hc0 hcl hcp h0 => ?_⟩
        have a := hup c hc0 hcl; rw [hcp] at a
        exact ahead_nt a (hup j h0 hj)
      · have hE : (upF u (i + 1) i ((T.take N).set i u) ((D.del (.int .i64 t.h)).put (.int .i64 u.h) (.lit (.int .i64 i)))).1 = (T.take N).set i u := by
          rw [upF, if_neg hc]; simp only [List.set_set]
        rw [hE] at hj hje ⊢
        have hji : j = i := A2.inj hj (by omega) (by rw [hje, at_set hiL])
        subst hji
        refine ⟨fun c hc0 hcl hcp => ?_, fun c hc0 hcl hcp h0 => ?_⟩
        · rw [hl2] at hcl
          by_cases hcj : c = j
          · subst hcj
            rw [at_set hiL]
            cases h : aheadB u (at' ((T.take N).set c u) ((c - 1) / 2)) with
            | false => rfl
            | true => exact absurd ⟨hc0, h⟩ hc
          · rw [eT2, eT2, if_neg hcj, if_neg hcp, eT1 c hcl, eT1 _ (by omega)]
            exact hH c hc0 (by omega)
        · rw [hl2] at hcl
          rw [eT2, eT2, if_neg (by omega), if_neg (by omega), eT1 c hcl, eT1 _ (by omega)]
          exact second hc0 hcl hcp h0
    have haj := (A3.at_ j hj).2
    rw [hje] at haj
    have hmid := drop_mid w B g m sb cap N i j T n D last R hN (by omega) t.h hwt hai.1 hai.2 (by omega) hwf (by omega) (by omega) (by unfold midUp; rw [← hu]; exact haj)
    unfold midF midUp at hmid
    rw [← hu, he] at hmid
    refine hmid.mono ?_
    rintro e w' ⟨rfl, n', hn', R', hF⟩
    rw [hje] at R'
    have Ho3 := A3.hole hj
    rw [hje] at Ho3
    have hD' := hD
    rw [← set_at hj, hje] at hD'
    have hlj : (upF u (i + 1) i ((T.take N).set i u) ((D.del (.int .i64 t.h)).put (.int .i64 u.h) (.lit (.int .i64 i)))).1.length - j < N + 1 := by omega
    have P4 := downF_perm u (N + 1) j _ (upF u (i + 1) i ((T.take N).set i u) ((D.del (.int .i64 t.h)).put (.int .i64 u.h) (.lit (.int .i64 i)))).2 hj hlj
    have hsj : (upF u (i + 1) i ((T.take N).set i u) ((D.del (.int .i64 t.h)).put (.int .i64 u.h) (.lit (.int .i64 i)))).1.set j u = (upF u (i + 1) i ((T.take N).set i u) ((D.del (.int .i64 t.h)).put (.int .i64 u.h) (.lit (.int .i64 i)))).1 := by
      have := set_at hj
      rwa [hje] at this
    rw [hsj] at P4
    refine ⟨rfl, _, n', by omega, ⟨⟨_, _, by have hl4 := P4.length_eq; exact R', downF_heap u (N + 1) j _ _ hj hlj hD', downF_agree u (N + 1) j _ _ hj hlj Ho3, ?_⟩, H.sorted.filter _, fun x hx => H.hs x (List.mem_filter.1 hx).1, H.h0, H.h1, by omega⟩, ?_, ?_⟩
    · refine (P4.trans P3).trans ?_
      refine rest_perm (t := t) (T := T) ?_ ?_ hp
      · have sw := set_swap (T := T) (i := i) (p := N) t hi (by omega) (fun e => hiN e.symm)
        rw [← he, set_at hi, he, ← hu] at sw
        have e1 : (T.set i u).set N t = (T.take N).set i u ++ [t] := by
          conv => lhs; rw [hself]
          rw [List.set_append_left _ _ (by omega), List.set_append_right _ _ (by rw [hl2]; exact Nat.le_refl _), hl2]
          simp
        rw [e1] at sw
        exact sw
      · intro x hx e
        obtain ⟨k, hk, hke⟩ := mem_at hx
        rw [hl2] at hk
        rw [eT2] at hke
        split at hke
        · rw [← hke] at e; exact hut e
        · next hki => rw [eT1 k hk] at hke; rw [← hke] at e; exact hNi k hk hki e
    · exact hF.mono (fun k hk => by
        rcases hk with h | h | h
        · exact .inl h
        · exact .inr (.inl h)
        · exact .inr (.inr (by simp [Value.ownBlock, h])))
    · intro k hk; exact .inl (by simpa [Value.ownBlock] using hk)

end Go.Proofs.Ytfibgjgipadmkaa.Hp
