/- A row's last step for a law that answers true and leaves all that was there as it was: the arguments read behind the call as they read before. -/
import Derived.Test.YtfibgjgipadmkaaProg
import Derived.ChangeOld
import Derived.ChangeReads
import Derived.ChangeShapes
import Derived.OpenShut
import Derived.Below
namespace Go.Proofs.Ytfibgjgipadmkaa.Ke
set_option linter.unusedVariables false
set_option linter.unusedSimpArgs false
open Go.ChangeShapes Go.WideShapes Go.RowKit

/-- a list of types that holds all that its members are made of, none of whose slices has elements of no cell -/
def closedB (P : Program) (ts : List TypeId) : Bool := ts.all fun t => match P.underlying t with
  | some (.slice e) => ts.contains e && Nat.blt 0 (P.cellsOf e)
  | some (.pointer e) => ts.contains e
  | some (.struct fs) => fs.toList.all fun f => ts.contains f.type
  | some (.array _ e) => ts.contains e
  | some (.map _ e) => ts.contains e
  | _ => true

section
variable {H : Type} {enc : TypeId × Value → H} {P : Program} {w : World}

theorem spare_step {ts : List TypeId} (hc : closedB P ts = true) {r r' : TypeId → List Value → Option (DataW H × List MemPlace)}
    (hr : ∀ t cs x, t ∈ ts → r t cs = some x → r' t cs = some x) {t : TypeId} {cs : List Value} {x : DataW H × List MemPlace} (ht : t ∈ ts)
    (h : DataW.trodStep enc P w 0 (fun _ => true) true r t cs = some x) : DataW.trodStep enc P w 0 (fun b => decide (b < w.heap.size)) true r' t cs = some x := by
  have hcl := List.all_eq_true.1 hc t ht
  unfold DataW.trodStep at h ⊢
  split at h
  case h_1 => exact h
  case h_2 => exact h
  case h_3 => exact h
  case h_4 => exact h
  case h_5 => exact h
  case h_6 e a hu =>
    rw [hu] at hcl
    simp only [List.contains_eq_mem, decide_eq_true_eq] at hcl
    simp only [Option.map_eq_some_iff, Option.bind_eq_some_iff] at h ⊢
    obtain ⟨y, ⟨cs', hcs, hy⟩, rfl⟩ := h
    exact ⟨y, ⟨cs', hcs, hr _ _ _ hcl hy⟩, rfl⟩
  case h_7 => exact h
  case h_8 e a len cap hu =>
    rw [hu] at hcl
    simp only [Bool.and_eq_true, List.contains_eq_mem, decide_eq_true_eq, Nat.blt_eq] at hcl
    obtain ⟨he, hpos⟩ := hcl
    simp only at h ⊢
    split at h
    · rename_i hlen
      rw [if_pos hlen]
      simp only [Option.map_eq_some_iff, Option.bind_eq_some_iff] at h ⊢
      obtain ⟨elems, hel, rest, hrest, rfl⟩ := h
      rw [if_pos trivial] at hrest
      have one : ∀ (i : Nat) (y : DataW H × List MemPlace), (w.cells? 0 (a.add (i * P.cellsOf e)) (P.cellsOf e)).bind (r e) = some y →
          a.block < w.heap.size ∧ (w.cells? 0 (a.add (i * P.cellsOf e)) (P.cellsOf e)).bind (r' e) = some y := by
        intro i y hv
        simp only [Option.bind_eq_some_iff] at hv ⊢
        obtain ⟨cs', hc', hy'⟩ := hv
        have hb := World.cells?_block hc' hpos
        have eb : (a.add (i * P.cellsOf e)).block = a.block := by unfold Addr.add; split <;> rfl
        rw [eb] at hb
        exact ⟨hb, cs', hc', hr _ _ _ he hy'⟩
      refine ⟨elems, mapM_carry hel (fun i y _ _ hv => (one i y hv).2), rest, ?_, rfl⟩
      by_cases hb : a.block < w.heap.size
      · rw [if_pos (by simpa using hb)]
        exact mapM_carry hrest (fun j y _ _ hv => (one (len + j) y hv).2)
      · rw [if_neg (by simpa using hb)]
        cases rest with
        | nil => rfl
        | cons y ys =>
          obtain ⟨j, _, hj⟩ := mapM_mem_of hrest y (by simp)
          exact absurd (one (len + j) y hj).1 hb
    · cases h
  case h_9 fs _ hu =>
    rw [hu] at hcl
    simp only [List.all_eq_true, List.contains_eq_mem, decide_eq_true_eq] at hcl
    split at h
    · rename_i hl
      rw [if_pos hl]
      simp only [Option.map_eq_some_iff] at h ⊢
      obtain ⟨xs, hx, rfl⟩ := h
      exact ⟨xs, mapM_carry hx (fun f y hf _ hv => hr _ _ _ (hcl f hf) hv), rfl⟩
    · cases h
  case h_10 n e _ hu =>
    rw [hu] at hcl
    simp only [List.contains_eq_mem, decide_eq_true_eq] at hcl
    split at h
    · rename_i hl
      rw [if_pos hl]
      simp only [Option.map_eq_some_iff] at h ⊢
      obtain ⟨xs, hx, rfl⟩ := h
      exact ⟨xs, mapM_carry hx (fun f y _ _ hv => hr _ _ _ hcl hv), rfl⟩
    · cases h
  case h_11 => exact h
  case h_12 => exact h
  case h_13 => exact h
  case h_14 k e b hu =>
    rw [hu] at hcl
    simp only [List.contains_eq_mem, decide_eq_true_eq] at hcl
    split at h
    · rename_i es clock hb
      split at h
      · rename_i hcond
        simp only [Option.bind_eq_some_iff] at h
        obtain ⟨entries, hen, hd⟩ := h
        simp only [hb, if_pos hcond, Option.bind_eq_some_iff]
        refine ⟨entries, mapM_carry hen (fun y z _ _ hv => ?_), hd⟩
        simp only [Option.bind_eq_some_iff] at hv ⊢
        obtain ⟨key, hk, hz⟩ := hv
        refine ⟨key, hk, ?_⟩
        split at hz
        · rename_i hf
          rw [if_pos hf]
          simp only [Option.map_eq_some_iff] at hz ⊢
          obtain ⟨q, hq, rfl⟩ := hz
          exact ⟨q, hr _ _ _ hcl hq, rfl⟩
        · cases hz
      · cases h
    · cases h
  case h_15 => exact h
  case h_16 => exact h
  case h_17 => exact h
  case h_18 => exact h
  case h_19 => exact h
  case h_20 => exact h
  case h_21 => cases h

theorem spare_trod {ts : List TypeId} (hc : closedB P ts = true) : ∀ (n : Nat) (t : TypeId) (cs : List Value) (x : DataW H × List MemPlace), t ∈ ts →
    DataW.trod enc P w 0 (fun _ => true) true n t cs = some x → DataW.trod enc P w 0 (fun b => decide (b < w.heap.size)) true n t cs = some x := by
  intro n
  induction n with
  | zero => intro t cs x _ h; simp [DataW.trod] at h
  | succ n ih =>
    intro t cs x ht h
    rw [DataW.trod_step] at h ⊢
    exact spare_step hc ih ht h

theorem keep_all {ts : List TypeId} (hc : closedB P ts = true) {W' : World} (hb : Below w.heap.size w W') : ∀ {us : List TypeId} {vs : List Value} {ds : List (DataW H)} {ps : List MemPlace}, (∀ t ∈ us, t ∈ ts) →
    DataW.TrodAll enc P w 0 (fun _ => true) true us vs ds ps → DataW.TrodAll enc P W' 0 (fun b => decide (b < w.heap.size)) true us vs ds ps
  | [], [], [], _, _, h => h
  | t :: us, _ :: _, _ :: _, _, hu, ⟨a, b, ⟨n, h1⟩, h2, e⟩ => by
    refine ⟨a, b, ⟨n, ?_⟩, keep_all hc hb (fun t ht => hu t (by simp [ht])) h2, e⟩
    exact DataW.trod_carry n _ _ _ (spare_trod hc n _ _ _ (hu t (by simp)) h1) (fun p hp => hb.same (DataW.trod_lt n _ _ _ h1 p hp))

end
end Go.Proofs.Ytfibgjgipadmkaa.Ke
