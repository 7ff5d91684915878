/- How a heap lies in memory, and what a call may turn. -/
import Derived.Test.YtfibgjgipadmkaaHa
import Derived.Maps.Own
import Derived.Maps.OwnOps
import Derived.Maps.OwnSet
import Derived.Laws.OwnMore
import Derived.Laws.AppendOwn
import Derived.OwnWalk
import Derived.Deep.Draws
namespace Go.Proofs.Ytfibgjgipadmkaa.Hp
set_option linter.unusedVariables false
set_option linter.unusedSimpArgs false
open Go.RowKit Go.Maps Go.ChangeMaps

def cells (t : Th) : List Value := [.int .u64 t.d, .int .u64 t.w, .int .i64 t.h]
def flat (T : List Th) : List Value := T.flatMap cells
def z : Th := ⟨0, 0, 0⟩
def at' (T : List Th) (i : Nat) : Th := T.getD i z

theorem flat_cons (x : Th) (T : List Th) : flat (x :: T) = cells x ++ flat T := rfl
theorem flat_append (a b : List Th) : flat (a ++ b) = flat a ++ flat b := by unfold flat; exact List.flatMap_append
theorem flat_len : ∀ T : List Th, (flat T).length = T.length * 3
  | [] => rfl
  | x :: T => by rw [flat_cons, List.length_append, flat_len T]; simp [cells]; omega
theorem flat_get : ∀ (T : List Th) (i j : Nat), i < T.length → j < 3 → (flat T)[i * 3 + j]? = (cells (at' T i))[j]?
  | [], i, j, h, _ => by simp at h
  | y :: T, 0, j, _, hj => by
    rw [flat_cons, Nat.zero_mul, Nat.zero_add, List.getElem?_append_left (by simpa [cells] using hj)]; rfl
  | y :: T, i + 1, j, h, hj => by
    have e : (i + 1) * 3 + j = (cells y).length + (i * 3 + j) := by simp [cells]; omega
    rw [flat_cons, e, List.getElem?_append_right (by omega), Nat.add_sub_cancel_left, flat_get T i j (by simpa using h) hj]
    rfl
theorem flat_set : ∀ (T : List Th) (i : Nat) (t : Th), i < T.length → flat (T.set i t) = (((flat T).set (i * 3) (.int .u64 t.d)).set (i * 3 + 1) (.int .u64 t.w)).set (i * 3 + 2) (.int .i64 t.h)
  | [], i, t, h => by simp at h
  | y :: T, 0, t, _ => by simp [flat, cells]
  | y :: T, i + 1, t, h => by
    have e0 : (i + 1) * 3 = (cells y).length + (i * 3) := by simp [cells]; omega
    rw [List.set_cons_succ, flat_cons, flat_cons, flat_set T i t (by simpa using h), e0, Nat.add_assoc, Nat.add_assoc]
    rw [List.set_append_right _ _ (by omega), List.set_append_right _ _ (by omega), List.set_append_right _ _ (by omega)]
    simp only [Nat.add_sub_cancel_left]
theorem flat_one {T : List Th} {u : Value} (h : u ∈ flat T) : u.oneCell' = true := by
  unfold flat at h
  obtain ⟨x, _, hu⟩ := List.mem_flatMap.1 h
  simp only [cells, List.mem_cons, List.not_mem_nil, or_false] at hu
  rcases hu with rfl | rfl | rfl <;> rfl

/-- nothing has turned but the blocks of S (and what is new) -/
structure Fr (S : Nat → Prop) (w w' : World) : Prop where
  os : w'.os = w.os
  tape : w'.tape = w.tape
  output : w'.output = w.output
  size : w.heap.size ≤ w'.heap.size
  block : ∀ k, k < w.heap.size → ¬ S k → w'.heap[k]? = w.heap[k]?

theorem Fr.refl (S : Nat → Prop) (w : World) : Fr S w w := ⟨rfl, rfl, rfl, Nat.le_refl _, fun _ _ _ => rfl⟩
theorem Fr.trans {S : Nat → Prop} {a b c : World} (h : Fr S a b) (k : Fr S b c) : Fr S a c :=
  ⟨k.os.trans h.os, k.tape.trans h.tape, k.output.trans h.output, Nat.le_trans h.size k.size, fun i hi hn => (k.block i (Nat.lt_of_lt_of_le hi h.size) hn).trans (h.block i hi hn)⟩
theorem Fr.of_below {S : Nat → Prop} {a b c : World} (h : Fr S a b) (k : Below b.heap.size b c) : Fr S a c :=
  ⟨k.os.trans h.os, k.tape.trans h.tape, k.output.trans h.output, Nat.le_trans h.size k.size, fun i hi hn => (k.block i (Nat.lt_of_lt_of_le hi h.size)).trans (h.block i hi hn)⟩
theorem Fr.mono {S S' : Nat → Prop} {a b : World} (h : Fr S a b) (hs : ∀ k, S k → S' k) : Fr S' a b := ⟨h.os, h.tape, h.output, h.size, fun k hk hn => h.block k hk (fun x => hn (hs k x))⟩
theorem Fr.alloc {S : Nat → Prop} {a b : World} (h : Fr S a b) (o : Obj) : Fr S a (b.alloc o) := h.of_below ((Below.refl _ _).alloc (Nat.le_refl _) o)
theorem Fr.drew {S : Nat → Prop} {a b : World} (h : Fr S a b) : Fr S a b.drew := ⟨h.os, h.tape, h.output, h.size, h.block⟩
theorem Fr.drewN {S : Nat → Prop} {a b : World} (h : Fr S a b) (n : Nat) : Fr S a (b.drewN n) := ⟨h.os, h.tape, h.output, h.size, h.block⟩
theorem Fr.setCell {S : Nat → Prop} {a b : World} (h : Fr S a b) {p : Addr} (hp : S p.block ∨ a.heap.size ≤ p.block) (u : Value) : Fr S a (b.setCell p u) :=
  ⟨h.os, h.tape, h.output, by simpa [World.setCell] using h.size, fun k hk hn => (Below.heap_setCell b p u k (by
    rintro rfl
    rcases hp with hp | hp
    · exact hn hp
    · omega)).trans (h.block k hk hn)⟩
theorem Fr.grown {S : Nat → Prop} {a b c : World} {row : Option Nat} (h : Fr S a b) (hg : b.grownBy c row) (hr : ∀ k, row = some k → S k ∨ a.heap.size ≤ k) : Fr S a c :=
  ⟨hg.os.trans h.os, hg.tape.trans h.tape, hg.output.trans h.output, Nat.le_trans h.size hg.size, fun k hk hn => (hg.block k (Nat.lt_of_lt_of_le hk h.size) (fun e => by
    rcases hr k e.symm with x | x
    · exact hn x
    · omega)).trans (h.block k hk hn)⟩
theorem Fr.turned {S : Nat → Prop} {a b c : World} {m : Nat} (h : Fr S a b) (ht : b.mapTurned c m) (hm : S m ∨ a.heap.size ≤ m) : Fr S a c := by
  obtain ⟨es, clock, es', clock', hb, rfl⟩ := ht
  exact ⟨h.os, h.tape, h.output, by simpa [setBlock] using h.size, fun k hk hn => (heap_setBlock_other hb _ (by
    rintro rfl
    rcases hm with x | x
    · exact hn x
    · omega)).trans (h.block k hk hn)⟩
theorem Fr.below {S : Nat → Prop} {a b : World} (h : Fr S a b) {B : Nat} (hB : B ≤ a.heap.size) (hs : ∀ k, S k → B ≤ k) : Below B a b :=
  ⟨h.os, h.tape, h.output, h.size, fun k hk => h.block k (by omega) (fun x => by have := hs k x; omega)⟩
theorem Fr.keep {S : Nat → Prop} {a b : World} (h : Fr S a b) {k : Nat} {o : Obj} (hk : a.heap[k]? = some o) (hn : ¬ S k) : b.heap[k]? = some o :=
  (h.block k (Array.getElem?_eq_some_iff.1 hk).1 hn).trans hk

/-- the heap's three cells, its row of things, its map of places -/
structure Raw (w : World) (B g m : Nat) (v : Value) (T : List Th) (n : Nat) (D : DataW Unit) (last : Int) : Prop where
  blk : w.heap[g]? = some (.cells #[v, .map (some m), .int .i64 last] 56 (0, 0))
  bg : B ≤ g
  own : w.ownsRow B 58 3 v T.length (flat T)
  mp : w.ownsMap Try.prog 3 (plainElem Try.prog 3) m n D
  bm : B ≤ m

theorem keyI : Keyed Try.prog 3 := int_keyed Try.underlying3

end Go.Proofs.Ytfibgjgipadmkaa.Hp
