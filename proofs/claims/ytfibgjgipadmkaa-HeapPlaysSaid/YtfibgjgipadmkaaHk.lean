/- All: the iterator. -/
import Derived.Test.YtfibgjgipadmkaaHj
import Derived.RangeFuncNested
import Derived.RangeFuncBound
import Derived.RangeFuncCalls
import Derived.RangeFuncLeaves
import Derived.RangeFuncBox
import Derived.Shelf.Abstract
import Derived.Shelf.RegionOpen
import Derived.OwnWalkIn
import Derived.TacticsInMore
import Derived.LoopNIn
import Derived.LoopIn
namespace Go.Proofs.Ytfibgjgipadmkaa.Hp
set_option linter.unusedVariables false
set_option linter.unusedSimpArgs false
open Go.RowKit Go.Maps Go.ChangeMaps Go.Shelf
attribute [local go_sem] Oper.semAt_some

/-- sort.Slice, as All calls it, makes S of T -/
def SortOK (T S : List Th) : Prop := S.length = T.length ∧ ∀ (w : World) (B blk cap Bs : Nat), w.ownsRow B 58 3 (.slice (some ⟨blk, 0, none⟩) T.length cap) T.length (flat T) → w.cell? ⟨Bs, 0, none⟩ = some (.slice (some ⟨blk, 0, none⟩) T.length cap) → Bs < w.heap.size → Bs ≠ blk →
  Calls Try.prog 29 #[.iface 54 (.slice (some ⟨blk, 0, none⟩) T.length cap), .func (.func 30) #[] #[.pointer (some ⟨Bs, 0, none⟩)]] w fun e w' => e = .returned (.tuple #[]) ∧
    w'.ownsRow B 58 3 (.slice (some ⟨blk, 0, none⟩) T.length cap) T.length (flat S) ∧ Fr (fun k => k = blk) w w'

def KeepC (n0 : Nat) (A B : World) : Prop := ∀ k c e f, n0 ≤ k → A.heap[k]? = some (.cells c e f) → B.heap[k]? = some (.cells c e f)

theorem row_form {w : World} {B L : Nat} {v : Value} {xs : List Value} (h : w.ownsRow B 58 3 v L xs) (hne : ¬ v = .slice none 0 0) : ∃ gb cap, v = .slice (some ⟨gb, 0, none⟩) L cap := by
  rcases h.2 with ⟨h, _⟩ | ⟨g', cap', cur, h, _⟩
  · exact absurd h hne
  · exact ⟨g', cap', h⟩

/-- the empty row -/
theorem row_new (W : World) : (W.alloc (.cells #[] 58)).ownsRow W.heap.size 58 3 (.slice (some ⟨W.heap.size, 0, none⟩) 0 0) 0 [] :=
  ⟨rfl, .inr ⟨W.heap.size, 0, #[], rfl, Nat.le_refl _, heap_alloc_new W _, Nat.le_refl _, by decide, rfl, rfl⟩⟩

theorem ownsRow_keepC {n0 B L : Nat} {a b : World} {v : Value} {xs : List Value} (h : a.ownsRow B 58 3 v L xs) (k : KeepC n0 a b) (hb : n0 ≤ B) : b.ownsRow B 58 3 v L xs := by
  obtain ⟨hl, h2⟩ := h
  rcases h2 with h | ⟨g', cap', cur, h, hB, hg, r⟩
  · exact ⟨hl, .inl h⟩
  · exact ⟨hl, .inr ⟨g', cap', cur, h, hB, k _ _ _ _ (by omega) hg, r⟩⟩

set_option maxRecDepth 100000 in
set_option maxHeartbeats 2000000 in
theorem all1_in (n : Nat) (hn : 1 ≤ n) (n0 Bh l g m sb cap : Nat) (T S : List Th) (nn : Nat) (D : DataW Unit) (last : Int) (hS : SortOK T S) (J Jx : List Th → World → Prop) (W : World) (h0 : n0 ≤ W.heap.size)
    (hJ : AbidesFrom W.heap.size J) 
    (hY : ∀ pre x W1, J pre W1 → pre.length < S.length → YieldAt Fence.wide (n - 1) Try.prog l #[.int .u64 x.d, .int .u64 x.w] W1 fun e W' =>
      (e = .returned (.bool true) ∧ J (pre ++ [x]) W' ∧ KeepC n0 W1 W') ∨ (e = .returned (.bool false) ∧ Jx (pre ++ [x]) W'))
    (hBh : W.cell? ⟨Bh, 0, none⟩ = some (.pointer (some ⟨g, 0, none⟩))) (hBl : Bh < W.heap.size) (R : Raw W 0 g m (.slice (some ⟨sb, 0, none⟩) T.length cap) T nn D last) (hl : T.length ≤ 10000000) (hJ0 : J [] W) :
    CallsIn Fence.wide n Try.prog 28 #[.func (.yield l) #[] #[], .pointer (some ⟨Bh, 0, none⟩)] W fun e W' => (∃ v, e = .returned v) ∧
      ((∃ ys, ys = S ∧ J ys W') ∨ (∃ pre, pre <+: S ∧ Jx pre W')) := by
  have hg0 : W.cell? ⟨g, 0, none⟩ = some (.slice (some ⟨sb, 0, none⟩) T.length cap) := (cell_of_row W g 0 _ 56 (0, 0) R.blk).trans rfl
  have hgl : g < W.heap.size := (Array.getElem?_eq_some_iff.1 R.blk).1
  refine callsIn_of_wp Try.func28 rfl trivial ?_ rfl
  simp only [Try.ntmps28, List.size_toArray, List.length_cons, List.length_nil, Nat.reduceAdd, Nat.reduceSub, Array.replicate_succ, Array.replicate_zero, List.push_toArray, List.append_toArray, List.nil_append, List.cons_append]
  obtain ⟨i0, hi, hz0, hz1, hz2⟩ := info_parts info58
  have hcs := (R.own.alloc (.cells #[] 58)).cells (g := sb) rfl
  gi_wp2_with (gi_at_builtin; refine wpListIn_append_own _ rfl _ _ 54 rfl W.heap.size 58 i0 (.agg #[.int .u64 0, .int .u64 0, .int .i64 0]) 3 24 Try.underlying54 hi hz0 hz1 hz2 rfl (by decide) _ 0 [] rfl (row_new W) ⟨sb, 0, none⟩ T.length cap (flat T) rfl (flat_len T) hcs (fun u hu => flat_one hu) (by unfold maxLen; omega) (by omega) (by simp) ?_; intro v' w1 hown1 hgrow1 hnil1; obtain ⟨gb, cap', rfl⟩ := row_form hown1 (fun e => by have h := (hnil1.1 e).1; cases h); have HF := Lib.hid (And.intro hown1 hgrow1); clear hown1 hgrow1 hnil1)
  obtain ⟨hown1, hgrow1⟩ := HF.out
  have hw1 : Below W.heap.size W w1 := ((Below.refl _ W).alloc (Nat.le_refl _) _).grown hgrow1 (by simp) (fun k hk => by injection hk with hk; subst hk; exact Nat.le_refl _)
  refine ⟨trivial, ?_⟩
  have hgb := hown1.lt gb rfl
  have hs := hS.2 (w1.alloc (.cells #[.slice (some ⟨gb, 0, none⟩) T.length cap'] 54)) W.heap.size gb cap' w1.heap.size (by have := hown1.alloc (.cells #[.slice (some ⟨gb, 0, none⟩) T.length cap'] 54); simpa using this) (by simp) (by simp) (by omega)
  refine (callsIn_wide.2 hs).mono ?_
  rintro e w2 ⟨rfl, hown2, hfr2⟩
  have hc2 : w2.cell? ⟨w1.heap.size, 0, none⟩ = some (.slice (some ⟨gb, 0, none⟩) T.length cap') := (cell_of_row w2 w1.heap.size 0 #[.slice (some ⟨gb, 0, none⟩) T.length cap'] 54 (0, 0) (hfr2.keep (heap_alloc_new w1 _) (by omega))).trans rfl
  have hF : Fr (fun k => k = gb) W w2 := (((Fr.refl _ W).of_below hw1).alloc _).trans hfr2
  have hB2 : Below W.heap.size W w2 := hF.below (Nat.le_refl _) (fun k hk => by omega)
  have hJ2 : J [] w2 := hJ [] W w2 none hJ0 (grown_of_below hB2) (fun r hr => by cases hr)
  have hsz : W.heap.size ≤ w2.heap.size := hB2.size
  have hSl : S.length = T.length := hS.1
  clear hs HF hown1 hgrow1 hw1 hfr2 hcs hi hz0 hz1 hz2 hF hB2
  gi_wp2_with fail
  gi_loopw [18] (fun i wr => ∃ k : Nat, k ≤ T.length ∧ i = .int .i64 k ∧ J (S.take k) wr ∧ W.heap.size ≤ wr.heap.size ∧ wr.ownsRow W.heap.size 58 3 (.slice (some ⟨gb, 0, none⟩) T.length cap') T.length (flat S))
    (fun i _ => T.length - (intOf i).toNat)
  case atStart => exact ⟨0, Nat.zero_le _, rfl, by simpa using hJ2, hsz, hown2⟩
  case round =>
    obtain ⟨k, hk, rfl, hJs, hszr, hown⟩ := hrel
    by_cases hlt : k < T.length
    · have hx0 : wr.cell? ⟨gb, k * 3, none⟩ = some (.int .u64 (at' S k).d) := ((hown.cellAt (k * 3) (by omega)).trans (flat_get S k 0 (by omega) (by omega))).trans rfl
      have hx1 : wr.cell? ⟨gb, k * 3 + 1, none⟩ = some (.int .u64 (at' S k).w) := ((hown.cellAt (k * 3 + 1) (by omega)).trans (flat_get S k 1 (by omega) (by omega))).trans rfl
      have hx2 : wr.cell? ⟨gb, k * 3 + 2, none⟩ = some (.int .i64 (at' S k).h) := ((hown.cellAt (k * 3 + 2) (by omega)).trans (flat_get S k 2 (by omega) (by omega))).trans rfl
      have hgl2 : gb < wr.heap.size := (hown.lt gb rfl).2
      obtain ⟨fn, tmps, assign, body, hy, hR⟩ := hY _ (at' S k) (wr.alloc (.cells #[.int .u64 (at' S k).d, .int .u64 (at' S k).w, .int .i64 (at' S k).h] 58)) (hJ _ wr _ none hJs (World.grownBy_alloc wr _ none) (fun r hr => by cases hr)) (by rw [List.length_take]; omega)
      have hl1 : decide ((k : Int) < (T.length : Int)) = true := decide_eq_true (by omega)
      have hi0 : (0 : Int) ≤ (k : Int) := by omega
      have hi1 : (k : Int) < (T.length : Int) := by omega
      have hadd : IntKind.i64.wrap ((k : Int) + 1) = (k : Int) + 1 := IntWalk.i64_in _ (by omega)
      have htk : S.take k ++ [at' S k] = S.take (k + 1) := by
        rw [List.take_succ_eq_append_getElem (by omega)]
        unfold at'
        rw [List.getD_eq_getElem?_getD, List.getElem?_eq_getElem (by omega)]
        rfl
      gi_wp2_with fail
      refine hR.mono ?_
      rintro e W3 (⟨rfl, hJ3, hk3⟩ | ⟨rfl, hJx3⟩)
      · rw [htk] at hJ3
        have hrow3 := ownsRow_keepC (hown.alloc (.cells #[.int .u64 (at' S k).d, .int .u64 (at' S k).w, .int .i64 (at' S k).h] 58)) hk3 h0
        have hsz3 : W.heap.size ≤ W3.heap.size := by
          have := hk3 wr.heap.size _ _ _ (by omega) (Box.new wr (at' S k))
          have := (Array.getElem?_eq_some_iff.1 this).1
          omega
        clear hR hy
        gi_wp2_with fail
        go_roundw
        case rel => exact ⟨k + 1, by omega, by simp, hJ3, hsz3, hrow3⟩
        case measure => simp [intOf]; omega
      · rw [htk] at hJx3
        clear hR hy
        gi_wp2_with fail
        refine bodyPost_ret (results_none rfl _ _ _) rfl ?_
        exact ⟨⟨_, rfl⟩, .inr ⟨_, List.take_prefix _ _, hJx3⟩⟩
    · obtain rfl : k = T.length := by omega
      have hl1 : decide ((T.length : Int) < (T.length : Int)) = false := decide_eq_false (by omega)
      gi_wp2_with fail
      go_end0
      exact ⟨⟨_, rfl⟩, .inl ⟨_, rfl, by rwa [List.take_of_length_le (by omega)] at hJs⟩⟩

end Go.Proofs.Ytfibgjgipadmkaa.Hp
