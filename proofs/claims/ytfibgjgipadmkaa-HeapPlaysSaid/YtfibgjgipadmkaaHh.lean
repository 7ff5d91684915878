/- Drop of a handle that is there. -/
import Derived.Test.YtfibgjgipadmkaaHg
namespace Go.Proofs.Ytfibgjgipadmkaa.Hp
set_option linter.unusedVariables false
set_option linter.unusedSimpArgs false
open Go.RowKit Go.Maps Go.ChangeMaps

theorem upF_len (t : Th) : ∀ (k i : Nat) (T : List Th) (D : DataW Unit), (upF t k i T D).1.length = T.length
  | 0, _, _, _ => rfl
  | k + 1, i, T, D => by
    unfold upF
    split
    · rw [upF_len t k]; simp
    · simp
theorem upF_wf (t : Th) (ht : (Lit.int .i64 t.h).wf = true) : ∀ (k i : Nat) (T : List Th) (D : DataW Unit), i < T.length → WF T → WF (upF t k i T D).1
  | 0, _, _, _, _, h => h
  | k + 1, i, T, D, hi, h => by
    unfold upF
    split
    · next hc => exact upF_wf t ht k _ _ _ (by rw [List.length_set]; omega) (h.set (h.at (by omega)))
    · exact h.set ht

theorem flat_take : ∀ (T : List Th) (n : Nat), flat (T.take n) = (flat T).take (n * 3)
  | [], n => by simp [flat]
  | x :: T, 0 => by simp [flat]
  | x :: T, n + 1 => by
    rw [List.take_succ_cons, flat_cons, flat_cons, flat_take T n, List.take_append]
    have e : (n + 1) * 3 = (cells x).length + n * 3 := by simp [cells]; omega
    rw [e, Nat.add_sub_cancel_left, List.take_of_length_le (l := cells x) (by omega)]

theorem ownsRow_cut {w : World} {B g L cap : Nat} {T : List Th} (h : w.ownsRow B 58 3 (.slice (some ⟨g, 0, none⟩) L cap) L (flat T)) (n : Nat) (hn : n ≤ L) :
    w.ownsRow B 58 3 (.slice (some ⟨g, 0, none⟩) n cap) n (flat (T.take n)) := by
  obtain ⟨hl, h2⟩ := h
  rcases h2 with ⟨h, _⟩ | ⟨g', cap', cur, h, hb, hg, hnc, hcm, hcs, hx⟩
  · cases h
  · simp only [Value.slice.injEq, Option.some.injEq, Addr.mk.injEq, and_true, true_and] at h
    obtain ⟨rfl, rfl⟩ := h
    refine ⟨?_, .inr ⟨g, cap, cur, rfl, hb, hg, by omega, hcm, hcs, ?_⟩⟩
    · rw [flat_take, List.length_take, hl]; omega
    · rw [flat_take, ← hx, List.take_take]; congr 1; omega

theorem ownsRow_le {w : World} {B g L cap n : Nat} {xs : List Value} (h : w.ownsRow B 58 3 (.slice (some ⟨g, 0, none⟩) L cap) n xs) : L ≤ cap ∧ cap ≤ maxLen := by
  obtain ⟨hl, h2⟩ := h
  rcases h2 with ⟨h, _⟩ | ⟨g', cap', cur, h, hb, hg, hnc, hcm, hcs, hx⟩
  · cases h
  · simp only [Value.slice.injEq, Option.some.injEq, Addr.mk.injEq, and_true, true_and] at h
    obtain ⟨rfl, rfl, rfl⟩ := h
    exact ⟨hnc, hcm⟩

/-- the world as it is ahead of the delete -/
def cutW (w : World) (g : Nat) (v : Value) (t u : Th) : World :=
  ((w.setCell ⟨g, 0, none⟩ v).alloc (.cells #[.int .u64 t.d, .int .u64 t.w, .int .i64 t.h] 58)).alloc (.cells #[.int .u64 u.d, .int .u64 u.w, .int .i64 u.h] 58)

theorem cut_map {w : World} {B g m sb cap L : Nat} {T : List Th} {n : Nat} {D : DataW Unit} {last : Int} (R : Raw w B g m (.slice (some ⟨sb, 0, none⟩) (L + 1) cap) T n D last) (v : Value) (t u : Th) :
    (cutW w g v t u).ownsMap Try.prog 3 (plainElem Try.prog 3) m n D := by
  have hgs : w.grownBy (w.setCell ⟨g, 0, none⟩ v) (some g) := ⟨rfl, rfl, rfl, by simp [World.setCell], fun k _ hk => heap_setCell_other w ⟨g, 0, none⟩ k _ (fun e => hk (by simp [e]))⟩
  exact ((R.mp.kept hgs (fun e => R.gm (by injection e with e; exact e.symm))).alloc _).alloc _

theorem cut_after {w : World} {B g m sb cap L : Nat} {T : List Th} {n : Nat} {D : DataW Unit} {last : Int} (R : Raw w B g m (.slice (some ⟨sb, 0, none⟩) (L + 1) cap) T n D last) (hL : T.length = L + 1) (t u : Th)
    {w1 : World} {n1 : Nat} {D1 : DataW Unit} (hown : w1.ownsMap Try.prog 3 (plainElem Try.prog 3) m n1 D1) (ht : (cutW w g (.slice (some ⟨sb, 0, none⟩) L cap) t u).mapTurned w1 m) :
    Raw w1 B g m (.slice (some ⟨sb, 0, none⟩) L cap) (T.take L) n1 D1 last ∧ Box w1 w.heap.size t ∧ Box w1 (w.heap.size + 1) u ∧ Fr (fun k => k = g ∨ k = m ∨ k = sb) w w1 := by
  have hgl : g < w.heap.size := (Array.getElem?_eq_some_iff.1 R.blk).1
  have hml : m < w.heap.size := R.mp.lt
  have hsl : sb < w.heap.size := (R.own.lt sb rfl).2
  have hgm := R.gm
  have hgsb : g ≠ sb := fun e => R.apart (by simp [Value.ownBlock, e])
  have hmsb : m ≠ sb := fun e => R.mv (by simp [Value.ownBlock, e])
  obtain ⟨v, hv⟩ : ∃ v : Value, v = .slice (some ⟨sb, 0, none⟩) L cap := ⟨_, rfl⟩
  have hsz : (w.setCell ⟨g, 0, none⟩ v).heap.size = w.heap.size := by simp [World.setCell]
  have hgs : w.grownBy (w.setCell ⟨g, 0, none⟩ v) (some g) := ⟨rfl, rfl, rfl, by simp [World.setCell], fun k _ hk => heap_setCell_other w ⟨g, 0, none⟩ k _ (fun e => hk (by simp [e]))⟩
  have b1 : (w.setCell ⟨g, 0, none⟩ v).heap[g]? = some (.cells #[v, .map (some m), .int .i64 last] 56 (0, 0)) := by
    have := heap_setCell_same w g 0 _ 56 v R.blk
    simpa using this
  have r1 : (w.setCell ⟨g, 0, none⟩ v).ownsRow B 58 3 (.slice (some ⟨sb, 0, none⟩) L cap) L (flat (T.take L)) :=
    (ownsRow_cut (by have := R.own; rwa [hL] at this) L (by omega)).kept hgs (.inr (fun e => hgsb (by simpa [Value.ownBlock] using e.symm)))
  have f1 : Fr (fun k => k = g ∨ k = m ∨ k = sb) w (w.setCell ⟨g, 0, none⟩ v) := (Fr.refl _ w).setCell (.inl (.inl rfl)) _
  have f2 : Fr (fun k => k = g ∨ k = m ∨ k = sb) w (cutW w g v t u) := (f1.alloc _).alloc _
  have e2 : Below w.heap.size (w.setCell ⟨g, 0, none⟩ v) (cutW w g v t u) := ((Below.refl _ _).alloc (by omega) _).alloc (by simp) _
  have x0 : Box (cutW w g v t u) w.heap.size t := by
    have h := heap_alloc_new (w.setCell ⟨g, 0, none⟩ v) (.cells #[.int .u64 t.d, .int .u64 t.w, .int .i64 t.h] 58)
    rw [hsz] at h
    exact (Below.heap_alloc _ _ _ (by simp [hsz])).trans h
  have x1 : Box (cutW w g v t u) (w.heap.size + 1) u := by
    have h := heap_alloc_new ((w.setCell ⟨g, 0, none⟩ v).alloc (.cells #[.int .u64 t.d, .int .u64 t.w, .int .i64 t.h] 58)) (.cells #[.int .u64 u.d, .int .u64 u.w, .int .i64 u.h] 58)
    have e : ((w.setCell ⟨g, 0, none⟩ v).alloc (.cells #[.int .u64 t.d, .int .u64 t.w, .int .i64 t.h] 58)).heap.size = w.heap.size + 1 := by simp [World.alloc, hsz]
    rw [e] at h
    exact h
  have b2 : (cutW w g v t u).heap[g]? = some (.cells #[v, .map (some m), .int .i64 last] 56 (0, 0)) := (e2.block g hgl).trans b1
  have g2 := grown_of_below (w := w.setCell ⟨g, 0, none⟩ v) (w' := cutW w g v t u) (by rw [hsz]; exact e2)
  have r2 := r1.kept g2 (.inr (by simp [Value.ownBlock]))
  rw [← hv] at ht
  have g3 := ht.grown
  have r3 := r2.kept g3 (.inr (fun e => hmsb (by simpa [Value.ownBlock] using e.symm)))
  have hs2 : w.heap.size + 1 < (cutW w g v t u).heap.size := x1.lt
  refine ⟨⟨(g3.block g (by omega) (fun e => hgm (by injection e))).trans (by rw [b2, hv]), R.bg, ?_, hown, R.bm⟩, (g3.block _ (by omega) (fun e => by injection e with e; omega)).trans x0, (g3.block _ hs2 (fun e => by injection e with e; omega)).trans x1, f2.turned ht (.inl (.inr (.inl rfl)))⟩
  rw [List.length_take, hL, Nat.min_eq_left (by omega)]
  exact r3

set_option maxRecDepth 100000 in
set_option maxHeartbeats 1000000 in
theorem drop_end (w : World) (B g m sb cap L : Nat) (T : List Th) (n : Nat) (D : DataW Unit) (last : Int) (R : Raw w B g m (.slice (some ⟨sb, 0, none⟩) (L + 1) cap) T n D last) (hL : T.length = L + 1)
    (h : Int) (hh : (Lit.int .i64 h).wf = true) (his : Maps.has D (.int .i64 h) = true) (hat : D.atKey (.int .i64 h) (.lit (.int .i64 0)) = .lit (.int .i64 L)) (hl : L ≤ 10000000) :
    Calls Try.prog 14 #[.pointer (some ⟨g, 0, none⟩), .int .i64 h] w fun e w' => e = .returned (.tuple #[.int .u64 (at' T L).w, .bool true]) ∧
      Raw w' B g m (.slice (some ⟨sb, 0, none⟩) L cap) (T.take L) n (D.del (.int .i64 h)) last ∧ Fr (fun k => k = g ∨ k = m ∨ k = sb) w w' := by
  have hg0 : w.cell? ⟨g, 0, none⟩ = some (.slice (some ⟨sb, 0, none⟩) (L + 1) cap) := (cell_of_row w g 0 _ 56 (0, 0) R.blk).trans rfl
  have hg1 : w.cell? ⟨g, 1, none⟩ = some (.map (some m)) := (cell_of_row w g 1 _ 56 (0, 0) R.blk).trans rfl
  have hgl : g < w.heap.size := (Array.getElem?_eq_some_iff.1 R.blk).1
  have hfz : w.frozen? ⟨g, 0, none⟩ = false := frozen_of_row w g 0 _ 56 R.blk
  obtain ⟨hx0, hx1, hx2⟩ := R.thing' hL L (by omega)
  obtain ⟨hc1, hc2⟩ := ownsRow_le R.own
  have hsl : sb < w.heap.size := (R.own.lt sb rfl).2
  have hi0 : (0 : Int) ≤ (L : Int) := by omega
  have hi1 : (L : Int) < (L : Int) + 1 := by omega
  have hs : IntKind.i64.wrap ((L : Int) + 1 - 1) = (L : Int) := by rw [Int.add_sub_cancel]; exact IntWalk.i64_in _ (by omega)
  have hq : ∀ c : Int, DataW.lit (H := Unit) (.int .i64 (L : Int)) = .lit (.int .i64 c) → (L : Int) = c := fun c e => by injection e with e; injection e
  go_enter Try.func14, Try.ntmps14
  go_wp2_with (first | (at_lookup; refine wpList_lookup_own_ok_int _ rfl _ _ 53 rfl 3 3 .i64 keyI Try.underlying53 Try.underlying3 (zero3 _) m n D rfl R.mp _ _ rfl (keyOf_int_mk Try.underlying3 hh) ?_; intro c hac hwc; have hcc := hq c (hat.symm.trans hac); subst hcc; clear hac hwc) | (at_delete; refine wpList_delete_own _ rfl _ _ 53 3 rfl 3 keyI Try.underlying53 (plainElem Try.prog 3) m n D rfl (cut_map R _ (at' T L) (at' T L)) _ _ rfl (keyOf_int_mk Try.underlying3 hh) ?_; intro w1 hown1 hturn1; obtain ⟨R1, B0, B1, F1⟩ := cut_after R hL (at' T L) (at' T L) hown1 hturn1; have hb0 := B0.c1))
  go_ret2
  exact ⟨rfl, R1, F1⟩

end Go.Proofs.Ytfibgjgipadmkaa.Hp
