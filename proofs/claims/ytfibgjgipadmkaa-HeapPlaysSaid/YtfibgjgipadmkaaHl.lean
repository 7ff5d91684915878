/- All: the iterator, at the nil row; sort.Slice at one thing or none; Len. -/
import Derived.Test.YtfibgjgipadmkaaHk
import Derived.Test.YtfibgjgipadmkaaShp
import Derived.Shelf.GgSortFunc.Tiny
namespace Go.Proofs.Ytfibgjgipadmkaa.Hp
set_option linter.unusedVariables false
set_option linter.unusedSimpArgs false
open Go.RowKit Go.Maps Go.ChangeMaps Go.Shelf
attribute [local go_sem] Oper.semAt_some

set_option maxRecDepth 100000 in
set_option maxHeartbeats 2000000 in
theorem all1_nil (n : Nat) (hn : 1 ≤ n) (Bh l g m : Nat) (nn : Nat) (D : DataW Unit) (last : Int) (hS : SortOK [] []) (J : List Th → World → Prop) (W : World) 
    (hJ : AbidesFrom W.heap.size J) 
    (hBh : W.cell? ⟨Bh, 0, none⟩ = some (.pointer (some ⟨g, 0, none⟩))) (hBl : Bh < W.heap.size) (R : Raw W 0 g m (.slice none 0 0) [] nn D last) (hJ0 : J [] W) :
    CallsIn Fence.wide n Try.prog 28 #[.func (.yield l) #[] #[], .pointer (some ⟨Bh, 0, none⟩)] W fun e W' => (∃ v, e = .returned v) ∧ J [] W' := by
  have hg0 : W.cell? ⟨g, 0, none⟩ = some (.slice none 0 0) := (cell_of_row W g 0 _ 56 (0, 0) R.blk).trans rfl
  have hgl : g < W.heap.size := (Array.getElem?_eq_some_iff.1 R.blk).1
  refine callsIn_of_wp Try.func28 rfl trivial ?_ rfl
  simp only [Try.ntmps28, List.size_toArray, List.length_cons, List.length_nil, Nat.reduceAdd, Nat.reduceSub, Array.replicate_succ, Array.replicate_zero, List.push_toArray, List.append_toArray, List.nil_append, List.cons_append]
  gi_wp2_with fail
  refine ⟨trivial, ?_⟩
  have hrow : ((W.alloc (.cells #[] 58)).alloc (.cells #[.slice (some ⟨W.heap.size, 0, none⟩) 0 0] 54)).ownsRow W.heap.size 58 3 (.slice (some ⟨W.heap.size, 0, none⟩) 0 0) 0 [] := (row_new W).alloc _
  have hs := hS.2 ((W.alloc (.cells #[] 58)).alloc (.cells #[.slice (some ⟨W.heap.size, 0, none⟩) 0 0] 54)) W.heap.size W.heap.size 0 (W.heap.size + 1) hrow (by simp) (by simp) (by omega)
  refine (callsIn_wide.2 hs).mono ?_
  rintro e w2 ⟨rfl, hown2, hfr2⟩
  have hF : Fr (fun k => k = W.heap.size) W w2 := (((Fr.refl _ W).alloc _).alloc _).trans hfr2
  have hB2 : Below W.heap.size W w2 := hF.below (Nat.le_refl _) (fun k hk => by omega)
  have hJ2 : J [] w2 := hJ [] W w2 none hJ0 (grown_of_below hB2) (fun r hr => by cases hr)
  have hb := heap_alloc_new (W.alloc (.cells #[] 58)) (.cells #[.slice (some ⟨W.heap.size, 0, none⟩) 0 0] 54)
  rw [World.size_alloc] at hb
  have hc2 : w2.cell? ⟨W.heap.size + 1, 0, none⟩ = some (.slice (some ⟨W.heap.size, 0, none⟩) 0 0) := (cell_of_row w2 (W.heap.size + 1) 0 #[.slice (some ⟨W.heap.size, 0, none⟩) 0 0] 54 (0, 0) (hfr2.keep hb (by omega))).trans rfl
  clear hs hfr2 hF hB2 hb hrow
  gi_wp2_with fail
  gi_loopw [18] (fun i wr => i = .int .i64 0 ∧ J [] wr) (fun _ _ => 0)
  case atStart => exact ⟨rfl, hJ2⟩
  case round =>
    obtain ⟨rfl, hJs⟩ := hrel
    gi_wp2_with fail
    go_end0
    exact ⟨⟨_, rfl⟩, hJs⟩

/-! sort.Slice -/
noncomputable def svT : TypeInfo := (Try.prog.info? 54).get (by kernel_rfl)
noncomputable def svE : TypeInfo := (Try.prog.info? 58).get (by kernel_rfl)

theorem fr_grow (S : Nat → Prop) (w : World) (os : Array Obj) : Fr S w (Go.Sort.grow w os) :=
  ⟨rfl, rfl, rfl, by simp, fun k hk _ => by unfold Go.Sort.grow; simp only; rw [Array.getElem?_append_left hk]⟩

theorem tiny_call (n cap blk Bs : Nat) (hn : n ≤ 1) (w : World) :
    Calls Try.prog 29 #[.iface 54 (.slice (some ⟨blk, 0, none⟩) n cap), .func (.func 30) #[] #[.pointer (some ⟨Bs, 0, none⟩)]] w fun e w' => e = .returned (.tuple #[]) ∧ ∃ os, w' = Go.Sort.grow w os := by
  rcases n with _ | _ | n
  · have key := fun f hf => Any.sort_Slice_tiny Try.sv6 54 58 svT svE (by kernel_rfl) (by kernel_rfl) (by kernel_rfl) (by kernel_rfl) 25 (fun _ => by kernel_rfl) (some ⟨blk, 0, none⟩) 0 cap (by omega) f hf (.func 30) #[] #[.pointer (some ⟨Bs, 0, none⟩)] w
    exact Exists.elim (Option.isSome_iff_exists.1 (by kernel_rfl)) key
  · have key := fun f hf => Any.sort_Slice_tiny Try.sv6 54 58 svT svE (by kernel_rfl) (by kernel_rfl) (by kernel_rfl) (by kernel_rfl) 25 (fun _ => by kernel_rfl) (some ⟨blk, 0, none⟩) (0 + 1) cap (by omega) f hf (.func 30) #[] #[.pointer (some ⟨Bs, 0, none⟩)] w
    exact Exists.elim (Option.isSome_iff_exists.1 (by kernel_rfl)) key
  · omega

theorem sort_tiny (T : List Th) (hT : T.length ≤ 1) : SortOK T T := by
  refine ⟨rfl, fun w B blk cap Bs hown hBs hB1 hB2 => ?_⟩
  refine (tiny_call T.length cap blk Bs hT w).mono ?_
  rintro e w' ⟨rfl, os, rfl⟩
  have hF := fr_grow (fun k => k = blk) w os
  have hG : w.grownBy (Go.Sort.grow w os) none := ⟨hF.os, hF.tape, hF.output, hF.size, fun k hk _ => (fr_grow (fun _ => False) w os).block k hk (fun h => h)⟩
  exact ⟨rfl, hown.kept hG (.inr (by simp [Value.ownBlock])), hF⟩

/-- the iterator's contract -/
theorem all_stops (n : Nat) (hn : 1 ≤ n) (n0 Bh g m : Nat) (v : Value) (T S : List Th) (nn : Nat) (D : DataW Unit) (last : Int) (hS : SortOK T S) (w : World) (h0 : n0 ≤ w.heap.size)
    (hBh : w.cell? ⟨Bh, 0, none⟩ = some (.pointer (some ⟨g, 0, none⟩))) (hBl : Bh < w.heap.size) (R : Raw w 0 g m v T nn D last) (hl : T.length ≤ 10000000) :
    SeqStopsK Fence.wide n Try.prog 28 #[.pointer (some ⟨Bh, 0, none⟩)] (fun x : Th => #[Value.int .u64 x.d, Value.int .u64 x.w]) (KeepC n0) (fun ys => ys = S) (fun pre => pre <+: S) S.length w := fun l J Jx W hW hJ hJx hY hJ0 => by
  have hBh' := (hW.cell (p := ⟨Bh, 0, none⟩) hBl).trans hBh
  have R' := R.below hW
  have hsz := hW.size
  rcases R.shape with ⟨rfl, rfl⟩ | ⟨sb, cap, rfl⟩
  · obtain rfl : S = [] := List.length_eq_zero_iff.1 hS.1
    exact (all1_nil n hn Bh l g m nn D last hS J W hJ hBh' (by omega) R' hJ0).mono fun e W' ⟨he, hj⟩ => ⟨he, .inl ⟨_, rfl, hj⟩⟩
  · exact all1_in n hn n0 Bh l g m sb cap T S nn D last hS J Jx W (by omega) hJ hY hBh' (by omega) R' hl hJ0

set_option maxHeartbeats 1000000 in
theorem all_in (n : Nat) (g : Nat) (w : World) :
    CallsIn Fence.wide n Try.prog 23 #[.pointer (some ⟨g, 0, none⟩)] w fun e w' => e = .returned (.func (.func 28) #[] #[.pointer (some ⟨w.heap.size, 0, none⟩)]) ∧ w' = w.alloc (.cells #[.pointer (some ⟨g, 0, none⟩)] 23) := by
  refine callsIn_of_wp Try.func23 rfl trivial ?_ rfl
  simp only [Try.ntmps23, List.size_toArray, List.length_cons, List.length_nil, Nat.reduceAdd, Nat.reduceSub, Array.replicate_succ, Array.replicate_zero, List.push_toArray, List.append_toArray, List.nil_append, List.cons_append]
  gi_wp2
  go_ret
  exact ⟨rfl, rfl⟩

theorem keepC_t {n0 : Nat} {A B C : World} (h : KeepC n0 A B) (k : KeepC n0 B C) : KeepC n0 A C := fun i c e f hi hA => k i c e f hi (h i c e f hi hA)
theorem keepC_b {n0 : Nat} (W : World) (l : Nat) (o o' : Obj) (hl : W.heap[l]? = some o) (ho : o.isCells = false) : KeepC n0 W (W.putObj l o') := fun i c e f hi hA => by
  have hne : i ≠ l := by rintro rfl; rw [hl] at hA; cases hA; simp [Obj.isCells] at ho
  exact (World.putObj_heap_other hne).trans hA

set_option maxRecDepth 100000 in
set_option maxHeartbeats 2000000 in
theorem len_any (w : World) (g m : Nat) (v : Value) (T S : List Th) (nn : Nat) (D : DataW Unit) (last : Int) (hS : SortOK T S) (R : Raw w 0 g m v T nn D last) (hl : T.length ≤ 10000000) :
    Calls Try.prog 12 #[.pointer (some ⟨g, 0, none⟩)] w fun e w' => e = .returned (.int .i64 T.length) ∧ Below w.heap.size w w' := by
  have hgl : g < w.heap.size := (Array.getElem?_eq_some_iff.1 R.blk).1
  refine (callsIn_wide (n := 4)).1 ?_
  refine callsIn_of_wp_marks Try.func12 rfl trivial ?_ rfl
  simp only [Try.ntmps12, List.size_toArray, List.length_cons, List.length_nil, Nat.reduceAdd, Nat.reduceSub, Array.replicate_succ, Array.replicate_zero, List.push_toArray, List.append_toArray, List.nil_append, List.cons_append]
  gi_wp2_with fail
  refine ⟨trivial, (all_in _ _ _).mono ?_⟩
  rintro e w' ⟨rfl, rfl⟩
  gi_wp2_with fail
  have bN := heap_alloc_new w (.cells #[.int .i64 0] 3)
  have bH := heap_alloc_new (w.alloc (.cells #[.int .i64 0] 3)) (.cells #[.pointer (some ⟨g, 0, none⟩)] 23)
  rw [World.size_alloc] at bH
  have hB0 : Below w.heap.size w ((w.alloc (.cells #[.int .i64 0] 3)).alloc (.cells #[.pointer (some ⟨g, 0, none⟩)] 23)) := ((Below.refl _ w).alloc (Nat.le_refl _) _).alloc (by simp) _
  have cN : ((w.alloc (.cells #[.int .i64 0] 3)).alloc (.cells #[.pointer (some ⟨g, 0, none⟩)] 23)).heap[w.heap.size]? = some (.cells #[.int .i64 0] 3) := (Below.heap_alloc _ _ _ (by simp)).trans bN
  have hSl : S.length = T.length := hS.1
  refine wpIn_rangeFunc_ownF rfl (by omega) (gf := 28) (lb := #[.pointer (some ⟨w.heap.size + 1, 0, none⟩)]) rfl trivial (enters_of Try.func28 (by kernel_rfl) rfl)
    (all_stops 3 (by omega) (w.heap.size + 1) (w.heap.size + 1) g m v T S nn D last hS _ (by simp) ((cell_of_row _ (w.heap.size + 1) 0 _ 23 (0, 0) bH).trans rfl) (by simp) (R.below hB0) hl) keepC_t (fun W l o o' _ hl ho _ => keepC_b W l o o' hl ho) (Below.refl _ _) (fun _ => rfl)
    (fun pre W => (W.cell? ⟨w.heap.size, 0, none⟩ = some (.int .i64 pre.length) ∧ W.frozen? ⟨w.heap.size, 0, none⟩ = false) ∧ Below w.heap.size w W)
    (fun _ _ _ => False)
    (OwnFrom.and (Own.from (fun s A B row hs hg hr => ⟨cell_kept hs.1 hg hr, (frozen_kept hs.1 hg hr).trans hs.2⟩) _) (ownFrom_below (Nat.le_refl _) (by simp; omega)))
    (fun _ _ _ _ _ hs _ _ => hs)
    ⟨⟨(cell_of_row _ w.heap.size 0 _ 3 (0, 0) cN).trans rfl, frozen_of_row _ w.heap.size 0 _ 3 cN⟩, hB0⟩
    (fun x => { tmps := #[.pointer (some ⟨g, 0, none⟩), undef, .int .i64 0, .pointer (some ⟨w.heap.size, 0, none⟩), .pointer (some ⟨g, 0, none⟩), .func (.func 28) #[] #[.pointer (some ⟨w.heap.size + 1, 0, none⟩)], .int .u64 x.d, .int .u64 x.w, undef, undef, undef], defers := [] }) ?assign ?body ?done ?stop
  case assign =>
    intro l x W K hK
    gi_wp2
    simpa using hK
  case body =>
    rintro l pre x W ⟨⟨hc, hf⟩, hB⟩ hlen
    have hadd : IntKind.i64.wrap ((pre.length : Int) + 1) = (pre.length : Int) + 1 := IntWalk.i64_in _ (by omega)
    gi_wp2
    exact ⟨KeepsOthers.setCell _ _ _, fun k c e f hk hA => (Below.heap_setCell W ⟨w.heap.size, 0, none⟩ _ k (by simp; omega)).trans hA, ⟨by rw [List.length_append]; exact World.cell?_setCell_same' _ _ _ (by rw [hc]; rfl), by rw [World.frozen?_setCell]; exact hf⟩, hB.setCell (p := ⟨w.heap.size, 0, none⟩) (Nat.le_refl _) _⟩
  case done =>
    rintro D ys W hD rfl ⟨⟨hc, _⟩, hB⟩ hK
    gi_wp2
    refine ⟨by simp, .inl ⟨_, _, rfl, run_takeDeferred hK, ?_⟩⟩
    refine ⟨_, results_tmp rfl _ _ _, by rw [← hSl]; rfl, hB.trans (belowK_b (w := w) (Nat.le_refl _) W D _ _ (by simp at hD; omega) hK rfl rfl)⟩
  case stop =>
    rintro D c pre W _ _ h _
    exact h.elim

end Go.Proofs.Ytfibgjgipadmkaa.Hp
