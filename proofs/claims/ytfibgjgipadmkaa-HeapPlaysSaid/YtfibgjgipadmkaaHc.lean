/- lay: a thing is put at a place. -/
import Derived.Test.YtfibgjgipadmkaaHb
import Derived.StillTailTactics
import Derived.Deep.QuietTactic
import Derived.BigQuiet
import Derived.RegionTactic
import Derived.BigRegion

import Derived.Maps.AppendAt
import Derived.Lib.Hide
import Derived.WalkArith
namespace Go.Proofs.Ytfibgjgipadmkaa.Hp
set_option linter.unusedVariables false
set_option linter.unusedSimpArgs false
open Go.RowKit Go.Maps Go.ChangeMaps

set_option maxRecDepth 100000 in
set_option maxHeartbeats 1000000 in
theorem lay_any (w : World) (B g m sb cap : Nat) (T : List Th) (n : Nat) (D : DataW Unit) (last : Int) (R : Raw w B g m (.slice (some ⟨sb, 0, none⟩) T.length cap) T n D last)
    (i : Nat) (hi : i < T.length) (t : Th) (hn : n < 1000000000) (hh : (Lit.int .i64 t.h).wf = true) (hl : T.length ≤ 1000000000) :
    Calls Try.prog 24 #[.pointer (some ⟨g, 0, none⟩), .int .i64 i, .agg #[.int .u64 t.d, .int .u64 t.w, .int .i64 t.h]] w fun e w' => e = .returned (.tuple #[]) ∧
      Raw w' B g m (.slice (some ⟨sb, 0, none⟩) T.length cap) (T.set i t) (n + 1) (D.put (.int .i64 t.h) (.lit (.int .i64 i))) last ∧ Fr (fun k => k = sb ∨ k = m) w w' := by
  obtain ⟨td, tw, th⟩ := t
  have hg0 : w.cell? ⟨g, 0, none⟩ = some (.slice (some ⟨sb, 0, none⟩) T.length cap) := (cell_of_row w g 0 _ 56 (0, 0) R.blk).trans rfl
  have hg1 : w.cell? ⟨g, 1, none⟩ = some (.map (some m)) := (cell_of_row w g 1 _ 56 (0, 0) R.blk).trans rfl
  have hgl : g < w.heap.size := (Array.getElem?_eq_some_iff.1 R.blk).1
  have hsl : sb < w.heap.size := (R.own.lt sb rfl).2
  have hml : m < w.heap.size := R.mp.lt
  have hx0 : w.cell? ⟨sb, i * 3, none⟩ = some (.int .u64 (at' T i).d) := ((R.own.cellAt (i * 3) (by omega)).trans (flat_get T i 0 hi (by omega))).trans rfl
  have hx1 : w.cell? ⟨sb, i * 3 + 1, none⟩ = some (.int .u64 (at' T i).w) := ((R.own.cellAt (i * 3 + 1) (by omega)).trans (flat_get T i 1 hi (by omega))).trans rfl
  have hx2 : w.cell? ⟨sb, i * 3 + 2, none⟩ = some (.int .i64 (at' T i).h) := ((R.own.cellAt (i * 3 + 2) (by omega)).trans (flat_get T i 2 hi (by omega))).trans rfl
  have hf0 := R.own.frozenAt (i * 3)
  have hf1 := R.own.frozenAt (i * 3 + 1)
  have hf2 := R.own.frozenAt (i * 3 + 2)
  have hi0 : (0 : Int) ≤ (i : Int) := by omega
  have hi1 : (i : Int) < (T.length : Int) := by omega
  go_enter Try.func24, Try.ntmps24
  go_wp2
  go_region
  have H1 := R.own.stored (i * 3) (.int .u64 td)
  have H2 := H1.1.stored (i * 3 + 1) (.int .u64 tw)
  have H3 := H2.1.stored (i * 3 + 2) (.int .i64 th)
  have hrow := H3.1
  rw [← flat_set T i ⟨td, tw, th⟩ hi] at hrow
  have hgr := (H1.2.trans H2.2).trans H3.2
  have hfr : Fr (fun k => k = sb ∨ k = m) w (((w.setCell ⟨sb, i * 3, none⟩ (.int .u64 td)).setCell ⟨sb, i * 3 + 1, none⟩ (.int .u64 tw)).setCell ⟨sb, i * 3 + 2, none⟩ (.int .i64 th)) :=
    (((Fr.refl _ w).setCell (.inl (.inl rfl)) _).setCell (.inl (.inl rfl)) _).setCell (.inl (.inl rfl)) _
  have hsz : (((w.setCell ⟨sb, i * 3, none⟩ (.int .u64 td)).setCell ⟨sb, i * 3 + 1, none⟩ (.int .u64 tw)).setCell ⟨sb, i * 3 + 2, none⟩ (.int .i64 th)).heap.size = w.heap.size := by simp
  clear H1 H2 H3 hx0 hx1 hx2 hf0 hf1 hf2
  obtain ⟨W1, hW1⟩ : ∃ W1 : World, W1 = ((w.setCell ⟨sb, i * 3, none⟩ (.int .u64 td)).setCell ⟨sb, i * 3 + 1, none⟩ (.int .u64 tw)).setCell ⟨sb, i * 3 + 2, none⟩ (.int .i64 th) := ⟨_, rfl⟩
  rw [← hW1] at hrow hgr hfr hsz ⊢
  clear hW1
  -- blocks of three makes
  obtain ⟨es, clock, hmb, _⟩ := id R.mp
  obtain ⟨curs, hsb⟩ : ∃ cur, w.heap[sb]? = some (.cells cur 58 (0, 0)) := by
    rcases R.own.2 with ⟨h, _⟩ | ⟨g', cap', cur, h, _, hg, _⟩
    · cases h
    · simp only [Value.slice.injEq, Option.some.injEq, Addr.mk.injEq, and_true, true_and] at h
      obtain ⟨rfl, rfl⟩ := h
      exact ⟨cur, hg⟩
  have hms : some m ≠ some sb := by
    intro e; injection e with e; subst e; rw [hmb] at hsb; cases hsb
  have hgs : g ≠ sb := by
    rintro rfl; have := R.blk.symm.trans hsb; simp at this
  have hgm : g ≠ m := by
    rintro rfl; rw [R.blk] at hmb; cases hmb
  have hmp1 : W1.ownsMap Try.prog 3 (plainElem Try.prog 3) m n D := R.mp.kept hgr hms
  have hblk1 : W1.heap[g]? = some (.cells #[.slice (some ⟨sb, 0, none⟩) T.length cap, .map (some m), .int .i64 last] 56 (0, 0)) := (hgr.block g hgl (fun e => hgs (by injection e))).trans R.blk
  have hgl1 : g < W1.heap.size := by omega
  obtain ⟨W2, hW2⟩ : ∃ W2 : World, W2 = W1.alloc (.cells #[.int .u64 td, .int .u64 tw, .int .i64 th] 58) := ⟨_, rfl⟩
  have hg2 : W2.cell? ⟨g, 1, none⟩ = some (.map (some m)) := by rw [hW2]; exact (((Below.refl W1.heap.size W1).alloc (Nat.le_refl _) _).cell (p := ⟨g, 1, none⟩) hgl1).trans ((cell_of_row W1 g 1 _ 56 (0, 0) hblk1).trans rfl)
  have hb2 : W2.cell? ⟨w.heap.size, 2, none⟩ = some (.int .i64 th) := by rw [hW2, ← hsz]; simp
  obtain ⟨W3, hrun, hown3, hgrow3⟩ := ((hmp1.alloc _).drew).drew.update (H := Unit) keyI Try.underlying53 (by unfold maxLen; omega) (key := .int .i64 th) (val := .int .i64 i) (keyOf_int_mk Try.underlying3 hh) (plainElem_int Try.underlying3 (WalkArith.wf_i64 (by omega)))
  rw [← hW2] at hrun hgrow3 ⊢
  clear hg0 hg1 hmb hsb
  have HF := Lib.hid (And.intro hrow (And.intro hblk1 (And.intro hW2 (And.intro hown3 (And.intro hgrow3 hfr)))))
  clear hrow hblk1 hW2 hown3 hgrow3 hfr hgr hmp1
  go_wp2
  go_region
  go_end0
  obtain ⟨hrow, hblk1, hW2, hown3, hgrow3, hfr⟩ := HF.out
  have hsl1 : sb < W1.heap.size := by omega
  have hgr2 : W1.grownBy W3 (some m) := by
    have h12 : W1.grownBy W2.drew.drew (some m) := by rw [hW2]; exact ⟨rfl, rfl, rfl, by simp [World.drew], fun k hk _ => Below.heap_alloc W1 _ k hk⟩
    exact h12.trans hgrow3
  refine ⟨rfl, ⟨(hgr2.block g hgl1 (fun e => hgm (by injection e))).trans hblk1, R.bg, ?_, hown3, R.bm⟩, hfr.grown hgr2 (fun k hk => .inl (.inr (by injection hk with hk; exact hk.symm)))⟩
  have hrow3 := hrow.kept hgr2 (.inr (fun e => hms (by simpa [Value.ownBlock] using e.symm)))
  rw [List.length_set]
  exact hrow3

end Go.Proofs.Ytfibgjgipadmkaa.Hp
