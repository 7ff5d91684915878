/- New, Put. -/
import Derived.Test.YtfibgjgipadmkaaHe
import Derived.Deep.CutBlock
import Derived.Deep.AppendLies
import Derived.Deep.RegionLaw
import Derived.OpenShut
namespace Go.Proofs.Ytfibgjgipadmkaa.Hp
set_option linter.unusedVariables false
set_option linter.unusedSimpArgs false
open Go.RowKit Go.Maps Go.ChangeMaps

set_option maxHeartbeats 1000000 in
theorem new_any (w : World) (B : Nat) (hB : B ≤ w.heap.size) :
    Calls Try.prog 8 #[] w fun e w' => e = .returned (.pointer (some ⟨w.heap.size + 1, 0, none⟩)) ∧ Raw w' B (w.heap.size + 1) w.heap.size (.slice none 0 0) [] 0 (.map []) 0 ∧ Below w.heap.size w w' := by
  have hmm := @run_makeMap Try.prog
  go_enter Try.func8, Try.ntmps8
  go_wp2
  go_ret
  have h1 := heap_alloc_new (w.alloc (.map #[] 0)) (.cells #[.slice none 0 0, .map (some w.heap.size), .int .i64 0] 56 (0, 0))
  refine ⟨rfl, ⟨by simpa using h1, by omega, ⟨rfl, .inl ⟨rfl, rfl⟩⟩, (World.ownsMap_made w Try.prog 3 _).alloc _, hB⟩, ((Below.refl _ _).alloc (Nat.le_refl _) _).alloc (by simp) _⟩

theorem Fr.then {S S2 : Nat → Prop} {a b c : World} (h : Fr S a b) (k : Fr S2 b c) (hs : ∀ k, S2 k → S k ∨ a.heap.size ≤ k) : Fr S a c :=
  ⟨k.os.trans h.os, k.tape.trans h.tape, k.output.trans h.output, Nat.le_trans h.size k.size, fun i hi hn => (k.block i (Nat.lt_of_lt_of_le hi h.size) (fun e => by
    rcases hs i e with x | x
    · exact hn x
    · omega)).trans (h.block i hi hn)⟩
theorem up_any' (w : World) (B g m sb cap L : Nat) (T : List Th) (n : Nat) (D : DataW Unit) (last : Int) (R : Raw w B g m (.slice (some ⟨sb, 0, none⟩) L cap) T n D last)
    (i : Nat) (hi : i < L) (hL : T.length = L) (hn : n + i < 900000000) (hw : WF T) (hl : L ≤ 100000000) :
    Calls Try.prog 22 #[.pointer (some ⟨g, 0, none⟩), .int .i64 i] w fun e w' => e = .returned (.tuple #[]) ∧ ∃ n', n' ≤ n + i + 1 ∧
      Raw w' B g m (.slice (some ⟨sb, 0, none⟩) L cap) (upF (at' T i) (i + 1) i T D).1 n' (upF (at' T i) (i + 1) i T D).2 last ∧ Fr (fun k => k = sb ∨ k = m) w w' := by
  subst hL; exact up_any w B g m sb cap T n D last R i hi hn hw hl
theorem down_any' (w : World) (B g m sb cap L : Nat) (T : List Th) (n : Nat) (D : DataW Unit) (last : Int) (R : Raw w B g m (.slice (some ⟨sb, 0, none⟩) L cap) T n D last)
    (i : Nat) (hi : i < L) (hL : T.length = L) (hn : n + L < 900000000) (hw : WF T) (hl : L ≤ 100000000) :
    Calls Try.prog 25 #[.pointer (some ⟨g, 0, none⟩), .int .i64 i] w fun e w' => e = .returned (.tuple #[]) ∧ ∃ n', n' ≤ n + L + 1 ∧
      Raw w' B g m (.slice (some ⟨sb, 0, none⟩) L cap) (downF (at' T i) (L + 1) i T D).1 n' (downF (at' T i) (L + 1) i T D).2 last ∧ Fr (fun k => k = sb ∨ k = m) w w' := by
  subst hL; exact down_any w B g m sb cap T n D last R i hi hn hw hl
theorem Raw.apart {w : World} {B g m : Nat} {v : Value} {T : List Th} {n : Nat} {D : DataW Unit} {last : Int} (R : Raw w B g m v T n D last) : some g ≠ v.ownBlock := by
  intro e
  rcases R.own.2 with ⟨h, _⟩ | ⟨g', cap', cur, h, _, hg, _⟩
  · rw [h] at e; simp [Value.ownBlock] at e
  · rw [h] at e
    have e' : g = g' := by simpa [Value.ownBlock] using e
    rw [← e', R.blk] at hg; simp at hg
theorem Raw.gm {w : World} {B g m : Nat} {v : Value} {T : List Th} {n : Nat} {D : DataW Unit} {last : Int} (R : Raw w B g m v T n D last) : g ≠ m := by
  obtain ⟨es, clock, hmb, _⟩ := id R.mp
  rintro rfl; rw [R.blk] at hmb; cases hmb
theorem Raw.mv {w : World} {B g m : Nat} {v : Value} {T : List Th} {n : Nat} {D : DataW Unit} {last : Int} (R : Raw w B g m v T n D last) : some m ≠ v.ownBlock := by
  obtain ⟨es, clock, hmb, _⟩ := id R.mp
  intro e
  rcases R.own.2 with ⟨h, _⟩ | ⟨g', cap', cur, h, _, hg, _⟩
  · rw [h] at e; simp [Value.ownBlock] at e
  · rw [h] at e
    have e' : m = g' := by simpa [Value.ownBlock] using e
    rw [← e', hmb] at hg; cases hg

theorem info58 : (Try.prog.info? 58).map (fun i => (i.zero, i.size, i.bytes)) = some (some (.agg #[(.int .u64 0), (.int .u64 0), (.int .i64 0)]), 3, 24) := by kernel_rfl

theorem cells_new (w : World) (t : Th) : ∀ j u, (cells t)[j]? = some u → ((w.alloc (.cells #[.int .u64 t.d, .int .u64 t.w, .int .i64 t.h] 58)).drew).cell? ((⟨w.heap.size, 0, none⟩ : Addr).add j) = some u := by
  intro j u hu
  have hj : j < 3 := by have := (List.getElem?_eq_some_iff.1 hu).1; simpa [cells] using this
  have hb := Box.new w t
  have h := cell_of_row _ w.heap.size j _ 58 (0, 0) hb
  have e : ((⟨w.heap.size, 0, none⟩ : Addr).add j) = ⟨w.heap.size, j, none⟩ := by
    unfold Addr.add; split
    · next h0 => subst h0; rfl
    · simp
  rw [e]
  refine (h : _ = _).trans ?_
  rw [← hu]; simp [cells]

set_option maxRecDepth 100000 in
set_option maxHeartbeats 1000000 in
theorem put_any (w : World) (B g m : Nat) (v : Value) (T : List Th) (n : Nat) (D : DataW Unit) (last : Int) (R : Raw w B g m v T n D last) (d x : Int) (hB : B ≤ w.heap.size)
    (h0 : 0 ≤ last) (h1 : last ≤ 1000000) (hl : T.length ≤ 10000000) (hn : n + T.length < 800000000) (hw : WF T) :
    Calls Try.prog 10 #[.pointer (some ⟨g, 0, none⟩), .int .u64 d, .int .u64 x] w fun e w' => e = .returned (.int .i64 (last + 1)) ∧ ∃ gb cap n', n' ≤ n + T.length + 1 ∧ (v.ownBlock = some gb ∨ w.heap.size ≤ gb) ∧
      Raw w' B g m (.slice (some ⟨gb, 0, none⟩) (T.length + 1) cap) (upF ⟨d, x, last + 1⟩ (T.length + 1) T.length (T ++ [⟨d, x, last + 1⟩]) D).1 n' (upF ⟨d, x, last + 1⟩ (T.length + 1) T.length (T ++ [⟨d, x, last + 1⟩]) D).2 (last + 1) ∧
      Fr (fun k => k = g ∨ k = m ∨ some k = v.ownBlock) w w' := by
  have hg0 : w.cell? ⟨g, 0, none⟩ = some v := (cell_of_row w g 0 _ 56 (0, 0) R.blk).trans rfl
  have hg2 : w.cell? ⟨g, 2, none⟩ = some (.int .i64 last) := (cell_of_row w g 2 _ 56 (0, 0) R.blk).trans rfl
  have hf2 : w.frozen? ⟨g, 2, none⟩ = false := frozen_of_row w g 2 _ 56 R.blk
  have hgl : g < w.heap.size := (Array.getElem?_eq_some_iff.1 R.blk).1
  go_enter Try.func10, Try.ntmps10
  go_upto_region 2 with fail
  obtain ⟨W1, hW1⟩ : ∃ W1 : World, W1 = w.setCell ⟨g, 2, none⟩ (.int .i64 (last + 1)) := ⟨_, rfl⟩
  have hgs1 : w.grownBy W1 (some g) := by rw [hW1]; exact ⟨rfl, rfl, rfl, by simp [World.setCell], fun k _ hk => heap_setCell_other w ⟨g, 2, none⟩ k _ (fun e => hk (by simp [e]))⟩
  have R1 : Raw W1 B g m v T n D (last + 1) := by
    refine ⟨?_, R.bg, R.own.kept hgs1 (.inr (fun e => R.apart e.symm)), R.mp.kept hgs1 (fun e => R.gm (by injection e with e; exact e.symm)), R.bm⟩
    have := heap_setCell_same w g 2 _ 56 (.int .i64 (last + 1)) R.blk
    rw [hW1]; simpa using this
  have hfr1 : Fr (fun k => k = g ∨ k = m ∨ some k = v.ownBlock) w W1 := by rw [hW1]; exact (Fr.refl _ w).setCell (.inl (.inl rfl)) _
  have hsz1 : W1.heap.size = w.heap.size := by rw [hW1]; simp [World.setCell]
  rw [← hW1]
  have hg0 : W1.cell? ⟨g, 0, none⟩ = some v := (cell_of_row W1 g 0 _ 56 (0, 0) R1.blk).trans rfl
  have hg2 : W1.cell? ⟨g, 2, none⟩ = some (.int .i64 (last + 1)) := (cell_of_row W1 g 2 _ 56 (0, 0) R1.blk).trans rfl
  have hf2 : W1.frozen? ⟨g, 0, none⟩ = false := frozen_of_row W1 g 0 _ 56 R1.blk
  clear hW1
  have hcells := cells_new W1 ⟨d, x, last + 1⟩
  have hgl1 : g < W1.heap.size := (Array.getElem?_eq_some_iff.1 R1.blk).1
  obtain ⟨i0, hi, hz0, hz1, hz2⟩ := info_parts info58
  have hgo : some g ≠ v.ownBlock := R1.apart
  have hblk1 : ((W1.alloc (.cells #[.int .u64 d, .int .u64 x, .int .i64 (last + 1)] 58)).drew).heap[g]? = some (.cells #[v, .map (some m), .int .i64 (last + 1)] 56 (0, 0)) := (Below.heap_alloc W1 _ g hgl1).trans R1.blk
  go_region_law (refine step_append_lies _ rfl (.tmp 18) (.tmp 26) 54 rfl B 58 i0 (.agg #[.int .u64 0, .int .u64 0, .int .i64 0]) 3 24 Try.underlying54 hi hz0 hz1 hz2 rfl (by decide) v T.length (flat T) (by simp [Act.eval, Act.put]) (R1.own.alloc _).drew ⟨W1.heap.size, 0, none⟩ 1 1 (cells ⟨d, x, last + 1⟩) (by simp [Act.eval, Act.put]) rfl hcells (by intro u hu; simp [cells] at hu; rcases hu with rfl | rfl | rfl <;> rfl) (by omega) (by unfold maxLen; omega) (by omega) (by simp; omega) _ rfl ?_; intro gb cap w2 hown2 hgrow2 hat hlt; have hblk2 := (hgrow2.block g (by simp; omega) hgo).trans hblk1; have hc2 := (cell_of_row w2 g 0 _ 56 (0, 0) hblk2).trans rfl; have hfr2 := frozen_of_row w2 g 0 _ 56 hblk2; have hF := Lib.hid (And.intro hown2 (And.intro hgrow2 (And.intro hat (And.intro hlt hblk2)))); clear hown2 hgrow2 hat hlt hblk2)
  all_goals
    obtain ⟨hown2, hgrow2, hat, hlt, hblk2⟩ := hF.out
    have hgbl : v.ownBlock = some gb ∨ w.heap.size ≤ gb := by
      rcases hat with h | h
      · exact .inl h
      · right; rw [h]; simp [hsz1]
    have hggb : g ≠ gb := by
      rcases hat with h | h
      · intro e; exact hgo (by rw [h, e])
      · rw [h]; simp; omega
    have hF2 : Fr (fun k => k = g ∨ k = m ∨ some k = v.ownBlock) w (w2.setCell ⟨g, 0, none⟩ (.slice (some ⟨gb, 0, none⟩) (T.length + 1) cap)) :=
      (((hfr1.alloc (.cells #[.int .u64 d, .int .u64 x, .int .i64 (last + 1)] 58)).drew).grown hgrow2 (fun k hk => .inl (.inr (.inr hk.symm)))).setCell (.inl (.inl rfl)) _
    have R3 : Raw (w2.setCell ⟨g, 0, none⟩ (.slice (some ⟨gb, 0, none⟩) (T.length + 1) cap)) B g m (.slice (some ⟨gb, 0, none⟩) (T.length + 1) cap) (T ++ [⟨d, x, last + 1⟩]) n D (last + 1) := by
      have hgs : w2.grownBy (w2.setCell ⟨g, 0, none⟩ (.slice (some ⟨gb, 0, none⟩) (T.length + 1) cap)) (some g) := ⟨rfl, rfl, rfl, by simp [World.setCell], fun k _ hk => heap_setCell_other w2 ⟨g, 0, none⟩ k _ (fun e => hk (by simp [e]))⟩
      refine ⟨?_, R1.bg, ?_, ?_, R1.bm⟩
      · have := heap_setCell_same w2 g 0 _ 56 (.slice (some ⟨gb, 0, none⟩) (T.length + 1) cap) hblk2
        simpa using this
      · rw [List.length_append, flat_append]
        have := hown2.kept hgs (.inr (fun e => hggb (by simpa [Value.ownBlock] using e.symm)))
        simpa [flat] using this
      · exact (((R1.mp.alloc _).drew).kept hgrow2 R1.mv).kept hgs (fun e => R1.gm (by injection e with e; exact e.symm))
    have HS : Hid ((v.ownBlock = some gb ∨ w.heap.size ≤ gb) ∧ Fr (fun k => k = g ∨ k = m ∨ some k = v.ownBlock) w (w2.setCell ⟨g, 0, none⟩ (.slice (some ⟨gb, 0, none⟩) (T.length + 1) cap))) := ⟨hgbl, hF2⟩
    generalize w2.setCell ⟨g, 0, none⟩ (.slice (some ⟨gb, 0, none⟩) (T.length + 1) cap) = W3 at R3 HS ⊢
    clear hF hown2 hgrow2 hat hlt hblk2 hgbl hF2 hc2 hfr2 hcells hi hz0 hz1 hz2 hgo hblk1 R1 hfr1 hggb
    have hr0 : W3.cell? ⟨g, 0, none⟩ = some (.slice (some ⟨gb, 0, none⟩) (T.length + 1) cap) := (cell_of_row W3 g 0 _ 56 (0, 0) R3.blk).trans rfl
    go_wp2_with fail
    have hat2 : at' (T ++ [⟨d, x, last + 1⟩]) T.length = ⟨d, x, last + 1⟩ := by unfold at'; simp [List.getD_eq_getElem?_getD]
    have hup := up_any' W3 B g m gb cap (T.length + 1) (T ++ [⟨d, x, last + 1⟩]) n D (last + 1) R3 T.length (by omega) (by simp) (by omega) (fun q hq => by
      rcases List.mem_append.1 hq with h | h
      · exact hw q h
      · simp at h; subst h; exact WalkArith.wf_i64 (by simp only; omega)) (by omega)
    rw [hat2] at hup
    refine hup.mono ?_
    clear hup hat2
    rintro e w4 ⟨rfl, n', hn', R4, hf4⟩
    have hr2 : w4.cell? ⟨g, 2, none⟩ = some (.int .i64 (last + 1)) := (cell_of_row w4 g 2 _ 56 (0, 0) R4.blk).trans rfl
    have HE : Hid (∃ gb cap n', n' ≤ n + T.length + 1 ∧ (v.ownBlock = some gb ∨ w.heap.size ≤ gb) ∧
      Raw w4 B g m (.slice (some ⟨gb, 0, none⟩) (T.length + 1) cap) (upF ⟨d, x, last + 1⟩ (T.length + 1) T.length (T ++ [⟨d, x, last + 1⟩]) D).1 n' (upF ⟨d, x, last + 1⟩ (T.length + 1) T.length (T ++ [⟨d, x, last + 1⟩]) D).2 (last + 1) ∧
      Fr (fun k => k = g ∨ k = m ∨ some k = v.ownBlock) w w4) := by
      refine ⟨gb, cap, n', hn', HS.out.1, R4, HS.out.2.then hf4 ?_⟩
      rintro k (rfl | rfl)
      · rcases HS.out.1 with h | h
        · exact .inl (.inr (.inr h.symm))
        · exact .inr h
      · exact .inl (.inr (.inl rfl))
    clear R4 hf4 HS R3 hn' hr0
    go_wp2_with fail
    go_ret
    exact ⟨rfl, HE.out⟩

end Go.Proofs.Ytfibgjgipadmkaa.Hp
