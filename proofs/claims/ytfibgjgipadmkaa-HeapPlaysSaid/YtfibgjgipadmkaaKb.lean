/- What the law's own all gathers: the closure that it hands to the iterator. -/
import Derived.Test.YtfibgjgipadmkaaIc
namespace Go.Proofs.Ytfibgjgipadmkaa.Hp
set_option linter.unusedVariables false
set_option linter.unusedSimpArgs false
open Go.RowKit Go.Maps Go.ChangeMaps

def pc (p : Int × Int) : List Value := [.int .u64 p.1, .int .u64 p.2]
def pflat (ps : List (Int × Int)) : List Value := ps.flatMap pc
theorem pflat_append (a b : List (Int × Int)) : pflat (a ++ b) = pflat a ++ pflat b := by unfold pflat; exact List.flatMap_append
theorem pflat_len : ∀ ps : List (Int × Int), (pflat ps).length = ps.length * 2
  | [] => rfl
  | x :: ps => by rw [show pflat (x :: ps) = pc x ++ pflat ps from rfl, List.length_append, pflat_len ps]; simp [pc]; omega
theorem pflat_get : ∀ (ps : List (Int × Int)) (i : Nat) (h : i < ps.length), (pflat ps)[i * 2]? = some (.int .u64 ps[i].1) ∧ (pflat ps)[i * 2 + 1]? = some (.int .u64 ps[i].2)
  | [], i, h => by simp at h
  | x :: ps, 0, h => ⟨rfl, rfl⟩
  | x :: ps, i + 1, h => by
    obtain ⟨a, b⟩ := pflat_get ps i (by simpa using h)
    have e : pflat (x :: ps) = .int .u64 x.1 :: .int .u64 x.2 :: pflat ps := rfl
    rw [e, show (i + 1) * 2 = i * 2 + 1 + 1 by omega, show i * 2 + 1 + 1 + 1 = (i * 2 + 1) + 1 + 1 by omega]
    simp only [List.getElem?_cons_succ, List.getElem_cons_succ]
    exact ⟨a, b⟩

/-- l's box at lb, most's box at mb; l holds ps, in blocks from B on -/
structure Gat (lb mb B : Nat) (most : Int) (ps : List (Int × Int)) (v : Value) (w : World) : Prop where
  l : w.heap[lb]? = some (.cells #[v] 46 (0, 0))
  m : w.heap[mb]? = some (.cells #[.int .i64 most] 3 (0, 0))
  own : w.ownsRow B 49 2 v ps.length (pflat ps)
  lB : lb < B
  mB : mb < B
  ne : mb ≠ lb
  B : B ≤ w.heap.size

theorem Gat.keep {S : Nat → Prop} {lb mb B : Nat} {most : Int} {ps : List (Int × Int)} {v : Value} {w w' : World} (G : Gat lb mb B most ps v w) (F : Fr S w w') (h1 : ¬ S lb) (h2 : ¬ S mb) (h3 : ∀ k, v.ownBlock = some k → ¬ S k) : Gat lb mb B most ps v w' := by
  refine ⟨F.keep G.l h1, F.keep G.m h2, ?_, G.lB, G.mB, G.ne, Nat.le_trans G.B F.size⟩
  obtain ⟨hl, h⟩ := G.own
  rcases h with h | ⟨g', cap', cur, h, hb, hgg, r⟩
  · exact ⟨hl, .inl h⟩
  · exact ⟨hl, .inr ⟨g', cap', cur, h, hb, F.keep hgg (h3 g' (by rw [h]; rfl)), r⟩⟩
theorem Gat.below {lb mb B : Nat} {most : Int} {ps : List (Int × Int)} {v : Value} {w w' : World} (G : Gat lb mb B most ps v w) (h : Below w.heap.size w w') : Gat lb mb B most ps v w' :=
  G.keep (S := fun _ => False) ((Fr.refl _ w).of_below h) (fun h => h) (fun h => h) (fun _ _ h => h)

theorem info49 : (Try.prog.info? 49).map (fun i => (i.zero, i.size, i.bytes)) = some (some (.agg #[(.int .u64 0), (.int .u64 0)]), 2, 16) := by kernel_rfl

theorem pcells_new (w : World) (p : Int × Int) : ∀ j u, (pc p)[j]? = some u → (w.alloc (.cells #[.int .u64 p.1, .int .u64 p.2] 49)).cell? ((⟨w.heap.size, 0, none⟩ : Addr).add j) = some u := by
  intro j u hu
  have hj : j < 2 := by have := (List.getElem?_eq_some_iff.1 hu).1; simpa [pc] using this
  have hb := heap_alloc_new w (.cells #[.int .u64 p.1, .int .u64 p.2] 49)
  have h := cell_of_row _ w.heap.size j _ 49 (0, 0) hb
  have e : ((⟨w.heap.size, 0, none⟩ : Addr).add j) = ⟨w.heap.size, j, none⟩ := by
    unfold Addr.add; split
    · next h0 => subst h0; rfl
    · simp
  rw [e]
  refine (h : _ = _).trans ?_
  rw [← hu]; simp [pc]

set_option maxRecDepth 100000 in
set_option maxHeartbeats 2000000 in
theorem yield_any (w : World) (lb mb B : Nat) (most : Int) (ps : List (Int × Int)) (v : Value) (G : Gat lb mb B most ps v w) (d x : Int) (hl : ps.length ≤ 10000000) :
    Calls Try.prog 26 #[.int .u64 d, .int .u64 x, .pointer (some ⟨lb, 0, none⟩), .pointer (some ⟨mb, 0, none⟩)] w fun e w' => e = .returned (.bool (decide (((ps.length + 1 : Nat) : Int) < most))) ∧ ∃ v', Gat lb mb B most (ps ++ [(d, x)]) v' w' ∧
      (∀ k, v'.ownBlock = some k → v.ownBlock = some k ∨ w.heap.size ≤ k) ∧ Fr (fun k => k = lb ∨ some k = v.ownBlock) w w' := by
  have hl0 : w.cell? ⟨lb, 0, none⟩ = some v := (cell_of_row w lb 0 _ 46 (0, 0) G.l).trans rfl
  have hlf : w.frozen? ⟨lb, 0, none⟩ = false := frozen_of_row w lb 0 _ 46 G.l
  have hll : lb < w.heap.size := (Array.getElem?_eq_some_iff.1 G.l).1
  have hml : mb < w.heap.size := (Array.getElem?_eq_some_iff.1 G.m).1
  have hG := G
  have hGl := G.l
  have hGm := G.m
  have hGo := G.own
  have hB := G.B
  have hGB := G.lB
  have hGM := G.mB
  have hne := G.ne
  clear G
  obtain ⟨i0, hi, hz0, hz1, hz2⟩ := info_parts info49
  have hcells := pcells_new w (d, x)
  have hlo : some lb ≠ v.ownBlock := fun e => by have := (hGo.lt lb e.symm).1; omega
  have hmo : some mb ≠ v.ownBlock := fun e => by have := (hGo.lt mb e.symm).1; omega
  have hblk1 : (w.alloc (.cells #[.int .u64 d, .int .u64 x] 49)).heap[lb]? = some (.cells #[v] 46 (0, 0)) := (Below.heap_alloc w _ lb hll).trans hGl
  have hblk2 : (w.alloc (.cells #[.int .u64 d, .int .u64 x] 49)).heap[mb]? = some (.cells #[.int .i64 most] 3 (0, 0)) := (Below.heap_alloc w _ mb hml).trans hGm
  have hGm := Lib.hid hGm
  go_enter Try.func26, Try.ntmps26
  have hGo' := hGo.alloc (.cells #[.int .u64 d, .int .u64 x] 49)
  go_wp2_with (at_builtin; refine wpList_append_lies _ rfl (.tmp 7) (.tmp 11) 46 rfl B 49 i0 (.agg #[.int .u64 0, .int .u64 0]) 2 16 Try.underlying46 hi hz0 hz1 hz2 rfl (by decide) v ps.length (pflat ps) rfl hGo' ⟨w.heap.size, 0, none⟩ 1 1 (pc (d, x)) rfl rfl hcells ?c1 (by decide) ?c3 ?c4 ?c5 _ rfl ?_)
  case c1 => intro u hu; simp [pc] at hu; rcases hu with rfl | rfl <;> rfl
  case c3 => unfold maxLen; omega
  case c4 => omega
  case c5 => omega
  intro gb cap w2 hown2 hgrow2 hat hlt
  have hb2 := (hgrow2.block lb (by simp; omega) hlo).trans hblk1
  have hbm := (hgrow2.block mb (by simp; omega) hmo).trans hblk2
  have hc2 := (cell_of_row w2 lb 0 _ 46 (0, 0) hb2).trans rfl
  have hfr2 := frozen_of_row w2 lb 0 _ 46 hb2
  have hs2 : lb < w2.heap.size := by have := hgrow2.size; simp at this; omega
  have hs3 : mb < w2.heap.size := by have := hgrow2.size; simp at this; omega
  have hgl : lb ≠ gb := by
    rcases hat with h | h
    · intro e; exact hlo (by rw [h, e])
    · rw [h]; simp; omega
  have hgm : mb ≠ gb := by
    rcases hat with h | h
    · intro e; exact hmo (by rw [h, e])
    · rw [h]; simp; omega
  have HE : Hid (Gat lb mb B most (ps ++ [(d, x)]) (.slice (some ⟨gb, 0, none⟩) (ps.length + 1) cap) (w2.setCell ⟨lb, 0, none⟩ (.slice (some ⟨gb, 0, none⟩) (ps.length + 1) cap)) ∧
      (∀ k, (Value.slice (some ⟨gb, 0, none⟩) (ps.length + 1) cap).ownBlock = some k → v.ownBlock = some k ∨ w.heap.size ≤ k) ∧ Fr (fun k => k = lb ∨ some k = v.ownBlock) w (w2.setCell ⟨lb, 0, none⟩ (.slice (some ⟨gb, 0, none⟩) (ps.length + 1) cap))) := by
    refine ⟨⟨?_, ?_, ?_, hGB, hGM, hne, ?_⟩, ?_, ?_⟩
    · have := heap_setCell_same w2 lb 0 _ 46 (.slice (some ⟨gb, 0, none⟩) (ps.length + 1) cap) hb2
      simpa using this
    · exact (heap_setCell_other w2 ⟨lb, 0, none⟩ mb _ (by simpa using hne)).trans hbm
    · rw [List.length_append, pflat_append]
      have hgs : w2.grownBy (w2.setCell ⟨lb, 0, none⟩ (.slice (some ⟨gb, 0, none⟩) (ps.length + 1) cap)) (some lb) := ⟨rfl, rfl, rfl, by simp [World.setCell], fun k _ hk => heap_setCell_other w2 ⟨lb, 0, none⟩ k _ (fun e => hk (by simp [e]))⟩
      have := hown2.kept hgs (.inr (fun e => hgl (by simpa [Value.ownBlock] using e.symm)))
      simpa [pflat] using this
    · have := hgrow2.size; simp at this; simp [World.setCell]; omega
    · intro k hk
      have : gb = k := by simpa [Value.ownBlock] using hk
      subst this
      rcases hat with h | h
      · exact .inl h
      · exact .inr (by omega)
    · exact (((Fr.refl _ w).alloc _).grown hgrow2 (fun k hk => .inl (.inr hk.symm))).setCell (.inl (.inl rfl)) _
  have hcc : (w2.setCell ⟨lb, 0, none⟩ (.slice (some ⟨gb, 0, none⟩) (ps.length + 1) cap)).cell? ⟨lb, 0, none⟩ = some (.slice (some ⟨gb, 0, none⟩) (ps.length + 1) cap) := (cell_of_row _ lb 0 _ 46 (0, 0) HE.out.1.l).trans rfl
  have hcm : (w2.setCell ⟨lb, 0, none⟩ (.slice (some ⟨gb, 0, none⟩) (ps.length + 1) cap)).cell? ⟨mb, 0, none⟩ = some (.int .i64 most) := (cell_of_row _ mb 0 _ 3 (0, 0) HE.out.1.m).trans rfl
  clear hown2 hgrow2 hat hlt hb2 hbm hgl hgm hi hz0 hz1 hz2 hcells hblk1 hblk2 hG hGl hGo hGo' hlo hmo hl0 hlf
  go_wp2_with fail
  go_ret
  exact ⟨by congr 2, _, HE.out⟩

end Go.Proofs.Ytfibgjgipadmkaa.Hp
