/- Sorting the row: order2, median, medianAdjacent. -/
import Derived.Test.YtfibgjgipadmkaaSc
namespace Go.Proofs.Ytfibgjgipadmkaa.Hp
set_option linter.unusedVariables false
set_option linter.unusedSimpArgs false
open Go.RowKit Go.Maps Go.ChangeMaps Go.Lib Go.Sort

theorem SH.keep {blk Bs N cap : Nat} {d : Array Th} {w w' : World} {S : Nat → Prop} (h : SH blk Bs N cap d w) (F : Fr S w w') (h1 : ¬ S blk) (h2 : ¬ S Bs) : SH blk Bs N cap d w' := by
  refine ⟨fun j hj => ?_, h.size, (World.cell?_of_block (a := ⟨Bs, 0, none⟩) (F.block Bs h.bsl h2)).trans h.bs, by have := F.size; have := h.bsl; omega, by have := F.size; have := h.blkl; omega, h.ne, by rw [F.block blk h.blkl h1]; exact h.shape⟩
  obtain ⟨a, b⟩ := h.holds j hj
  exact ⟨(World.cell?_of_block (a := ⟨blk, 0 + j, none⟩) (F.block blk h.blkl h1)).trans a, (World.frozen?_of_block (a := ⟨blk, 0 + j, none⟩) (F.block blk h.blkl h1)).trans b⟩

/-- the swaps' counter -/
def CS (w : World) (p s : Nat) : Prop := w.heap[p]? = some (.cells #[.int .i64 s] 3 (0, 0))
theorem CS.lt {w : World} {p s : Nat} (h : CS w p s) : p < w.heap.size := (Array.getElem?_eq_some_iff.1 h).1
theorem CS.cell {w : World} {p s : Nat} (h : CS w p s) : w.cell? ⟨p, 0, none⟩ = some (.int .i64 s) := (cell_of_row w p 0 _ 3 (0, 0) h).trans rfl
theorem CS.frozen {w : World} {p s : Nat} (h : CS w p s) : w.frozen? ⟨p, 0, none⟩ = false := frozen_of_row w p 0 _ 3 h
theorem CS.below {w w' : World} {p s : Nat} (h : CS w p s) (k : Go.RowKit.Below w.heap.size w w') : CS w' p s := (k.block p h.lt).trans h
theorem CS.set {w : World} {p s : Nat} (h : CS w p s) (t : Nat) : CS (w.setCell ⟨p, 0, none⟩ (.int .i64 t)) p t := by
  have := heap_setCell_same w p 0 _ 3 (.int .i64 t) h
  exact this

set_option maxRecDepth 100000 in
set_option maxHeartbeats 2000000 in
theorem order2_any {blk Bs N cap : Nat} {d : Array Th} {w : World} {sf : Nat} {sb : Array Value} (h : SH blk Bs N cap d w) (p s a b : Nat) (hp : CS w p s) (hpb : ¬ p = blk) (hpB : ¬ p = Bs) (ha : a < N) (hb : b < N) (hs : s ≤ 1000000000) :
    Calls Try.prog 60 #[lsV Bs sf sb, .int .i64 a, .int .i64 b, .pointer (some ⟨p, 0, none⟩)] w fun e w' => e = .returned (.tuple #[.int .i64 (order2 aheadB d a b s).1, .int .i64 (order2 aheadB d a b s).2.1]) ∧
      SH blk Bs N cap d w' ∧ CS w' p (order2 aheadB d a b s).2.2 ∧ Fr (fun k => k = p) w w' := by
  unfold lsV
  have h1 := Lib.hid (WS.start h sf sb)
  have hpn : p < w.heap.size := hp.lt
  have hp1 : CS (w.alloc (.cells #[.func (.func 30) #[] #[.pointer (some ⟨Bs, 0, none⟩)], .func (.func sf) #[] sb] 82)) p s := hp.below ((Go.RowKit.Below.refl _ _).alloc (Nat.le_refl _) _)
  have hf1 : Fr (fun k => k = p) w (w.alloc (.cells #[.func (.func 30) #[] #[.pointer (some ⟨Bs, 0, none⟩)], .func (.func sf) #[] sb] 82)) := (Fr.refl _ w).alloc _
  clear h hp
  go_enter Try.func60, Try.ntmps60
  go_wp2_with fail
  refine (less_any h1.out.sh b a hb ha).mono ?_
  rintro e w3 ⟨rfl, b3⟩
  have S3 := h1.out.sh.below b3
  have p3 := hp1.below b3
  have f3 := hf1.of_below b3
  clear h1 hp1 hf1 b3
  have hw : IntKind.i64.wrap ((s : Int) + 1) = (s : Int) + 1 := IntWalk.i64_in _ (by omega)
  cases hl : aheadB d[b]! d[a]! with
  | true =>
    have e1 : order2 aheadB d a b s = (b, a, s + 1) := by unfold order2; rw [if_pos hl]
    replace e1 := Lib.hid e1
    have pc := p3.cell
    have pf := p3.frozen
    have pl := p3.lt
    have hF : Fr (fun k => k = p) w3 (w3.setCell ⟨p, 0, none⟩ (.int .i64 ((s : Int) + 1))) := (Fr.refl (fun k => k = p) w3).setCell (p := ⟨p, 0, none⟩) (.inl rfl) _
    have HE : Hid (SH blk Bs N cap d (w3.setCell ⟨p, 0, none⟩ (.int .i64 ((s : Int) + 1))) ∧ CS (w3.setCell ⟨p, 0, none⟩ (.int .i64 ((s : Int) + 1))) p (s + 1) ∧ Fr (fun k => k = p) w (w3.setCell ⟨p, 0, none⟩ (.int .i64 ((s : Int) + 1)))) :=
      ⟨S3.keep hF (fun e => hpb e.symm) (fun e => hpB e.symm), by have := p3.set (s + 1); rwa [Int.natCast_add] at this, f3.trans hF⟩
    clear S3 p3 f3 hF
    go_wp2_with fail
    go_ret2
    rw [e1.out]
    exact ⟨rfl, HE.out⟩
  | false =>
    have e1 : order2 aheadB d a b s = (a, b, s) := by unfold order2; rw [if_neg (by rw [hl]; simp)]
    replace e1 := Lib.hid e1
    have HE : Hid (SH blk Bs N cap d w3 ∧ CS w3 p s ∧ Fr (fun k => k = p) w w3) := ⟨S3, p3, f3⟩
    clear S3 p3 f3
    go_wp2_with fail
    go_ret2
    rw [e1.out]
    exact ⟨rfl, HE.out⟩

theorem o2_lt (d : Array Th) {N a b : Nat} (s : Nat) (ha : a < N) (hb : b < N) : (order2 aheadB d a b s).1 < N ∧ (order2 aheadB d a b s).2.1 < N ∧ (order2 aheadB d a b s).2.2 ≤ s + 1 := by
  unfold order2; split
  · exact ⟨hb, ha, Nat.le_refl _⟩
  · exact ⟨ha, hb, Nat.le_succ _⟩

set_option maxRecDepth 100000 in
set_option maxHeartbeats 2000000 in
theorem median_any {blk Bs N cap : Nat} {d : Array Th} {w : World} {sf : Nat} {sb : Array Value} (h : SH blk Bs N cap d w) (p s a b c : Nat) (hp : CS w p s) (hpb : ¬ p = blk) (hpB : ¬ p = Bs) (ha : a < N) (hb : b < N) (hc : c < N) (hs : s ≤ 1000000) :
    Calls Try.prog 59 #[lsV Bs sf sb, .int .i64 a, .int .i64 b, .int .i64 c, .pointer (some ⟨p, 0, none⟩)] w fun e w' => e = .returned (.int .i64 (median aheadB d a b c s).1) ∧
      SH blk Bs N cap d w' ∧ CS w' p (median aheadB d a b c s).2 ∧ Fr (fun k => k = p) w w' := by
  unfold lsV
  have h1 := (WS.start h sf sb)
  have hpn : p < w.heap.size := hp.lt
  have hp1 : CS (w.alloc (.cells #[.func (.func 30) #[] #[.pointer (some ⟨Bs, 0, none⟩)], .func (.func sf) #[] sb] 82)) p s := hp.below ((Go.RowKit.Below.refl _ _).alloc (Nat.le_refl _) _)
  have hf1 : Fr (fun k => k = p) w (w.alloc (.cells #[.func (.func 30) #[] #[.pointer (some ⟨Bs, 0, none⟩)], .func (.func sf) #[] sb] 82)) := (Fr.refl _ w).alloc _
  have hbx := heap_alloc_new w (.cells #[.func (.func 30) #[] #[.pointer (some ⟨Bs, 0, none⟩)], .func (.func sf) #[] sb] 82)
  have hbp : ¬ w.heap.size = p := by omega
  clear h hp
  have S1 := h1.sh
  clear h1
  obtain ⟨q1, q2, q3⟩ := o2_lt d s ha hb
  have hm : median aheadB d a b c s = ((order2 aheadB d (order2 aheadB d a b s).1 (order2 aheadB d (order2 aheadB d a b s).2.1 c (order2 aheadB d a b s).2.2).1 (order2 aheadB d (order2 aheadB d a b s).2.1 c (order2 aheadB d a b s).2.2).2.2).2.1, (order2 aheadB d (order2 aheadB d a b s).1 (order2 aheadB d (order2 aheadB d a b s).2.1 c (order2 aheadB d a b s).2.2).1 (order2 aheadB d (order2 aheadB d a b s).2.1 c (order2 aheadB d a b s).2.2).2.2).2.2) := rfl
  rw [hm]
  clear hm
  have hk1 := order2_any (sf := sf) (sb := sb) S1 p s a b hp1 hpb hpB ha hb (by omega)
  generalize order2 aheadB d a b s = r1 at q1 q2 q3 hk1 ⊢
  obtain ⟨t1, t2, t3⟩ := o2_lt d r1.2.2 q2 hc
  have hk2 : ∀ w', SH blk Bs N cap d w' → CS w' p r1.2.2 → _ := fun w' S P => order2_any (sf := sf) (sb := sb) S p r1.2.2 r1.2.1 c P hpb hpB q2 hc (by omega)
  generalize order2 aheadB d r1.2.1 c r1.2.2 = r2 at t1 t2 t3 hk2 ⊢
  have hk3 : ∀ w', SH blk Bs N cap d w' → CS w' p r2.2.2 → _ := fun w' S P => order2_any (sf := sf) (sb := sb) S p r2.2.2 r1.1 r2.1 P hpb hpB q1 t1 (by omega)
  generalize order2 aheadB d r1.1 r2.1 r2.2.2 = r3 at hk3 ⊢
  have c0 := (cell_of_row _ w.heap.size 0 _ 82 (0, 0) hbx).trans rfl
  unfold lsV at hk1 hk2 hk3
  have hbl := (Array.getElem?_eq_some_iff.1 hbx).1
  have e1 := (cell_of_row _ w.heap.size 1 _ 82 (0, 0) hbx).trans rfl
  go_enter Try.func59, Try.ntmps59
  go_wp2_with fail
  refine hk1.mono ?_
  rintro e w2 ⟨rfl, S2, P2, F2⟩
  have b2 := F2.keep hbx hbp
  have f2 := hf1.trans F2
  have hk2' := hk2 w2 S2 P2
  clear hk1 hk2 F2 S2 P2 hp1 hf1 S1 c0 e1 hbl hbx
  have c0 := (cell_of_row _ w.heap.size 0 _ 82 (0, 0) b2).trans rfl
  have e1 := (cell_of_row _ w.heap.size 1 _ 82 (0, 0) b2).trans rfl
  have hbl := (Array.getElem?_eq_some_iff.1 b2).1
  have hn : Try.prog.funcs.size = Try.prog.funcs.size := rfl
  go_wp2_with fail
  refine hk2'.mono ?_
  rintro e w3 ⟨rfl, S3, P3, F3⟩
  have b3 := F3.keep b2 hbp
  have f3 := f2.trans F3
  have hk3' := hk3 w3 S3 P3
  clear hk2' hk3 F3 S3 P3 f2 b2 c0 e1 hbl hn
  have c0 := (cell_of_row _ w.heap.size 0 _ 82 (0, 0) b3).trans rfl
  have e1 := (cell_of_row _ w.heap.size 1 _ 82 (0, 0) b3).trans rfl
  have hbl := (Array.getElem?_eq_some_iff.1 b3).1
  go_wp2_with fail
  refine hk3'.mono ?_
  rintro e w4 ⟨rfl, S4, P4, F4⟩
  have HE : Hid (SH blk Bs N cap d w4 ∧ CS w4 p r3.2.2 ∧ Fr (fun k => k = p) w w4) := ⟨S4, P4, f3.trans F4⟩
  clear S4 P4 F4 f3 hk3' b3 c0 e1 hbl
  go_wp2_with fail
  go_ret
  exact ⟨rfl, HE.out⟩

set_option maxRecDepth 100000 in
set_option maxHeartbeats 2000000 in
theorem medianadj_any {blk Bs N cap : Nat} {d : Array Th} {w : World} {sf : Nat} {sb : Array Value} (h : SH blk Bs N cap d w) (p s a : Nat) (hp : CS w p s) (hpb : ¬ p = blk) (hpB : ¬ p = Bs) (ha : a + 1 < N) (ha1 : 1 ≤ a) (hN : N ≤ 1000000000) (hs : s ≤ 1000000) :
    Calls Try.prog 58 #[lsV Bs sf sb, .int .i64 a, .pointer (some ⟨p, 0, none⟩)] w fun e w' => e = .returned (.int .i64 (medianAdjacent aheadB d a s).1) ∧
      SH blk Bs N cap d w' ∧ CS w' p (medianAdjacent aheadB d a s).2 ∧ Fr (fun k => k = p) w w' := by
  unfold lsV medianAdjacent
  have h1 := (WS.start h sf sb)
  have hpn : p < w.heap.size := hp.lt
  have hp1 : CS (w.alloc (.cells #[.func (.func 30) #[] #[.pointer (some ⟨Bs, 0, none⟩)], .func (.func sf) #[] sb] 82)) p s := hp.below ((Go.RowKit.Below.refl _ _).alloc (Nat.le_refl _) _)
  have hf1 : Fr (fun k => k = p) w (w.alloc (.cells #[.func (.func 30) #[] #[.pointer (some ⟨Bs, 0, none⟩)], .func (.func sf) #[] sb] 82)) := (Fr.refl _ w).alloc _
  have hk := median_any (sf := sf) (sb := sb) h1.sh p s (a - 1) a (a + 1) hp1 hpb hpB (by omega) (by omega) ha hs
  unfold lsV at hk
  rw [show (((a - 1 : Nat) : Int)) = (a : Int) - 1 by omega, show (((a + 1 : Nat) : Int)) = (a : Int) + 1 by omega] at hk
  have c0 := h1.c0
  have e1 := h1.c1
  have hbl := h1.lt
  have w1 : IntKind.i64.wrap ((a : Int) - 1) = (a : Int) - 1 := IntWalk.i64_in _ (by omega)
  have w2 : IntKind.i64.wrap ((a : Int) + 1) = (a : Int) + 1 := IntWalk.i64_in _ (by omega)
  clear h h1 hp hp1
  go_enter Try.func58, Try.ntmps58
  go_wp2_with fail
  refine hk.mono ?_
  clear hk
  rintro e w4 ⟨rfl, S4, P4, F4⟩
  have HE : Hid (SH blk Bs N cap d w4 ∧ CS w4 p (median aheadB d (a - 1) a (a + 1) s).2 ∧ Fr (fun k => k = p) w w4) := ⟨S4, P4, hf1.trans F4⟩
  clear S4 P4 F4 c0 e1 hf1
  go_wp2_with fail
  go_ret
  exact ⟨rfl, HE.out⟩

end Go.Proofs.Ytfibgjgipadmkaa.Hp
