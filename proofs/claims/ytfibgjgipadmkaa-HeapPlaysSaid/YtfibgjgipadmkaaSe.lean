/- Sorting the row: choosePivot. -/
import Derived.Test.YtfibgjgipadmkaaSd
namespace Go.Proofs.Ytfibgjgipadmkaa.Hp
set_option linter.unusedVariables false
set_option linter.unusedSimpArgs false
open Go.RowKit Go.Maps Go.ChangeMaps Go.Lib Go.Sort

def hintI : Hint → Int
  | .unknown => 0
  | .increasing => 1
  | .decreasing => 2

theorem o2_in (d : Array Th) (p : Nat → Prop) {a b : Nat} (s : Nat) (ha : p a) (hb : p b) : p (order2 aheadB d a b s).1 ∧ p (order2 aheadB d a b s).2.1 ∧ (order2 aheadB d a b s).2.2 ≤ s + 1 := by
  unfold order2; split
  · exact ⟨hb, ha, Nat.le_refl _⟩
  · exact ⟨ha, hb, Nat.le_succ _⟩
theorem med_in (d : Array Th) (p : Nat → Prop) {a b c : Nat} (s : Nat) (ha : p a) (hb : p b) (hc : p c) : p (median aheadB d a b c s).1 ∧ (median aheadB d a b c s).2 ≤ s + 3 := by
  unfold median
  obtain ⟨x1, x2, x3⟩ := o2_in d p s ha hb
  obtain ⟨y1, y2, y3⟩ := o2_in d p (order2 aheadB d a b s).2.2 x2 hc
  obtain ⟨z1, z2, z3⟩ := o2_in d p (order2 aheadB d (order2 aheadB d a b s).2.1 c (order2 aheadB d a b s).2.2).2.2 x1 y1
  exact ⟨z2, by simp only; omega⟩
theorem madj_in (d : Array Th) (p : Nat → Prop) {a : Nat} (s : Nat) (h1 : p (a - 1)) (h2 : p a) (h3 : p (a + 1)) : p (medianAdjacent aheadB d a s).1 ∧ (medianAdjacent aheadB d a s).2 ≤ s + 3 := med_in d p s h1 h2 h3

set_option maxRecDepth 100000 in
set_option maxHeartbeats 2000000 in
theorem pivot_mid {blk Bs N cap : Nat} {d : Array Th} {w : World} {sf : Nat} {sb : Array Value} (h : SH blk Bs N cap d w) (a l : Nat) (hb : a + l ≤ N) (hN : N ≤ 1000000000) (h8 : 8 ≤ l) (h50 : l < 50) (R : Nat × Nat) (hR : R = median aheadB d (a + l / 4 * 1) (a + l / 4 * 2) (a + l / 4 * 3) 0) (H : Hint)
    (hH : H = if R.2 = 0 then .increasing else if R.2 = 12 then .decreasing else .unknown) :
    Calls Try.prog 50 #[lsV Bs sf sb, .int .i64 a, .int .i64 ((a + l : Nat) : Int)] w fun e w' => e = .returned (.tuple #[.int .i64 R.1, .int .i64 (hintI H)]) ∧
      SH blk Bs N cap d w' ∧ Fr (fun k => k = blk) w w' := by
  have h1 := WS.start h sf sb
  have h2 := h1.below (w' := (w.alloc (.cells #[.func (.func 30) #[] #[.pointer (some ⟨Bs, 0, none⟩)], .func (.func sf) #[] sb] 82)).alloc (.cells #[.int .i64 0] 3)) ((Go.RowKit.Below.refl _ _).alloc (Nat.le_refl _) _)
  have hp := heap_alloc_new (w.alloc (.cells #[.func (.func 30) #[] #[.pointer (some ⟨Bs, 0, none⟩)], .func (.func sf) #[] sb] 82)) (.cells #[.int .i64 0] 3)
  rw [World.size_alloc] at hp
  have hp : CS _ (w.heap.size + 1) 0 := hp
  have hbl := h.blkl
  have hBl := h.bsl
  have hd : decide ((8 : Int) ≤ (l : Int)) = true := decide_eq_true (by omega)
  have hd2 : decide ((50 : Int) ≤ (l : Int)) = false := decide_eq_false (by omega)
  have w0 : IntKind.i64.wrap (((a + l : Nat) : Int) - (a : Int)) = (l : Int) := by rw [show (((a + l : Nat) : Int)) - (a : Int) = (l : Int) by omega]; exact IntWalk.i64_in _ (by omega)
  have w0' : IntKind.i64.wrap ((a : Int) + (l : Int) - (a : Int)) = (l : Int) := by rw [show (a : Int) + (l : Int) - (a : Int) = (l : Int) by omega]; exact IntWalk.i64_in _ (by omega)
  have hk := median_any (sf := sf) (sb := sb) h2.sh (w.heap.size + 1) 0 (a + l / 4 * 1) (a + l / 4 * 2) (a + l / 4 * 3) hp (by omega) (by omega) (by omega) (by omega) (by omega) (by omega)
  rw [← hR] at hk
  rw [show (((a + l / 4 * 1 : Nat) : Int)) = (a : Int) + (l : Int) / 4 by omega, show (((a + l / 4 * 2 : Nat) : Int)) = (a : Int) + (l : Int) / 4 * 2 by omega, show (((a + l / 4 * 3 : Nat) : Int)) = (a : Int) + (l : Int) / 4 * 3 by omega] at hk
  have c0 := h2.c0
  have e1 := h2.c1
  have hbl2 := h2.lt
  unfold lsV at hk ⊢
  have hF0 := h2.fr
  have hR2 := Lib.hid hR
  have hH2 := Lib.hid hH
  have hr : R.2 ≤ 3 := by rw [hR]; exact (med_in d (fun _ => True) 0 trivial trivial trivial).2
  clear h h1 hp hR hH h2
  go_enter Try.func50, Try.ntmps50
  go_wp2_with fail
  refine hk.mono ?_
  clear hk
  rintro e w4 ⟨rfl, S4, P4, F4⟩
  have pc := P4.cell
  have pl := P4.lt
  have HE : Hid (SH blk Bs N cap d w4 ∧ Fr (fun k => k = blk) w w4) := ⟨S4, hF0.then F4 (fun k hk => .inr (by omega))⟩
  clear S4 P4 F4 hF0
  rcases R with ⟨R1, R2⟩
  rcases R2 with _ | R2
  · go_wp2_with fail
    go_ret2
    have hHu : H = .increasing := by rw [hH2.out]; rfl
    subst hHu
    exact ⟨rfl, HE.out⟩
  · have n0 : (((R2 + 1 : Nat) : Int) == 0) = false := beq_false_of_ne (by omega)
    have n1 : (((R2 + 1 : Nat) : Int) == 12) = false := beq_false_of_ne (by simp only at hr; omega)
    have hHu : H = .unknown := by rw [hH2.out, if_neg (by simp), if_neg (by simp only at hr ⊢; omega)]
    go_wp2_with fail
    go_ret2
    subst hHu
    exact ⟨rfl, HE.out⟩

set_option maxRecDepth 100000 in
set_option maxHeartbeats 2000000 in
theorem pivot_big {blk Bs N cap : Nat} {d : Array Th} {w : World} {sf : Nat} {sb : Array Value} (h : SH blk Bs N cap d w) (a l : Nat) (hb : a + l ≤ N) (hN : N ≤ 1000000000) (h50 : 50 ≤ l) (R1 R2 R3 R : Nat × Nat)
    (hR1 : R1 = medianAdjacent aheadB d (a + l / 4 * 1) 0) (hR2 : R2 = medianAdjacent aheadB d (a + l / 4 * 2) R1.2) (hR3 : R3 = medianAdjacent aheadB d (a + l / 4 * 3) R2.2) (hR : R = median aheadB d R1.1 R2.1 R3.1 R3.2) (H : Hint)
    (hH : H = if R.2 = 0 then .increasing else if R.2 = 12 then .decreasing else .unknown) :
    Calls Try.prog 50 #[lsV Bs sf sb, .int .i64 a, .int .i64 ((a + l : Nat) : Int)] w fun e w' => e = .returned (.tuple #[.int .i64 R.1, .int .i64 (hintI H)]) ∧
      SH blk Bs N cap d w' ∧ Fr (fun k => k = blk) w w' := by
  have h1 := WS.start h sf sb
  have h2 := h1.below (w' := (w.alloc (.cells #[.func (.func 30) #[] #[.pointer (some ⟨Bs, 0, none⟩)], .func (.func sf) #[] sb] 82)).alloc (.cells #[.int .i64 0] 3)) ((Go.RowKit.Below.refl _ _).alloc (Nat.le_refl _) _)
  have hp := heap_alloc_new (w.alloc (.cells #[.func (.func 30) #[] #[.pointer (some ⟨Bs, 0, none⟩)], .func (.func sf) #[] sb] 82)) (.cells #[.int .i64 0] 3)
  rw [World.size_alloc] at hp
  have hp : CS _ (w.heap.size + 1) 0 := hp
  have hbl := h.blkl
  have hBl := h.bsl
  have hd : decide ((8 : Int) ≤ (l : Int)) = true := decide_eq_true (by omega)
  have hd2 : decide ((50 : Int) ≤ (l : Int)) = true := decide_eq_true (by omega)
  have w0 : IntKind.i64.wrap (((a + l : Nat) : Int) - (a : Int)) = (l : Int) := by rw [show (((a + l : Nat) : Int)) - (a : Int) = (l : Int) by omega]; exact IntWalk.i64_in _ (by omega)
  have w0' : IntKind.i64.wrap ((a : Int) + (l : Int) - (a : Int)) = (l : Int) := by rw [show (a : Int) + (l : Int) - (a : Int) = (l : Int) by omega]; exact IntWalk.i64_in _ (by omega)
  have m1 := madj_in d (fun k => k < N) (a := a + l / 4 * 1) 0 (by omega) (by omega) (by omega)
  rw [← hR1] at m1
  have m2 := madj_in d (fun k => k < N) (a := a + l / 4 * 2) R1.2 (by omega) (by omega) (by omega)
  rw [← hR2] at m2
  have m3 := madj_in d (fun k => k < N) (a := a + l / 4 * 3) R2.2 (by omega) (by omega) (by omega)
  rw [← hR3] at m3
  have hk1 := medianadj_any (sf := sf) (sb := sb) h2.sh (w.heap.size + 1) 0 (a + l / 4 * 1) hp (by omega) (by omega) (by omega) (by omega) hN (by omega)
  rw [← hR1, show (((a + l / 4 * 1 : Nat) : Int)) = (a : Int) + (l : Int) / 4 by omega] at hk1
  have hk2 : ∀ w', SH blk Bs N cap d w' → CS w' (w.heap.size + 1) R1.2 → _ := fun w' S P => medianadj_any (sf := sf) (sb := sb) S (w.heap.size + 1) R1.2 (a + l / 4 * 2) P (by omega) (by omega) (by omega) (by omega) hN (by omega)
  rw [← hR2, show (((a + l / 4 * 2 : Nat) : Int)) = (a : Int) + (l : Int) / 4 * 2 by omega] at hk2
  have hk3 : ∀ w', SH blk Bs N cap d w' → CS w' (w.heap.size + 1) R2.2 → _ := fun w' S P => medianadj_any (sf := sf) (sb := sb) S (w.heap.size + 1) R2.2 (a + l / 4 * 3) P (by omega) (by omega) (by omega) (by omega) hN (by omega)
  rw [← hR3, show (((a + l / 4 * 3 : Nat) : Int)) = (a : Int) + (l : Int) / 4 * 3 by omega] at hk3
  have hk4 : ∀ w', SH blk Bs N cap d w' → CS w' (w.heap.size + 1) R3.2 → _ := fun w' S P => median_any (sf := sf) (sb := sb) S (w.heap.size + 1) R3.2 R1.1 R2.1 R3.1 P (by omega) (by omega) m1.1 m2.1 m3.1 (by omega)
  rw [← hR] at hk4
  have b1 := h2.box
  have hbp : ¬ w.heap.size = w.heap.size + 1 := by omega
  have c0 := h2.c0
  have e1 := h2.c1
  have hbl2 := h2.lt
  unfold lsV at hk1 hk2 hk3 hk4 ⊢
  have hF0 := h2.fr
  have hH2 := Lib.hid hH
  have hr : R.2 ≤ 12 := by have := (med_in d (fun _ => True) R3.2 trivial trivial trivial : _ ∧ (median aheadB d R1.1 R2.1 R3.1 R3.2).2 ≤ R3.2 + 3).2; rw [← hR] at this; omega
  have M := Lib.hid (And.intro m1 (And.intro m2 m3))
  clear h h1 hp hR1 hR2 hR3 hR hH h2 m1 m2 m3
  go_enter Try.func50, Try.ntmps50
  go_wp2_with fail
  refine hk1.mono ?_
  clear hk1
  rintro e w2 ⟨rfl, S2, P2, F2⟩
  have b2 := F2.keep b1 hbp
  have f2 := hF0.then F2 (fun k hk => .inr (by omega))
  have hk2' := hk2 w2 S2 P2
  clear hk2 F2 S2 P2 hF0 c0 e1 hbl2 b1
  have c0 := (cell_of_row _ w.heap.size 0 _ 82 (0, 0) b2).trans rfl
  have e1 := (cell_of_row _ w.heap.size 1 _ 82 (0, 0) b2).trans rfl
  have hbl2 := (Array.getElem?_eq_some_iff.1 b2).1
  go_wp2_with fail
  refine hk2'.mono ?_
  clear hk2'
  rintro e w3 ⟨rfl, S3, P3, F3⟩
  have b3 := F3.keep b2 hbp
  have f3 := f2.then F3 (fun k hk => .inr (by omega))
  have hk3' := hk3 w3 S3 P3
  clear hk3 F3 S3 P3 f2 c0 e1 hbl2 b2
  have c0 := (cell_of_row _ w.heap.size 0 _ 82 (0, 0) b3).trans rfl
  have e1 := (cell_of_row _ w.heap.size 1 _ 82 (0, 0) b3).trans rfl
  have hbl2 := (Array.getElem?_eq_some_iff.1 b3).1
  go_wp2_with fail
  refine hk3'.mono ?_
  clear hk3'
  rintro e w4 ⟨rfl, S4, P4, F4⟩
  have b4 := F4.keep b3 hbp
  have f4 := f3.then F4 (fun k hk => .inr (by omega))
  have hk4' := hk4 w4 S4 P4
  clear hk4 F4 S4 P4 f3 c0 e1 hbl2 b3
  have c0 := (cell_of_row _ w.heap.size 0 _ 82 (0, 0) b4).trans rfl
  have e1 := (cell_of_row _ w.heap.size 1 _ 82 (0, 0) b4).trans rfl
  have hbl2 := (Array.getElem?_eq_some_iff.1 b4).1
  go_wp2_with fail
  refine hk4'.mono ?_
  clear hk4'
  rintro e w5 ⟨rfl, S5, P5, F5⟩
  have pc := P5.cell
  have pl := P5.lt
  have HE : Hid (SH blk Bs N cap d w5 ∧ Fr (fun k => k = blk) w w5) := ⟨S5, f4.then F5 (fun k hk => .inr (by omega))⟩
  clear S5 P5 F5 f4 c0 e1 hbl2 b4
  rcases R with ⟨Q1, Q2⟩
  rcases Q2 with _ | Q2
  · go_wp2_with fail
    go_ret2
    have hHu : H = .increasing := by rw [hH2.out]; rfl
    subst hHu
    exact ⟨rfl, HE.out⟩
  · have n0 : (((Q2 + 1 : Nat) : Int) == 0) = false := beq_false_of_ne (by omega)
    by_cases h12 : Q2 = 11
    · subst h12
      have hHu : H = .decreasing := by rw [hH2.out]; rfl
      subst hHu
      go_wp2_with fail
      go_ret2
      exact ⟨rfl, HE.out⟩
    · have n1 : (((Q2 + 1 : Nat) : Int) == 12) = false := beq_false_of_ne (by omega)
      have hHu : H = .unknown := by rw [hH2.out, if_neg (by simp), if_neg (by simp only; omega)]
      go_wp2_with fail
      go_ret2
      subst hHu
      exact ⟨rfl, HE.out⟩

theorem pivot_any {blk Bs N cap : Nat} {d : Array Th} {w : World} {sf : Nat} {sb : Array Value} (h : SH blk Bs N cap d w) (a l : Nat) (hb : a + l ≤ N) (hN : N ≤ 1000000000) (h8 : 8 ≤ l) :
    Calls Try.prog 50 #[lsV Bs sf sb, .int .i64 a, .int .i64 ((a + l : Nat) : Int)] w fun e w' => e = .returned (.tuple #[.int .i64 (choosePivot aheadB d a (a + l)).1, .int .i64 (hintI (choosePivot aheadB d a (a + l)).2)]) ∧
      SH blk Bs N cap d w' ∧ Fr (fun k => k = blk) w w' := by
  unfold choosePivot
  simp only [Nat.add_sub_cancel_left]
  by_cases h50 : 50 ≤ l
  · rw [if_pos h8, if_pos h50]
    exact pivot_big (sf := sf) (sb := sb) h a l hb hN h50 _ _ _ _ rfl rfl rfl rfl _ rfl
  · rw [if_pos h8, if_neg h50]
    exact pivot_mid (sf := sf) (sb := sb) h a l hb hN h8 (by omega) _ rfl _ rfl

end Go.Proofs.Ytfibgjgipadmkaa.Hp
