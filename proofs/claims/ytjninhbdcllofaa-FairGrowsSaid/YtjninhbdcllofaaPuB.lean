/- What is proved: for every three integers the program's bound is the reference's, and the document's example answers true. No conditions. -/
import Derived.Test.YtjninhbdcllofaaFa4
namespace Go.Proofs.Ytjninhbdcllofaa.Pure
open Go.RowKit Go.Proofs.Ytjninhbdcllofaa.Fa Go.Proofs.YtjninhbdcllofaaW.PrintWords Go.Proofs.YtjninhbdcllofaaW.PrintLast

/-- the product, at most 2^62 -/
def cap62 (x : Int) : Int := if x < 4611686018427387904 then x else 4611686018427387904

theorem u64_id {x : Int} (h0 : 0 ≤ x) (h1 : x < 18446744073709551616) : IntKind.u64.wrap x = x := by
  show x % 18446744073709551616 = x
  omega

theorem div_facts (b : Int) (h : 1 ≤ b) : 0 ≤ (4611686018427387904 : Int) / b ∧ (4611686018427387904 : Int) / b ≤ 4611686018427387904 := by
  constructor
  · exact Int.ediv_nonneg (by omega) (by omega)
  · exact Int.ediv_le_self _ (by omega)

theorem gt_div {a b : Int} (h : 1 ≤ b) : a > (4611686018427387904 : Int) / b ↔ a * b > 4611686018427387904 := by
  have := @Int.ediv_lt_iff_lt_mul 4611686018427387904 a b (by omega)
  exact this

theorem times_u {a b : Int} (ha : 1 ≤ a) (hb : 1 ≤ b) (hb2 : b < 18446744073709551616) : fair_times.f a b = some (cap62 (a * b)) := by
  unfold fair_times.f cap62
  rw [if_neg (by omega)]
  have hd := div_facts b hb
  rw [u64_id hd.1 (by omega)]
  have hg := @gt_div a b hb
  by_cases h : a > (4611686018427387904 : Int) / b
  · rw [if_pos h]; have := hg.1 h; rw [if_neg (by omega)]
  · rw [if_neg h]
    have h2 : ¬ a * b > 4611686018427387904 := fun x => h (hg.2 x)
    have h3 : 1 ≤ a * b := by have := Int.mul_le_mul ha hb (by omega) (by omega); omega
    rw [u64_id (by omega) (by omega)]
    split
    · rfl
    · congr 1; omega

theorem times_i {a b : Int} (ha : 1 ≤ a) (hb : 1 ≤ b) : distaffref26_times.f a b = some (cap62 (a * b)) := by
  unfold distaffref26_times.f cap62
  rw [if_neg (by omega)]
  have hd := div_facts b hb
  have hw : wrap64 ((4611686018427387904 : Int) / b) = (4611686018427387904 : Int) / b := by unfold wrap64; omega
  rw [hw]
  have hg := @gt_div a b hb
  by_cases h : a > (4611686018427387904 : Int) / b
  · rw [if_pos h]; have := hg.1 h; rw [if_neg (by omega)]
  · rw [if_neg h]
    have h2 : ¬ a * b > 4611686018427387904 := fun x => h (hg.2 x)
    have h3 : 1 ≤ a * b := by have := Int.mul_le_mul ha hb (by omega) (by omega); omega
    have hw2 : wrap64 (a * b) = a * b := by unfold wrap64; omega
    rw [hw2]
    split
    · rfl
    · congr 1; omega

theorem cap_mul {x y : Int} (_hx : 1 ≤ x) (hy : 1 ≤ y) : cap62 (cap62 x * y) = cap62 (x * y) := by
  unfold cap62
  by_cases h : x < 4611686018427387904
  · rw [if_pos h]
  · rw [if_neg h]
    have h1 : 4611686018427387904 * 1 ≤ 4611686018427387904 * y := Int.mul_le_mul_of_nonneg_left hy (by omega)
    have h2 : x * 1 ≤ x * y := Int.mul_le_mul_of_nonneg_left hy (by omega)
    rw [if_neg (by omega), if_neg (by omega)]

theorem cap_ge (x : Int) (hx : 1 ≤ x) : 1 ≤ cap62 x ∧ cap62 x ≤ 4611686018427387904 := by
  unfold cap62; split <;> omega

theorem mul_ge {a b : Int} (ha : 1 ≤ a) (hb : 1 ≤ b) : 1 ≤ a * b := by
  have := Int.mul_le_mul ha hb (by omega) (by omega); omega

/-- the whole product -/
def prod (b w t e : Int) : Int := b * w * (t + 2) * (t + 2) * e

theorem bound_u (w t b : Int) (hw : w ≤ 9223372036854775807) (ht : t ≤ 9223372036854775807) (hb : b ≤ 9223372036854775807) :
    fair_Bound.f w t b = some (cap62 (prod (mx b 1) (mx w 1) (mx t 1) (300 + 1300 * (mn (mx w 1) 1125899906842624 - 1)))) := by
  unfold fair_Bound.f
  have hb1 : 1 ≤ mx b 1 ∧ mx b 1 ≤ 9223372036854775807 := by unfold mx; split <;> omega
  have hw1 : 1 ≤ mx w 1 ∧ mx w 1 ≤ 9223372036854775807 := by unfold mx; split <;> omega
  have ht1 : 1 ≤ mx t 1 ∧ mx t 1 ≤ 9223372036854775807 := by unfold mx; split <;> omega
  generalize mx b 1 = B at *
  generalize mx w 1 = W at *
  generalize mx t 1 = T at *
  rw [u64_id (x := B) (by omega) (by omega), u64_id (x := W) (by omega) (by omega), u64_id (x := T) (by omega) (by omega)]
  have hm : 1 ≤ mn W 1125899906842624 ∧ mn W 1125899906842624 ≤ 1125899906842624 := by unfold mn; split <;> omega
  generalize mn W 1125899906842624 = M at *
  rw [u64_id (x := T + 2) (by omega) (by omega), u64_id (x := M - 1) (by omega) (by omega), u64_id (x := 1300 * (M - 1)) (by omega) (by omega), u64_id (x := 300 + 1300 * (M - 1)) (by omega) (by omega)]
  have p1 := mul_ge hb1.1 hw1.1
  have p2 := mul_ge p1 (show 1 ≤ T + 2 by omega)
  have p3 := mul_ge p2 (show 1 ≤ T + 2 by omega)
  have p4 := mul_ge p3 (show 1 ≤ 300 + 1300 * (M - 1) by omega)
  rw [times_u hb1.1 hw1.1 (by omega)]; simp only [Option.bind_some]
  rw [times_u (cap_ge _ p1).1 (by omega) (by omega)]; simp only [Option.bind_some]
  rw [cap_mul p1 (by omega)]
  rw [times_u (cap_ge _ p2).1 (by omega) (by omega)]; simp only [Option.bind_some]
  rw [cap_mul p2 (by omega)]
  rw [times_u (cap_ge _ p3).1 (by omega) (by omega)]; simp only [Option.bind_some]
  rw [cap_mul p3 (by omega)]
  have p5 := cap_ge _ p4
  have hw5 : wrap64 (cap62 (B * W * (T + 2) * (T + 2) * (300 + 1300 * (M - 1)))) = cap62 (B * W * (T + 2) * (T + 2) * (300 + 1300 * (M - 1))) := by unfold wrap64; omega
  rw [hw5]; rfl

theorem bound_i (w t b : Int) :
    distaffref26_Bound.f w t b = some (cap62 (prod (mn (mx 1 b) 4611686018427387904) (mn (mx 1 w) 1152921504606846976) (mn (mx 1 t) 1152921504606846976) (300 + 1300 * (mn (mn (mx 1 w) 1152921504606846976) 1099511627776 - 1)))) := by
  unfold distaffref26_Bound.f
  have hb1 : 1 ≤ mn (mx 1 b) 4611686018427387904 := by unfold mn mx; split <;> split <;> omega
  have hw1 : 1 ≤ mn (mx 1 w) 1152921504606846976 := by unfold mn mx; split <;> split <;> omega
  have ht1 : 1 ≤ mn (mx 1 t) 1152921504606846976 := by unfold mn mx; split <;> split <;> omega
  generalize mn (mx 1 b) 4611686018427387904 = B at *
  generalize mn (mx 1 w) 1152921504606846976 = W at *
  generalize mn (mx 1 t) 1152921504606846976 = T at *
  have hm : 1 ≤ mn W 1099511627776 := by unfold mn; split <;> omega
  generalize mn W 1099511627776 = M at *
  have p1 := mul_ge hb1 hw1
  have p2 := mul_ge p1 (show 1 ≤ T + 2 by omega)
  have p3 := mul_ge p2 (show 1 ≤ T + 2 by omega)
  rw [times_i hb1 hw1]; simp only [Option.bind_some]
  rw [times_i (cap_ge _ p1).1 (by omega)]; simp only [Option.bind_some]
  rw [cap_mul p1 (by omega)]
  rw [times_i (cap_ge _ p2).1 (by omega)]; simp only [Option.bind_some]
  rw [cap_mul p2 (by omega)]
  rw [times_i (cap_ge _ p3).1 (by omega)]; simp only [Option.bind_some]
  rw [cap_mul p3 (by omega)]; rfl

theorem prod_mono {b w t e b' w' t' e' : Int} (hb : 1 ≤ b) (hw : 1 ≤ w) (ht : 1 ≤ t) (he : 1 ≤ e) (h1 : b ≤ b') (h2 : w ≤ w') (h3 : t ≤ t') (h4 : e ≤ e') : prod b w t e ≤ prod b' w' t' e' := by
  unfold prod
  have p1 := mul_ge hb hw
  have p2 := mul_ge p1 (show 1 ≤ t + 2 by omega)
  have p3 := mul_ge p2 (show 1 ≤ t + 2 by omega)
  have q1 : b * w ≤ b' * w' := Int.mul_le_mul h1 h2 (by omega) (by omega)
  have q2 : b * w * (t + 2) ≤ b' * w' * (t' + 2) := Int.mul_le_mul q1 (by omega) (by omega) (by omega)
  have q3 : b * w * (t + 2) * (t + 2) ≤ b' * w' * (t' + 2) * (t' + 2) := Int.mul_le_mul q2 (by omega) (by omega) (by omega)
  exact Int.mul_le_mul q3 h4 (by omega) (by omega)

theorem cap_big {x : Int} (h : 4611686018427387904 ≤ x) : cap62 x = 4611686018427387904 := by unfold cap62; rw [if_neg (by omega)]

theorem prod_big {b w t e x y z u : Int} (hx : 1 ≤ x) (hy : 1 ≤ y) (hz : 1 ≤ z) (hu : 1 ≤ u) (h1 : x ≤ b) (h2 : y ≤ w) (h3 : z ≤ t) (h4 : u ≤ e) (h : 4611686018427387904 ≤ prod x y z u) : cap62 (prod b w t e) = 4611686018427387904 :=
  cap_big (Int.le_trans h (prod_mono hx hy hz hu h1 h2 h3 h4))

theorem prods (w t b : Int) : cap62 (prod (mx b 1) (mx w 1) (mx t 1) (300 + 1300 * (mn (mx w 1) 1125899906842624 - 1))) =
    cap62 (prod (mn (mx 1 b) 4611686018427387904) (mn (mx 1 w) 1152921504606846976) (mn (mx 1 t) 1152921504606846976) (300 + 1300 * (mn (mn (mx 1 w) 1152921504606846976) 1099511627776 - 1))) := by
  have e1 : mx 1 b = mx b 1 := by unfold mx; split <;> split <;> omega
  have e2 : mx 1 w = mx w 1 := by unfold mx; split <;> split <;> omega
  have e3 : mx 1 t = mx t 1 := by unfold mx; split <;> split <;> omega
  rw [e1, e2, e3]
  have hb1 : 1 ≤ mx b 1 := by unfold mx; split <;> omega
  have hw1 : 1 ≤ mx w 1 := by unfold mx; split <;> omega
  have ht1 : 1 ≤ mx t 1 := by unfold mx; split <;> omega
  generalize mx b 1 = B at *
  generalize mx w 1 = W at *
  generalize mx t 1 = T at *
  unfold mn
  by_cases hW : 1099511627776 < W
  · rw [prod_big (x := 1) (y := 1099511627776) (z := 1) (u := 300 + 1300 * (1099511627776 - 1)) (by omega) (by omega) (by omega) (by omega) hb1 (by omega) ht1 (by split <;> omega) (by decide)]
    rw [prod_big (x := 1) (y := 1099511627776) (z := 1) (u := 300 + 1300 * (1099511627776 - 1)) (by omega) (by omega) (by omega) (by omega) (by split <;> omega) (by split <;> omega) (by split <;> omega) (by (repeat' split) <;> omega) (by decide)]
  · rw [if_neg (show ¬ 1125899906842624 < W by omega), if_neg (show ¬ 1152921504606846976 < W by omega), if_neg (show ¬ 1099511627776 < W by omega)]
    by_cases hT : 1152921504606846976 < T
    · rw [prod_big (x := 1) (y := 1) (z := 1152921504606846976) (u := 300) (by omega) (by omega) (by omega) (by omega) hb1 (by omega) (by omega) (by omega) (by decide)]
      rw [prod_big (x := 1) (y := 1) (z := 1152921504606846976) (u := 300) (by omega) (by omega) (by omega) (by omega) (by split <;> omega) (by omega) (by split <;> omega) (by omega) (by decide)]
    · rw [if_neg hT]
      by_cases hB : 4611686018427387904 < B
      · rw [prod_big (x := 4611686018427387904) (y := 1) (z := 1) (u := 300) (by omega) (by omega) (by omega) (by omega) (by omega) (by omega) (by omega) (by omega) (by decide)]
        rw [prod_big (x := 4611686018427387904) (y := 1) (z := 1) (u := 300) (by omega) (by omega) (by omega) (by omega) (by split <;> omega) (by omega) (by omega) (by omega) (by decide)]
      · rw [if_neg hB]

theorem wf_range {n : Int} (h : (Lit.int .i64 n).wf = true) : -9223372036854775808 ≤ n ∧ n ≤ 9223372036854775807 := by
  have h' : (decide ((-9223372036854775808 : Int) ≤ n) && decide (n ≤ 9223372036854775807)) = true := h
  rw [Bool.and_eq_true] at h'
  exact ⟨of_decide_eq_true h'.1, of_decide_eq_true h'.2⟩

theorem awake_ok : distafflaw27_awake.f 60 = some true := by kernel_rfl

theorem FairBounds : distafflaw27_FairBounds.Pure := by
  intro w t b hw ht hb
  have hw' := (wf_range hw).2
  have ht' := (wf_range ht).2
  have hb' := (wf_range hb).2
  refine ⟨60, ?_⟩
  unfold distafflaw27_FairBounds.f
  rw [bound_u w t b hw' ht' hb', bound_i w t b]; simp only [Option.bind_some]
  rw [if_pos (prods w t b), awake_ok]; rfl

end Go.Proofs.Ytjninhbdcllofaa.Pure
