/- The walk of FairLonger. -/
import Derived.Test.YtjninhbdcllofaaFa8
import Derived.Test.YtjninhbdcllofaaFq
import Derived.Test.YtjninhbdcllofaaFt
namespace Go.Proofs.Ytjninhbdcllofaa.Lo
set_option linter.unusedVariables false
set_option linter.unusedSimpArgs false
open Go.RowKit Go.Proofs.Ytjninhbdcllofaa.Fa Go.Proofs.Ytjninhbdcllofaa.Fp Go.Proofs.Ytjninhbdcllofaa.Fq Go.Proofs.Ytjninhbdcllofaa.Ft Go.Proofs.YtjninhbdcllofaaW.PrintWords Go.Proofs.YtjninhbdcllofaaW.PrintLast Go.Proofs.YtjninhbdcllofaaW.PrintMore

theorem within_spec (v n : Int) (h : 1 ≤ n) (hn : n ≤ 9223372036854775807) : ∃ r, distaffkeep_Within.f v n = some r ∧ 0 ≤ r ∧ r < n := by
  have h1 := Int.tmod_lt_of_pos v (show 0 < n by omega)
  have h2 : -n < Int.tmod v n := by
    rcases Int.le_total 0 v with hv | hv
    · have := Int.tmod_nonneg n hv; omega
    · have := Int.tmod_lt_of_pos (-v) (show 0 < n by omega)
      rw [Int.neg_tmod] at this; omega
  unfold distaffkeep_Within.f
  rw [if_neg (by omega), if_neg (by omega)]
  by_cases hneg : Int.tmod v n < 0
  · rw [if_pos hneg]; exact ⟨_, rfl, by rw [w64 (by omega) (by omega)]; omega, by rw [w64 (by omega) (by omega)]; omega⟩
  · rw [if_neg hneg]; exact ⟨_, rfl, by omega, h1⟩

set_option maxHeartbeats 1000000 in
theorem exit0 (a0 a2 a3 a4 a5 : Int) (A : Option Addr) (c : Nat) (l : List S34) (w : World) (k : Nat) (k4 : distafflaw27_awake.f k = some true)  (h0 : 3000 < (l.length : Int))  :
    Calls Try.prog 5 #[.int .i64 a0, .slice A l.length c, .int .i64 a2, .int .i64 a3, .int .i64 a4, .int .i64 a5] w fun e w' => e = .returned (.bool true) ∧ Below w.heap.size w w' := by
  have K4 := Aside0.mk k4
  clear k4
  have g0 : decide ((3000 : Int) < (l.length : Int)) = true := decide_eq_true h0
  clear h0
  go_enter Try.func5, Try.ntmps5
  go_wp2_with fail
  refine (distafflaw27_awake.calls k true _ K4.out).mono ?_
  rintro e w2 ⟨rfl, hb2⟩
  go_wp2_with fail
  go_ret
  exact ⟨rfl, hb2⟩

set_option maxHeartbeats 1000000 in
theorem exit1 (a0 a2 a3 a4 a5 : Int) (A : Option Addr) (c : Nat) (l : List S34) (w : World) (k : Nat) (k4 : distafflaw27_awake.f k = some true) (h0 : ¬ 3000 < (l.length : Int)) (h1 : a2 < 1)  :
    Calls Try.prog 5 #[.int .i64 a0, .slice A l.length c, .int .i64 a2, .int .i64 a3, .int .i64 a4, .int .i64 a5] w fun e w' => e = .returned (.bool true) ∧ Below w.heap.size w w' := by
  have K4 := Aside0.mk k4
  clear k4
  have g0 : decide ((3000 : Int) < (l.length : Int)) = false := decide_eq_false h0
  have g1 : decide (a2 < 1) = true := decide_eq_true h1
  clear h0 h1
  go_enter Try.func5, Try.ntmps5
  go_wp2_with fail
  refine (distafflaw27_awake.calls k true _ K4.out).mono ?_
  rintro e w2 ⟨rfl, hb2⟩
  go_wp2_with fail
  go_ret
  exact ⟨rfl, hb2⟩

set_option maxHeartbeats 1000000 in
theorem exit2 (a0 a2 a3 a4 a5 : Int) (A : Option Addr) (c : Nat) (l : List S34) (w : World) (k : Nat) (k4 : distafflaw27_awake.f k = some true) (h0 : ¬ 3000 < (l.length : Int)) (h1 : ¬ a2 < 1) (h2 : 1099511627776 < a2)  :
    Calls Try.prog 5 #[.int .i64 a0, .slice A l.length c, .int .i64 a2, .int .i64 a3, .int .i64 a4, .int .i64 a5] w fun e w' => e = .returned (.bool true) ∧ Below w.heap.size w w' := by
  have K4 := Aside0.mk k4
  clear k4
  have g0 : decide ((3000 : Int) < (l.length : Int)) = false := decide_eq_false h0
  have g1 : decide (a2 < 1) = false := decide_eq_false h1
  have g2 : decide ((1099511627776 : Int) < a2) = true := decide_eq_true h2
  clear h0 h1 h2
  go_enter Try.func5, Try.ntmps5
  go_wp2_with fail
  refine (distafflaw27_awake.calls k true _ K4.out).mono ?_
  rintro e w2 ⟨rfl, hb2⟩
  go_wp2_with fail
  go_ret
  exact ⟨rfl, hb2⟩

set_option maxHeartbeats 1000000 in
theorem exit3 (a0 a2 a3 a4 a5 : Int) (A : Option Addr) (c : Nat) (l : List S34) (w : World) (k : Nat) (k4 : distafflaw27_awake.f k = some true) (h0 : ¬ 3000 < (l.length : Int)) (h1 : ¬ a2 < 1) (h2 : ¬ 1099511627776 < a2) (h3 : a3 < 0)  :
    Calls Try.prog 5 #[.int .i64 a0, .slice A l.length c, .int .i64 a2, .int .i64 a3, .int .i64 a4, .int .i64 a5] w fun e w' => e = .returned (.bool true) ∧ Below w.heap.size w w' := by
  have K4 := Aside0.mk k4
  clear k4
  have g0 : decide ((3000 : Int) < (l.length : Int)) = false := decide_eq_false h0
  have g1 : decide (a2 < 1) = false := decide_eq_false h1
  have g2 : decide ((1099511627776 : Int) < a2) = false := decide_eq_false h2
  have g3 : decide (a3 < 0) = true := decide_eq_true h3
  clear h0 h1 h2 h3
  go_enter Try.func5, Try.ntmps5
  go_wp2_with fail
  refine (distafflaw27_awake.calls k true _ K4.out).mono ?_
  rintro e w2 ⟨rfl, hb2⟩
  go_wp2_with fail
  go_ret
  exact ⟨rfl, hb2⟩

set_option maxHeartbeats 1000000 in
theorem exit4 (a0 a2 a3 a4 a5 : Int) (A : Option Addr) (c : Nat) (l : List S34) (w : World) (k : Nat) (k4 : distafflaw27_awake.f k = some true) (h0 : ¬ 3000 < (l.length : Int)) (h1 : ¬ a2 < 1) (h2 : ¬ 1099511627776 < a2) (h3 : ¬ a3 < 0) (h4 : 1099511627776 < a3)  :
    Calls Try.prog 5 #[.int .i64 a0, .slice A l.length c, .int .i64 a2, .int .i64 a3, .int .i64 a4, .int .i64 a5] w fun e w' => e = .returned (.bool true) ∧ Below w.heap.size w w' := by
  have K4 := Aside0.mk k4
  clear k4
  have g0 : decide ((3000 : Int) < (l.length : Int)) = false := decide_eq_false h0
  have g1 : decide (a2 < 1) = false := decide_eq_false h1
  have g2 : decide ((1099511627776 : Int) < a2) = false := decide_eq_false h2
  have g3 : decide (a3 < 0) = false := decide_eq_false h3
  have g4 : decide ((1099511627776 : Int) < a3) = true := decide_eq_true h4
  clear h0 h1 h2 h3 h4
  go_enter Try.func5, Try.ntmps5
  go_wp2_with fail
  refine (distafflaw27_awake.calls k true _ K4.out).mono ?_
  rintro e w2 ⟨rfl, hb2⟩
  go_wp2_with fail
  go_ret
  exact ⟨rfl, hb2⟩

set_option maxHeartbeats 1000000 in
theorem exit5 (a0 a2 a3 a4 a5 : Int) (A : Option Addr) (c : Nat) (l : List S34) (w : World) (k : Nat) (k4 : distafflaw27_awake.f k = some true) (h0 : ¬ 3000 < (l.length : Int)) (h1 : ¬ a2 < 1) (h2 : ¬ 1099511627776 < a2) (h3 : ¬ a3 < 0) (h4 : ¬ 1099511627776 < a3) (hC : Kd.C k34 w A l.length l) (hc : l.length ≤ c) (k1 : fair_Fair.f k a0 l a2 = some false) :
    Calls Try.prog 5 #[.int .i64 a0, .slice A l.length c, .int .i64 a2, .int .i64 a3, .int .i64 a4, .int .i64 a5] w fun e w' => e = .returned (.bool true) ∧ Below w.heap.size w w' := by
  have K4 := Aside0.mk k4
  clear k4
  have g0 : decide ((3000 : Int) < (l.length : Int)) = false := decide_eq_false h0
  have g1 : decide (a2 < 1) = false := decide_eq_false h1
  have g2 : decide ((1099511627776 : Int) < a2) = false := decide_eq_false h2
  have g3 : decide (a3 < 0) = false := decide_eq_false h3
  have g4 : decide ((1099511627776 : Int) < a3) = false := decide_eq_false h4
  clear h0 h1 h2 h3 h4
  have K1 := Aside0.mk k1
  have HC := Aside0.mk hC
  clear k1 hC
  go_enter Try.func5, Try.ntmps5
  go_wp2_with fail
  refine (fair_Fair.calls k a0 _ _ l a2 false _ HC.out hc K1.out).mono ?_
  rintro e w1 ⟨rfl, hb1⟩
  go_wp2_with fail
  refine (distafflaw27_awake.calls k true _ K4.out).mono ?_
  rintro e w2 ⟨rfl, hb2⟩
  have HB := Aside0.mk (hb1.trans (hb2.mono hb1.size))
  clear hb1 hb2
  go_wp2_with fail
  go_ret
  exact ⟨rfl, HB.out⟩

theorem fair_any (k : Nat) (a0 : Int) (A1 : Option Addr) (n c1 : Nat) (l1 : List S34) (a2 : Int) (r : Bool) (w : World) (hn : n = l1.length) (hr1 : Kd.C k34 w A1 l1.length l1) (hc1 : n ≤ c1) (h : fair_Fair.f k a0 l1 a2 = some r) :
    Calls Try.prog 10 #[.int .i64 a0, .slice A1 n c1, .int .i64 a2] w fun e w' => e = .returned (.bool r) ∧ Below w.heap.size w w' := by
  subst hn
  exact fair_Fair.calls k a0 A1 c1 l1 a2 r w hr1 hc1 h

set_option maxHeartbeats 2000000 in
theorem main (a0 a2 a3 a4 a5 : Int) (A : Option Addr) (c : Nat) (l : List S34) (w : World) (k : Nat) (k4 : distafflaw27_awake.f k = some true) (h0 : ¬ 3000 < (l.length : Int)) (h1 : ¬ a2 < 1) (h2 : ¬ 1099511627776 < a2) (h3 : ¬ a3 < 0) (h4 : ¬ 1099511627776 < a3) (hC : Kd.C k34 w A l.length l) (hc : l.length ≤ c) (hcm : c ≤ maxLen)
    (a q : Nat) (ha : a ≤ l.length) (hq : a + q ≤ l.length) (ka : distaffkeep_Within.f a4 ((l.length : Int) + 1) = some (a : Int)) (kq : distaffkeep_Within.f a5 ((l.length : Int) - (a : Int) + 1) = some (q : Int))
    (k1 : fair_Fair.f k a0 l a2 = some true) (k2 : fair_Fair.f k a0 l (a2 + a3) = some true) (k3 : fair_Fair.f k a0 ((l.take (a + q)).drop a) a2 = some true) :
    Calls Try.prog 5 #[.int .i64 a0, .slice A l.length c, .int .i64 a2, .int .i64 a3, .int .i64 a4, .int .i64 a5] w fun e w' => e = .returned (.bool true) ∧ Below w.heap.size w w' := by
  unfold maxLen at hcm
  have K4 := Aside0.mk k4
  have K1 := Aside0.mk k1
  have K2 := Aside0.mk k2
  have K3 := Aside0.mk k3
  have KA := Aside0.mk ka
  have KQ := Aside0.mk kq
  have HC := Aside0.mk hC
  clear k1 k2 k3 k4 ka kq hC
  have g0 : decide ((3000 : Int) < (l.length : Int)) = false := decide_eq_false h0
  have g1 : decide (a2 < 1) = false := decide_eq_false h1
  have g2 : decide ((1099511627776 : Int) < a2) = false := decide_eq_false h2
  have g3 : decide (a3 < 0) = false := decide_eq_false h3
  have g4 : decide ((1099511627776 : Int) < a3) = false := decide_eq_false h4
  have p0 : (l.length : Int) ≤ 3000 := by omega
  have p1 : 1 ≤ a2 := by omega
  have p2 : a2 ≤ 1099511627776 := by omega
  have p3 : 0 ≤ a3 := by omega
  have p4 : a3 ≤ 1099511627776 := by omega
  clear h0 h1 h2 h3 h4
  obtain ⟨i0, hi, hz0, hz1, hz2⟩ := info_parts info34
  have hlen : ((l.take (a + q)).drop a).length = q := by rw [List.length_drop, List.length_take]; omega
  have HD1 : Aside0 (c = a → ∀ W : World, Kd.C k34 W A l.length l → Kd.C k34 W A ((l.take (a + q)).drop a).length ((l.take (a + q)).drop a)) := ⟨fun hca W h => by
    have ht := Kd.C_take (m := a + q) h (by omega)
    have hd := Kd.C_drop (m := a) (c := c) ht (by rw [List.length_take]; omega) (by rw [List.length_take]; omega)
    rw [if_pos hca] at hd; exact hd⟩
  have HD2 : Aside0 (¬ c = a → ∀ W : World, Kd.C k34 W A l.length l → Kd.C k34 W (A.map (·.add (a * 3))) ((l.take (a + q)).drop a).length ((l.take (a + q)).drop a)) := ⟨fun hca W h => by
    have ht := Kd.C_take (m := a + q) h (by omega)
    have hd := Kd.C_drop (m := a) (c := c) ht (by rw [List.length_take]; omega) (by rw [List.length_take]; omega)
    rw [if_neg hca] at hd; exact hd⟩
  have HL : Aside0 (((l.take (a + q)).drop a).length ≤ c - a) := ⟨by rw [hlen]; omega⟩
  clear hi hz0 hz1 hz2
  have HLEN := Aside0.mk hlen
  clear hlen
  go_enter Try.func5, Try.ntmps5
  go_wp2_with fail
  refine (fair_Fair.calls k a0 _ _ l a2 true _ HC.out hc K1.out).mono ?_
  rintro e w1 ⟨rfl, hb1⟩
  have HB1 : Aside0 (Below w.heap.size w w1) := ⟨hb1⟩
  have HC1 : Aside0 (Kd.C k34 w1 A l.length l) := ⟨Kd.C_below HC.out hb1⟩
  clear hb1
  go_wp2_with fail
  refine (distaffkeep_Within.calls a4 ((l.length : Int) + 1) (a : Int) _ KA.out).mono ?_
  rintro e w' ⟨rfl, n1, rfl⟩
  go_wp2_with fail
  refine (distaffkeep_Within.calls a5 ((l.length : Int) - (a : Int) + 1) (q : Int) _ KQ.out).mono ?_
  rintro e w' ⟨rfl, n2, rfl⟩
  go_wp2_with fail
  refine (fair_Fair.calls k a0 _ _ l (a2 + a3) true _ ?hc2 hc K2.out).mono ?_
  case hc2 => exact Kd.C_below HC1.out (by repeat (first | exact Below.refl _ _ | apply pw_below_drewN))
  rintro e w2 ⟨rfl, hb2⟩
  have HB2 : Aside0 (Below w.heap.size w w2) := ⟨by
    have hx : Below w.heap.size w1 w2 := by
      refine Below.trans (b := _) ?_ (hb2.mono ?_)
      · repeat (first | exact Below.refl _ _ | apply pw_below_drewN)
      · exact HB1.out.size
    exact HB1.out.trans hx⟩
  have HC2 : Aside0 (Kd.C k34 w2 A l.length l) := ⟨by
    have hx : Below w1.heap.size w1 w2 := by
      refine Below.trans (b := _) ?_ (hb2.mono ?_)
      · repeat (first | exact Below.refl _ _ | apply pw_below_drewN)
      · exact Nat.le_refl _
    exact Kd.C_below HC1.out hx⟩
  clear hb2 HB1 HC1
  go_wp2_with fail
  · refine (fair_any k a0 _ _ _ _ a2 true _ HLEN.out.symm (HD1.out ‹c = a› _ HC2.out) (by have := HL.out; have := HLEN.out; omega) K3.out).mono ?_
    rintro e w3 ⟨rfl, hb3⟩
    have HB3 : Aside0 (Below w.heap.size w w3) := ⟨HB2.out.trans (hb3.mono HB2.out.size)⟩
    clear hb3 HB2 HC2
    go_wp2_with fail
    refine (distafflaw27_awake.calls k true _ K4.out).mono ?_
    rintro e w5 ⟨rfl, hb5⟩
    have HB5 : Aside0 (Below w.heap.size w w5) := ⟨HB3.out.trans (hb5.mono HB3.out.size)⟩
    clear hb5 HB3
    go_wp2_with fail
    go_ret
    exact ⟨rfl, HB5.out⟩
  · refine (fair_any k a0 _ _ _ _ a2 true _ HLEN.out.symm (HD2.out ‹¬ c = a› _ HC2.out) (by have := HL.out; have := HLEN.out; omega) K3.out).mono ?_
    rintro e w3 ⟨rfl, hb3⟩
    have HB3 : Aside0 (Below w.heap.size w w3) := ⟨HB2.out.trans (hb3.mono HB2.out.size)⟩
    clear hb3 HB2 HC2
    go_wp2_with fail
    refine (distafflaw27_awake.calls k true _ K4.out).mono ?_
    rintro e w5 ⟨rfl, hb5⟩
    have HB5 : Aside0 (Below w.heap.size w w5) := ⟨HB3.out.trans (hb5.mono HB3.out.size)⟩
    clear hb5 HB3
    go_wp2_with fail
    go_ret
    exact ⟨rfl, HB5.out⟩

theorem all (a0 a2 a3 a4 a5 : Int) (A : Option Addr) (c : Nat) (l : List S34) (w : World) (hC : Kd.C k34 w A l.length l) (hc : l.length ≤ c) (hcm : c ≤ maxLen) :
    Calls Try.prog 5 #[.int .i64 a0, .slice A l.length c, .int .i64 a2, .int .i64 a3, .int .i64 a4, .int .i64 a5] w fun e w' => e = .returned (.bool true) ∧ Below w.heap.size w w' := by
  obtain ⟨K4, k4⟩ := awake_ev
  by_cases h0 : 3000 < (l.length : Int)
  · exact exit0 a0 a2 a3 a4 a5 A c l w K4 (k4 _ (Nat.le_refl _)) h0
  by_cases h1 : a2 < 1
  · exact exit1 a0 a2 a3 a4 a5 A c l w K4 (k4 _ (Nat.le_refl _)) h0 h1
  by_cases h2 : 1099511627776 < a2
  · exact exit2 a0 a2 a3 a4 a5 A c l w K4 (k4 _ (Nat.le_refl _)) h0 h1 h2
  by_cases h3 : a3 < 0
  · exact exit3 a0 a2 a3 a4 a5 A c l w K4 (k4 _ (Nat.le_refl _)) h0 h1 h2 h3
  by_cases h4 : 1099511627776 < a3
  · exact exit4 a0 a2 a3 a4 a5 A c l w K4 (k4 _ (Nat.le_refl _)) h0 h1 h2 h3 h4
  obtain ⟨b, ⟨K1, k1⟩, e1⟩ := fair_spec a0 a2 l (by omega)
  cases b with
  | false => exact exit5 a0 a2 a3 a4 a5 A c l w (K1 + K4) (k4 _ (by omega)) h0 h1 h2 h3 h4 hC hc (k1 _ (by omega))
  | true =>
    have hF := (e1.1 rfl).2
    obtain ⟨r1, ka, ra0, ra1⟩ := within_spec a4 ((l.length : Int) + 1) (by omega) (by omega)
    obtain ⟨a, rfl⟩ := Int.eq_ofNat_of_zero_le ra0
    obtain ⟨r2, kq, rq0, rq1⟩ := within_spec a5 ((l.length : Int) - (a : Int) + 1) (by omega) (by omega)
    obtain ⟨q, rfl⟩ := Int.eq_ofNat_of_zero_le rq0
    obtain ⟨b2, ⟨K2, k2⟩, e2⟩ := fair_spec a0 (a2 + a3) l (by omega)
    obtain ⟨b3, ⟨K3, k3⟩, e3⟩ := fair_spec a0 a2 ((l.take (a + q)).drop a) (by rw [List.length_drop, List.length_take]; omega)
    have hb2 : b2 = true := by
      rw [e2]
      refine ⟨by omega, ?_⟩
      rw [show (a2 + a3).toNat = a2.toNat + a3.toNat by omega]
      exact fair_longer hF _
    have hb3 : b3 = true := by
      rw [e3]
      exact ⟨by omega, fair_part hF a (a + q) (by omega)⟩
    subst hb2 hb3
    exact main a0 a2 a3 a4 a5 A c l w (K1 + K2 + K3 + K4) (k4 _ (by omega)) h0 h1 h2 h3 h4 hC hc hcm a q (by omega) (by omega) ka kq (k1 _ (by omega)) (k2 _ (by omega)) (k3 _ (by omega))

end Go.Proofs.Ytjninhbdcllofaa.Lo
