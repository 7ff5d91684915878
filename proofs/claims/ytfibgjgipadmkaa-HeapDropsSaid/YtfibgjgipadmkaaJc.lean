/- HeapDrops: the walk. -/
import Derived.Test.YtfibgjgipadmkaaJb
namespace Go.Proofs.Ytfibgjgipadmkaa.Hp
set_option linter.unusedVariables false
set_option linter.unusedSimpArgs false
open Go.RowKit Go.Maps Go.ChangeMaps

/-- a row of numbers that came in -/
def Ints (W : World) (a : Option Addr) (len : Nat) (es : Nat → Int) : Prop :=
  len = 0 ∨ ∃ x, a = some x ∧ x.block < W.heap.size ∧ ∀ i, i < len → W.cell? (x.add i) = some (.int .i64 (es i))

/-- what is left when those of G are gone -/
def Left (L : List Th) (G : Int → Bool) : List Th := L.filter (fun t => !(G t.w))
theorem left_drop {ds : Nat → Int} {N : Nat} (G : Int → Bool) (j : Nat) : (Left (PL ds N) G).filter (fun x => !(x.h == (th ds j).h)) = Left (PL ds N) (fun i => G i || (j : Int) == i) := by
  unfold Left
  rw [List.filter_filter]
  refine List.filter_congr (fun t ht => ?_)
  obtain ⟨i, hi, rfl⟩ := PL_mem ht
  have e : ((th ds i).h == (th ds j).h) = ((j : Int) == (th ds i).w) := by
    show (((i : Int) + 1) == ((j : Int) + 1)) = ((j : Int) == (i : Int))
    by_cases h : i = j
    · subst h; simp
    · rw [beq_false_of_ne (by omega), beq_false_of_ne (by omega)]
  show (!((th ds i).h == (th ds j).h) && !(G (th ds i).w)) = !(G (th ds i).w || (j : Int) == (th ds i).w)
  rw [e]
  cases G (th ds i).w <;> cases ((j : Int) == (th ds i).w) <;> rfl
theorem left_mem {ds : Nat → Int} {N : Nat} {G : Int → Bool} {j : Nat} (hj : j < N) (hG : G j = false) : th ds j ∈ Left (PL ds N) G := by
  unfold Left
  rw [List.mem_filter]
  refine ⟨(PL_perm ds N).mem_iff.2 (List.mem_map.2 ⟨j, List.mem_range.2 hj, rfl⟩), ?_⟩
  show (!(G j)) = true
  rw [hG]; rfl
theorem left_of {ds : Nat → Int} {N : Nat} {G : Int → Bool} {t : Th} (h : t ∈ Left (PL ds N) G) : ∃ j, j < N ∧ t = th ds j ∧ G j = false := by
  unfold Left at h
  obtain ⟨h1, h2⟩ := List.mem_filter.1 h
  obtain ⟨j, hj, rfl⟩ := PL_mem h1
  refine ⟨j, hj, rfl, ?_⟩
  have h2 : (!(G j)) = true := h2
  cases h : G j with
  | false => rfl
  | true => rw [h] at h2; cases h2
theorem left_len (ds : Nat → Int) (N : Nat) (G : Int → Bool) : (Left (PL ds N) G).length ≤ N := by
  have := List.length_filter_le (fun t : Th => !(G t.w)) (PL ds N)
  rwa [PL_len] at this

set_option maxRecDepth 100000 in
set_option maxHeartbeats 2000000 in
theorem drops_long (W : World) (a a2 : Option Addr) (len cap len2 cap2 : Nat) (hl : 100 < len) :
    Calls Try.prog 4 #[.slice a len cap, .slice a2 len2 cap2] W fun e W' => e = .returned (.bool true) ∧ Below W.heap.size W W' := by
  have hd : decide ((100 : Int) < (len : Int)) = true := decide_eq_true (by omega)
  go_enter Try.func4, Try.ntmps4
  go_wp2_with fail
  refine (new_hv W W.heap.size (Nat.le_refl _)).mono ?_
  rintro e w1 ⟨rfl, H1, b1⟩
  clear H1
  have hs1 := b1.size
  generalize W.heap.size + 1 = g
  go_wp2_with fail
  refine (awake_any w1).mono ?_
  rintro e w2 ⟨rfl, b2⟩
  have hb := b1.trans (b2.mono hs1)
  clear b1 b2
  go_wp2_with fail
  go_ret
  exact ⟨rfl, hb⟩

set_option maxRecDepth 100000 in
set_option maxHeartbeats 4000000 in
theorem drops_any (W : World) (a a2 : Option Addr) (len cap len2 cap2 : Nat) (hl : len ≤ 100) (ds es : Nat → Int) (hN : Nums W a len ds) (hE : Ints W a2 len2 es) (hwf : ∀ i, i < len → 0 ≤ ds i ∧ ds i ≤ 18446744073709551615) :
    Calls Try.prog 4 #[.slice a len cap, .slice a2 len2 cap2] W fun e W' => e = .returned (.bool true) ∧ Below W.heap.size W W' := by
  have hd : decide ((100 : Int) < (len : Int)) = false := decide_eq_false (by omega)
  go_enter Try.func4, Try.ntmps4
  go_wp2_with fail
  refine (new_hv W W.heap.size (Nat.le_refl _)).mono ?_
  rintro e w1 ⟨rfl, H1, b1⟩
  have hs1 := b1.size
  have hnil : len = 0 ∨ ∃ x, a = some x ∧ x.block < W.heap.size ∧ ∀ i, i < len → W.cell? (x.add i) = some (.int .u64 (ds i)) := hN
  go_wp2_with fail
  go_loopw [6] (fun v wr => ∃ (k n : Nat) (v1 : Value), v = .int .i64 k ∧ k ≤ len ∧ HV wr W.heap.size (W.heap.size + 1) W.heap.size v1 (PL ds k) k n ∧ n ≤ k * 1000 ∧ Below W.heap.size W wr) (fun v _ => len - (intOf v).toNat)
  case atStart => exact ⟨0, 0, _, rfl, Nat.zero_le _, H1, by omega, b1⟩
  case round =>
    obtain ⟨k, n, v1, rfl, hk, H, hn, hb⟩ := hrel
    by_cases hlt : k < len
    · rcases hnil with h | ⟨x, rfl, hxb, hcell⟩
      · omega
      have hx := (hb.cell (p := x.add k) (by rw [add_block']; exact hxb)).trans (hcell k hlt)
      have hl1 : decide ((k : Int) < (len : Int)) = true := decide_eq_true (by omega)
      have hi0 : (0 : Int) ≤ (k : Int) := by omega
      have hi1 : (k : Int) < (len : Int) := by omega
      have hadd : IntKind.i64.wrap ((k : Int) + 1) = (k : Int) + 1 := IntWalk.i64_in _ (by omega)
      have hcv : IntKind.u64.wrap (k : Int) = (k : Int) := IntWalk.u64_in _ (by omega)
      go_wp2_with fail
      refine (put_b wr W.heap.size (W.heap.size + 1) W.heap.size v1 (PL ds k) k n H (ds k) k hb.size (by omega) (by rw [PL_len]; omega) (by omega)).mono ?_
      rintro e w2 ⟨rfl, v2, n2, hn2, H2, b2⟩
      rw [PL_len] at hn2
      have HE : Hid (HV w2 W.heap.size (W.heap.size + 1) W.heap.size v2 (PL ds (k + 1)) ((k + 1 : Nat) : Int) n2 ∧ Below W.heap.size W w2) := ⟨by rw [Int.natCast_add]; exact H2, hb.trans b2⟩
      clear H2 b2 H
      go_wp2_with fail
      go_roundw
      case rel => exact ⟨k + 1, n2, v2, by simp, by omega, HE.out.1, by omega, HE.out.2⟩
      case measure => simp [intOf]; omega
    · obtain rfl : k = len := by omega
      have hl1 : decide ((k : Int) < (k : Int)) = false := decide_eq_false (by omega)
      have hmk := run_make_row' (P := Try.prog) 28 4 (.bool false) 1 Try.underlying28 info4 rfl .i64 .i64 k (by omega) (by omega)
      have H0 : Hid (St W k wr.heap.size (Left (PL ds k) (fun _ => false)) (fun _ => false) (k * 1000) (wr.alloc (.cells (madeCells #[.bool false] k) 4))) :=
        (st_made H hn hb).congr (by unfold Left; rw [List.filter_eq_self.2]; intro t _; rfl) (fun _ _ => rfl)
      clear H H1 b1 hn hb
      go_wp2_with fail
      clear hmk hl1
      generalize wr.heap.size = sb at H0 ⊢
      generalize wr.alloc (.cells (madeCells #[.bool false] k) 4) = w3 at H0 ⊢
      go_loopw [8] (fun v wl => ∃ (i : Nat) (G : Int → Bool), v = .int .i64 i ∧ i ≤ len2 ∧ i ≤ 100 ∧ St W k sb (Left (PL ds k) G) G (k * 1000 + i * 1000) wl) (fun v _ => 100 - (intOf v).toNat)
      case atStart => exact ⟨0, _, rfl, Nat.zero_le _, Nat.zero_le _, H0.out.mono (by omega)⟩
      case round =>
        obtain ⟨i, G, rfl, hi, hi2, S⟩ := hrel
        by_cases hil : i < len2 ∧ i < 100
        · obtain ⟨hil1, hil2⟩ := hil
          have hc1 : decide ((i : Int) < (len2 : Int)) = true := decide_eq_true (by omega)
          have hc2 : decide ((i : Int) < 100) = true := decide_eq_true (by omega)
          have hi0 : (0 : Int) ≤ (i : Int) := by omega
          have hi1 : (i : Int) < (len2 : Int) := by omega
          have hadd : IntKind.i64.wrap ((i : Int) + 1) = (i : Int) + 1 := IntWalk.i64_in _ (by omega)
          have hadd2 : IntKind.i64.wrap ((k : Int) + 2) = (k : Int) + 2 := IntWalk.i64_in _ (by omega)
          obtain ⟨x2, hax, hxb, hcell⟩ : ∃ x, a2 = some x ∧ x.block < W.heap.size ∧ ∀ i, i < len2 → W.cell? (x.add i) = some (.int .i64 (es i)) := by
            rcases hE with h | h
            · omega
            · exact h
          subst hax
          have hx := (S.bel.cell (p := x2.add i) (by rw [add_block']; exact hxb)).trans (hcell i hil1)
          obtain ⟨r, hr, hwi⟩ := within_any (es i) ((k : Int) + 2) (by omega) (by omega) wr
          have hwi := Lib.hid hwi
          have S := Lib.hid S
          go_wp2_with fail
          refine hwi.out.mono ?_
          rintro e w4 ⟨rfl, b4⟩
          have S := S.out.below b4
          clear hwi b4
          rcases r with _ | j
          · -- the handle 0: nobody has it
            have hw1 : IntKind.i64.wrap (-1) = -1 := by decide
            have hw0 : IntKind.i64.wrap 0 = 0 := by decide
            have S := Lib.hid S
            go_wp2_with fail
            refine (st_drop_none W k sb _ G _ w4 S.out 0 (WalkArith.wf_i64 (by omega)) (fun t ht => ?_)).mono ?_
            · obtain ⟨j, hj, rfl, _⟩ := left_of ht
              show (j : Int) + 1 ≠ 0
              omega
            rintro e w5 ⟨rfl, rfl⟩
            go_wp2_with fail
            go_roundw
            case rel => exact ⟨i + 1, G, by simp, by omega, by omega, S.out.mono (by omega)⟩
            case measure => simp [intOf]; omega
          · have hsub : IntKind.i64.wrap (j : Int) = (j : Int) := IntWalk.i64_in _ (by omega)
            have hback : IntKind.i64.wrap ((j : Int) + 1) = (j : Int) + 1 := IntWalk.i64_in _ (by omega)
            have hcv : IntKind.u64.wrap (j : Int) = (j : Int) := IntWalk.u64_in _ (by omega)
            have hj0 : (0 : Int) ≤ (j : Int) := by omega
            have hd0 : decide ((0 : Int) ≤ (j : Int)) = true := decide_eq_true hj0
            have S := Lib.hid S
            by_cases hjk : j < k
            · have hd1 : decide ((j : Int) < (k : Int)) = true := decide_eq_true (by omega)
              have hj1 : (j : Int) < (k : Int) := by omega
              cases hG : G j with
              | true =>
                have hcj : w4.cell? ⟨sb, j, none⟩ = some (.bool true) := by rw [S.out.cell hjk, hG]
                have hsb2 := S.out.sbl.2
                go_wp2_with fail
                refine (st_drop_none W k sb _ G _ w4 S.out ((j : Int) + 1) (WalkArith.wf_i64 (by omega)) (fun t ht => ?_)).mono ?_
                · obtain ⟨j2, hj2, rfl, hG2⟩ := left_of ht
                  intro e
                  have e : (j2 : Int) + 1 = (j : Int) + 1 := e
                  have : j2 = j := by omega
                  rw [this, hG] at hG2; cases hG2
                rintro e w5 ⟨rfl, rfl⟩
                go_wp2_with fail
                go_roundw
                case rel => exact ⟨i + 1, G, by simp, by omega, by omega, S.out.mono (by omega)⟩
                case measure => simp [intOf]; omega
              | false =>
                go_wp2_with fail
                refine (st_drop W k sb (th ds j) _ G _ w4 S.out (left_mem hjk hG) (by omega)).mono ?_
                rintro e w5 ⟨rfl, S5⟩
                rw [left_drop] at S5
                have hcj : w5.cell? ⟨sb, j, none⟩ = some (.bool false) := by rw [S5.cell hjk, hG]
                have hsb2 := S5.sbl.2
                have hfz := S5.row.frozen j
                have hll := left_len ds k G
                have HE : Hid (St W k sb (Left (PL ds k) (fun i => G i || (j : Int) == i)) (fun i => G i || (j : Int) == i) (k * 1000 + (i + 1) * 1000) (w5.setCell ⟨sb, j, none⟩ (.bool true))) := (S5.set hjk).mono (by omega)
                have hthw : (th ds j).w = (j : Int) := rfl
                rw [hthw]
                clear S5 S
                go_wp2_with fail
                go_roundw
                case rel => exact ⟨i + 1, _, by simp, by omega, by omega, HE.out⟩
                case measure => simp [intOf]; omega
            · have hd1 : decide ((j : Int) < (k : Int)) = false := decide_eq_false (by omega)
              go_wp2_with fail
              refine (st_drop_none W k sb _ G _ w4 S.out ((j : Int) + 1) (WalkArith.wf_i64 (by omega)) (fun t ht => ?_)).mono ?_
              · obtain ⟨j2, hj2, rfl, _⟩ := left_of ht
                show (j2 : Int) + 1 ≠ (j : Int) + 1
                omega
              rintro e w5 ⟨rfl, rfl⟩
              go_wp2_with fail
              go_roundw
              case rel => exact ⟨i + 1, G, by simp, by omega, by omega, S.out.mono (by omega)⟩
              case measure => simp [intOf]; omega
        · obtain ⟨L, hL⟩ : ∃ L, L = Left (PL ds k) G := ⟨_, rfl⟩
          have hmem : ∀ p, p < L.length → ∃ j, j < k ∧ at' L p = th ds j ∧ G j = false := fun p hp => by
            have := at_mem (T := L) hp
            rw [hL] at this
            have := left_of this
            rwa [← hL] at this
          have hall : ∀ j : Nat, j < k → (G j || seenB L L.length j) = true := fun j hj => by
            cases hG : G j with
            | true => rfl
            | false =>
              have := left_mem (ds := ds) hj hG
              rw [← hL] at this
              obtain ⟨p, hp, e⟩ := mem_at this
              rw [(seenB_iff (Nat.le_refl _) _).2 ⟨p, hp, by rw [e]; rfl⟩]; rfl
          have hLl : L.length ≤ k := by rw [hL]; exact left_len ds k G
          rw [← hL] at S
          have hsd := S.sorted
          clear hL
          have S0 : Hid (St W k sb (L.drop 0) (fun j => G j || seenB L 0 j) (k * 1000 + 100 * 1000 + 0 * 1000) wr) := (S.congr rfl (fun j _ => by rw [seenB_zero, Bool.or_false])).mono (by omega)
          clear S H0
          go_wp2_with fail
          all_goals
            go_loopw [13] (fun v wl => ∃ q : Nat, v = .int .i64 q ∧ q ≤ L.length ∧ St W k sb (L.drop q) (fun j => G j || seenB L q j) (k * 1000 + 100 * 1000 + q * 1000) wl) (fun v _ => L.length - (intOf v).toNat)
            case atStart => exact ⟨0, rfl, Nat.zero_le _, S0.out⟩
            case round =>
              obtain ⟨q, rfl, hq, S⟩ := hrel
              by_cases hql : q < L.length
              · obtain ⟨j, hj, hjt, hGj⟩ := hmem q hql
                rw [drop_at hql, hjt] at S
                have hdj := hwf j hj
                have S := Lib.hid S
                go_wp2_with fail
                refine (st_pop W k sb (th ds j) (L.drop (q + 1)) _ _ wr S.out 18446744073709551615 (by show ¬ _ < ds j; omega) (by omega)).mono ?_
                rintro e w5 ⟨rfl, S5⟩
                rw [List.length_drop] at S5
                have hns : seenB L q j = false := by
                  cases h : seenB L q j with
                  | false => rfl
                  | true =>
                    obtain ⟨p, hp, e⟩ := (seenB_iff (by omega) _).1 h
                    obtain ⟨j2, hj2, e2, _⟩ := hmem p (by omega)
                    rw [e2] at e
                    have e3 : j2 = j := by have e : (j2 : Int) = j := e; omega
                    have := at_pair hsd hp (by omega)
                    rw [e2, hjt, e3, ahead_irr] at this
                    cases this
                have hcj : w5.cell? ⟨sb, j, none⟩ = some (.bool false) := by rw [S5.cell hj, hGj, hns]; rfl
                have hsb2 := S5.sbl.2
                have hfz := S5.row.frozen j
                have HE : Hid (St W k sb (L.drop (q + 1)) (fun i => G i || seenB L (q + 1) i) (k * 1000 + 100 * 1000 + (q + 1) * 1000) (w5.setCell ⟨sb, j, none⟩ (.bool true))) :=
                  ((S5.set hj).congr rfl (fun i _ => by rw [seenB_succ hql, hjt, Bool.or_assoc]; rfl)).mono (by omega)
                have hthw : (th ds j).w = (j : Int) := rfl
                rw [hthw]
                have hj0 : (0 : Int) ≤ (j : Int) := by omega
                have hj1 : (j : Int) < (k : Int) := by omega
                have hge : decide ((k : Int) ≤ (j : Int)) = false := decide_eq_false (by omega)
                have hcv : IntKind.u64.wrap (k : Int) = (k : Int) := IntWalk.u64_in _ (by omega)
                have hadd : IntKind.i64.wrap ((q : Int) + 1) = (q : Int) + 1 := IntWalk.i64_in _ (by omega)
                have hgt : decide ((k : Int) < (q : Int) + 1) = false := decide_eq_false (by omega)
                clear S5 S
                go_wp2_with fail
                go_roundw
                case rel => exact ⟨q + 1, by simp, by omega, HE.out⟩
                case measure => simp [intOf]; omega
              · obtain rfl : q = L.length := by omega
                rw [List.drop_eq_nil_of_le (Nat.le_refl _)] at S
                have S := Lib.hid S
                go_wp2_with fail
                refine (st_pop_nil W k sb _ _ wr S.out 18446744073709551615).mono ?_
                rintro e w5 ⟨rfl, rfl⟩
                go_wp2_with fail
                go_loopw [16] (fun v wl => ∃ i : Nat, v = .int .i64 i ∧ i ≤ k ∧ wl = wr) (fun v _ => k - (intOf v).toNat)
                case atStart => exact ⟨0, rfl, Nat.zero_le _, rfl⟩
                case round =>
                  obtain ⟨i2, rfl, hi2, rfl⟩ := hrel
                  by_cases hik : i2 < k
                  · have hcj : wr.cell? ⟨sb, i2, none⟩ = some (.bool true) := by rw [S.out.cell hik, hall i2 hik]
                    have hsb2 := S.out.sbl.2
                    have hj0 : (0 : Int) ≤ (i2 : Int) := by omega
                    have hj1 : (i2 : Int) < (k : Int) := by omega
                    have hl1 : decide ((i2 : Int) < (k : Int)) = true := decide_eq_true (by omega)
                    have hadd : IntKind.i64.wrap ((i2 : Int) + 1) = (i2 : Int) + 1 := IntWalk.i64_in _ (by omega)
                    go_wp2_with fail
                    go_roundw
                    case rel => exact ⟨i2 + 1, by simp, by omega, trivial⟩
                    case measure => simp [intOf]; omega
                  · obtain rfl : i2 = k := by omega
                    have hl1 : decide ((i2 : Int) < (i2 : Int)) = false := decide_eq_false (by omega)
                    go_wp2_with fail
                    refine (awake_any wr).mono ?_
                    rintro e w6 ⟨rfl, b6⟩
                    have hbb := S.out.bel.trans (b6.mono S.out.bel.size)
                    clear S b6
                    go_wp2_with fail
                    go_ret
                    exact ⟨rfl, hbb⟩

end Go.Proofs.Ytfibgjgipadmkaa.Hp
