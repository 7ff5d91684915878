/- Sorting the row: partitionEqual. -/
import Derived.Test.YtfibgjgipadmkaaSa
namespace Go.Proofs.Ytfibgjgipadmkaa.Hp
set_option linter.unusedVariables false
set_option linter.unusedSimpArgs false
open Go.RowKit Go.Maps Go.ChangeMaps Go.Lib Go.Sort

theorem sup_go {p : Th → Bool} {d : Array Th} {j i : Nat} (h : i ≤ j) (h2 : p d[i]! = true) : scanUp p d j i = scanUp p d j (i + 1) := by
  rw [scanUp, if_pos (by simp [h, h2])]
theorem sup_stop {p : Th → Bool} {d : Array Th} {j i : Nat} (h : ¬ i ≤ j ∨ p d[i]! = false) : scanUp p d j i = i := by
  rw [scanUp, if_neg]
  intro hc
  simp only [Bool.and_eq_true, decide_eq_true_eq] at hc
  rcases h with h | h
  · exact h hc.1
  · rw [h] at hc; simp at hc
theorem sdn_go {p : Th → Bool} {d : Array Th} {j i : Nat} (h1 : 1 ≤ j) (h : i ≤ j) (h2 : p d[j]! = true) : scanDown p d i j = scanDown p d i (j - 1) := by
  obtain ⟨k, rfl⟩ : ∃ k, j = k + 1 := ⟨j - 1, by omega⟩
  rw [scanDown, if_pos (by simp [h, h2]), Nat.add_sub_cancel]
theorem sdn_stop {p : Th → Bool} {d : Array Th} {j i : Nat} (h : ¬ i ≤ j ∨ p d[j]! = false) : scanDown p d i j = j := by
  rcases j with _ | j
  · rfl
  · rw [scanDown, if_neg]
    intro hc
    simp only [Bool.and_eq_true, decide_eq_true_eq] at hc
    rcases h with h | h
    · exact h hc.1
    · rw [h] at hc; simp at hc
theorem peq_stop {d : Array Th} {a i j i2 j2 : Nat} (h1 : scanUp (fun x => !aheadB d[a]! x) d j i = i2) (h2 : scanDown (fun x => aheadB d[a]! x) d i2 j = j2) (h : j2 < i2) : partEqLoop aheadB a i j d = (i2, d) := by
  rw [partEqLoop]; simp only [h1, h2]; rw [if_pos h]
theorem peq_go {d : Array Th} {a i j i2 j2 : Nat} (h1 : scanUp (fun x => !aheadB d[a]! x) d j i = i2) (h2 : scanDown (fun x => aheadB d[a]! x) d i2 j = j2) (h : i2 ≤ j2) (hi : 1 ≤ i) (hi2 : i ≤ i2) (hj2 : j2 ≤ j) : partEqLoop aheadB a i j d = partEqLoop aheadB a (i2 + 1) (j2 - 1) (swp d i2 j2) := by
  rw [partEqLoop]; simp only [h1, h2]; rw [if_neg (by omega), dif_pos (by omega)]

set_option maxRecDepth 100000 in
set_option maxHeartbeats 4000000 in
theorem parteq_any {blk Bs N cap : Nat} {d : Array Th} {w : World} {sf : Nat} {sb : Array Value} (hsw : SwapSwapsK Try.prog sf sb cells 3 blk 0 N) (h : SH blk Bs N cap d w) (a b pv : Nat) (hab : a < b) (hb : b ≤ N) (hpv : pv < N) (hN : N ≤ 1000000000) :
    Calls Try.prog 53 #[lsV Bs sf sb, .int .i64 a, .int .i64 b, .int .i64 pv] w fun e w' => e = .returned (.int .i64 (partitionEqual aheadB d a b pv).1) ∧ SH blk Bs N cap (partitionEqual aheadB d a b pv).2 w' ∧ Fr (fun k => k = blk) w w' := by
  unfold lsV
  have h1 := WS.start h sf sb
  have hadd : IntKind.i64.wrap ((a : Int) + 1) = (a : Int) + 1 := IntWalk.i64_in _ (by omega)
  have hsub : IntKind.i64.wrap ((b : Int) - 1) = (b : Int) - 1 := IntWalk.i64_in _ (by omega)
  obtain ⟨E, hE⟩ : ∃ E, E = partitionEqual aheadB d a b pv := ⟨_, rfl⟩
  have hE2 : partEqLoop aheadB a (a + 1) (b - 1) (swp d a pv) = E := by rw [hE]; rfl
  rw [← hE]
  clear hE h
  have hbx := h1.lt
  have c1 := h1.c1
  obtain ⟨w2, hs, S2⟩ := h1.swap hsw a pv (by omega) hpv
  clear h1
  have S2 := Lib.hid S2
  go_enter Try.func53, Try.ntmps53
  go_wp2_with fail
  generalize w.heap.size = bx at S2 ⊢
  clear hs hbx c1 hadd hsub
  go_loopw [9, 10] (fun v9 v10 wr => ∃ (i j : Nat) (dk : Array Th), v9 = .int .i64 i ∧ v10 = .int .i64 j ∧ a < i ∧ a ≤ j ∧ j < N ∧ i ≤ j + 2 ∧ WS w blk Bs N cap bx sf sb dk wr ∧ partEqLoop aheadB a i j dk = E) (fun v9 v10 _ => (intOf v10 + 1 - intOf v9).toNat)
  case atStart => exact ⟨a + 1, b - 1, _, by simp, by congr 1; omega, by omega, by omega, by omega, by omega, S2.out, hE2⟩
  case round =>
    obtain ⟨i, j, dk, rfl, rfl, hai, haj, hjN, hij, S, hO⟩ := hrel
    have HO := Lib.hid hO
    clear hO S2 hE2
    have S := Lib.hid S
    go_wp2_with fail
    go_loopw [9] (fun v9 wr2 => ∃ i2 : Nat, v9 = .int .i64 i2 ∧ i ≤ i2 ∧ i2 ≤ j + 2 ∧ WS w blk Bs N cap bx sf sb dk wr2 ∧ scanUp (fun x => !aheadB dk[a]! x) dk j i2 = scanUp (fun x => !aheadB dk[a]! x) dk j i) (fun v9 _ => (j + 2 - intOf v9).toNat)
    case atStart => exact ⟨i, rfl, Nat.le_refl _, hij, S.out, rfl⟩
    case round =>
      clear S
      obtain ⟨i2, rfl, hi2, hi2j, S, hI⟩ := hrel
      have HI := Lib.hid hI
      clear hI
      have wi2 : IntKind.i64.wrap ((i2 : Int) + 1) = (i2 : Int) + 1 := IntWalk.i64_in _ (by omega)
      by_cases hij2 : i2 ≤ j
      · have d1 : decide ((i2 : Int) ≤ (j : Int)) = true := decide_eq_true (by omega)
        have c0 := S.c0
        have hbx := S.lt
        have hl := S.less a i2 (by omega) (by omega)
        have S := Lib.hid S
        go_wp2_with fail
        refine hl.mono ?_
        clear hl
        rintro e w3 ⟨rfl, S3⟩
        cases hk : aheadB dk[a]! dk[i2]! with
        | false =>
          have S3 := Lib.hid S3
          clear S c0 hbx
          go_wp2_with fail
          go_roundw
          case rel => exact ⟨i2 + 1, by simp, by omega, by omega, S3.out, by rw [← HI.out, sup_go hij2 (by simp only [hk]; rfl)]⟩
          case measure => simp [intOf]; omega
        | true =>
          have HU : Hid (scanUp (fun x => !aheadB dk[a]! x) dk j i = i2) := Lib.hid (by rw [← HI.out, sup_stop (.inr (by simp only [hk]; rfl))])
          have ST := Lib.hid S3
          clear S3 S c0 hbx d1 wi2
          go_wp2_with fail
          go_loopw [10] (fun v10 wr3 => ∃ j3 : Nat, v10 = .int .i64 j3 ∧ a ≤ j3 ∧ j3 ≤ j ∧ WS w blk Bs N cap bx sf sb dk wr3 ∧ scanDown (fun x => aheadB dk[a]! x) dk i2 j3 = scanDown (fun x => aheadB dk[a]! x) dk i2 j) (fun v10 _ => (intOf v10).toNat)
          case atStart => exact ⟨j, rfl, haj, Nat.le_refl _, ST.out, rfl⟩
          case round =>
            clear ST
            obtain ⟨j3, rfl, hj3, hj3j, S, hI⟩ := hrel
            have HJ := Lib.hid hI
            clear hI
            have wj : IntKind.i64.wrap ((j3 : Int) - 1) = (j3 : Int) - 1 := IntWalk.i64_in _ (by omega)
            have wi : IntKind.i64.wrap ((i2 : Int) + 1) = (i2 : Int) + 1 := IntWalk.i64_in _ (by omega)
            by_cases hle : i2 ≤ j3
            · have d1 : decide ((i2 : Int) ≤ (j3 : Int)) = true := decide_eq_true (by omega)
              have d2 : decide ((j3 : Int) < (i2 : Int)) = false := decide_eq_false (by omega)
              have c0 := S.c0
              have hbx := S.lt
              have hl := S.less a j3 (by omega) (by omega)
              have S := Lib.hid S
              go_wp2_with fail
              refine hl.mono ?_
              clear hl
              rintro e w4 ⟨rfl, S4⟩
              cases hk : aheadB dk[a]! dk[j3]! with
              | true =>
                have S4 := Lib.hid S4
                clear S c0 hbx
                go_wp2_with fail
                go_roundw
                case rel => exact ⟨j3 - 1, by congr 1; omega, by omega, by omega, S4.out, by rw [← HJ.out, sdn_go (by omega) hle hk]⟩
                case measure => simp [intOf]; omega
              | false =>
                have hD : scanDown (fun x => aheadB dk[a]! x) dk i2 j = j3 := by rw [← HJ.out, sdn_stop (.inr hk)]
                have HQ : Hid (partEqLoop aheadB a (i2 + 1) (j3 - 1) (swp dk i2 j3) = E) := Lib.hid (by rw [← HO.out, peq_go HU.out hD hle (by omega) hi2 hj3j])
                have c1 := S4.c1
                have hbx2 := S4.lt
                obtain ⟨w5, hs, S5⟩ := S4.swap hsw i2 j3 (by omega) (by omega)
                have S5 := Lib.hid S5
                clear S4 S c0 hbx hD
                go_wp2_with fail
                go_roundw
                case rel => exact ⟨i2 + 1, j3 - 1, _, by simp, by congr 1; omega, by omega, by omega, by omega, by omega, S5.out, HQ.out⟩
                case measure => simp [intOf]; omega
            · have d1 : decide ((i2 : Int) ≤ (j3 : Int)) = false := decide_eq_false (by omega)
              have d2 : decide ((j3 : Int) < (i2 : Int)) = true := decide_eq_true (by omega)
              have hD : scanDown (fun x => aheadB dk[a]! x) dk i2 j = j3 := by rw [← HJ.out, sdn_stop (.inl hle)]
              have HQ : Hid (E = (i2, dk)) := Lib.hid (by rw [← HO.out, peq_stop HU.out hD (by omega)])
              have S := Lib.hid S
              clear hD
              go_wp2_with fail
              go_ret
              rw [HQ.out]
              exact ⟨rfl, S.out.sh, S.out.fr⟩
      · have d1 : decide ((i2 : Int) ≤ (j : Int)) = false := decide_eq_false (by omega)
        have HU : Hid (scanUp (fun x => !aheadB dk[a]! x) dk j i = i2) := Lib.hid (by rw [← HI.out, sup_stop (.inl hij2)])
        have ST := Lib.hid S
        clear S wi2
        go_wp2_with fail
        go_loopw [10] (fun v10 wr3 => ∃ j3 : Nat, v10 = .int .i64 j3 ∧ a ≤ j3 ∧ j3 ≤ j ∧ WS w blk Bs N cap bx sf sb dk wr3 ∧ scanDown (fun x => aheadB dk[a]! x) dk i2 j3 = scanDown (fun x => aheadB dk[a]! x) dk i2 j) (fun v10 _ => (intOf v10).toNat)
        case atStart => exact ⟨j, rfl, haj, Nat.le_refl _, ST.out, rfl⟩
        case round =>
          clear ST
          obtain ⟨j3, rfl, hj3, hj3j, S, hI⟩ := hrel
          have HJ := Lib.hid hI
          clear hI
          have wj : IntKind.i64.wrap ((j3 : Int) - 1) = (j3 : Int) - 1 := IntWalk.i64_in _ (by omega)
          have wi : IntKind.i64.wrap ((i2 : Int) + 1) = (i2 : Int) + 1 := IntWalk.i64_in _ (by omega)
          by_cases hle : i2 ≤ j3
          · exfalso; omega
          · have d1 : decide ((i2 : Int) ≤ (j3 : Int)) = false := decide_eq_false (by omega)
            have d2 : decide ((j3 : Int) < (i2 : Int)) = true := decide_eq_true (by omega)
            have hD : scanDown (fun x => aheadB dk[a]! x) dk i2 j = j3 := by rw [← HJ.out, sdn_stop (.inl hle)]
            have HQ : Hid (E = (i2, dk)) := Lib.hid (by rw [← HO.out, peq_stop HU.out hD (by omega)])
            have S := Lib.hid S
            clear hD
            go_wp2_with fail
            go_ret
            rw [HQ.out]
            exact ⟨rfl, S.out.sh, S.out.fr⟩

end Go.Proofs.Ytfibgjgipadmkaa.Hp
