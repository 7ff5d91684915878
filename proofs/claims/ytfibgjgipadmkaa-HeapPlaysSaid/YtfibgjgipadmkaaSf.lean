/- Sorting the row: partialInsertionSort. -/
import Derived.Test.YtfibgjgipadmkaaSe
namespace Go.Proofs.Ytfibgjgipadmkaa.Hp
set_option linter.unusedVariables false
set_option linter.unusedSimpArgs false
open Go.RowKit Go.Maps Go.ChangeMaps Go.Lib Go.Sort

theorem scan_go {d : Array Th} {b i : Nat} (h : i < b) (h2 : aheadB d[i]! d[i - 1]! = false) : scanSorted aheadB d b i = scanSorted aheadB d b (i + 1) := by
  rw [scanSorted, if_pos (by simp [h, h2])]
theorem scan_stop {d : Array Th} {b i : Nat} (h : ¬ i < b ∨ aheadB d[i]! d[i - 1]! = true) : scanSorted aheadB d b i = i := by
  rw [scanSorted, if_neg]
  intro hc
  simp only [Bool.and_eq_true, decide_eq_true_eq, Bool.not_eq_true'] at hc
  rcases h with h | h
  · exact h hc.1
  · rw [h] at hc; simp at hc
theorem down_go {d : Array Th} {j : Nat} (h : 1 ≤ j) (h2 : aheadB d[j]! d[j - 1]! = true) : shiftDown aheadB j d = shiftDown aheadB (j - 1) (swp d j (j - 1)) := by
  obtain ⟨k, rfl⟩ : ∃ k, j = k + 1 := ⟨j - 1, by omega⟩
  rw [Nat.add_sub_cancel] at h2 ⊢
  rw [shiftDown, if_neg (by rw [h2]; simp)]
theorem down_stop {d : Array Th} {j : Nat} (h : j = 0 ∨ aheadB d[j]! d[j - 1]! = false) : shiftDown aheadB j d = d := by
  rcases j with _ | j
  · rfl
  · rcases h with h | h
    · omega
    · rw [Nat.add_sub_cancel] at h
      rw [shiftDown, if_pos (by rw [h]; simp)]
theorem upw_go {d : Array Th} {b j : Nat} (h : j < b) (h2 : aheadB d[j]! d[j - 1]! = true) : shiftUp aheadB b j d = shiftUp aheadB b (j + 1) (swp d j (j - 1)) := by
  rw [shiftUp, if_pos h, if_neg (by rw [h2]; simp)]
theorem upw_stop {d : Array Th} {b j : Nat} (h : ¬ j < b ∨ aheadB d[j]! d[j - 1]! = false) : shiftUp aheadB b j d = d := by
  rw [shiftUp]
  split
  · next hb =>
    rcases h with h | h
    · exact absurd hb h
    · rw [if_pos (by rw [h]; simp)]
  · rfl

set_option maxRecDepth 100000 in
set_option maxHeartbeats 4000000 in
theorem partial_any {blk Bs N cap : Nat} {d : Array Th} {w : World} {sf : Nat} {sb : Array Value} (hsw : SwapSwapsK Try.prog sf sb cells 3 blk 0 N) (h : SH blk Bs N cap d w) (a b : Nat) (hab : a < b) (hb : b ≤ N) (hN : N ≤ 1000000000) :
    Calls Try.prog 52 #[lsV Bs sf sb, .int .i64 a, .int .i64 b] w fun e w' => e = .returned (.bool (partialInsertionSort aheadB d a b).2) ∧ SH blk Bs N cap (partialInsertionSort aheadB d a b).1 w' ∧ Fr (fun k => k = blk) w w' := by
  unfold lsV
  have h1 := Lib.hid (WS.start h sf sb)
  have hadd : IntKind.i64.wrap ((a : Int) + 1) = (a : Int) + 1 := IntWalk.i64_in _ (by omega)
  clear h
  obtain ⟨E, hE⟩ : ∃ E, E = partialInsertionSort aheadB d a b := ⟨_, rfl⟩
  have hE2 : partialIns aheadB a b 5 (a + 1) d = E := by rw [hE]; rfl
  rw [← hE]
  clear hE
  go_enter Try.func52, Try.ntmps52
  go_wp2_with fail
  generalize w.heap.size = bx at h1 ⊢
  generalize w.alloc _ = w1 at h1 ⊢
  go_loopw [7, 8] (fun v7 v8 wr => ∃ (t s i : Nat) (dk : Array Th), v7 = .int .i64 i ∧ v8 = .int .i64 t ∧ t + s = 5 ∧ a < i ∧ i ≤ b ∧ WS w blk Bs N cap bx sf sb dk wr ∧ partialIns aheadB a b s i dk = E) (fun _ v8 _ => (5 - intOf v8).toNat)
  case atStart => exact ⟨0, 5, a + 1, d, by simp, by simp, by omega, by omega, by omega, h1.out, hE2⟩
  case round =>
    obtain ⟨t, s, i, dk, rfl, rfl, hts, hai, hib, S, hO⟩ := hrel
    have HO := Lib.hid hO
    clear hO h1 hadd hE2
    have S := Lib.hid S
    rcases s with _ | s
    · have hd : decide ((t : Int) < 5) = false := decide_eq_false (by omega)
      go_wp2_with fail
      go_ret
      have e : E = (dk, false) := by rw [← HO.out]; rfl
      rw [e]
      exact ⟨rfl, S.out.sh, S.out.fr⟩
    · have hd : decide ((t : Int) < 5) = true := decide_eq_true (by omega)
      go_wp2_with fail
      go_loopw [7] (fun v7 wr2 => ∃ (i2 : Nat), v7 = .int .i64 i2 ∧ i ≤ i2 ∧ i2 ≤ b ∧ WS w blk Bs N cap bx sf sb dk wr2 ∧ scanSorted aheadB dk b i2 = scanSorted aheadB dk b i) (fun v7 _ => b - (intOf v7).toNat)
      case atStart => exact ⟨i, rfl, Nat.le_refl _, hib, S.out, rfl⟩
      case round =>
        clear S
        obtain ⟨i2, rfl, hi2, hi2b, S, hI⟩ := hrel
        have HI := Lib.hid hI
        clear hI
        have c0 := S.c0
        have hbx := S.lt
        have wi : IntKind.i64.wrap ((i2 : Int) - 1) = (i2 : Int) - 1 := IntWalk.i64_in _ (by omega)
        have wi2 : IntKind.i64.wrap ((i2 : Int) + 1) = (i2 : Int) + 1 := IntWalk.i64_in _ (by omega)
        have wt : IntKind.i64.wrap ((t : Int) + 1) = (t : Int) + 1 := IntWalk.i64_in _ (by omega)
        have wba : IntKind.i64.wrap ((b : Int) - (a : Int)) = (b : Int) - (a : Int) := IntWalk.i64_in _ (by omega)
        have wia : IntKind.i64.wrap ((i2 : Int) - (a : Int)) = (i2 : Int) - (a : Int) := IntWalk.i64_in _ (by omega)
        have wbi : IntKind.i64.wrap ((b : Int) - (i2 : Int)) = (b : Int) - (i2 : Int) := IntWalk.i64_in _ (by omega)
        by_cases hlt : i2 < b
        · have d1 : decide ((i2 : Int) < (b : Int)) = true := decide_eq_true (by omega)
          have hls := S.less i2 (i2 - 1) (by omega) (by omega)
          rw [show (((i2 - 1 : Nat) : Int)) = (i2 : Int) - 1 by omega] at hls
          have S := Lib.hid S
          go_wp2_with fail
          refine hls.mono ?_
          clear hls
          rintro e w3 ⟨rfl, S3⟩
          cases h3 : aheadB dk[i2]! dk[i2 - 1]! with
          | false =>
            have S3 := Lib.hid S3
            clear S c0 hbx
            go_wp2_with fail
            go_roundw
            case rel => exact ⟨i2 + 1, by simp, by omega, by omega, S3.out, by rw [← HI.out, scan_go hlt h3]⟩
            case measure => simp [intOf]; omega
          | true =>
            have hsc : scanSorted aheadB dk b i = i2 := by rw [← HI.out, scan_stop (.inr h3)]
            have hne : ((i2 : Int) == (b : Int)) = false := beq_false_of_ne (by omega)
            by_cases h50 : b - a < 50
            · have d2 : decide ((b : Int) - (a : Int) < 50) = true := decide_eq_true (by omega)
              have HE : Hid (E = (dk, false)) := Lib.hid (by rw [← HO.out, partialIns]; simp only [hsc]; rw [if_neg (by omega), if_pos h50])
              have S3 := Lib.hid S3
              clear S c0 hbx
              go_wp2_with fail
              go_ret
              rw [HE.out]
              exact ⟨rfl, S3.out.sh, S3.out.fr⟩
            · have d2 : decide ((b : Int) - (a : Int) < 50) = false := decide_eq_false (by omega)
              have c1 := S3.c1
              have hbx3 := S3.lt
              obtain ⟨w4, hs4, S4⟩ := S3.swap hsw i2 (i2 - 1) (by omega) (by omega)
              rw [show (((i2 - 1 : Nat) : Int)) = (i2 : Int) - 1 by omega] at hs4
              have HE : Hid (partialIns aheadB a b s i2 (if 2 ≤ b - i2 then shiftUp aheadB b (i2 + 1) (if 2 ≤ i2 - a then shiftDown aheadB (i2 - 1) (swp dk i2 (i2 - 1)) else swp dk i2 (i2 - 1)) else (if 2 ≤ i2 - a then shiftDown aheadB (i2 - 1) (swp dk i2 (i2 - 1)) else swp dk i2 (i2 - 1))) = E) := Lib.hid (by
                rw [← HO.out, partialIns]; simp only [hsc]; rw [if_neg (show ¬ i2 = b by omega), if_neg h50])
              by_cases h2a : 2 ≤ i2 - a
              · have d3 : decide ((2 : Int) ≤ (i2 : Int) - (a : Int)) = true := decide_eq_true (by omega)
                have hE1 := HE.out
                rw [if_pos h2a] at hE1
                have HE1 := Lib.hid hE1
                clear hE1 HE
                have S4 := Lib.hid S4
                clear S3 S c0 hbx HO HI
                go_wp2_with fail
                go_loopw [9] (fun v wq => ∃ (j : Nat) (dj : Array Th), v = .int .i64 j ∧ j < i2 ∧ WS w blk Bs N cap bx sf sb dj wq ∧ partialIns aheadB a b s i2 (if 2 ≤ b - i2 then shiftUp aheadB b (i2 + 1) (shiftDown aheadB j dj) else shiftDown aheadB j dj) = E) (fun v _ => (intOf v).toNat)
                case atStart => exact ⟨i2 - 1, _, by congr 1; omega, by omega, S4.out, HE1.out⟩
                case round =>
                  clear S4 HE1
                  obtain ⟨j, dj, rfl, hj1, SJ, hJ⟩ := hrel
                  have HJ := Lib.hid hJ
                  clear hJ
                  have c0 := SJ.c0
                  have hbx := SJ.lt
                  have wj : IntKind.i64.wrap ((j : Int) - 1) = (j : Int) - 1 := IntWalk.i64_in _ (by omega)
                  by_cases hjb : 1 ≤ j
                  · have d5 : decide ((1 : Int) ≤ (j : Int)) = true := decide_eq_true (by omega)
                    have hl := SJ.less j (j - 1) (by omega) (by omega)
                    rw [show (((j - 1 : Nat) : Int)) = (j : Int) - 1 by omega] at hl
                    have SJ := Lib.hid SJ
                    go_wp2_with fail
                    refine hl.mono ?_
                    clear hl
                    rintro e w10 ⟨rfl, SK⟩
                    cases hk : aheadB dj[j]! dj[j - 1]! with
                    | true =>
                      have c1 := SK.c1
                      have hbx2 := SK.lt
                      obtain ⟨w11, hs2, SL⟩ := SK.swap hsw j (j - 1) (by omega) (by omega)
                      rw [show (((j - 1 : Nat) : Int)) = (j : Int) - 1 by omega] at hs2
                      have SL := Lib.hid SL
                      clear SK SJ c0 hbx
                      go_wp2_with fail
                      go_roundw
                      case rel => exact ⟨j - 1, _, by congr 1; omega, by omega, SL.out, by rw [← HJ.out, down_go hjb hk]⟩
                      case measure => simp [intOf]; omega
                    | false =>
                      have HT := Lib.hid SK
                      have HD : Hid (partialIns aheadB a b s i2 (if 2 ≤ b - i2 then shiftUp aheadB b (i2 + 1) dj else dj) = E) := Lib.hid (by rw [← HJ.out, down_stop (.inr hk)])
                      clear SK SJ c0 hbx
                      by_cases hu : 2 ≤ b - i2
                      · have d4 : decide ((2 : Int) ≤ (b : Int) - (i2 : Int)) = true := decide_eq_true (by omega)
                        go_wp2_with fail
                        have hE1 := HD.out
                        rw [if_pos hu] at hE1
                        have HD1 := Lib.hid hE1
                        clear hE1
                        go_loopw [10] (fun v wq => ∃ (j : Nat) (dj : Array Th), v = .int .i64 j ∧ i2 < j ∧ j ≤ b ∧ WS w blk Bs N cap bx sf sb dj wq ∧ partialIns aheadB a b s i2 (shiftUp aheadB b j dj) = E) (fun v _ => b - (intOf v).toNat)
                        case atStart => exact ⟨i2 + 1, _, by simp, by omega, by omega, HT.out, HD1.out⟩
                        case round =>
                          clear HT HD HD1
                          obtain ⟨j, dj, rfl, hj1, hj2, SJ, hJ⟩ := hrel
                          have HJ := Lib.hid hJ
                          clear hJ
                          have c0 := SJ.c0
                          have hbx := SJ.lt
                          have wj : IntKind.i64.wrap ((j : Int) - 1) = (j : Int) - 1 := IntWalk.i64_in _ (by omega)
                          have wj2 : IntKind.i64.wrap ((j : Int) + 1) = (j : Int) + 1 := IntWalk.i64_in _ (by omega)
                          by_cases hjb : j < b
                          · have d5 : decide ((j : Int) < (b : Int)) = true := decide_eq_true (by omega)
                            have hl := SJ.less j (j - 1) (by omega) (by omega)
                            rw [show (((j - 1 : Nat) : Int)) = (j : Int) - 1 by omega] at hl
                            have SJ := Lib.hid SJ
                            go_wp2_with fail
                            refine hl.mono ?_
                            clear hl
                            rintro e w10 ⟨rfl, SK⟩
                            cases hk : aheadB dj[j]! dj[j - 1]! with
                            | true =>
                              have c1 := SK.c1
                              have hbx2 := SK.lt
                              obtain ⟨w11, hs2, SL⟩ := SK.swap hsw j (j - 1) (by omega) (by omega)
                              rw [show (((j - 1 : Nat) : Int)) = (j : Int) - 1 by omega] at hs2
                              have SL := Lib.hid SL
                              clear SK SJ c0 hbx
                              go_wp2_with fail
                              go_roundw
                              case rel => exact ⟨j + 1, _, by simp, by omega, by omega, SL.out, by rw [← HJ.out, upw_go hjb hk]⟩
                              case measure => simp [intOf]; omega
                            | false =>
                              have HT := Lib.hid SK
                              have HQ : Hid (partialIns aheadB a b s i2 dj = E) := Lib.hid (by rw [← HJ.out, upw_stop (.inr hk)])
                              clear SK SJ c0 hbx
                              go_wp2_with fail
                              go_roundw
                              case rel => exact ⟨t + 1, s, i2, _, rfl, by simp, by omega, by omega, by omega, HT.out, HQ.out⟩
                              case measure => simp [intOf]; omega
                          · have d5 : decide ((j : Int) < (b : Int)) = false := decide_eq_false (by omega)
                            have HT := Lib.hid SJ
                            have HQ : Hid (partialIns aheadB a b s i2 dj = E) := Lib.hid (by rw [← HJ.out, upw_stop (.inl hjb)])
                            clear SJ c0 hbx
                            go_wp2_with fail
                            go_roundw
                            case rel => exact ⟨t + 1, s, i2, _, rfl, by simp, by omega, by omega, by omega, HT.out, HQ.out⟩
                            case measure => simp [intOf]; omega
                      · have d4 : decide ((2 : Int) ≤ (b : Int) - (i2 : Int)) = false := decide_eq_false (by omega)
                        have hE1 := HD.out
                        rw [if_neg hu] at hE1
                        have HQ := Lib.hid hE1
                        clear hE1 HD
                        go_wp2_with fail
                        go_roundw
                        case rel => exact ⟨t + 1, s, i2, _, rfl, by simp, by omega, by omega, by omega, HT.out, HQ.out⟩
                        case measure => simp [intOf]; omega
                  · have d5 : decide ((1 : Int) ≤ (j : Int)) = false := decide_eq_false (by omega)
                    have HT := Lib.hid SJ
                    have HD : Hid (partialIns aheadB a b s i2 (if 2 ≤ b - i2 then shiftUp aheadB b (i2 + 1) dj else dj) = E) := Lib.hid (by rw [← HJ.out, down_stop (.inl (by omega))])
                    clear SJ c0 hbx
                    by_cases hu : 2 ≤ b - i2
                    · have d4 : decide ((2 : Int) ≤ (b : Int) - (i2 : Int)) = true := decide_eq_true (by omega)
                      go_wp2_with fail
                      have hE1 := HD.out
                      rw [if_pos hu] at hE1
                      have HD1 := Lib.hid hE1
                      clear hE1
                      go_loopw [10] (fun v wq => ∃ (j : Nat) (dj : Array Th), v = .int .i64 j ∧ i2 < j ∧ j ≤ b ∧ WS w blk Bs N cap bx sf sb dj wq ∧ partialIns aheadB a b s i2 (shiftUp aheadB b j dj) = E) (fun v _ => b - (intOf v).toNat)
                      case atStart => exact ⟨i2 + 1, _, by simp, by omega, by omega, HT.out, HD1.out⟩
                      case round =>
                        clear HT HD HD1
                        obtain ⟨j, dj, rfl, hj1, hj2, SJ, hJ⟩ := hrel
                        have HJ := Lib.hid hJ
                        clear hJ
                        have c0 := SJ.c0
                        have hbx := SJ.lt
                        have wj : IntKind.i64.wrap ((j : Int) - 1) = (j : Int) - 1 := IntWalk.i64_in _ (by omega)
                        have wj2 : IntKind.i64.wrap ((j : Int) + 1) = (j : Int) + 1 := IntWalk.i64_in _ (by omega)
                        by_cases hjb : j < b
                        · have d5 : decide ((j : Int) < (b : Int)) = true := decide_eq_true (by omega)
                          have hl := SJ.less j (j - 1) (by omega) (by omega)
                          rw [show (((j - 1 : Nat) : Int)) = (j : Int) - 1 by omega] at hl
                          have SJ := Lib.hid SJ
                          go_wp2_with fail
                          refine hl.mono ?_
                          clear hl
                          rintro e w10 ⟨rfl, SK⟩
                          cases hk : aheadB dj[j]! dj[j - 1]! with
                          | true =>
                            have c1 := SK.c1
                            have hbx2 := SK.lt
                            obtain ⟨w11, hs2, SL⟩ := SK.swap hsw j (j - 1) (by omega) (by omega)
                            rw [show (((j - 1 : Nat) : Int)) = (j : Int) - 1 by omega] at hs2
                            have SL := Lib.hid SL
                            clear SK SJ c0 hbx
                            go_wp2_with fail
                            go_roundw
                            case rel => exact ⟨j + 1, _, by simp, by omega, by omega, SL.out, by rw [← HJ.out, upw_go hjb hk]⟩
                            case measure => simp [intOf]; omega
                          | false =>
                            have HT := Lib.hid SK
                            have HQ : Hid (partialIns aheadB a b s i2 dj = E) := Lib.hid (by rw [← HJ.out, upw_stop (.inr hk)])
                            clear SK SJ c0 hbx
                            go_wp2_with fail
                            go_roundw
                            case rel => exact ⟨t + 1, s, i2, _, rfl, by simp, by omega, by omega, by omega, HT.out, HQ.out⟩
                            case measure => simp [intOf]; omega
                        · have d5 : decide ((j : Int) < (b : Int)) = false := decide_eq_false (by omega)
                          have HT := Lib.hid SJ
                          have HQ : Hid (partialIns aheadB a b s i2 dj = E) := Lib.hid (by rw [← HJ.out, upw_stop (.inl hjb)])
                          clear SJ c0 hbx
                          go_wp2_with fail
                          go_roundw
                          case rel => exact ⟨t + 1, s, i2, _, rfl, by simp, by omega, by omega, by omega, HT.out, HQ.out⟩
                          case measure => simp [intOf]; omega
                    · have d4 : decide ((2 : Int) ≤ (b : Int) - (i2 : Int)) = false := decide_eq_false (by omega)
                      have hE1 := HD.out
                      rw [if_neg hu] at hE1
                      have HQ := Lib.hid hE1
                      clear hE1 HD
                      go_wp2_with fail
                      go_roundw
                      case rel => exact ⟨t + 1, s, i2, _, rfl, by simp, by omega, by omega, by omega, HT.out, HQ.out⟩
                      case measure => simp [intOf]; omega
              · have d3 : decide ((2 : Int) ≤ (i2 : Int) - (a : Int)) = false := decide_eq_false (by omega)
                have hE1 := HE.out
                rw [if_neg h2a] at hE1
                have HD := Lib.hid hE1
                have HT := Lib.hid S4
                clear hE1 HE S4 S3 S c0 hbx HO HI
                by_cases hu : 2 ≤ b - i2
                · have d4 : decide ((2 : Int) ≤ (b : Int) - (i2 : Int)) = true := decide_eq_true (by omega)
                  go_wp2_with fail
                  have hE1 := HD.out
                  rw [if_pos hu] at hE1
                  have HD1 := Lib.hid hE1
                  clear hE1
                  go_loopw [10] (fun v wq => ∃ (j : Nat) (dj : Array Th), v = .int .i64 j ∧ i2 < j ∧ j ≤ b ∧ WS w blk Bs N cap bx sf sb dj wq ∧ partialIns aheadB a b s i2 (shiftUp aheadB b j dj) = E) (fun v _ => b - (intOf v).toNat)
                  case atStart => exact ⟨i2 + 1, _, by simp, by omega, by omega, HT.out, HD1.out⟩
                  case round =>
                    clear HT HD HD1
                    obtain ⟨j, dj, rfl, hj1, hj2, SJ, hJ⟩ := hrel
                    have HJ := Lib.hid hJ
                    clear hJ
                    have c0 := SJ.c0
                    have hbx := SJ.lt
                    have wj : IntKind.i64.wrap ((j : Int) - 1) = (j : Int) - 1 := IntWalk.i64_in _ (by omega)
                    have wj2 : IntKind.i64.wrap ((j : Int) + 1) = (j : Int) + 1 := IntWalk.i64_in _ (by omega)
                    by_cases hjb : j < b
                    · have d5 : decide ((j : Int) < (b : Int)) = true := decide_eq_true (by omega)
                      have hl := SJ.less j (j - 1) (by omega) (by omega)
                      rw [show (((j - 1 : Nat) : Int)) = (j : Int) - 1 by omega] at hl
                      have SJ := Lib.hid SJ
                      go_wp2_with fail
                      refine hl.mono ?_
                      clear hl
                      rintro e w10 ⟨rfl, SK⟩
                      cases hk : aheadB dj[j]! dj[j - 1]! with
                      | true =>
                        have c1 := SK.c1
                        have hbx2 := SK.lt
                        obtain ⟨w11, hs2, SL⟩ := SK.swap hsw j (j - 1) (by omega) (by omega)
                        rw [show (((j - 1 : Nat) : Int)) = (j : Int) - 1 by omega] at hs2
                        have SL := Lib.hid SL
                        clear SK SJ c0 hbx
                        go_wp2_with fail
                        go_roundw
                        case rel => exact ⟨j + 1, _, by simp, by omega, by omega, SL.out, by rw [← HJ.out, upw_go hjb hk]⟩
                        case measure => simp [intOf]; omega
                      | false =>
                        have HT := Lib.hid SK
                        have HQ : Hid (partialIns aheadB a b s i2 dj = E) := Lib.hid (by rw [← HJ.out, upw_stop (.inr hk)])
                        clear SK SJ c0 hbx
                        go_wp2_with fail
                        go_roundw
                        case rel => exact ⟨t + 1, s, i2, _, rfl, by simp, by omega, by omega, by omega, HT.out, HQ.out⟩
                        case measure => simp [intOf]; omega
                    · have d5 : decide ((j : Int) < (b : Int)) = false := decide_eq_false (by omega)
                      have HT := Lib.hid SJ
                      have HQ : Hid (partialIns aheadB a b s i2 dj = E) := Lib.hid (by rw [← HJ.out, upw_stop (.inl hjb)])
                      clear SJ c0 hbx
                      go_wp2_with fail
                      go_roundw
                      case rel => exact ⟨t + 1, s, i2, _, rfl, by simp, by omega, by omega, by omega, HT.out, HQ.out⟩
                      case measure => simp [intOf]; omega
                · exfalso; omega
        · have d1 : decide ((i2 : Int) < (b : Int)) = false := decide_eq_false (by omega)
          obtain rfl : i2 = b := by omega
          have HE : Hid (E = (dk, true)) := Lib.hid (by
            have hsc : scanSorted aheadB dk i2 i = i2 := by rw [← HI.out, scan_stop (.inl hlt)]
            rw [← HO.out, partialIns]; simp only [hsc]; rw [if_pos trivial])
          have S := Lib.hid S
          go_wp2_with fail
          go_ret
          rw [HE.out]
          exact ⟨rfl, S.out.sh, S.out.fr⟩

end Go.Proofs.Ytfibgjgipadmkaa.Hp
