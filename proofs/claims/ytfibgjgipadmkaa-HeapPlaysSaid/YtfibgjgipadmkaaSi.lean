/- Sorting the row: partition. -/
import Derived.Test.YtfibgjgipadmkaaSa
import Derived.Sort.WalkC4
namespace Go.Proofs.Ytfibgjgipadmkaa.Hp
set_option linter.unusedVariables false
set_option linter.unusedSimpArgs false
open Go.RowKit Go.Maps Go.ChangeMaps Go.Lib Go.Sort

set_option maxRecDepth 100000 in
set_option maxHeartbeats 8000000 in
theorem partition_any {blk Bs N cap : Nat} {d : Array Th} {w : World} {sf : Nat} {sb : Array Value} (hsw : SwapSwapsK Try.prog sf sb cells 3 blk 0 N) (h : SH blk Bs N cap d w) (a b pv : Nat) (hap : a ≤ pv) (hpb : pv < b) (hb : b ≤ N) (hN : N ≤ 1000000000) :
    Calls Try.prog 54 #[lsV Bs sf sb, .int .i64 a, .int .i64 b, .int .i64 pv] w fun e w' => e = .returned (.tuple #[.int .i64 (partition aheadB d a b pv).1, .bool (partition aheadB d a b pv).2.1]) ∧ SH blk Bs N cap (partition aheadB d a b pv).2.2 w' ∧ Fr (fun k => k = blk) w w' := by
  unfold lsV
  have h1 := WS.start h sf sb
  have hadd : IntKind.i64.wrap ((a : Int) + 1) = (a : Int) + 1 := IntWalk.i64_in _ (by omega)
  have hsub : IntKind.i64.wrap ((b : Int) - 1) = (b : Int) - 1 := IntWalk.i64_in _ (by omega)
  clear h
  have hbx := h1.lt
  have c1 := h1.c1
  obtain ⟨w2, hs, S2⟩ := h1.swap hsw a pv (by omega) (by omega)
  clear h1
  obtain ⟨i, hi⟩ : ∃ i : Nat, i = a + 1 := ⟨_, rfl⟩
  obtain ⟨j, hj⟩ : ∃ j : Nat, j = b - 1 := ⟨_, rfl⟩
  obtain ⟨dk, hdk⟩ : ∃ dk : Array Th, dk = swp d a pv := ⟨_, rfl⟩
  rw [← hdk] at S2
  have S0 := Lib.hid S2
  clear S2
  have hai : a < i := by omega
  have hij : i ≤ j + 1 := by omega
  have hjb : j < b := by omega
  have Hi := Lib.hid hi
  have Hj := Lib.hid hj
  have Hdk := Lib.hid hdk
  clear hi hj hdk
  go_enter Try.func54, Try.ntmps54
  go_wp2_with fail
  generalize w.heap.size = bx at S0 ⊢
  rw [show ((a : Int) + 1) = (i : Int) by have := Hi.out; omega, show ((b : Int) - 1) = (j : Int) by have := Hj.out; omega]
  clear hs hbx c1 hadd hsub
  go_loopw [10] (fun v10 wr2 => ∃ i2 : Nat, v10 = .int .i64 i2 ∧ i ≤ i2 ∧ i2 ≤ j + 1 ∧ WS w blk Bs N cap bx sf sb dk wr2 ∧ scanUp (fun x => aheadB x dk[a]!) dk j i2 = scanUp (fun x => aheadB x dk[a]!) dk j i) (fun v10 _ => (j + 1 - intOf v10).toNat)
  case atStart => exact ⟨i, rfl, Nat.le_refl _, by omega, S0.out, rfl⟩
  case round =>
    clear S0
    obtain ⟨i2, rfl, hi2, hi2j, S, hI⟩ := hrel
    have HI := Lib.hid hI
    clear hI
    have wi2 : IntKind.i64.wrap ((i2 : Int) + 1) = (i2 : Int) + 1 := IntWalk.i64_in _ (by omega)
    by_cases hij2 : i2 ≤ j
    · have d1 : decide ((i2 : Int) ≤ (j : Int)) = true := decide_eq_true (by omega)
      have c0 := S.c0
      have hbx := S.lt
      have hl := S.less i2 a (by omega) (by omega)
      have S := Lib.hid S
      go_wp2_with fail
      refine hl.mono ?_
      clear hl
      rintro e w3 ⟨rfl, S3⟩
      cases hk : aheadB dk[i2]! dk[a]! with
      | true =>
        have S3 := Lib.hid S3
        clear S c0 hbx
        go_wp2_with fail
        go_roundw
        case rel => exact ⟨i2 + 1, by simp, by omega, by omega, S3.out, by rw [← HI.out, scanUp_go (fun x => aheadB x dk[a]!) dk j i2 hij2 (by simp [hk])]⟩
        case measure => simp [intOf]; omega
      | false =>
        have HU : Hid (i2 = scanUp (fun x => aheadB x dk[a]!) dk j i) := Lib.hid (by rw [← HI.out, scanUp_end (fun x => aheadB x dk[a]!) dk j i2 (.inr (by simp [hk]))])
        have ST := Lib.hid S3
        clear S3 S c0 hbx d1 wi2
        go_wp2_with fail
        go_loopw [11] (fun v11 wr3 => ∃ j3 : Nat, v11 = .int .i64 j3 ∧ a ≤ j3 ∧ j3 ≤ j ∧ i2 ≤ j3 + 1 ∧ WS w blk Bs N cap bx sf sb dk wr3 ∧ scanDown (fun x => !aheadB x dk[a]!) dk i2 j3 = scanDown (fun x => !aheadB x dk[a]!) dk i2 j) (fun v11 _ => (intOf v11).toNat)
        case atStart => exact ⟨j, rfl, by omega, Nat.le_refl _, by omega, ST.out, rfl⟩
        case round =>
          clear ST
          obtain ⟨j3, rfl, hj3, hj3j, hij3, S, hI⟩ := hrel
          have HJ := Lib.hid hI
          clear hI
          have wj : IntKind.i64.wrap ((j3 : Int) - 1) = (j3 : Int) - 1 := IntWalk.i64_in _ (by omega)
          have wi : IntKind.i64.wrap ((i2 : Int) + 1) = (i2 : Int) + 1 := IntWalk.i64_in _ (by omega)
          by_cases hle : i2 ≤ j3
          · have d1 : decide ((i2 : Int) ≤ (j3 : Int)) = true := decide_eq_true (by omega)
            have d2 : decide ((j3 : Int) < (i2 : Int)) = false := decide_eq_false (by omega)
            have d2n : decide (j3 < i2) = false := decide_eq_false (by omega)
            have c0 := S.c0
            have hbx := S.lt
            have hl := S.less j3 a (by omega) (by omega)
            have S := Lib.hid S
            go_wp2_with fail
            refine hl.mono ?_
            clear hl
            rintro e w4 ⟨rfl, S4⟩
            cases hk : aheadB dk[j3]! dk[a]! with
            | false =>
              have S4 := Lib.hid S4
              clear S c0 hbx
              go_wp2_with fail
              go_roundw
              case rel => exact ⟨j3 - 1, by congr 1; omega, by omega, by omega, by omega, S4.out, by rw [← HJ.out, scanDown_go (fun x => !aheadB x dk[a]!) dk i2 j3 hle (by omega) (by simp [hk])]⟩
              case measure => simp [intOf]; omega
            | true =>
              have HD : Hid (j3 = scanDown (fun x => !aheadB x dk[a]!) dk i2 j) := Lib.hid (by rw [← HJ.out, scanDown_end (fun x => !aheadB x dk[a]!) dk i2 j3 (.inr (by simp [hk]))])
              have hlt3 := part_scans_lt aheadB a i j dk (by omega) HU.out HD.out hle
              have c1 := S4.c1
              have hbx2 := S4.lt
              obtain ⟨w5, hs, S5⟩ := S4.swap hsw i2 j3 (by omega) (by omega)
              have S5 := Lib.hid S5
              clear S4 S c0 hbx
              go_wp2_with fail
              have EQ : Hid (partition aheadB d a b pv = ((partLoop aheadB a (i2 + 1) (j3 - 1) (swp dk i2 j3)).1, false, swp (partLoop aheadB a (i2 + 1) (j3 - 1) (swp dk i2 j3)).2 (partLoop aheadB a (i2 + 1) (j3 - 1) (swp dk i2 j3)).1 a)) := Lib.hid (part_first_go aheadB d a b pv Hi.out Hj.out Hdk.out HU.out HD.out (by omega))
              obtain ⟨E, hE⟩ : ∃ E, E = partLoop aheadB a (i2 + 1) (j3 - 1) (swp dk i2 j3) := ⟨_, rfl⟩
              rw [← hE] at EQ
              have HE := Lib.hid hE
              clear hE HU HD Hi Hj Hdk HI HJ
              go_loopw [10, 11] (fun v10 v11 wr => ∃ (i j : Nat) (dk : Array Th), v10 = .int .i64 i ∧ v11 = .int .i64 j ∧ a < i ∧ a ≤ j ∧ j < b ∧ i ≤ j + 1 ∧ WS w blk Bs N cap bx sf sb dk wr ∧ partLoop aheadB a i j dk = E) (fun v10 v11 _ => (intOf v11 + 1 - intOf v10).toNat)
              case atStart => exact ⟨i2 + 1, j3 - 1, _, by simp, by congr 1; omega, by omega, by omega, by omega, by omega, S5.out, HE.out.symm⟩
              case round =>
                clear S5 HE
                clear hle hij3 hj3j hj3 hlt3 hi2 hi2j hij2 wj wi d1 d2 d2n hk c1 hs hbx2
                clear hai hij hjb
                obtain ⟨i, j, dk, rfl, rfl, hai, haj, hjb, hij, S, hO⟩ := hrel
                have HO := Lib.hid hO
                clear hO
                have S0 := Lib.hid S
                clear S
                go_wp2_with fail
                go_loopw [10] (fun v10 wr2 => ∃ i2 : Nat, v10 = .int .i64 i2 ∧ i ≤ i2 ∧ i2 ≤ j + 1 ∧ WS w blk Bs N cap bx sf sb dk wr2 ∧ scanUp (fun x => aheadB x dk[a]!) dk j i2 = scanUp (fun x => aheadB x dk[a]!) dk j i) (fun v10 _ => (j + 1 - intOf v10).toNat)
                case atStart => exact ⟨i, rfl, Nat.le_refl _, by omega, S0.out, rfl⟩
                case round =>
                  clear S0
                  obtain ⟨i2, rfl, hi2, hi2j, S, hI⟩ := hrel
                  have HI := Lib.hid hI
                  clear hI
                  have wi2 : IntKind.i64.wrap ((i2 : Int) + 1) = (i2 : Int) + 1 := IntWalk.i64_in _ (by omega)
                  by_cases hij2 : i2 ≤ j
                  · have d1 : decide ((i2 : Int) ≤ (j : Int)) = true := decide_eq_true (by omega)
                    have c0 := S.c0
                    have hbx := S.lt
                    have hl := S.less i2 a (by omega) (by omega)
                    have S := Lib.hid S
                    go_wp2_with fail
                    refine hl.mono ?_
                    clear hl
                    rintro e w3 ⟨rfl, S3⟩
                    cases hk : aheadB dk[i2]! dk[a]! with
                    | true =>
                      have S3 := Lib.hid S3
                      clear S c0 hbx
                      go_wp2_with fail
                      go_roundw
                      case rel => exact ⟨i2 + 1, by simp, by omega, by omega, S3.out, by rw [← HI.out, scanUp_go (fun x => aheadB x dk[a]!) dk j i2 hij2 (by simp [hk])]⟩
                      case measure => simp [intOf]; omega
                    | false =>
                      have HU : Hid (i2 = scanUp (fun x => aheadB x dk[a]!) dk j i) := Lib.hid (by rw [← HI.out, scanUp_end (fun x => aheadB x dk[a]!) dk j i2 (.inr (by simp [hk]))])
                      have ST := Lib.hid S3
                      clear S3 S c0 hbx d1 wi2
                      go_wp2_with fail
                      go_loopw [11] (fun v11 wr3 => ∃ j3 : Nat, v11 = .int .i64 j3 ∧ a ≤ j3 ∧ j3 ≤ j ∧ i2 ≤ j3 + 1 ∧ WS w blk Bs N cap bx sf sb dk wr3 ∧ scanDown (fun x => !aheadB x dk[a]!) dk i2 j3 = scanDown (fun x => !aheadB x dk[a]!) dk i2 j) (fun v11 _ => (intOf v11).toNat)
                      case atStart => exact ⟨j, rfl, by omega, Nat.le_refl _, by omega, ST.out, rfl⟩
                      case round =>
                        clear ST
                        obtain ⟨j3, rfl, hj3, hj3j, hij3, S, hI⟩ := hrel
                        have HJ := Lib.hid hI
                        clear hI
                        have wj : IntKind.i64.wrap ((j3 : Int) - 1) = (j3 : Int) - 1 := IntWalk.i64_in _ (by omega)
                        have wi : IntKind.i64.wrap ((i2 : Int) + 1) = (i2 : Int) + 1 := IntWalk.i64_in _ (by omega)
                        by_cases hle : i2 ≤ j3
                        · have d1 : decide ((i2 : Int) ≤ (j3 : Int)) = true := decide_eq_true (by omega)
                          have d2 : decide ((j3 : Int) < (i2 : Int)) = false := decide_eq_false (by omega)
                          have d2n : decide (j3 < i2) = false := decide_eq_false (by omega)
                          have c0 := S.c0
                          have hbx := S.lt
                          have hl := S.less j3 a (by omega) (by omega)
                          have S := Lib.hid S
                          go_wp2_with fail
                          refine hl.mono ?_
                          clear hl
                          rintro e w4 ⟨rfl, S4⟩
                          cases hk : aheadB dk[j3]! dk[a]! with
                          | false =>
                            have S4 := Lib.hid S4
                            clear S c0 hbx
                            go_wp2_with fail
                            go_roundw
                            case rel => exact ⟨j3 - 1, by congr 1; omega, by omega, by omega, by omega, S4.out, by rw [← HJ.out, scanDown_go (fun x => !aheadB x dk[a]!) dk i2 j3 hle (by omega) (by simp [hk])]⟩
                            case measure => simp [intOf]; omega
                          | true =>
                            have HD : Hid (j3 = scanDown (fun x => !aheadB x dk[a]!) dk i2 j) := Lib.hid (by rw [← HJ.out, scanDown_end (fun x => !aheadB x dk[a]!) dk i2 j3 (.inr (by simp [hk]))])
                            have hlt3 := part_scans_lt aheadB a i j dk (by omega) HU.out HD.out hle
                            have c1 := S4.c1
                            have hbx2 := S4.lt
                            obtain ⟨w5, hs, S5⟩ := S4.swap hsw i2 j3 (by omega) (by omega)
                            have S5 := Lib.hid S5
                            clear S4 S c0 hbx
                            go_wp2_with fail
                            go_roundw
                            case rel => exact ⟨i2 + 1, j3 - 1, _, by simp, by congr 1; omega, by omega, by omega, by omega, by omega, S5.out, by rw [← HO.out]; exact (part_go aheadB a i j dk HU.out HD.out (by omega)).symm⟩
                            case measure => simp [intOf]; omega
                        · have d1 : decide ((i2 : Int) ≤ (j3 : Int)) = false := decide_eq_false (by omega)
                          have d2 : decide ((j3 : Int) < (i2 : Int)) = true := decide_eq_true (by omega)
                          have HD : Hid (j3 = scanDown (fun x => !aheadB x dk[a]!) dk i2 j) := Lib.hid (by rw [← HJ.out, scanDown_end (fun x => !aheadB x dk[a]!) dk i2 j3 (.inl hle)])
                          have c1 := S.c1
                          have hbx2 := S.lt
                          obtain ⟨w5, hs, S5⟩ := S.swap hsw j3 a (by omega) (by omega)
                          have S5 := Lib.hid S5
                          clear S
                          go_wp2_with fail
                          go_ret2
                          have HQ := Lib.hid (HO.out.symm.trans (part_break aheadB a i j dk HU.out HD.out (by omega)))
                          rw [EQ.out, HQ.out]
                          exact ⟨rfl, S5.out.sh, S5.out.fr⟩
                  · have d1 : decide ((i2 : Int) ≤ (j : Int)) = false := decide_eq_false (by omega)
                    have HU : Hid (i2 = scanUp (fun x => aheadB x dk[a]!) dk j i) := Lib.hid (by rw [← HI.out, scanUp_end (fun x => aheadB x dk[a]!) dk j i2 (.inl hij2)])
                    have ST := Lib.hid S
                    clear S wi2
                    go_wp2_with fail
                    go_loopw [11] (fun v11 wr3 => ∃ j3 : Nat, v11 = .int .i64 j3 ∧ a ≤ j3 ∧ j3 ≤ j ∧ i2 ≤ j3 + 1 ∧ WS w blk Bs N cap bx sf sb dk wr3 ∧ scanDown (fun x => !aheadB x dk[a]!) dk i2 j3 = scanDown (fun x => !aheadB x dk[a]!) dk i2 j) (fun v11 _ => (intOf v11).toNat)
                    case atStart => exact ⟨j, rfl, by omega, Nat.le_refl _, by omega, ST.out, rfl⟩
                    case round =>
                      clear ST
                      obtain ⟨j3, rfl, hj3, hj3j, hij3, S, hI⟩ := hrel
                      have HJ := Lib.hid hI
                      clear hI
                      have wj : IntKind.i64.wrap ((j3 : Int) - 1) = (j3 : Int) - 1 := IntWalk.i64_in _ (by omega)
                      have wi : IntKind.i64.wrap ((i2 : Int) + 1) = (i2 : Int) + 1 := IntWalk.i64_in _ (by omega)
                      by_cases hle : i2 ≤ j3
                      · exfalso; omega
                      · have d1 : decide ((i2 : Int) ≤ (j3 : Int)) = false := decide_eq_false (by omega)
                        have d2 : decide ((j3 : Int) < (i2 : Int)) = true := decide_eq_true (by omega)
                        have HD : Hid (j3 = scanDown (fun x => !aheadB x dk[a]!) dk i2 j) := Lib.hid (by rw [← HJ.out, scanDown_end (fun x => !aheadB x dk[a]!) dk i2 j3 (.inl hle)])
                        have c1 := S.c1
                        have hbx2 := S.lt
                        obtain ⟨w5, hs, S5⟩ := S.swap hsw j3 a (by omega) (by omega)
                        have S5 := Lib.hid S5
                        clear S
                        go_wp2_with fail
                        go_ret2
                        have HQ := Lib.hid (HO.out.symm.trans (part_break aheadB a i j dk HU.out HD.out (by omega)))
                        rw [EQ.out, HQ.out]
                        exact ⟨rfl, S5.out.sh, S5.out.fr⟩
          · have d1 : decide ((i2 : Int) ≤ (j3 : Int)) = false := decide_eq_false (by omega)
            have d2 : decide ((j3 : Int) < (i2 : Int)) = true := decide_eq_true (by omega)
            have HD : Hid (j3 = scanDown (fun x => !aheadB x dk[a]!) dk i2 j) := Lib.hid (by rw [← HJ.out, scanDown_end (fun x => !aheadB x dk[a]!) dk i2 j3 (.inl hle)])
            have c1 := S.c1
            have hbx2 := S.lt
            obtain ⟨w5, hs, S5⟩ := S.swap hsw j3 a (by omega) (by omega)
            have S5 := Lib.hid S5
            clear S
            go_wp2_with fail
            go_ret2
            have HQ := Lib.hid (part_first_break aheadB d a b pv Hi.out Hj.out Hdk.out HU.out HD.out (by omega))
            rw [HQ.out]
            exact ⟨rfl, S5.out.sh, S5.out.fr⟩
    · have d1 : decide ((i2 : Int) ≤ (j : Int)) = false := decide_eq_false (by omega)
      have HU : Hid (i2 = scanUp (fun x => aheadB x dk[a]!) dk j i) := Lib.hid (by rw [← HI.out, scanUp_end (fun x => aheadB x dk[a]!) dk j i2 (.inl hij2)])
      have ST := Lib.hid S
      clear S wi2
      go_wp2_with fail
      go_loopw [11] (fun v11 wr3 => ∃ j3 : Nat, v11 = .int .i64 j3 ∧ a ≤ j3 ∧ j3 ≤ j ∧ i2 ≤ j3 + 1 ∧ WS w blk Bs N cap bx sf sb dk wr3 ∧ scanDown (fun x => !aheadB x dk[a]!) dk i2 j3 = scanDown (fun x => !aheadB x dk[a]!) dk i2 j) (fun v11 _ => (intOf v11).toNat)
      case atStart => exact ⟨j, rfl, by omega, Nat.le_refl _, by omega, ST.out, rfl⟩
      case round =>
        clear ST
        obtain ⟨j3, rfl, hj3, hj3j, hij3, S, hI⟩ := hrel
        have HJ := Lib.hid hI
        clear hI
        have wj : IntKind.i64.wrap ((j3 : Int) - 1) = (j3 : Int) - 1 := IntWalk.i64_in _ (by omega)
        have wi : IntKind.i64.wrap ((i2 : Int) + 1) = (i2 : Int) + 1 := IntWalk.i64_in _ (by omega)
        by_cases hle : i2 ≤ j3
        · exfalso; omega
        · have d1 : decide ((i2 : Int) ≤ (j3 : Int)) = false := decide_eq_false (by omega)
          have d2 : decide ((j3 : Int) < (i2 : Int)) = true := decide_eq_true (by omega)
          have HD : Hid (j3 = scanDown (fun x => !aheadB x dk[a]!) dk i2 j) := Lib.hid (by rw [← HJ.out, scanDown_end (fun x => !aheadB x dk[a]!) dk i2 j3 (.inl hle)])
          have c1 := S.c1
          have hbx2 := S.lt
          obtain ⟨w5, hs, S5⟩ := S.swap hsw j3 a (by omega) (by omega)
          have S5 := Lib.hid S5
          clear S
          go_wp2_with fail
          go_ret2
          have HQ := Lib.hid (part_first_break aheadB d a b pv Hi.out Hj.out Hdk.out HU.out HD.out (by omega))
          rw [HQ.out]
          exact ⟨rfl, S5.out.sh, S5.out.fr⟩

end Go.Proofs.Ytfibgjgipadmkaa.Hp
