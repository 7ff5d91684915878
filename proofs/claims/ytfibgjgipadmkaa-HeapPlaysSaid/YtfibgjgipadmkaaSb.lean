/- Sorting the row: siftDown, heapSort. -/
import Derived.Test.YtfibgjgipadmkaaSa
namespace Go.Proofs.Ytfibgjgipadmkaa.Hp
set_option linter.unusedVariables false
set_option linter.unusedSimpArgs false
open Go.RowKit Go.Maps Go.ChangeMaps Go.Lib Go.Sort

theorem sift_end {hi first r : Nat} {d : Array Th} (h : hi ≤ 2 * r + 1) : siftDown aheadB hi first r d = d := by
  rw [siftDown, dif_pos h]
theorem sift_two {hi first r : Nat} {d : Array Th} (h : 2 * r + 2 < hi) (h2 : aheadB d[first + (2 * r + 1)]! d[first + (2 * r + 1) + 1]! = true) :
    siftDown aheadB hi first r d = if aheadB d[first + r]! d[first + (2 * r + 2)]! = true then siftDown aheadB hi first (2 * r + 2) (swp d (first + r) (first + (2 * r + 2))) else d := by
  rw [siftDown, dif_neg (by omega), if_pos (by simp [h2]; omega)]
  cases aheadB d[first + r]! d[first + (2 * r + 2)]! with
  | true => rw [if_neg (by simp), dif_pos h, if_pos rfl]
  | false => rw [if_pos (by simp), if_neg (by simp)]
theorem sift_one {hi first r : Nat} {d : Array Th} (h : 2 * r + 1 < hi) (h2 : 2 * r + 2 < hi → aheadB d[first + (2 * r + 1)]! d[first + (2 * r + 1) + 1]! = false) :
    siftDown aheadB hi first r d = if aheadB d[first + r]! d[first + (2 * r + 1)]! = true then siftDown aheadB hi first (2 * r + 1) (swp d (first + r) (first + (2 * r + 1))) else d := by
  rw [siftDown, dif_neg (by omega), if_neg (by
    intro hc
    simp only [Bool.and_eq_true, decide_eq_true_eq] at hc
    rw [h2 hc.1] at hc; simp at hc)]
  cases aheadB d[first + r]! d[first + (2 * r + 1)]! with
  | true => rw [if_neg (by simp), if_pos rfl]
  | false => rw [if_pos (by simp), if_neg (by simp)]

set_option maxRecDepth 100000 in
set_option maxHeartbeats 2000000 in
theorem sift_any {blk Bs N cap : Nat} {d : Array Th} {w : World} {sf : Nat} {sb : Array Value} (hsw : SwapSwapsK Try.prog sf sb cells 3 blk 0 N) (h : SH blk Bs N cap d w) (lo hi first : Nat) (hlo : lo ≤ N) (hb : first + hi ≤ N) (hN : N ≤ 1000000000) :
    Calls Try.prog 55 #[lsV Bs sf sb, .int .i64 lo, .int .i64 hi, .int .i64 first] w fun e w' => e = .returned (.tuple #[]) ∧ SH blk Bs N cap (siftDown aheadB hi first lo d) w' ∧ Fr (fun k => k = blk) w w' := by
  unfold lsV
  have h1 := Lib.hid (WS.start h sf sb)
  clear h
  go_enter Try.func55, Try.ntmps55
  go_wp2_with fail
  generalize w.heap.size = bx at h1 ⊢
  generalize w.alloc _ = w1 at h1 ⊢
  go_loopw [8] (fun v wr => ∃ (r : Nat) (dk : Array Th), v = .int .i64 r ∧ r ≤ N ∧ WS w blk Bs N cap bx sf sb dk wr ∧ siftDown aheadB hi first r dk = siftDown aheadB hi first lo d) (fun v _ => hi - (intOf v).toNat)
  case atStart => exact ⟨lo, d, rfl, hlo, h1.out, rfl⟩
  case round =>
    obtain ⟨r, dk, rfl, hr, S, hO⟩ := hrel
    have HO := Lib.hid hO
    clear hO h1
    have w1 : IntKind.i64.wrap (2 * (r : Int)) = 2 * (r : Int) := IntWalk.i64_in _ (by omega)
    have w2 : IntKind.i64.wrap (2 * (r : Int) + 1) = 2 * (r : Int) + 1 := IntWalk.i64_in _ (by omega)
    have w3 : IntKind.i64.wrap (2 * (r : Int) + 1 + 1) = 2 * (r : Int) + 1 + 1 := IntWalk.i64_in _ (by omega)
    have c0 := S.c0
    have hbx := S.lt
    by_cases h1 : 2 * r + 1 < hi
    · have d1 : decide ((hi : Int) ≤ 2 * (r : Int) + 1) = false := decide_eq_false (by omega)
      have w4 : IntKind.i64.wrap ((first : Int) + (2 * (r : Int) + 1)) = (first : Int) + (2 * (r : Int) + 1) := IntWalk.i64_in _ (by omega)
      have w5 : IntKind.i64.wrap ((first : Int) + (2 * (r : Int) + 1) + 1) = (first : Int) + (2 * (r : Int) + 1) + 1 := IntWalk.i64_in _ (by omega)
      have w6 : IntKind.i64.wrap ((first : Int) + (r : Int)) = (first : Int) + (r : Int) := IntWalk.i64_in _ (by omega)
      have w7 : IntKind.i64.wrap ((first : Int) + (2 * (r : Int) + 1 + 1)) = (first : Int) + (2 * (r : Int) + 1 + 1) := IntWalk.i64_in _ (by omega)
      by_cases h2 : 2 * r + 2 < hi
      · have d2 : decide (2 * (r : Int) + 1 + 1 < (hi : Int)) = true := decide_eq_true (by omega)
        have hls := S.less (first + (2 * r + 1)) (first + (2 * r + 1) + 1) (by omega) (by omega)
        rw [show (((first + (2 * r + 1) : Nat) : Int)) = (first : Int) + (2 * (r : Int) + 1) by omega, show (((first + (2 * r + 1) + 1 : Nat) : Int)) = (first : Int) + (2 * (r : Int) + 1) + 1 by omega] at hls
        have S := Lib.hid S
        go_wp2_with fail
        refine hls.mono ?_
        clear hls
        rintro e w3 ⟨rfl, S3⟩
        clear c0 hbx
        cases h3 : aheadB dk[first + (2 * r + 1)]! dk[first + (2 * r + 1) + 1]! with
        | true =>
          have c0 := S3.c0
          have hbx := S3.lt
          have hl2 := S3.less (first + r) (first + (2 * r + 2)) (by omega) (by omega)
          rw [show (((first + r : Nat) : Int)) = (first : Int) + (r : Int) by omega, show (((first + (2 * r + 2) : Nat) : Int)) = (first : Int) + (2 * (r : Int) + 1 + 1) by omega] at hl2
          have SX := Lib.hid S3
          go_wp2_with fail
          refine hl2.mono ?_
          clear hl2
          rintro e w4 ⟨rfl, S4⟩
          cases h4 : aheadB dk[first + r]! dk[first + (2 * r + 2)]! with
          | true =>
            have c1 := S4.c1
            have hbx4 := S4.lt
            obtain ⟨w5, hs, S5⟩ := S4.swap hsw (first + r) (first + (2 * r + 2)) (by omega) (by omega)
            rw [show (((first + r : Nat) : Int)) = (first : Int) + (r : Int) by omega, show (((first + (2 * r + 2) : Nat) : Int)) = (first : Int) + (2 * (r : Int) + 1 + 1) by omega] at hs
            have HE := Lib.hid S5
            clear S4 SX S5 c0 hbx
            go_wp2_with fail
            go_roundw
            case rel => exact ⟨2 * r + 2, _, by congr 1, by omega, HE.out, by rw [← HO.out, sift_two h2 h3, if_pos h4]⟩
            case measure => simp [intOf]; omega
          | false =>
            have HE := Lib.hid S4
            clear S4 SX c0 hbx
            go_wp2_with fail
            (try simp only [Exit.inBlock, Exit.then]); refine bodyPost_ret (results_none rfl _ _ _) rfl ?_
            refine ⟨rfl, ?_, HE.out.fr⟩
            rw [← HO.out, sift_two h2 h3, if_neg (by rw [h4]; simp)]
            exact HE.out.sh
        | false =>
          have c0 := S3.c0
          have hbx := S3.lt
          have hl2 := S3.less (first + r) (first + (2 * r + 1)) (by omega) (by omega)
          rw [show (((first + r : Nat) : Int)) = (first : Int) + (r : Int) by omega, show (((first + (2 * r + 1) : Nat) : Int)) = (first : Int) + (2 * (r : Int) + 1) by omega] at hl2
          have SX := Lib.hid S3
          go_wp2_with fail
          refine hl2.mono ?_
          clear hl2
          rintro e w4 ⟨rfl, S4⟩
          cases h4 : aheadB dk[first + r]! dk[first + (2 * r + 1)]! with
          | true =>
            have c1 := S4.c1
            have hbx4 := S4.lt
            obtain ⟨w5, hs, S5⟩ := S4.swap hsw (first + r) (first + (2 * r + 1)) (by omega) (by omega)
            rw [show (((first + r : Nat) : Int)) = (first : Int) + (r : Int) by omega, show (((first + (2 * r + 1) : Nat) : Int)) = (first : Int) + (2 * (r : Int) + 1) by omega] at hs
            have HE := Lib.hid S5
            clear S4 SX S5 c0 hbx
            go_wp2_with fail
            go_roundw
            case rel => exact ⟨2 * r + 1, _, by congr 1, by omega, HE.out, by rw [← HO.out, sift_one h1 (fun _ => h3), if_pos h4]⟩
            case measure => simp [intOf]; omega
          | false =>
            have HE := Lib.hid S4
            clear S4 SX c0 hbx
            go_wp2_with fail
            (try simp only [Exit.inBlock, Exit.then]); refine bodyPost_ret (results_none rfl _ _ _) rfl ?_
            refine ⟨rfl, ?_, HE.out.fr⟩
            rw [← HO.out, sift_one h1 (fun _ => h3), if_neg (by rw [h4]; simp)]
            exact HE.out.sh
      · have d2 : decide (2 * (r : Int) + 1 + 1 < (hi : Int)) = false := decide_eq_false (by omega)
        clear c0 hbx
        have c0 := S.c0
        have hbx := S.lt
        have hl2 := S.less (first + r) (first + (2 * r + 1)) (by omega) (by omega)
        rw [show (((first + r : Nat) : Int)) = (first : Int) + (r : Int) by omega, show (((first + (2 * r + 1) : Nat) : Int)) = (first : Int) + (2 * (r : Int) + 1) by omega] at hl2
        have SX := Lib.hid S
        go_wp2_with fail
        refine hl2.mono ?_
        clear hl2
        rintro e w4 ⟨rfl, S4⟩
        cases h4 : aheadB dk[first + r]! dk[first + (2 * r + 1)]! with
        | true =>
          have c1 := S4.c1
          have hbx4 := S4.lt
          obtain ⟨w5, hs, S5⟩ := S4.swap hsw (first + r) (first + (2 * r + 1)) (by omega) (by omega)
          rw [show (((first + r : Nat) : Int)) = (first : Int) + (r : Int) by omega, show (((first + (2 * r + 1) : Nat) : Int)) = (first : Int) + (2 * (r : Int) + 1) by omega] at hs
          have HE := Lib.hid S5
          clear S4 SX S5 c0 hbx
          go_wp2_with fail
          go_roundw
          case rel => exact ⟨2 * r + 1, _, by congr 1, by omega, HE.out, by rw [← HO.out, sift_one h1 (fun h => absurd h h2), if_pos h4]⟩
          case measure => simp [intOf]; omega
        | false =>
          have HE := Lib.hid S4
          clear S4 SX c0 hbx
          go_wp2_with fail
          (try simp only [Exit.inBlock, Exit.then]); refine bodyPost_ret (results_none rfl _ _ _) rfl ?_
          refine ⟨rfl, ?_, HE.out.fr⟩
          rw [← HO.out, sift_one h1 (fun h => absurd h h2), if_neg (by rw [h4]; simp)]
          exact HE.out.sh
    · have d1 : decide ((hi : Int) ≤ 2 * (r : Int) + 1) = true := decide_eq_true (by omega)
      have S := Lib.hid S
      go_wp2_with fail
      go_end0
      refine ⟨rfl, ?_, S.out.fr⟩
      rw [← HO.out, sift_end (by omega)]
      exact S.out.sh

end Go.Proofs.Ytfibgjgipadmkaa.Hp
