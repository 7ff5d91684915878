/- Sorting the row: heapSort; order2, median, medianAdjacent. -/
import Derived.Test.YtfibgjgipadmkaaSb
namespace Go.Proofs.Ytfibgjgipadmkaa.Hp
set_option linter.unusedVariables false
set_option linter.unusedSimpArgs false
open Go.RowKit Go.Maps Go.ChangeMaps Go.Lib Go.Sort

set_option maxRecDepth 100000 in
set_option maxHeartbeats 2000000 in
theorem heapsort_any {blk Bs N cap : Nat} {d : Array Th} {w : World} {sf : Nat} {sb : Array Value} (hsw : SwapSwapsK Try.prog sf sb cells 3 blk 0 N) (h : SH blk Bs N cap d w) (a b : Nat) (hab : a ≤ b) (hb : b ≤ N) (hN : N ≤ 1000000000) :
    Calls Try.prog 48 #[lsV Bs sf sb, .int .i64 a, .int .i64 b] w fun e w' => e = .returned (.tuple #[]) ∧ SH blk Bs N cap (Sort.heapSort aheadB d a b) w' ∧ Fr (fun k => k = blk) w w' := by
  obtain ⟨hi, hhi⟩ : ∃ hi, hi = b - a := ⟨_, rfl⟩
  have hbi : (b : Int) = (a : Int) + (hi : Int) := by omega
  have hspec : Sort.heapSort aheadB d a b = heapPop aheadB a hi (heapBuild aheadB hi a ((hi - 1) / 2 + 1) d) := by unfold Sort.heapSort; rw [hhi]
  rw [hspec]
  have hbN : a + hi ≤ N := by omega
  clear hspec hhi
  unfold lsV
  have h1 := Lib.hid (WS.start h sf sb)
  clear h
  have w1 : IntKind.i64.wrap ((b : Int) - (a : Int)) = (hi : Int) := by rw [show (b : Int) - (a : Int) = (hi : Int) by omega]; exact IntWalk.i64_in _ (by omega)
  have w2 : IntKind.i64.wrap ((hi : Int) - 1) = (hi : Int) - 1 := IntWalk.i64_in _ (by omega)
  have w3 : Int.tdiv ((hi : Int) - 1) 2 = (((hi - 1) / 2 + 1 : Nat) : Int) - 1 := by
    by_cases h0 : hi = 0
    · subst h0; decide
    · rw [Int.tdiv_eq_ediv_of_nonneg (by omega)]; omega
  have w4 : IntKind.i64.wrap ((((hi - 1) / 2 + 1 : Nat) : Int) - 1) = (((hi - 1) / 2 + 1 : Nat) : Int) - 1 := IntWalk.i64_in _ (by omega)
  obtain ⟨k0, hk0⟩ : ∃ k0, k0 = (hi - 1) / 2 + 1 := ⟨_, rfl⟩
  rw [← hk0] at w3 w4 ⊢
  have hk1 : k0 ≤ hi + 1 := by omega
  clear hk0
  replace hbi := Lib.hid hbi
  go_enter Try.func48, Try.ntmps48
  go_wp2_with fail
  clear w1 w3 w4
  generalize w.heap.size = bx at h1 ⊢
  generalize w.alloc _ = w0 at h1 ⊢
  go_loopw [9] (fun v wr => ∃ (k : Nat) (dk : Array Th), v = .int .i64 ((k : Int) - 1) ∧ k ≤ hi + 1 ∧ WS w blk Bs N cap bx sf sb dk wr ∧ heapBuild aheadB hi a k dk = heapBuild aheadB hi a k0 d) (fun v _ => (intOf v + 1).toNat)
  case atStart => exact ⟨k0, d, rfl, hk1, h1.out, rfl⟩
  case round =>
    obtain ⟨k, dk, rfl, hk, S, hO⟩ := hrel
    have HO := Lib.hid hO
    clear hO h1
    have S := Lib.hid S
    rcases k with _ | k
    · have HD : Hid (heapBuild aheadB hi a k0 d = dk) := by rw [← HO.out]; rfl
      clear HO hk1
      rw [show ((0 : Nat) : Int) - 1 = -1 from rfl]
      go_wp2_with fail
      go_loopw [10] (fun v wr => ∃ (k : Nat) (dk : Array Th), v = .int .i64 ((k : Int) - 1) ∧ k ≤ hi ∧ WS w blk Bs N cap bx sf sb dk wr ∧ heapPop aheadB a k dk = heapPop aheadB a hi (heapBuild aheadB hi a k0 d)) (fun v _ => (intOf v + 1).toNat)
      case atStart => exact ⟨hi, dk, rfl, Nat.le_refl _, S.out, by rw [HD.out]⟩
      case round =>
        clear S HD
        obtain ⟨k, dk, rfl, hk, S, hO⟩ := hrel
        have HO := Lib.hid hO
        clear hO
        rcases k with _ | k
        · have S := Lib.hid S
          go_wp2_with fail
          go_end0
          refine ⟨rfl, ?_, S.out.fr⟩
          rw [← HO.out]
          exact S.out.sh
        · have e1 : (((k + 1 : Nat) : Int)) - 1 = (k : Int) := by omega
          rw [e1]
          have d1 : decide ((0 : Int) ≤ (k : Int)) = true := decide_eq_true (by omega)
          have w5 : IntKind.i64.wrap ((a : Int) + (k : Int)) = (a : Int) + (k : Int) := IntWalk.i64_in _ (by omega)
          have w6 : IntKind.i64.wrap ((k : Int) - 1) = (k : Int) - 1 := IntWalk.i64_in _ (by omega)
          have c1 := S.c1
          have hbx := S.lt
          obtain ⟨w4, hs, S4⟩ := S.swap hsw a (a + k) (by omega) (by omega)
          rw [Int.natCast_add] at hs
          have c2 := S4.c0
          have c3 := S4.c1
          have hbx4 := S4.lt
          have S4 := Lib.hid S4
          clear S e1
          go_wp2_with fail
          refine (sift_any hsw S4.out.sh 0 k a (by omega) (by omega) hN).mono ?_
          rintro e w5 ⟨rfl, S5, F5⟩
          have HE := Lib.hid (S4.out.then S5 F5)
          clear S5 F5 S4 c2 c3 hs c1
          go_wp2_with fail
          go_roundw
          case rel => exact ⟨k, _, rfl, by omega, HE.out, by rw [← HO.out]; rfl⟩
          case measure => simp [intOf]
    · have e1 : (((k + 1 : Nat) : Int)) - 1 = (k : Int) := by omega
      rw [e1]
      have d1 : decide ((0 : Int) ≤ (k : Int)) = true := decide_eq_true (by omega)
      have w6 : IntKind.i64.wrap ((k : Int) - 1) = (k : Int) - 1 := IntWalk.i64_in _ (by omega)
      have c2 := S.out.c0
      have c3 := S.out.c1
      have hbx := S.out.lt
      clear e1
      go_wp2_with fail
      refine (sift_any hsw S.out.sh k hi a (by omega) (by omega) hN).mono ?_
      rintro e w5 ⟨rfl, S5, F5⟩
      have HE := Lib.hid (S.out.then S5 F5)
      clear S5 F5 S c2 c3
      go_wp2_with fail
      go_roundw
      case rel => exact ⟨k, _, rfl, by omega, HE.out, by rw [← HO.out]; rfl⟩
      case measure => simp [intOf]

end Go.Proofs.Ytfibgjgipadmkaa.Hp
