/- Sorting the row: pdqsort, whole. -/
import Derived.Test.YtfibgjgipadmkaaSe
import Derived.Test.YtfibgjgipadmkaaSf
import Derived.Test.YtfibgjgipadmkaaSg
import Derived.Test.YtfibgjgipadmkaaSi
import Derived.Shelf.SlSortFuncK.BreakPatternsK
import Derived.Sort.Walk13
import Derived.Sort.AssemblyPlain
import Derived.Deep.Cut
import Derived.Deep.DeepCutAuto
import Derived.Deep.CutBlock
namespace Go.Proofs.Ytfibgjgipadmkaa.Hp
set_option linter.unusedVariables false
set_option linter.unusedSimpArgs false
open Go.RowKit Go.Maps Go.ChangeMaps Go.Lib Go.Sort

theorem hintI_two {h : Hint} (e : hintI h = 2) : h = .decreasing := by cases h <;> simp [hintI] at e ⊢

theorem aheadB_iff (x y : Th) : aheadB x y = true ↔ x.d < y.d ∨ (x.d = y.d ∧ x.h < y.h) := by
  simp [aheadB]

theorem swo_ahead : SWO aheadB := by
  have e : ∀ x y, aheadB x y = false ↔ ¬ (x.d < y.d ∨ (x.d = y.d ∧ x.h < y.h)) := fun x y => by
    rw [← aheadB_iff, Bool.not_eq_true]
  refine ⟨fun x => (e x x).2 (by omega), fun x y z h1 h2 => ?_, fun x y z h1 h2 => ?_⟩
  · rw [aheadB_iff] at h1 h2 ⊢; omega
  · rw [e] at h1 h2 ⊢; omega

theorem flip_any {blk Bs N cap : Nat} {d : Array Th} {w : World} {sf : Nat} {sb : Array Value} (hsw : SwapSwapsK Try.prog sf sb cells 3 blk 0 N) (h : SH blk Bs N cap d w) (a b : Nat) (hab : a ≤ b) (hb : b ≤ N) (hN : N ≤ 1000000000) :
    Calls Try.prog 51 #[lsV Bs sf sb, .int .i64 a, .int .i64 b] w fun e w' => e = .returned (.tuple #[]) ∧ SH blk Bs N cap (Sort.reverseRange d a b) w' ∧ Fr (fun k => k = blk) w w' := by
  have hs := h.size
  refine (Any.reverseRange_func_cells_w (P := Try.prog) (ρ := Try.sv6_ren) { Try.sv6 with } cells 3 (fun _ => rfl) (.func 30) #[] #[.pointer (some ⟨Bs, 0, none⟩)] sf sb blk 0 a b d w (by rw [hs]; exact hsw) h.holds h.blkl hab (by omega) (by omega)).mono ?_
  rintro e w' ⟨rfl, n, os, rfl⟩
  exact ⟨rfl, h.row n _ os ((reverseRange_holds d a b hab (by omega)).1.trans hs), fr_putRow w n _ os⟩

theorem break_any {blk Bs N cap : Nat} {d : Array Th} {w : World} {sf : Nat} {sb : Array Value} (hsw : SwapSwapsK Try.prog sf sb cells 3 blk 0 N) (h : SH blk Bs N cap d w) (a b : Nat) (hab : a ≤ b) (hb : b ≤ N) (hN : N ≤ 1000000000) :
    Calls Try.prog 49 #[lsV Bs sf sb, .int .i64 a, .int .i64 b] w fun e w' => e = .returned (.tuple #[]) ∧ SH blk Bs N cap (Sort.breakPatterns d a b) w' ∧ Fr (fun k => k = blk) w w' := by
  have hs := h.size
  refine (Any.breakPatterns_func_cells_w (P := Try.prog) (ρ := Try.sv6_ren) { Try.sv6 with } cells 3 (fun _ => rfl) (.func 30) #[] #[.pointer (some ⟨Bs, 0, none⟩)] sf sb blk 0 a b d w (by rw [hs]; exact hsw) h.holds h.blkl hab (by omega) (by omega)).mono ?_
  rintro e w' ⟨rfl, n, os, rfl⟩
  exact ⟨rfl, h.row n _ os ((breakPatterns_holds d a b hab (by omega)).1.trans hs), fr_putRow w n _ os⟩

theorem pivot_at {blk Bs N cap : Nat} {d : Array Th} {w : World} {sf : Nat} {sb : Array Value} (h : SH blk Bs N cap d w) (a b : Nat) (hb : b ≤ N) (hN : N ≤ 1000000000) (h8 : 8 ≤ b - a) :
    Calls Try.prog 50 #[lsV Bs sf sb, .int .i64 a, .int .i64 b] w fun e w' => e = .returned (.tuple #[.int .i64 (choosePivot aheadB d a b).1, .int .i64 (hintI (choosePivot aheadB d a b).2)]) ∧
      SH blk Bs N cap d w' ∧ Fr (fun k => k = blk) w w' := by
  obtain ⟨l, rfl⟩ : ∃ l, b = a + l := ⟨b - a, by omega⟩
  exact pivot_any h a l hb hN (by omega)

attribute [local irreducible] Go.Sort.rd

set_option maxRecDepth 1000000 in
set_option maxHeartbeats 12800000 in
theorem pdq_any {blk Bs N cap : Nat} {sf : Nat} {sb : Array Value} (hsw : SwapSwapsK Try.prog sf sb cells 3 blk 0 N) (hN : N ≤ 1000000000) :
    ∀ (M a b limit : Nat) (d : Array Th) (w : World), b - a < M → SH blk Bs N cap d w → a ≤ b → b ≤ N → limit < 1000000000 → Sort.Below aheadB a b d →
    Calls Try.prog 35 #[lsV Bs sf sb, .int .i64 a, .int .i64 b, .int .i64 limit] w fun e w' => e = .returned (.tuple #[]) ∧ SH blk Bs N cap (pdq aheadB d a b limit true true) w' ∧ Fr (fun k => k = blk) w w' := by
  intro M
  induction M with
  | zero => intro _ _ _ _ _ h; exact absurd h (Nat.not_lt_zero _)
  | succ M ih =>
    intro a b limit d w hM h hab hb hlimit hBel0
    have IH := Lib.hid ih
    clear ih
    unfold lsV
    have h1 := Lib.hid (WS.start h sf sb)
    have hds := h.size
    clear h
    have HDS := Lib.hid hds
    have HB0 := Lib.hid hBel0
    clear hds hBel0
    go_enter Try.func35, Try.ntmps35
    go_wp2_with fail
    generalize w.heap.size = bx at h1 ⊢
    generalize w.alloc _ = w1 at h1 ⊢
    go_loopg [1, 2, 3, 8, 9] (b - a) (fun kx s1 s2 s3 s8 s9 wr => ∃ (a' b' lim : Nat) (wb wp : Bool) (dk : Array Th), s1 = .int .i64 a' ∧ s2 = .int .i64 b' ∧ s3 = .int .i64 lim ∧ s8 = .bool wb ∧ s9 = .bool wp ∧
      a' ≤ b' ∧ b' ≤ N ∧ b' - a' ≤ kx ∧ kx ≤ b - a ∧ lim ≤ limit ∧ Hid (Sort.Below aheadB a' b' dk) ∧ Hid (WS w blk Bs N cap bx sf sb dk wr) ∧ Hid (pdq aheadB dk a' b' lim wb wp = pdq aheadB d a b limit true true))
    case atStart => exact ⟨a, b, limit, true, true, d, rfl, rfl, rfl, rfl, rfl, hab, hb, Nat.le_refl _, Nat.le_refl _, Nat.le_refl _, HB0, h1, rfl⟩
    case round =>
      clear h1 HB0 HDS
      obtain ⟨a', b', lim, wb, wp, dk, rfl, rfl, rfl, rfl, rfl, hab', hb', hkx, hkN, hlim, hBel, S, A⟩ := hrel
      have c0 := S.out.c0
      have c1 := S.out.c1
      have hbx := S.out.lt
      have wba : IntKind.i64.wrap ((b' : Int) - (a' : Int)) = (b' : Int) - (a' : Int) := IntWalk.i64_in _ (by omega)
      by_cases h12 : b' - a' ≤ 12
      · have h12z : decide ((b' : Int) - (a' : Int) ≤ 12) = true := decide_eq_true (by omega)
        have hc := insertion_any hsw S.out.sh a' b' hab' hb' hN
        unfold lsV at hc
        go_wp2_with fail
        refine hc.mono ?_
        rintro e w2 ⟨rfl, S2, F2⟩
        have HQ := Lib.hid (And.intro S2 (S.out.fr.trans F2))
        clear S2 F2 hc
        go_wp2_with fail
        (try simp only [Exit.inBlock, Exit.then]); refine bodyPost_ret (results_none rfl _ _ _) rfl ?_
        refine ⟨rfl, ?_, HQ.out.2⟩
        rw [← A.out, pdq_small h12]
        exact HQ.out.1
      · have h12z : decide ((b' : Int) - (a' : Int) ≤ 12) = false := decide_eq_false (by omega)
        by_cases hl0 : lim = 0
        · have hl0z : (((lim : Nat) : Int) == 0) = true := beq_iff_eq.2 (by omega)
          have HL := Lib.hid hl0
          clear hl0
          have hc := heapsort_any hsw S.out.sh a' b' hab' hb' hN
          unfold lsV at hc
          go_wp2_with fail
          refine hc.mono ?_
          rintro e w2 ⟨rfl, S2, F2⟩
          have HQ := Lib.hid (And.intro S2 (S.out.fr.trans F2))
          clear S2 F2 hc
          go_wp2_with fail
          (try simp only [Exit.inBlock, Exit.then]); refine bodyPost_ret (results_none rfl _ _ _) rfl ?_
          refine ⟨rfl, ?_, HQ.out.2⟩
          rw [← A.out, pdq_heap h12 HL.out]
          exact HQ.out.1
        · have hl0z : (((lim : Nat) : Int) == 0) = false := beq_false_of_ne (by omega)
          have hRF := rd_facts (lt := aheadB) (limit := lim) (wb := wb) (wp := wp) swo_ahead partialInsertionSort_holds reverseRange_holds (show a' < b' by omega) (show b' ≤ dk.size by rw [S.out.sh.size]; omega) hBel.out
          have RF := Lib.hid hRF
          clear hRF
          go_upto_if 35 with fail
          -- behind 'if !wasBalanced'
          go_cut [3] from 19 (fun s3 wc => s3 = .int .i64 (rd aheadB dk a' b' lim wb wp).lim ∧ Hid (WS w blk Bs N cap bx sf sb (rd aheadB dk a' b' lim wb wp).d1 wc))
          case first =>
            cases wb
            · have wl : IntKind.i64.wrap ((lim : Int) - 1) = (lim : Int) - 1 := IntWalk.i64_in _ (by omega)
              have hc := break_any hsw S.out.sh a' b' hab' hb' hN
              unfold lsV at hc
              go_wp2_with fail
              refine hc.mono ?_
              rintro e w2 ⟨rfl, S2, F2⟩
              have HQ := Lib.hid (S.out.then S2 F2)
              clear S2 F2 hc
              go_wp2_with fail
              go_meet
              case rel =>
                obtain ⟨e1, e2⟩ := rd_false (lt := aheadB) (d := dk) (a := a') (b := b') (limit := lim) (wp := wp)
                rw [e1, e2]
                refine ⟨?_, HQ⟩
                congr 1
                omega
            · go_wp2_with fail
              go_meet
              case rel =>
                obtain ⟨e1, e2⟩ := rd_true (lt := aheadB) (d := dk) (a := a') (b := b') (limit := lim) (wp := wp)
                rw [e1, e2]
                exact ⟨rfl, S⟩
          case rest =>
            obtain ⟨rfl, S1⟩ := hcut
            clear S c0 c1 hbx
            have c0 := S1.out.c0
            have c1 := S1.out.c1
            have hbx := S1.out.lt
            have hc17 := pivot_at (sf := sf) (sb := sb) S1.out.sh a' b' hb' hN (by omega)
            unfold lsV at hc17
            rw [← rd_c] at hc17
            go_upto_if 50 with fail
            refine hc17.mono ?_
            rintro e w2 ⟨rfl, S2', F2⟩
            go_upto_if 50 with fail
            have S2 := Lib.hid (S1.out.then S2' F2)
            clear S2' F2 S1 hc17 c0 c1 hbx
            have c0 := S2.out.c0
            have c1 := S2.out.c1
            have hbx := S2.out.lt
            have hpc1 : a' ≤ (rd aheadB dk a' b' lim wb wp).c.1 := RF.out.2.2.1.1
            have hpc2 : (rd aheadB dk a' b' lim wb wp).c.1 < b' := RF.out.2.2.1.2
            -- behind 'if hint == decreasingHint'
            go_cut [11, 12] from 19 (fun s11 s12 wc => s11 = .int .i64 (rd aheadB dk a' b' lim wb wp).pivot ∧ s12 = .int .i64 (hintI (rd aheadB dk a' b' lim wb wp).hint) ∧ Hid (WS w blk Bs N cap bx sf sb (rd aheadB dk a' b' lim wb wp).d2 wc))
            case first =>
              by_cases hh : (rd aheadB dk a' b' lim wb wp).c.2 = .decreasing
              · have hcode : hintI (rd aheadB dk a' b' lim wb wp).c.2 = 2 := by rw [hh]; rfl
                obtain ⟨e2, epv, eht⟩ := rd_dec hh
                have hc18 := flip_any hsw S2.out.sh a' b' hab' hb' hN
                unfold lsV at hc18
                have E2 := Lib.hid e2
                have EPV := Lib.hid epv
                have EHT := Lib.hid eht
                clear e2 epv eht hh
                have w1 : IntKind.i64.wrap ((b' : Int) - 1) = (b' : Int) - 1 := IntWalk.i64_in _ (by omega)
                have w2' : IntKind.i64.wrap (((rd aheadB dk a' b' lim wb wp).c.1 : Int) - (a' : Int)) = ((rd aheadB dk a' b' lim wb wp).c.1 : Int) - (a' : Int) := IntWalk.i64_in _ (by omega)
                have w3 : IntKind.i64.wrap ((b' : Int) - 1 - (((rd aheadB dk a' b' lim wb wp).c.1 : Int) - (a' : Int))) = (b' : Int) - 1 - (((rd aheadB dk a' b' lim wb wp).c.1 : Int) - (a' : Int)) := IntWalk.i64_in _ (by omega)
                go_wp2_with fail
                refine hc18.mono ?_
                rintro e w3 ⟨rfl, S3, F3⟩
                have HQ := Lib.hid (S2.out.then S3 F3)
                clear S3 F3 hc18
                go_wp2_with fail
                go_meet
                case rel =>
                  refine ⟨?_, by rw [EHT.out]; rfl, by rw [E2.out]; exact HQ⟩
                  rw [EPV.out]
                  congr 1
                  omega
              · have hcode : (hintI (rd aheadB dk a' b' lim wb wp).c.2 == 2) = false := beq_false_of_ne (fun h => hh (hintI_two h))
                obtain ⟨e2, epv, eht⟩ := rd_not hh
                have E2 := Lib.hid e2
                have EPV := Lib.hid epv
                have EHT := Lib.hid eht
                clear e2 epv eht hh
                go_wp2_with fail
                go_meet
                case rel => exact ⟨by rw [EPV.out], by rw [EHT.out], by rw [E2.out]; exact S2⟩
            case rest =>
              obtain ⟨rfl, rfl, S3⟩ := hcut
              clear S2 c0 c1 hbx
              have c0 := S3.out.c0
              have c1 := S3.out.c1
              have hbx := S3.out.lt
              go_upto_region 16 with fail
              go_cut [12, 68] from 19 (fun s12 s68 wx => s12 = .int .i64 (hintI (rd aheadB dk a' b' lim wb wp).hint) ∧ s68 = .bool (wb && wp && decide ((rd aheadB dk a' b' lim wb wp).hint = .increasing)) ∧ wx = wc)
              case first =>
                cases wb <;> cases wp <;> cases hh3 : (rd aheadB dk a' b' lim _ _).hint <;>
                  (have hcode3 := congrArg hintI hh3
                   simp only [hintI] at hcode3
                   go_wp2_with fail
                   go_meet
                   exact ⟨by simp [hh3, hintI], by simp [hh3, hintI], rfl⟩)
              case rest =>
                obtain ⟨rfl, rfl, rfl⟩ := hcut
                go_upto_if 68 with fail
                go_cut [] from 19 (fun wx => Hid ((rd aheadB dk a' b' lim wb wp).pi.2 = false) ∧ Hid (WS w blk Bs N cap bx sf sb (rd aheadB dk a' b' lim wb wp).pi.1 wx))
                case first =>
                  cases h68 : (wb && wp && decide ((rd aheadB dk a' b' lim wb wp).hint = .increasing))
                  · have epi := Lib.hid (rd_pi_no h68)
                    clear h68
                    go_wp2_with fail
                    go_meet
                    case rel => exact ⟨Lib.hid (by rw [epi.out]), by rw [epi.out]; exact S3⟩
                  · have epi := Lib.hid (rd_pi_yes h68)
                    clear h68
                    have hc19 := partial_any hsw S3.out.sh a' b' (by omega) hb' hN
                    unfold lsV at hc19
                    rw [← epi.out] at hc19
                    go_wp2_with fail
                    refine hc19.mono ?_
                    rintro e w4 ⟨rfl, S4, F4⟩
                    have HQ := Lib.hid (S3.out.then S4 F4)
                    clear S4 F4 hc19
                    cases hp2 : (rd aheadB dk a' b' lim wb wp).pi.2
                    · have HP := Lib.hid hp2
                      go_wp2_with fail
                      go_meet
                      exact ⟨HP, HQ⟩
                    · have HP := Lib.hid hp2
                      go_wp2_with fail
                      (try simp only [Exit.inBlock, Exit.then]); refine bodyPost_ret (results_none rfl _ _ _) rfl ?_
                      refine ⟨rfl, ?_, HQ.out.fr⟩
                      rw [← A.out, pdq_done h12 hl0 HP.out]
                      exact HQ.out.sh
                case rest =>
                  obtain ⟨hp2, S5⟩ := hcut
                  clear S3 c0 c1 hbx
                  have c0 := S5.out.c0
                  have c1 := S5.out.c1
                  have hbx := S5.out.lt
                  have hpv1 : a' ≤ (rd aheadB dk a' b' lim wb wp).pivot := RF.out.2.2.2.2.2.1.1
                  have hpv2 : (rd aheadB dk a' b' lim wb wp).pivot < b' := RF.out.2.2.2.2.2.1.2
                  go_upto_region 18 with fail
                  go_cut [83] from 19 (fun s83 wx => s83 = .bool (decide (a' > 0) && !aheadB (rd aheadB dk a' b' lim wb wp).pi.1[a' - 1]! (rd aheadB dk a' b' lim wb wp).pi.1[(rd aheadB dk a' b' lim wb wp).pivot]!) ∧ Hid (WS w blk Bs N cap bx sf sb (rd aheadB dk a' b' lim wb wp).pi.1 wx))
                  case first =>
                    rcases Nat.eq_zero_or_pos a' with ha0 | ha0
                    · have ha0z : decide ((0 : Int) < (a' : Int)) = false := decide_eq_false (by omega)
                      have ha0n : decide (0 < a') = false := decide_eq_false (by omega)
                      have HA := Lib.hid ha0
                      clear ha0
                      go_wp2_with fail
                      go_meet
                      case rel => exact ⟨by simp [HA.out], S5⟩
                    · have ha0z : decide ((0 : Int) < (a' : Int)) = true := decide_eq_true (by omega)
                      have wa : IntKind.i64.wrap ((a' : Int) - 1) = (a' : Int) - 1 := IntWalk.i64_in _ (by omega)
                      have hl := S5.out.less (a' - 1) (rd aheadB dk a' b' lim wb wp).pivot (by omega) (by omega)
                      rw [show ((a' - 1 : Nat) : Int) = (a' : Int) - 1 by omega] at hl
                      go_wp2_with fail
                      refine hl.mono ?_
                      clear hl
                      rintro e w6 ⟨rfl, S6⟩
                      have HQ := Lib.hid S6
                      clear S6
                      cases hlv : aheadB (rd aheadB dk a' b' lim wb wp).pi.1[a' - 1]! (rd aheadB dk a' b' lim wb wp).pi.1[(rd aheadB dk a' b' lim wb wp).pivot]! <;>
                        (go_wp2_with fail
                         go_meet
                         exact ⟨by simp [ha0, hlv], HQ⟩)
                  case rest =>
                    obtain ⟨rfl, S6⟩ := hcut
                    clear S5 c0 c1 hbx
                    have c0 := S6.out.c0
                    have c1 := S6.out.c1
                    have hbx := S6.out.lt
                    cases h87 : (decide (a' > 0) && !aheadB (rd aheadB dk a' b' lim wb wp).pi.1[a' - 1]! (rd aheadB dk a' b' lim wb wp).pi.1[(rd aheadB dk a' b' lim wb wp).pivot]!)
                    · obtain ⟨mid, ap, d4, hx⟩ : ∃ mid ap d4, partition aheadB (rd aheadB dk a' b' lim wb wp).pi.1 a' b' (rd aheadB dk a' b' lim wb wp).pivot = (mid, ap, d4) := ⟨(partition aheadB (rd aheadB dk a' b' lim wb wp).pi.1 a' b' (rd aheadB dk a' b' lim wb wp).pivot).1, (partition aheadB (rd aheadB dk a' b' lim wb wp).pi.1 a' b' (rd aheadB dk a' b' lim wb wp).pivot).2.1, (partition aheadB (rd aheadB dk a' b' lim wb wp).pi.1 a' b' (rd aheadB dk a' b' lim wb wp).pivot).2.2, rfl⟩
                      obtain ⟨r1, r2, r3, r4, r5, r6, r7⟩ := round_part swo_ahead (partition_holds aheadB) hpv1 hpv2 (show b' ≤ (rd aheadB dk a' b' lim wb wp).pi.1.size by rw [S6.out.sh.size]; omega) RF.out.2.2.2.2.2.2.2 hx
                      have hc22 := partition_any hsw S6.out.sh a' b' (rd aheadB dk a' b' lim wb wp).pivot hpv1 hpv2 hb' hN
                      rw [hx] at hc22
                      unfold lsV at hc22
                      have X := Lib.hid hx
                      have R3 := Lib.hid r3
                      have R4 := Lib.hid r4
                      have R5 := Lib.hid r5
                      have R6 := Lib.hid r6
                      have R7 := Lib.hid r7
                      clear hx r3 r4 r5 r6 r7
                      go_upto_if 109 with fail
                      refine hc22.mono ?_
                      rintro e w7 ⟨rfl, S7', F7⟩
                      have S7 := Lib.hid (S6.out.then S7' F7)
                      clear S7' F7 hc22 S6 c0 c1 hbx
                      have c0 := S7.out.c0
                      have c1 := S7.out.c1
                      have hbx := S7.out.lt
                      have hlL : (rd aheadB dk a' b' lim wb wp).lim ≤ lim := rd_lim_le
                      have hs4 : d4.size = N := S7.out.sh.size
                      have HS4 := Lib.hid hs4
                      clear hs4
                      have wp1 : IntKind.i64.wrap ((mid : Int) - (a' : Int)) = (mid : Int) - (a' : Int) := IntWalk.i64_in _ (by omega)
                      have wp2 : IntKind.i64.wrap ((b' : Int) - (mid : Int)) = (b' : Int) - (mid : Int) := IntWalk.i64_in _ (by omega)
                      have wp3 : IntKind.i64.wrap ((mid : Int) + 1) = (mid : Int) + 1 := IntWalk.i64_in _ (by omega)
                      have wp4 : Int.tdiv ((b' : Int) - (a' : Int)) 8 = ((b' : Int) - (a' : Int)) / 8 := Int.tdiv_eq_ediv_of_nonneg (by omega)
                      have wp5 : IntKind.i64.wrap (((b' : Int) - (a' : Int)) / 8) = ((b' : Int) - (a' : Int)) / 8 := IntWalk.i64_in _ (by omega)
                      go_upto_if 109 with fail
                      by_cases h4 : mid - a' < b' - mid
                      · have h4z : decide ((mid : Int) - (a' : Int) < (b' : Int) - (mid : Int)) = true := decide_eq_true (by omega)
                        have hih := IH.out a' mid (rd aheadB dk a' b' lim wb wp).lim d4 w7 (by omega) S7.out.sh (by omega) (by omega) (by omega) R4.out
                        unfold lsV at hih
                        obtain ⟨pL, sL⟩ := pdq_sorts aheadB swo_ahead d4 a' mid (rd aheadB dk a' b' lim wb wp).lim true true (by omega) (by rw [HS4.out]; omega) R4.out
                        have PL := Lib.hid (And.intro pL sL)
                        clear pL sL
                        go_wp2_with fail
                        refine hih.mono ?_
                        rintro e w8 ⟨rfl, S8, F8⟩
                        have HQ := Lib.hid (S7.out.then S8 F8)
                        clear S8 F8 hih
                        go_wp2_with fail
                        go_roundg (b' - (mid + 1))
                        case measure => omega
                        case rel =>
                          refine ⟨mid + 1, b', (rd aheadB dk a' b' lim wb wp).lim, decide (mid - a' ≥ (b' - a') / 8), ap, pdq aheadB d4 a' mid (rd aheadB dk a' b' lim wb wp).lim true true, by simp, rfl, rfl, ?_, rfl, by omega, by omega, Nat.le_refl _, by omega, by omega, Lib.hid (R6.out _ PL.out.1 PL.out.2).1, HQ, Lib.hid ?_⟩
                          · exact congrArg Value.bool (eighth (by omega) (by omega))
                          · rw [← A.out, pdq_left h12 hl0 hp2.out h87 (by rw [X.out]; exact ⟨r1, r2⟩) (by rw [X.out]; exact h4), X.out]
                      · have h4z : decide ((mid : Int) - (a' : Int) < (b' : Int) - (mid : Int)) = false := decide_eq_false (by omega)
                        have hih := IH.out (mid + 1) b' (rd aheadB dk a' b' lim wb wp).lim d4 w7 (by omega) S7.out.sh (by omega) (by omega) (by omega) R5.out
                        unfold lsV at hih
                        rw [show ((mid + 1 : Nat) : Int) = (mid : Int) + 1 by omega] at hih
                        obtain ⟨pL, sL⟩ := pdq_sorts aheadB swo_ahead d4 (mid + 1) b' (rd aheadB dk a' b' lim wb wp).lim true true (by omega) (by rw [HS4.out]; omega) R5.out
                        have PL := Lib.hid (And.intro pL sL)
                        clear pL sL
                        go_wp2_with fail
                        refine hih.mono ?_
                        rintro e w8 ⟨rfl, S8, F8⟩
                        have HQ := Lib.hid (S7.out.then S8 F8)
                        clear S8 F8 hih
                        go_wp2_with fail
                        go_roundg (mid - a')
                        case measure => omega
                        case rel =>
                          refine ⟨a', mid, (rd aheadB dk a' b' lim wb wp).lim, decide (b' - mid ≥ (b' - a') / 8), ap, pdq aheadB d4 (mid + 1) b' (rd aheadB dk a' b' lim wb wp).lim true true, rfl, rfl, rfl, ?_, rfl, by omega, by omega, Nat.le_refl _, by omega, by omega, Lib.hid (R7.out _ PL.out.1 PL.out.2).1, HQ, Lib.hid ?_⟩
                          · exact congrArg Value.bool (eighth (by omega) (by omega))
                          · rw [← A.out, pdq_right h12 hl0 hp2.out h87 (by rw [X.out]; exact ⟨r1, r2⟩) (by rw [X.out]; exact h4), X.out]
                    · have h87' := h87
                      simp only [Bool.and_eq_true, decide_eq_true_eq, Bool.not_eq_true'] at h87'
                      obtain ⟨mid, d4, hx⟩ : ∃ mid d4, partitionEqual aheadB (rd aheadB dk a' b' lim wb wp).pi.1 a' b' (rd aheadB dk a' b' lim wb wp).pivot = (mid, d4) := ⟨(partitionEqual aheadB (rd aheadB dk a' b' lim wb wp).pi.1 a' b' (rd aheadB dk a' b' lim wb wp).pivot).1, (partitionEqual aheadB (rd aheadB dk a' b' lim wb wp).pi.1 a' b' (rd aheadB dk a' b' lim wb wp).pivot).2, rfl⟩
                      obtain ⟨r1, r2, r3, r4, _⟩ := round_eq swo_ahead (partitionEqual_holds aheadB) h87'.1 hpv1 hpv2 (show b' ≤ (rd aheadB dk a' b' lim wb wp).pi.1.size by rw [S6.out.sh.size]; omega) RF.out.2.2.2.2.2.2.2 h87'.2 hx
                      have hc21 := parteq_any hsw S6.out.sh a' b' (rd aheadB dk a' b' lim wb wp).pivot (by omega) hb' (by omega) hN
                      rw [hx] at hc21
                      unfold lsV at hc21
                      have X := Lib.hid hx
                      have R4 := Lib.hid r4
                      have hlL : (rd aheadB dk a' b' lim wb wp).lim ≤ lim := rd_lim_le
                      have H87 := Lib.hid h87
                      clear hx r3 r4 h87' h87
                      go_wp2_with fail
                      refine hc21.mono ?_
                      rintro e w7 ⟨rfl, S7', F7⟩
                      have S7 := Lib.hid (S6.out.then S7' F7)
                      clear S7' F7 hc21 S6 c0 c1 hbx
                      go_wp2_with fail
                      go_roundg (b' - mid)
                      case measure => omega
                      case rel =>
                        refine ⟨mid, b', (rd aheadB dk a' b' lim wb wp).lim, wb, wp, d4, rfl, rfl, rfl, rfl, rfl, r2, hb', Nat.le_refl _, by omega, by omega, R4, S7, Lib.hid ?_⟩
                        rw [← A.out, pdq_eq h12 hl0 hp2.out H87.out (by rw [X.out]; exact ⟨r1, r2⟩), X.out]

end Go.Proofs.Ytfibgjgipadmkaa.Hp
