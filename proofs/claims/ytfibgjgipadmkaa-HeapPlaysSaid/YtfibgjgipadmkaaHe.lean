/- down: a thing is brought down. -/
import Derived.Test.YtfibgjgipadmkaaHd
namespace Go.Proofs.Ytfibgjgipadmkaa.Hp
set_option linter.unusedVariables false
set_option linter.unusedSimpArgs false
open Go.RowKit Go.Maps Go.ChangeMaps

/-- the child that comes first -/
def kid (T : List Th) (i : Nat) : Nat := if 2 * i + 2 < T.length ∧ aheadB (at' T (2 * i + 2)) (at' T (2 * i + 1)) = true then 2 * i + 2 else 2 * i + 1

/-- what down makes of the row and the map -/
def downF (t : Th) : Nat → Nat → List Th → DataW Unit → List Th × DataW Unit
  | 0, _, T, D => (T, D)
  | k + 1, i, T, D => if 2 * i + 1 < T.length ∧ aheadB (at' T (kid T i)) t = true then downF t k (kid T i) (T.set i (at' T (kid T i))) (D.put (.int .i64 (at' T (kid T i)).h) (.lit (.int .i64 i))) else (T.set i t, D.put (.int .i64 t.h) (.lit (.int .i64 i)))

/-- between two rounds of down -/
def DownRel (w : World) (B g m sb cap L : Nat) (last : Int) (t : Th) (N : Nat) (E : List Th × DataW Unit) (v : Value) (wr : World) : Prop :=
  ∃ (j k n' : Nat) (T' : List Th) (D' : DataW Unit), v = .int .i64 j ∧ j < L ∧ T'.length = L ∧ WF T' ∧ L - j < k ∧ downF t k j T' D' = E ∧ n' + (L - j) ≤ N ∧
    Raw wr B g m (.slice (some ⟨sb, 0, none⟩) L cap) T' n' D' last ∧ Box wr w.heap.size t ∧ Fr (fun k => k = sb ∨ k = m) w wr

set_option maxRecDepth 100000 in
set_option maxHeartbeats 2000000 in
theorem down_any (w : World) (B g m sb cap : Nat) (T : List Th) (n : Nat) (D : DataW Unit) (last : Int) (R : Raw w B g m (.slice (some ⟨sb, 0, none⟩) T.length cap) T n D last)
    (i : Nat) (hi : i < T.length) (hn : n + T.length < 900000000) (hw : WF T) (hl : T.length ≤ 100000000) :
    Calls Try.prog 25 #[.pointer (some ⟨g, 0, none⟩), .int .i64 i] w fun e w' => e = .returned (.tuple #[]) ∧ ∃ n', n' ≤ n + T.length + 1 ∧
      Raw w' B g m (.slice (some ⟨sb, 0, none⟩) T.length cap) (downF (at' T i) (T.length + 1) i T D).1 n' (downF (at' T i) (T.length + 1) i T D).2 last ∧ Fr (fun k => k = sb ∨ k = m) w w' := by
  have hg0 : w.cell? ⟨g, 0, none⟩ = some (.slice (some ⟨sb, 0, none⟩) T.length cap) := (cell_of_row w g 0 _ 56 (0, 0) R.blk).trans rfl
  have hgl : g < w.heap.size := (Array.getElem?_eq_some_iff.1 R.blk).1
  obtain ⟨hx0, hx1, hx2⟩ := R.thing i hi
  have hi0 : (0 : Int) ≤ (i : Int) := by omega
  have hi1 : (i : Int) < (T.length : Int) := by omega
  have hwt := hw.at hi
  obtain ⟨t, ht⟩ : ∃ t, t = at' T i := ⟨_, rfl⟩
  rw [← ht] at hx0 hx1 hx2 hwt ⊢
  have hSB : ¬ w.heap.size = sb := by have := (R.own.lt sb rfl).2; omega
  have hM : ¬ w.heap.size = m := by have := R.mp.lt; omega
  have H0 : Hid (DownRel w B g m sb cap T.length last t (n + T.length) (downF t (T.length + 1) i T D) (.int .i64 i) (w.alloc (.cells #[.int .u64 t.d, .int .u64 t.w, .int .i64 t.h] 58))) :=
    ⟨i, T.length + 1, n, T, D, rfl, hi, rfl, hw, by omega, rfl, by omega, R.below ((Below.refl _ _).alloc (Nat.le_refl _) _), Box.new _ _, (Fr.refl _ _).alloc _⟩
  obtain ⟨E, hE⟩ : ∃ E, E = downF t (T.length + 1) i T D := ⟨_, rfl⟩
  rw [← hE] at H0 ⊢
  clear hE ht R hw
  go_enter Try.func25, Try.ntmps25
  go_wp2
  go_loopw [1] (fun v wr => DownRel w B g m sb cap T.length last t (n + T.length) E v wr) (fun v _ => T.length - (intOf v).toNat)
  case atStart => exact H0.out
  case round =>
    obtain ⟨j, k, n', T', D', rfl, hj, hTl, hw', hjk, hup, hn', R', hbox, hfr⟩ := hrel
    obtain ⟨k, rfl⟩ : ∃ q, k = q + 1 := ⟨k - 1, by omega⟩
    have hb0 := hbox.c0
    have hb1 := hbox.c1
    have hb2 := hbox.c2
    have hr0 : wr.cell? ⟨g, 0, none⟩ = some (.slice (some ⟨sb, 0, none⟩) T.length cap) := (cell_of_row wr g 0 _ 56 (0, 0) R'.blk).trans rfl
    have hq := Lib.hid hTl
    have hTl' : T'.length ≤ T.length := by omega
    have hTl2 : T.length ≤ T'.length := by omega
    clear hx0 hx1 hx2 hg0 H0 hTl
    by_cases h1 : 2 * j + 1 < T.length
    · have h1a : decide (2 * (j : Int) + 1 < (T.length : Int)) = true := decide_eq_true (by omega)
      have h1i : 2 * (j : Int) + 1 < (T.length : Int) := by omega
      have hj0 : (0 : Int) ≤ (j : Int) := by omega
      obtain ⟨c1, hc1⟩ : ∃ c1, c1 = 2 * j + 1 := ⟨_, rfl⟩
      have hs0 : 2 * (j : Int) + 1 = (c1 : Int) := by omega
      have hs1 : IntKind.i64.wrap ((c1 : Int) + 1) = (c1 : Int) + 1 := IntWalk.i64_in _ (by omega)
      have hs2 : (0 : Int) ≤ (c1 : Int) + 1 := by omega
      have hs3 : ((c1 : Int) + 1).toNat = c1 + 1 := by omega
      have hs4 : (0 : Int) ≤ (c1 : Int) := by omega
      have hs5 : (c1 : Int) < (T.length : Int) := by omega
      obtain ⟨hy0, hy1, hy2⟩ := R'.thing' hq.out c1 (by omega)
      have hcl : c1 < T'.length := by omega
      have hcL : c1 < T.length := by omega
      have hjc : j < c1 := by omega
      by_cases h2 : c1 + 1 < T.length
      · have h2a : decide (c1 + 1 < T.length) = true := decide_eq_true h2
        have h2b : decide ((c1 : Int) + 1 < (T.length : Int)) = true := decide_eq_true (by omega)
        have h2i : (c1 : Int) + 1 < (T.length : Int) := by omega
        obtain ⟨hv0, hv1, hv2⟩ := R'.thing' hq.out (c1 + 1) (by omega)
        have hkid : kid T' j = if aheadB (at' T' (c1 + 1)) (at' T' c1) = true then c1 + 1 else c1 := by
          unfold kid
          rw [show 2 * j + 2 = c1 + 1 by omega, show 2 * j + 1 = c1 by omega]
          simp only [show c1 + 1 < T'.length by omega, true_and]
        have HK := Lib.hid hkid
        have HUP := Lib.hid hup
        have HC := Lib.hid hc1
        clear hkid hup hc1
        go_wp2_with fail
        go_still_tail 24, (by kernel_rfl)
        change wpList _ _ _ _ _ wr.drew
        go_wp2_with fail
        refine (ahead_any (at' T' (c1 + 1)) (at' T' c1) wr.drew).mono ?_
        rintro e w1 ⟨rfl, hb⟩
        have R1 := R'.drew.below hb
        have B1 := Box.below (w := wr.drew) hbox hb
        have F1 : Fr (fun k => k = sb ∨ k = m) w w1 := hfr.drew.of_below hb
        clear R' hbox hfr hb hb0 hb1 hb2 hr0 hy0 hy1 hy2 hv0 hv1 hv2
        cases hca : aheadB (at' T' (c1 + 1)) (at' T' c1) with
        | true =>
          obtain ⟨c2, hc2⟩ : ∃ c2, c2 = c1 + 1 := ⟨_, rfl⟩
          have hu0 : (c1 : Int) + 1 = (c2 : Int) := by omega
          have hu4 : (0 : Int) ≤ (c2 : Int) := by omega
          have hu5 : (c2 : Int) < (T.length : Int) := by omega
          have hcl2 : c2 < T'.length := by omega
          have hcL2 : c2 < T.length := by omega
          have hjc2 : j < c2 := by omega
          have HK2 : Hid (kid T' j = c2) := by
            have hk1 := HK.out
            rw [if_pos hca] at hk1
            rw [hc2]; exact hk1
          clear hca HK hc2
          obtain ⟨hz0, hz1, hz2⟩ := R1.thing' hq.out c2 (by omega)
          have hwp := hw'.at (T := T') (i := c2) (by omega)
          have hc0 := (B1).c0
          have hc1' := (B1).c1
          have hc2' := (B1).c2
          have hrr : (w1).cell? ⟨g, 0, none⟩ = some (.slice (some ⟨sb, 0, none⟩) T.length cap) := (cell_of_row (w1) g 0 _ 56 (0, 0) (R1).blk).trans rfl
          have hup2 : (if aheadB (at' T' c2) t = true then downF t k c2 (T'.set j (at' T' c2)) (D'.put (.int .i64 (at' T' c2).h) (.lit (.int .i64 j))) else (T'.set j t, D'.put (.int .i64 t.h) (.lit (.int .i64 j)))) = E := by
            have := HUP.out
            rw [downF, HK2.out] at this
            have hlt : 2 * j + 1 < T'.length := by have := HC.out; omega
            simpa only [hlt, true_and] using this
          have HU2 := Lib.hid hup2
          clear hup2 HUP
          go_wp2_with fail
          go_still_tail 8, (by kernel_rfl)
          change wpList _ _ _ _ _ (w1).drew
          go_wp2_with fail
          refine (ahead_any (at' T' c2) t (w1).drew).mono ?_
          rintro e w5 ⟨rfl, hb⟩
          have RX := (R1).drew.below hb
          have BX := Box.below (w := (w1).drew) (B1) hb
          have FX : Fr (fun k => k = sb ∨ k = m) w w5 := ((F1).drew).of_below hb
          have hk0 := BX.c0
          have hk1 := BX.c1
          have hk2 := BX.c2
          have hrk : w5.cell? ⟨g, 0, none⟩ = some (.slice (some ⟨sb, 0, none⟩) T.length cap) := (cell_of_row w5 g 0 _ 56 (0, 0) RX.blk).trans rfl
          obtain ⟨hz0, hz1, hz2⟩ := RX.thing' hq.out c2 (by omega)
          clear hb
          cases hcc : aheadB (at' T' c2) t with
          | true =>
            have hup3 := HU2.out
            rw [if_pos hcc] at hup3
            have HU := Lib.hid hup3
            clear hup3 HU2 hcc
            go_wp2_with fail
            have hlay := lay_any' w5 B g m sb cap T.length T' n' D' last RX j hj hq.out (at' T' c2) (by omega) hwp (by omega)
            refine hlay.mono ?_
            clear hlay
            rintro e w2 ⟨rfl, R2, hf2⟩
            have HE : Hid (DownRel w B g m sb cap T.length last t (n + T.length) E (.int .i64 c2) w2) :=
              ⟨c2, k, n' + 1, T'.set j (at' T' c2), _, rfl, by have := hq.out; omega, by rw [List.length_set]; exact hq.out, hw'.set hwp, by omega, HU.out, by omega, R2, BX.fr hf2 (by
                rintro (h | h)
                · exact hSB h
                · exact hM h), FX.trans hf2⟩
            clear R2 hf2 HU hq RX FX BX hz0 hz1 hz2 hk0 hk1 hk2 hrk hw' hwp
            go_wp2_with fail
            go_roundw
            case rel => exact HE.out
            case measure => simp [intOf]; omega
          | false =>
            have hup3 := HU2.out
            rw [if_neg (by rw [hcc]; simp)] at hup3
            have HU := Lib.hid hup3
            clear hup3 HU2 hcc
            go_wp2_with fail
            have hlay := lay_any' (w5) B g m sb cap T.length T' n' D' last RX j hj hq.out t (by omega) hwt (by omega)
            refine hlay.mono ?_
            clear hlay
            rintro e w2 ⟨rfl, R2, hf2⟩
            have HE : Hid (n' ≤ n + T.length ∧ Raw w2 B g m (.slice (some ⟨sb, 0, none⟩) T.length cap) E.1 (n' + 1) E.2 last ∧ Fr (fun k => k = sb ∨ k = m) w w2) := by
              refine ⟨by omega, ?_, FX.trans hf2⟩
              rw [← HU.out]; exact R2
            clear R2 hf2 HU RX FX
            go_wp2_with fail
            go_end0
            exact ⟨rfl, n' + 1, by have := HE.out.1; omega, HE.out.2.1, HE.out.2.2⟩
        | false =>
          have HK2 : Hid (kid T' j = c1) := by
            have hk1 := HK.out
            rw [if_neg (by rw [hca]; simp)] at hk1
            exact hk1
          clear hca HK
          obtain ⟨hz0, hz1, hz2⟩ := R1.thing' hq.out c1 (by omega)
          have hwp := hw'.at (T := T') (i := c1) (by omega)
          have hc0 := (B1).c0
          have hc1' := (B1).c1
          have hc2' := (B1).c2
          have hrr : (w1).cell? ⟨g, 0, none⟩ = some (.slice (some ⟨sb, 0, none⟩) T.length cap) := (cell_of_row (w1) g 0 _ 56 (0, 0) (R1).blk).trans rfl
          have hup2 : (if aheadB (at' T' c1) t = true then downF t k c1 (T'.set j (at' T' c1)) (D'.put (.int .i64 (at' T' c1).h) (.lit (.int .i64 j))) else (T'.set j t, D'.put (.int .i64 t.h) (.lit (.int .i64 j)))) = E := by
            have := HUP.out
            rw [downF, HK2.out] at this
            have hlt : 2 * j + 1 < T'.length := by have := HC.out; omega
            simpa only [hlt, true_and] using this
          have HU2 := Lib.hid hup2
          clear hup2 HUP
          go_wp2_with fail
          go_still_tail 8, (by kernel_rfl)
          change wpList _ _ _ _ _ (w1).drew
          go_wp2_with fail
          refine (ahead_any (at' T' c1) t (w1).drew).mono ?_
          rintro e w5 ⟨rfl, hb⟩
          have RX := (R1).drew.below hb
          have BX := Box.below (w := (w1).drew) (B1) hb
          have FX : Fr (fun k => k = sb ∨ k = m) w w5 := ((F1).drew).of_below hb
          have hk0 := BX.c0
          have hk1 := BX.c1
          have hk2 := BX.c2
          have hrk : w5.cell? ⟨g, 0, none⟩ = some (.slice (some ⟨sb, 0, none⟩) T.length cap) := (cell_of_row w5 g 0 _ 56 (0, 0) RX.blk).trans rfl
          obtain ⟨hz0, hz1, hz2⟩ := RX.thing' hq.out c1 (by omega)
          clear hb
          cases hcc : aheadB (at' T' c1) t with
          | true =>
            have hup3 := HU2.out
            rw [if_pos hcc] at hup3
            have HU := Lib.hid hup3
            clear hup3 HU2 hcc
            go_wp2_with fail
            have hlay := lay_any' w5 B g m sb cap T.length T' n' D' last RX j hj hq.out (at' T' c1) (by omega) hwp (by omega)
            refine hlay.mono ?_
            clear hlay
            rintro e w2 ⟨rfl, R2, hf2⟩
            have HE : Hid (DownRel w B g m sb cap T.length last t (n + T.length) E (.int .i64 c1) w2) :=
              ⟨c1, k, n' + 1, T'.set j (at' T' c1), _, rfl, by have := hq.out; omega, by rw [List.length_set]; exact hq.out, hw'.set hwp, by omega, HU.out, by omega, R2, BX.fr hf2 (by
                rintro (h | h)
                · exact hSB h
                · exact hM h), FX.trans hf2⟩
            clear R2 hf2 HU hq RX FX BX hz0 hz1 hz2 hk0 hk1 hk2 hrk hw' hwp
            go_wp2_with fail
            go_roundw
            case rel => exact HE.out
            case measure => simp [intOf]; omega
          | false =>
            have hup3 := HU2.out
            rw [if_neg (by rw [hcc]; simp)] at hup3
            have HU := Lib.hid hup3
            clear hup3 HU2 hcc
            go_wp2_with fail
            have hlay := lay_any' (w5) B g m sb cap T.length T' n' D' last RX j hj hq.out t (by omega) hwt (by omega)
            refine hlay.mono ?_
            clear hlay
            rintro e w2 ⟨rfl, R2, hf2⟩
            have HE : Hid (n' ≤ n + T.length ∧ Raw w2 B g m (.slice (some ⟨sb, 0, none⟩) T.length cap) E.1 (n' + 1) E.2 last ∧ Fr (fun k => k = sb ∨ k = m) w w2) := by
              refine ⟨by omega, ?_, FX.trans hf2⟩
              rw [← HU.out]; exact R2
            clear R2 hf2 HU RX FX
            go_wp2_with fail
            go_end0
            exact ⟨rfl, n' + 1, by have := HE.out.1; omega, HE.out.2.1, HE.out.2.2⟩
      · have h2a : decide (c1 + 1 < T.length) = false := decide_eq_false h2
        have h2b : decide ((c1 : Int) + 1 < (T.length : Int)) = false := decide_eq_false (by omega)
        have hkid : kid T' j = c1 := by
          unfold kid
          rw [show 2 * j + 2 = c1 + 1 by omega, show 2 * j + 1 = c1 by omega, if_neg (fun h => h2 (by omega))]
        have HK := Lib.hid hkid
        have HUP := Lib.hid hup
        have HC := Lib.hid hc1
        clear hkid hup hc1
        go_wp2_with fail
        go_quiet (fail)
        go_wp2_with fail
        have R1 := R'.drewN nq
        have B1 : Box (wr.drewN nq) w.heap.size t := hbox
        have F1 := hfr.drewN nq
        clear R' hbox hfr hb0 hb1 hb2 hr0 hy0 hy1 hy2
        generalize wr.drewN nq = w1 at R1 B1 F1 ⊢

        obtain ⟨hz0, hz1, hz2⟩ := R1.thing' hq.out c1 (by omega)
        have hwp := hw'.at (T := T') (i := c1) (by omega)
        have hc0 := (B1).c0
        have hc1' := (B1).c1
        have hc2' := (B1).c2
        have hrr : (w1).cell? ⟨g, 0, none⟩ = some (.slice (some ⟨sb, 0, none⟩) T.length cap) := (cell_of_row (w1) g 0 _ 56 (0, 0) (R1).blk).trans rfl
        have hup2 : (if aheadB (at' T' c1) t = true then downF t k c1 (T'.set j (at' T' c1)) (D'.put (.int .i64 (at' T' c1).h) (.lit (.int .i64 j))) else (T'.set j t, D'.put (.int .i64 t.h) (.lit (.int .i64 j)))) = E := by
          have := HUP.out
          rw [downF, HK.out] at this
          have hlt : 2 * j + 1 < T'.length := by have := HC.out; omega
          simpa only [hlt, true_and] using this
        have HU2 := Lib.hid hup2
        clear hup2 HUP
        go_still_tail 8, (by kernel_rfl)
        change wpList _ _ _ _ _ (w1).drew
        go_wp2_with fail
        refine (ahead_any (at' T' c1) t (w1).drew).mono ?_
        rintro e w5 ⟨rfl, hb⟩
        have RX := (R1).drew.below hb
        have BX := Box.below (w := (w1).drew) (B1) hb
        have FX : Fr (fun k => k = sb ∨ k = m) w w5 := ((F1).drew).of_below hb
        have hk0 := BX.c0
        have hk1 := BX.c1
        have hk2 := BX.c2
        have hrk : w5.cell? ⟨g, 0, none⟩ = some (.slice (some ⟨sb, 0, none⟩) T.length cap) := (cell_of_row w5 g 0 _ 56 (0, 0) RX.blk).trans rfl
        obtain ⟨hz0, hz1, hz2⟩ := RX.thing' hq.out c1 (by omega)
        clear hb
        cases hcc : aheadB (at' T' c1) t with
        | true =>
          have hup3 := HU2.out
          rw [if_pos hcc] at hup3
          have HU := Lib.hid hup3
          clear hup3 HU2 hcc
          go_wp2_with fail
          have hlay := lay_any' w5 B g m sb cap T.length T' n' D' last RX j hj hq.out (at' T' c1) (by omega) hwp (by omega)
          refine hlay.mono ?_
          clear hlay
          rintro e w2 ⟨rfl, R2, hf2⟩
          have HE : Hid (DownRel w B g m sb cap T.length last t (n + T.length) E (.int .i64 c1) w2) :=
            ⟨c1, k, n' + 1, T'.set j (at' T' c1), _, rfl, by have := hq.out; omega, by rw [List.length_set]; exact hq.out, hw'.set hwp, by omega, HU.out, by omega, R2, BX.fr hf2 (by
              rintro (h | h)
              · exact hSB h
              · exact hM h), FX.trans hf2⟩
          clear R2 hf2 HU hq RX FX BX hz0 hz1 hz2 hk0 hk1 hk2 hrk hw' hwp
          go_wp2_with fail
          go_roundw
          case rel => exact HE.out
          case measure => simp [intOf]; omega
        | false =>
          have hup3 := HU2.out
          rw [if_neg (by rw [hcc]; simp)] at hup3
          have HU := Lib.hid hup3
          clear hup3 HU2 hcc
          go_wp2_with fail
          have hlay := lay_any' (w5) B g m sb cap T.length T' n' D' last RX j hj hq.out t (by omega) hwt (by omega)
          refine hlay.mono ?_
          clear hlay
          rintro e w2 ⟨rfl, R2, hf2⟩
          have HE : Hid (n' ≤ n + T.length ∧ Raw w2 B g m (.slice (some ⟨sb, 0, none⟩) T.length cap) E.1 (n' + 1) E.2 last ∧ Fr (fun k => k = sb ∨ k = m) w w2) := by
            refine ⟨by omega, ?_, FX.trans hf2⟩
            rw [← HU.out]; exact R2
          clear R2 hf2 HU RX FX
          go_wp2_with fail
          go_end0
          exact ⟨rfl, n' + 1, by have := HE.out.1; omega, HE.out.2.1, HE.out.2.2⟩
    · have HU : Hid ((T'.set j t, D'.put (.int .i64 t.h) (.lit (.int .i64 j))) = E) := by
        have hup1 := hup
        rw [downF, if_neg (fun h => h1 (by omega))] at hup1
        exact hup1
      have h1a : decide (2 * (j : Int) + 1 < (T.length : Int)) = false := decide_eq_false (by omega)
      have h1i : (T.length : Int) ≤ 2 * (j : Int) + 1 := by omega
      clear hup
      have RX := R'
      have FX := hfr
      clear R' hfr hbox
      go_wp2_with fail
      have hlay := lay_any' (wr) B g m sb cap T.length T' n' D' last RX j hj hq.out t (by omega) hwt (by omega)
      refine hlay.mono ?_
      clear hlay
      rintro e w2 ⟨rfl, R2, hf2⟩
      have HE : Hid (n' ≤ n + T.length ∧ Raw w2 B g m (.slice (some ⟨sb, 0, none⟩) T.length cap) E.1 (n' + 1) E.2 last ∧ Fr (fun k => k = sb ∨ k = m) w w2) := by
        refine ⟨by omega, ?_, FX.trans hf2⟩
        rw [← HU.out]; exact R2
      clear R2 hf2 HU RX FX
      go_wp2_with fail
      go_end0
      exact ⟨rfl, n' + 1, by have := HE.out.1; omega, HE.out.2.1, HE.out.2.2⟩

end Go.Proofs.Ytfibgjgipadmkaa.Hp
