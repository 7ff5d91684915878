/- up: a thing is brought up. -/
import Derived.Test.YtfibgjgipadmkaaHc
import Derived.LoopTactic
import Derived.IntWalk
namespace Go.Proofs.Ytfibgjgipadmkaa.Hp
set_option linter.unusedVariables false
set_option linter.unusedSimpArgs false
open Go.RowKit Go.Maps Go.ChangeMaps

theorem grown_of_below {w w' : World} (h : Below w.heap.size w w') : w.grownBy w' none := ⟨h.os, h.tape, h.output, h.size, fun i hi _ => h.block i hi⟩
theorem Raw.below {w w' : World} {B g m : Nat} {v : Value} {T : List Th} {n : Nat} {D : DataW Unit} {last : Int} (R : Raw w B g m v T n D last) (h : Below w.heap.size w w') : Raw w' B g m v T n D last :=
  ⟨(h.block g (Array.getElem?_eq_some_iff.1 R.blk).1).trans R.blk, R.bg, R.own.kept (grown_of_below h) (by cases hv : v.ownBlock <;> simp), R.mp.kept (grown_of_below h) (by simp), R.bm⟩
theorem Raw.drew {w : World} {B g m : Nat} {v : Value} {T : List Th} {n : Nat} {D : DataW Unit} {last : Int} (R : Raw w B g m v T n D last) : Raw w.drew B g m v T n D last := R.below ((Below.refl _ _).drew)
theorem Raw.drewN {w : World} {B g m : Nat} {v : Value} {T : List Th} {n : Nat} {D : DataW Unit} {last : Int} (R : Raw w B g m v T n D last) (k : Nat) : Raw (w.drewN k) B g m v T n D last := ⟨R.blk, R.bg, R.own, R.mp, R.bm⟩

/-- what up makes of the row and the map -/
def upF (t : Th) : Nat → Nat → List Th → DataW Unit → List Th × DataW Unit
  | 0, _, T, D => (T, D)
  | k + 1, i, T, D => if 0 < i ∧ aheadB t (at' T ((i - 1) / 2)) = true then upF t k ((i - 1) / 2) (T.set i (at' T ((i - 1) / 2))) (D.put (.int .i64 (at' T ((i - 1) / 2)).h) (.lit (.int .i64 i))) else (T.set i t, D.put (.int .i64 t.h) (.lit (.int .i64 i)))

/-- the cells of one thing of the row -/
theorem Raw.thing {w : World} {B g m sb cap : Nat} {T : List Th} {n : Nat} {D : DataW Unit} {last : Int} (R : Raw w B g m (.slice (some ⟨sb, 0, none⟩) T.length cap) T n D last) (i : Nat) (hi : i < T.length) :
    w.cell? ⟨sb, i * 3, none⟩ = some (.int .u64 (at' T i).d) ∧ w.cell? ⟨sb, i * 3 + 1, none⟩ = some (.int .u64 (at' T i).w) ∧ w.cell? ⟨sb, i * 3 + 2, none⟩ = some (.int .i64 (at' T i).h) :=
  ⟨((R.own.cellAt (i * 3) (by omega)).trans (flat_get T i 0 hi (by omega))).trans rfl, ((R.own.cellAt (i * 3 + 1) (by omega)).trans (flat_get T i 1 hi (by omega))).trans rfl, ((R.own.cellAt (i * 3 + 2) (by omega)).trans (flat_get T i 2 hi (by omega))).trans rfl⟩

def WF (T : List Th) : Prop := ∀ t ∈ T, (Lit.int .i64 t.h).wf = true
theorem WF.at {T : List Th} (h : WF T) {i : Nat} (hi : i < T.length) : (Lit.int .i64 (at' T i).h).wf = true := by
  unfold at'; rw [List.getD_eq_getElem?_getD, List.getElem?_eq_getElem hi]; exact h _ (List.getElem_mem hi)
theorem WF.set {T : List Th} (h : WF T) {i : Nat} {t : Th} (ht : (Lit.int .i64 t.h).wf = true) : WF (T.set i t) := by
  intro x hx
  rcases List.mem_or_eq_of_mem_set hx with hx | rfl
  · exact h x hx
  · exact ht

def Box (w : World) (b : Nat) (t : Th) : Prop := w.heap[b]? = some (.cells #[.int .u64 t.d, .int .u64 t.w, .int .i64 t.h] 58 (0, 0))
theorem Box.c0 {w : World} {b : Nat} {t : Th} (h : Box w b t) : w.cell? ⟨b, 0, none⟩ = some (.int .u64 t.d) := (cell_of_row w b 0 _ 58 (0, 0) h).trans rfl
theorem Box.c1 {w : World} {b : Nat} {t : Th} (h : Box w b t) : w.cell? ⟨b, 1, none⟩ = some (.int .u64 t.w) := (cell_of_row w b 1 _ 58 (0, 0) h).trans rfl
theorem Box.c2 {w : World} {b : Nat} {t : Th} (h : Box w b t) : w.cell? ⟨b, 2, none⟩ = some (.int .i64 t.h) := (cell_of_row w b 2 _ 58 (0, 0) h).trans rfl
theorem Box.new (w : World) (t : Th) : Box (w.alloc (.cells #[.int .u64 t.d, .int .u64 t.w, .int .i64 t.h] 58)) w.heap.size t := heap_alloc_new w _
theorem Box.lt {w : World} {b : Nat} {t : Th} (h : Box w b t) : b < w.heap.size := (Array.getElem?_eq_some_iff.1 h).1
theorem Box.below {w w' : World} {b : Nat} {t : Th} (h : Box w b t) (k : Below w.heap.size w w') : Box w' b t := (k.block b h.lt).trans h
theorem Box.fr {S : Nat → Prop} {w w' : World} {b : Nat} {t : Th} (h : Box w b t) (k : Fr S w w') (hs : ¬ S b) : Box w' b t := (k.block b h.lt hs).trans h

theorem Raw.thing' {w : World} {B g m sb cap L : Nat} {T : List Th} {n : Nat} {D : DataW Unit} {last : Int} (R : Raw w B g m (.slice (some ⟨sb, 0, none⟩) L cap) T n D last) (hL : T.length = L) (i : Nat) (hi : i < T.length) :
    w.cell? ⟨sb, i * 3, none⟩ = some (.int .u64 (at' T i).d) ∧ w.cell? ⟨sb, i * 3 + 1, none⟩ = some (.int .u64 (at' T i).w) ∧ w.cell? ⟨sb, i * 3 + 2, none⟩ = some (.int .i64 (at' T i).h) := by
  subst hL; exact R.thing i hi
theorem lay_any' (w : World) (B g m sb cap L : Nat) (T : List Th) (n : Nat) (D : DataW Unit) (last : Int) (R : Raw w B g m (.slice (some ⟨sb, 0, none⟩) L cap) T n D last)
    (i : Nat) (hi : i < L) (hL : T.length = L) (t : Th) (hn : n < 1000000000) (hh : (Lit.int .i64 t.h).wf = true) (hl : L ≤ 1000000000) :
    Calls Try.prog 24 #[.pointer (some ⟨g, 0, none⟩), .int .i64 i, .agg #[.int .u64 t.d, .int .u64 t.w, .int .i64 t.h]] w fun e w' => e = .returned (.tuple #[]) ∧
      Raw w' B g m (.slice (some ⟨sb, 0, none⟩) L cap) (T.set i t) (n + 1) (D.put (.int .i64 t.h) (.lit (.int .i64 i))) last ∧ Fr (fun k => k = sb ∨ k = m) w w' := by
  subst hL; exact lay_any w B g m sb cap T n D last R i hi t hn hh hl

/-- between two rounds of up -/
def UpRel (w : World) (B g m sb cap L : Nat) (last : Int) (t : Th) (N : Nat) (E : List Th × DataW Unit) (v : Value) (wr : World) : Prop :=
  ∃ (j k n' : Nat) (T' : List Th) (D' : DataW Unit), v = .int .i64 j ∧ j < L ∧ T'.length = L ∧ WF T' ∧ j < k ∧ upF t k j T' D' = E ∧ n' + j ≤ N ∧
    Raw wr B g m (.slice (some ⟨sb, 0, none⟩) L cap) T' n' D' last ∧ Box wr w.heap.size t ∧ Fr (fun k => k = sb ∨ k = m) w wr

set_option maxRecDepth 100000 in
set_option maxHeartbeats 1000000 in
theorem up_any (w : World) (B g m sb cap : Nat) (T : List Th) (n : Nat) (D : DataW Unit) (last : Int) (R : Raw w B g m (.slice (some ⟨sb, 0, none⟩) T.length cap) T n D last)
    (i : Nat) (hi : i < T.length) (hn : n + i < 900000000) (hw : WF T) (hl : T.length ≤ 100000000) :
    Calls Try.prog 22 #[.pointer (some ⟨g, 0, none⟩), .int .i64 i] w fun e w' => e = .returned (.tuple #[]) ∧ ∃ n', n' ≤ n + i + 1 ∧
      Raw w' B g m (.slice (some ⟨sb, 0, none⟩) T.length cap) (upF (at' T i) (i + 1) i T D).1 n' (upF (at' T i) (i + 1) i T D).2 last ∧ Fr (fun k => k = sb ∨ k = m) w w' := by
  have hg0 : w.cell? ⟨g, 0, none⟩ = some (.slice (some ⟨sb, 0, none⟩) T.length cap) := (cell_of_row w g 0 _ 56 (0, 0) R.blk).trans rfl
  have hgl : g < w.heap.size := (Array.getElem?_eq_some_iff.1 R.blk).1
  obtain ⟨hx0, hx1, hx2⟩ := R.thing i hi
  have hi0 : (0 : Int) ≤ (i : Int) := by omega
  have hi1 : (i : Int) < (T.length : Int) := by omega
  have hwt := hw.at hi
  obtain ⟨t, ht⟩ : ∃ t, t = at' T i := ⟨_, rfl⟩
  rw [← ht] at hx0 hx1 hx2 hwt ⊢
  have hSB : ¬ w.heap.size = sb := by have := (R.own.lt sb rfl).2; omega
  have hM : ¬ w.heap.size = m := by have := R.mp.lt; omega
  have H0 : Hid (UpRel w B g m sb cap T.length last t (n + i) (upF t (i + 1) i T D) (.int .i64 i) (w.alloc (.cells #[.int .u64 t.d, .int .u64 t.w, .int .i64 t.h] 58))) :=
    ⟨i, i + 1, n, T, D, rfl, hi, rfl, hw, Nat.lt_succ_self i, rfl, Nat.le_refl _, R.below ((Below.refl _ _).alloc (Nat.le_refl _) _), Box.new _ _, (Fr.refl _ _).alloc _⟩
  obtain ⟨E, hE⟩ : ∃ E, E = upF t (i + 1) i T D := ⟨_, rfl⟩
  rw [← hE] at H0 ⊢
  clear hE ht R hw
  go_enter Try.func22, Try.ntmps22
  go_wp2
  go_loopw [1] (fun v wr => UpRel w B g m sb cap T.length last t (n + i) E v wr) (fun v _ => (intOf v).toNat)
  case atStart => exact H0.out
  case round =>
    obtain ⟨j, k, n', T', D', rfl, hj, hTl, hw', hjk, hup, hn', R', hbox, hfr⟩ := hrel
    obtain ⟨k, rfl⟩ : ∃ q, k = q + 1 := ⟨k - 1, by omega⟩
    have hb0 := hbox.c0
    have hb1 := hbox.c1
    have hb2 := hbox.c2
    have hr0 : wr.cell? ⟨g, 0, none⟩ = some (.slice (some ⟨sb, 0, none⟩) T.length cap) := (cell_of_row wr g 0 _ 56 (0, 0) R'.blk).trans rfl
    by_cases hj0 : 0 < j
    · have hd : decide (0 < j) = true := decide_eq_true hj0
      have hdi : decide ((0 : Int) < (j : Int)) = true := decide_eq_true (by omega)
      have hp : (j - 1) / 2 < T'.length := by omega
      obtain ⟨hy0, hy1, hy2⟩ := R'.thing' hTl ((j - 1) / 2) hp
      obtain ⟨p, hpe⟩ : ∃ p, p = (j - 1) / 2 := ⟨_, rfl⟩
      rw [← hpe] at hp hy0 hy1 hy2
      have hup1 : ((if aheadB t (at' T' p) = true then upF t k p (T'.set j (at' T' p)) (D'.put (.int .i64 (at' T' p).h) (.lit (.int .i64 j))) else (T'.set j t, D'.put (.int .i64 t.h) (.lit (.int .i64 j)))) = E) := by
        rw [← hup, upF, ← hpe]
        simp only [hj0, true_and]
      have hup' := Lib.hid hup1
      clear hup1
      have hpj : p < j := by omega
      have hp0 : (0 : Int) ≤ (p : Int) := by omega
      have hp1 : (p : Int) < (T.length : Int) := by omega
      have hs1 : IntKind.i64.wrap ((j : Int) - 1) = (j : Int) - 1 := IntWalk.i64_in _ (by omega)
      have hs2 : Int.tdiv ((j : Int) - 1) 2 = (p : Int) := by rw [Int.tdiv_eq_ediv_of_nonneg (by omega)]; omega
      have hs3 : IntKind.i64.wrap (p : Int) = (p : Int) := IntWalk.i64_in _ (by omega)
      have hs4 : ((j : Int) - 1) / 2 = (p : Int) := by omega
      have hwp := hw'.at hp
      have hq : Hid (T'.length = T.length) := hTl
      have hl' : T'.length ≤ 100000000 := by omega
      clear hx0 hx1 hx2 hg0 H0 hup hTl hpe
      go_wp2_with fail
      go_still_tail 13, (by kernel_rfl)
      change wpList _ _ _ _ _ wr.drew
      go_wp2_with fail
      refine (ahead_any t (at' T' p) wr.drew).mono ?_
      rintro e w1 ⟨rfl, hb⟩
      have R1 := R'.drew.below hb
      have hbox1 := Box.below (w := wr.drew) hbox hb
      have hfr1 : Fr (fun k => k = sb ∨ k = m) w w1 := hfr.drew.of_below hb
      have hb0 := hbox1.c0
      have hb1 := hbox1.c1
      have hb2 := hbox1.c2
      have hr0 : w1.cell? ⟨g, 0, none⟩ = some (.slice (some ⟨sb, 0, none⟩) T.length cap) := (cell_of_row w1 g 0 _ 56 (0, 0) R1.blk).trans rfl
      obtain ⟨hy0, hy1, hy2⟩ := R1.thing' hq.out p hp
      clear R' hbox hfr hb
      cases hc : aheadB t (at' T' p) with
      | true =>
        have hup2 := hup'.out
        rw [if_pos hc] at hup2
        have hup3 := Lib.hid hup2
        clear hup2 hup' hc
        go_wp2_with fail
        have hlay := lay_any' w1 B g m sb cap T.length T' n' D' last R1 j hj hq.out (at' T' p) (by omega) hwp (by omega)
        refine hlay.mono ?_
        clear hlay
        rintro e w2 ⟨rfl, R2, hf2⟩
        have hsb : sb < w1.heap.size := (R1.own.lt sb rfl).2
        have HE : Hid (UpRel w B g m sb cap T.length last t (n + i) E (.int .i64 p) w2) :=
          ⟨p, k, n' + 1, T'.set j (at' T' p), _, rfl, by have := hq.out; omega, by rw [List.length_set]; exact hq.out, hw'.set hwp, by omega, hup3.out, by omega, R2, hbox1.fr hf2 (by
            rintro (h | h)
            · exact hSB h
            · exact hM h), hfr1.trans hf2⟩
        clear R2 hf2 hup3 hq R1 hfr1 hbox1 hy0 hy1 hy2 hb0 hb1 hb2 hr0 hw' hwp hsb
        go_wp2_with fail
        go_roundw
        case rel => exact HE.out
        case measure => simp [intOf]; omega
      | false =>
        have hup2 := hup'.out
        rw [if_neg (by rw [hc]; simp)] at hup2
        have hup3 := Lib.hid hup2
        clear hup2 hup' hc
        go_wp2_with fail
        have hlay := lay_any' w1 B g m sb cap T.length T' n' D' last R1 j hj hq.out t (by omega) hwt (by omega)
        refine hlay.mono ?_
        clear hlay
        rintro e w2 ⟨rfl, R2, hf2⟩
        have HE : Hid (n' + j ≤ n + i ∧ Raw w2 B g m (.slice (some ⟨sb, 0, none⟩) T.length cap) E.1 (n' + 1) E.2 last ∧ Fr (fun k => k = sb ∨ k = m) w w2) := by
          refine ⟨hn', ?_, hfr1.trans hf2⟩
          rw [← hup3.out]; exact R2
        clear R2 hf2 hup3 hq R1 hfr1 hbox1 hy0 hy1 hy2 hb0 hb1 hb2 hr0
        go_wp2_with fail
        go_end0
        exact ⟨rfl, n' + 1, by have := HE.out.1; omega, HE.out.2.1, HE.out.2.2⟩
    · have hup' : Hid ((T'.set j t, D'.put (.int .i64 t.h) (.lit (.int .i64 j))) = E) := by rw [← hup, upF, if_neg (fun h => hj0 h.1)]; rfl
      clear hup
      have hd : decide (0 < j) = false := decide_eq_false hj0
      have hdi : decide ((0 : Int) < (j : Int)) = false := decide_eq_false (by omega)
      have hl' : T'.length ≤ 100000000 := by omega
      have hq : Hid (T'.length = T.length) := hTl
      clear hTl hj0 hx0 hx1 hx2 hg0 H0
      go_wp2_with fail
      go_quiet (fail)
      go_wp2_with fail
      have hlay := lay_any' (wr.drewN nq) B g m sb cap T.length T' n' D' last (R'.drewN nq) j hj hq.out t (by omega) hwt (by omega)
      refine hlay.mono ?_
      clear hlay
      rintro e w2 ⟨rfl, R2, hf2⟩
      have HE : Hid (n' + j ≤ n + i ∧ Raw w2 B g m (.slice (some ⟨sb, 0, none⟩) T.length cap) E.1 (n' + 1) E.2 last ∧ Fr (fun k => k = sb ∨ k = m) w w2) := by
        refine ⟨hn', ?_, (hfr.drewN nq).trans hf2⟩
        rw [← hup'.out]; exact R2
      clear R2 hf2 hup' hq R' hfr hbox
      go_wp2_with fail
      go_end0
      exact ⟨rfl, n' + 1, by have := HE.out.1; omega, HE.out.2.1, HE.out.2.2⟩

end Go.Proofs.Ytfibgjgipadmkaa.Hp
