/- Drop of a handle in the middle. -/
import Derived.Test.YtfibgjgipadmkaaHh
namespace Go.Proofs.Ytfibgjgipadmkaa.Hp
set_option linter.unusedVariables false
set_option linter.unusedSimpArgs false
open Go.RowKit Go.Maps Go.ChangeMaps

theorem WF.take {T : List Th} (h : WF T) (n : Nat) : WF (T.take n) := fun t ht => h t (List.mem_of_mem_take ht)
theorem at_set {T : List Th} {i : Nat} (hi : i < T.length) (t : Th) : at' (T.set i t) i = t := by
  unfold at'; rw [List.getD_eq_getElem?_getD]; simp [hi]

/-- what Drop makes of the row and the map, when the handle's place is not the last -/
def midUp (T : List Th) (D : DataW Unit) (L i : Nat) (h : Int) : List Th × DataW Unit :=
  upF (at' T L) (i + 1) i ((T.take L).set i (at' T L)) ((D.del (.int .i64 h)).put (.int .i64 (at' T L).h) (.lit (.int .i64 i)))
def midF (T : List Th) (D : DataW Unit) (L i j : Nat) (h : Int) : List Th × DataW Unit :=
  downF (at' (midUp T D L i h).1 j) (L + 1) j (midUp T D L i h).1 (midUp T D L i h).2

set_option maxRecDepth 100000 in
set_option maxHeartbeats 2000000 in
theorem drop_mid (w : World) (B g m sb cap L i j : Nat) (T : List Th) (n : Nat) (D : DataW Unit) (last : Int) (R : Raw w B g m (.slice (some ⟨sb, 0, none⟩) (L + 1) cap) T n D last) (hL : T.length = L + 1) (hi : i < L)
    (h : Int) (hh : (Lit.int .i64 h).wf = true) (his : Maps.has D (.int .i64 h) = true) (hat : D.atKey (.int .i64 h) (.lit (.int .i64 0)) = .lit (.int .i64 i)) (hl : L ≤ 10000000) (hw : WF T) (hn : n + 2 * L < 700000000)
    (hj : j < L) (hat2 : (midUp T D L i h).2.atKey (.int .i64 (at' T L).h) (.lit (.int .i64 0)) = .lit (.int .i64 j)) :
    Calls Try.prog 14 #[.pointer (some ⟨g, 0, none⟩), .int .i64 h] w fun e w' => e = .returned (.tuple #[.int .u64 (at' T i).w, .bool true]) ∧ ∃ n', n' ≤ n + 2 * L + 3 ∧
      Raw w' B g m (.slice (some ⟨sb, 0, none⟩) L cap) (midF T D L i j h).1 n' (midF T D L i j h).2 last ∧ Fr (fun k => k = g ∨ k = m ∨ k = sb) w w' := by
  have hg0 : w.cell? ⟨g, 0, none⟩ = some (.slice (some ⟨sb, 0, none⟩) (L + 1) cap) := (cell_of_row w g 0 _ 56 (0, 0) R.blk).trans rfl
  have hg1 : w.cell? ⟨g, 1, none⟩ = some (.map (some m)) := (cell_of_row w g 1 _ 56 (0, 0) R.blk).trans rfl
  have hgl : g < w.heap.size := (Array.getElem?_eq_some_iff.1 R.blk).1
  have hfz : w.frozen? ⟨g, 0, none⟩ = false := frozen_of_row w g 0 _ 56 R.blk
  obtain ⟨hx0, hx1, hx2⟩ := R.thing' hL L (by omega)
  obtain ⟨hy0, hy1, hy2⟩ := R.thing' hL i (by omega)
  obtain ⟨hc1, hc2⟩ := ownsRow_le R.own
  have hsl : sb < w.heap.size := (R.own.lt sb rfl).2
  have hi0 : (0 : Int) ≤ (L : Int) := by omega
  have hi1 : (L : Int) < (L : Int) + 1 := by omega
  have hi2 : (0 : Int) ≤ (i : Int) := by omega
  have hi3 : (i : Int) < (L : Int) + 1 := by omega
  have hi4 : (i : Int) < (L : Int) := by omega
  have hs : IntKind.i64.wrap ((L : Int) + 1 - 1) = (L : Int) := by rw [Int.add_sub_cancel]; exact IntWalk.i64_in _ (by omega)
  have hq : ∀ (i : Nat) (c : Int), DataW.lit (H := Unit) (.int .i64 (i : Int)) = .lit (.int .i64 c) → (i : Int) = c := fun i c e => by injection e with e; injection e
  obtain ⟨t, ht⟩ : ∃ t, t = at' T i := ⟨_, rfl⟩
  obtain ⟨u, hu⟩ : ∃ u, u = at' T L := ⟨_, rfl⟩
  have hwu : (Lit.int .i64 u.h).wf = true := by rw [hu]; exact hw.at (by omega)
  rw [← ht] at hy0 hy1 hy2 ⊢
  rw [← hu] at hx0 hx1 hx2 hat2
  unfold midF
  unfold midUp at hat2 ⊢
  rw [← hu] at hat2 ⊢
  clear hu ht
  have hlT : (T.take L).length = L := by rw [List.length_take]; omega
  have hlen : (upF u (i + 1) i ((T.take L).set i u) ((D.del (.int .i64 h)).put (.int .i64 u.h) (.lit (.int .i64 i)))).1.length = L := by rw [upF_len, List.length_set]; exact hlT
  have hwf : WF (upF u (i + 1) i ((T.take L).set i u) ((D.del (.int .i64 h)).put (.int .i64 u.h) (.lit (.int .i64 i)))).1 := upF_wf u hwu _ _ _ _ (by rw [List.length_set]; omega) ((hw.take L).set hwu)
  obtain ⟨E, hE⟩ : ∃ E, E = upF u (i + 1) i ((T.take L).set i u) ((D.del (.int .i64 h)).put (.int .i64 u.h) (.lit (.int .i64 i))) := ⟨_, rfl⟩
  rw [← hE] at hlen hwf hat2 ⊢
  have hE := Lib.hid hE
  have HQ : Hid (D.atKey (.int .i64 h) (.lit (.int .i64 0)) = .lit (.int .i64 i)) := hat
  clear hat
  go_enter Try.func14, Try.ntmps14
  go_wp2_with (first | (at_lookup; refine wpList_lookup_own_ok_int _ rfl _ _ 53 rfl 3 3 .i64 keyI Try.underlying53 Try.underlying3 (zero3 _) m n D rfl R.mp _ _ rfl (keyOf_int_mk Try.underlying3 hh) ?_; intro c hac hwc; have hcc := hq i c (HQ.out.symm.trans hac); subst hcc; clear hac hwc) | (at_delete; refine wpList_delete_own _ rfl _ _ 53 3 rfl 3 keyI Try.underlying53 (plainElem Try.prog 3) m n D rfl (cut_map R _ t u) _ _ rfl (keyOf_int_mk Try.underlying3 hh) ?_; intro w1 hown1 hturn1; obtain ⟨R1, B0, B1, F1⟩ := cut_after R hL t u hown1 hturn1; have hb0 := B0.c1; have hc0 := B1.c0; have hc1 := B1.c1; have hc2 := B1.c2; have HH := Lib.hid (And.intro R1 (And.intro B0 (And.intro B1 F1))); clear R1 B0 B1 F1 hown1 hturn1))
  obtain ⟨R1, B0, B1, F1⟩ := HH.out
  clear HH
  have hlay := lay_any' w1 B g m sb cap L (T.take L) n (D.del (.int .i64 h)) last R1 i hi hlT u (by omega) hwu (by omega)
  refine hlay.mono ?_
  clear hlay
  rintro e w2 ⟨rfl, R2, F2⟩
  have N1 : ¬ w.heap.size = sb ∧ ¬ w.heap.size = m ∧ ¬ w.heap.size + 1 = sb ∧ ¬ w.heap.size + 1 = m := by have := R.mp.lt; omega
  have B0 := B0.fr F2 (by rintro (h | h) <;> omega)
  have B1 := B1.fr F2 (by rintro (h | h) <;> omega)
  have F3 := F1.then F2 (fun k hk => hk.elim (fun h => .inl (.inr (.inr h))) (fun h => .inl (.inr (.inl h))))
  clear R1 F1 F2 hb0 hc0 hc1 hc2 hx0 hx1 hx2 hy0 hy1 hy2 hg0 hg1 hfz
  go_wp2_with fail
  have hup := up_any' w2 B g m sb cap L ((T.take L).set i u) (n + 1) _ last R2 i hi (by rw [List.length_set]; exact hlT) (by omega) ((hw.take L).set hwu) (by omega)
  rw [at_set (by omega)] at hup
  refine hup.mono ?_
  clear hup
  rintro e w3 ⟨rfl, n3, hn3, R3, F4⟩
  rw [← hE.out] at R3
  clear hE
  have B0 := B0.fr F4 (by rintro (h | h) <;> omega)
  have B1 := B1.fr F4 (by rintro (h | h) <;> omega)
  have F5 := F3.then F4 (fun k hk => hk.elim (fun h => .inl (.inr (.inr h))) (fun h => .inl (.inr (.inl h))))
  clear R2 F3 F4
  have hr1 : w3.cell? ⟨g, 1, none⟩ = some (.map (some m)) := (cell_of_row w3 g 1 _ 56 (0, 0) R3.blk).trans rfl
  have hb2 := B1.c2
  obtain ⟨c, hrun, hac, hwc⟩ := (R3.mp.drew).lookup_int keyI Try.underlying53 Try.underlying3 (zero3 _) (keyOf_int_mk (P := Try.prog) Try.underlying3 hwu)
  have hcc := hq j c (hat2.symm.trans hac)
  subst hcc
  clear hac hwc
  go_wp2_with fail
  go_still_tail 8, (by kernel_rfl)
  change wpList _ _ _ _ _ w3.drew
  go_wp2_with fail
  have hdown := down_any' w3.drew B g m sb cap L E.1 n3 E.2 last R3.drew j hj hlen (by omega) hwf (by omega)
  refine hdown.mono ?_
  clear hdown
  rintro e w4 ⟨rfl, n4, hn4, R4, F6⟩
  have B0 := Box.fr (w := w3.drew) B0 F6 (by rintro (h | h) <;> omega)
  have hb0 := B0.c1
  have HE : Hid (∃ n', n' ≤ n + 2 * L + 3 ∧ Raw w4 B g m (.slice (some ⟨sb, 0, none⟩) L cap) (downF (at' E.1 j) (L + 1) j E.1 E.2).1 n' (downF (at' E.1 j) (L + 1) j E.1 E.2).2 last ∧ Fr (fun k => k = g ∨ k = m ∨ k = sb) w w4) :=
    ⟨n4, by omega, R4, F5.drew.then F6 (fun k hk => hk.elim (fun h => .inl (.inr (.inr h))) (fun h => .inl (.inr (.inl h))))⟩
  clear R4 F5 F6 R3 hr1 hb2 hrun
  go_wp2_with fail
  go_ret2
  exact ⟨rfl, HE.out⟩

end Go.Proofs.Ytfibgjgipadmkaa.Hp
