/- The iterator called plainly, with the closure that gathers; all. -/
import Derived.Test.YtfibgjgipadmkaaKa
import Derived.Test.YtfibgjgipadmkaaKb
import Derived.Laws.Cover3
namespace Go.Proofs.Ytfibgjgipadmkaa.Hp
set_option linter.unusedVariables false
set_option linter.unusedSimpArgs false
open Go.RowKit Go.Maps Go.ChangeMaps

def pr (t : Th) : Int × Int := (t.d, t.w)
/-- how many are gathered of n -/
def tk (most : Int) (n : Nat) : Nat := min most.toNat n

theorem Gat.nb {lb mb B : Nat} {most : Int} {ps : List (Int × Int)} {v : Value} {w : World} (G : Gat lb mb B most ps v w) {k : Nat} (h : v.ownBlock = some k) : B ≤ k ∧ k < w.heap.size := G.own.lt k h

set_option maxRecDepth 100000 in
set_option maxHeartbeats 4000000 in
theorem iter_in (w : World) (Bh g m sb cap : Nat) (T S : List Th) (nn : Nat) (D : DataW Unit) (last : Int) (hS : SortOK T S) (lb mb B : Nat) (most : Int) (h1m : 1 ≤ most) (G : Gat lb mb B most [] (.slice none 0 0) w)
    (hBh : w.cell? ⟨Bh, 0, none⟩ = some (.pointer (some ⟨g, 0, none⟩))) (hBl : Bh < w.heap.size) (R : Raw w 0 g m (.slice (some ⟨sb, 0, none⟩) T.length cap) T nn D last) (hl : T.length ≤ 1000000) :
    Calls Try.prog 28 #[.func (.func 26) #[] #[.pointer (some ⟨lb, 0, none⟩), .pointer (some ⟨mb, 0, none⟩)], .pointer (some ⟨Bh, 0, none⟩)] w fun e w' => e = .returned (.tuple #[]) ∧ ∃ v', Gat lb mb B most ((S.take (tk most S.length)).map pr) v' w' ∧ Fr (fun k => k = lb) w w' := by
  have hg0 : w.cell? ⟨g, 0, none⟩ = some (.slice (some ⟨sb, 0, none⟩) T.length cap) := (cell_of_row w g 0 _ 56 (0, 0) R.blk).trans rfl
  have hgl : g < w.heap.size := (Array.getElem?_eq_some_iff.1 R.blk).1
  have hlbl : lb < w.heap.size := (Array.getElem?_eq_some_iff.1 G.l).1
  have hmbl : mb < w.heap.size := (Array.getElem?_eq_some_iff.1 G.m).1
  obtain ⟨i0, hi, hz0, hz1, hz2⟩ := info_parts info58
  have hcs := (R.own.alloc (.cells #[] 58)).cells (g := sb) rfl
  have HG := Lib.hid G
  clear G
  go_enter Try.func28, Try.ntmps28
  go_wp2_with (at_builtin; refine wpList_append_own _ rfl _ _ 54 rfl w.heap.size 58 i0 (.agg #[.int .u64 0, .int .u64 0, .int .i64 0]) 3 24 Try.underlying54 hi hz0 hz1 hz2 rfl (by decide) _ 0 [] rfl (row_new w) ⟨sb, 0, none⟩ T.length cap (flat T) rfl (flat_len T) hcs (fun u hu => flat_one hu) ?c1 ?c2 ?c3 ?_)
  case c1 => unfold maxLen; omega
  case c2 => omega
  case c3 => simp
  intro v' w1 hown1 hgrow1 hnil1
  obtain ⟨gb, cap', rfl⟩ := row_form hown1 (fun e => hnil1 e)
  have hw1 : Below w.heap.size w w1 := ((Below.refl _ w).alloc (Nat.le_refl _) _).grown hgrow1 (by simp) (fun k hk => by injection hk with hk; subst hk; exact Nat.le_refl _)
  have hgb := hown1.lt gb rfl
  have HF := Lib.hid (And.intro hown1 hw1)
  clear hown1 hgrow1 hnil1 hcs hi hz0 hz1 hz2 hw1
  go_wp2_with fail
  have hs := hS.2 (w1.alloc (.cells #[.slice (some ⟨gb, 0, none⟩) T.length cap'] 54)) w.heap.size gb cap' w1.heap.size (by have := HF.out.1.alloc (.cells #[.slice (some ⟨gb, 0, none⟩) T.length cap'] 54); simpa using this) (by simp) (by simp) (by omega)
  refine hs.mono ?_
  rintro e w2 ⟨rfl, hown2, hfr2⟩
  have hc2 : w2.cell? ⟨w1.heap.size, 0, none⟩ = some (.slice (some ⟨gb, 0, none⟩) T.length cap') := (cell_of_row w2 w1.heap.size 0 #[.slice (some ⟨gb, 0, none⟩) T.length cap'] 54 (0, 0) (hfr2.keep (heap_alloc_new w1 _) (by omega))).trans rfl
  have hF : Fr (fun k => k = gb) w w2 := (((Fr.refl _ w).of_below HF.out.2).alloc _).trans hfr2
  have hB2 : Below w.heap.size w w2 := hF.below (Nat.le_refl _) (fun k hk => by omega)
  have hsz : w.heap.size ≤ w2.heap.size := hB2.size
  have hSl : S.length = T.length := hS.1
  have H0 : Hid (Gat lb mb B most ((S.take 0).map pr) (.slice none 0 0) w2 ∧ w2.ownsRow w.heap.size 58 3 (.slice (some ⟨gb, 0, none⟩) T.length cap') T.length (flat S) ∧ Fr (fun k => k = lb) w w2) :=
    ⟨by simpa using HG.out.below hB2, hown2, (Fr.refl _ w).of_below hB2⟩
  have hbs : w1.heap.size < w2.heap.size := by have := hfr2.size; simp at this; omega
  clear hs hfr2 hF hB2 hown2
  go_wp2_with fail
  clear hc2
  go_loopw [18] (fun i wr => ∃ (k : Nat) (v : Value), k ≤ T.length ∧ i = .int .i64 k ∧ (k : Int) < most ∧ Gat lb mb B most ((S.take k).map pr) v wr ∧ (∀ q, v.ownBlock = some q → q ≠ gb ∧ w.heap.size ≤ q) ∧ w.heap.size ≤ wr.heap.size ∧ gb < wr.heap.size ∧ wr.ownsRow w.heap.size 58 3 (.slice (some ⟨gb, 0, none⟩) T.length cap') T.length (flat S) ∧ Fr (fun k => k = lb) w wr)
    (fun i _ => T.length - (intOf i).toNat)
  case atStart => exact ⟨0, _, Nat.zero_le _, rfl, by omega, H0.out.1, fun q hq => by simp [Value.ownBlock] at hq, hsz, by have := (H0.out.2.1.lt gb rfl).2; omega, H0.out.2.1, H0.out.2.2⟩
  case round =>
    clear H0
    obtain ⟨k, v, hk, rfl, hkm, hGk, hvk, hszr, hgbl, hown, hfr⟩ := hrel
    have hlen : ((S.take k).map pr).length = k := by rw [List.length_map, List.length_take]; omega
    by_cases hlt : k < T.length
    · have hx0 : wr.cell? ⟨gb, k * 3, none⟩ = some (.int .u64 (at' S k).d) := ((hown.cellAt (k * 3) (by omega)).trans (flat_get S k 0 (by omega) (by omega))).trans rfl
      have hx1 : wr.cell? ⟨gb, k * 3 + 1, none⟩ = some (.int .u64 (at' S k).w) := ((hown.cellAt (k * 3 + 1) (by omega)).trans (flat_get S k 1 (by omega) (by omega))).trans rfl
      have hx2 : wr.cell? ⟨gb, k * 3 + 2, none⟩ = some (.int .i64 (at' S k).h) := ((hown.cellAt (k * 3 + 2) (by omega)).trans (flat_get S k 2 (by omega) (by omega))).trans rfl
      have htk : (S.take k).map pr ++ [((at' S k).d, (at' S k).w)] = (S.take (k + 1)).map pr := by
        rw [List.take_succ_eq_append_getElem (by omega), List.map_append]
        unfold at'
        rw [List.getD_eq_getElem?_getD, List.getElem?_eq_getElem (by omega)]
        rfl
      have hlbB := hGk.lB
      have hmbB := hGk.mB
      have hGB := hGk.B
      have hy := yield_any (wr.alloc (.cells #[.int .u64 (at' S k).d, .int .u64 (at' S k).w, .int .i64 (at' S k).h] 58)) lb mb B most _ v (hGk.below ((Below.refl _ _).alloc (Nat.le_refl _) _)) (at' S k).d (at' S k).w (by omega)
      rw [htk, hlen] at hy
      have hgne : gb ≠ lb := by omega
      have HH := Lib.hid (And.intro hGk (And.intro hvk (And.intro hown hfr)))
      have HT := Lib.hid htk
      have hl1 : decide ((k : Int) < (T.length : Int)) = true := decide_eq_true (by omega)
      have hi0 : (0 : Int) ≤ (k : Int) := by omega
      have hi1 : (k : Int) < (T.length : Int) := by omega
      have hadd : IntKind.i64.wrap ((k : Int) + 1) = (k : Int) + 1 := IntWalk.i64_in _ (by omega)
      have HL := Lib.hid hlen
      clear hGk hvk hown hfr htk hlen
      go_wp2_with fail
      refine hy.mono ?_
      clear hy
      rintro e w3 ⟨rfl, v3, hG3, hv3, hF3⟩
      have hfr3 : Fr (fun k => k = lb) w w3 := (HH.out.2.2.2.alloc _).then hF3 (fun q hq => by
        rcases hq with h | h
        · exact .inl h
        · exact .inr (HH.out.2.1 q h.symm).2)
      have hb3 := hF3.block gb (by simp; omega) (by
        rintro (h | h)
        · exact hgne h
        · exact (HH.out.2.1 gb h.symm).1 rfl)
      have hown3 : w3.ownsRow w.heap.size 58 3 (.slice (some ⟨gb, 0, none⟩) T.length cap') T.length (flat S) := by
        have := HH.out.2.2.1.alloc (.cells #[.int .u64 (at' S k).d, .int .u64 (at' S k).w, .int .i64 (at' S k).h] 58)
        obtain ⟨hl, h | ⟨g', cap2, cur, h, hb, hgg, r⟩⟩ := this
        · exact absurd h.1 (by simp)
        · injection h with q1 q2 q3
          injection q1 with q1
          injection q1 with q1
          subst q1 q3
          exact ⟨hl, .inr ⟨_, _, cur, rfl, hb, hb3.trans hgg, r⟩⟩
      have hs3 := hF3.size
      rw [World.size_alloc] at hs3
      have HE : Hid (Gat lb mb B most ((S.take (k + 1)).map pr) v3 w3 ∧ (∀ q, v3.ownBlock = some q → q ≠ gb ∧ w.heap.size ≤ q) ∧ w3.ownsRow w.heap.size 58 3 (.slice (some ⟨gb, 0, none⟩) T.length cap') T.length (flat S) ∧ Fr (fun k => k = lb) w w3) :=
        ⟨hG3, fun q hq => by
          rcases hv3 q hq with h | h
          · exact HH.out.2.1 q h
          · rw [World.size_alloc] at h; omega, hown3, hfr3⟩
      clear hG3 hv3 hF3 hfr3 hb3 hown3
      by_cases hgo : ((k + 1 : Nat) : Int) < most
      · have hgd : decide (((k + 1 : Nat) : Int) < most) = true := decide_eq_true hgo
        rw [hgd]
        go_wp2_with fail
        go_roundw
        case rel => exact ⟨k + 1, v3, by omega, by simp, hgo, HE.out.1, HE.out.2.1, by omega, by omega, HE.out.2.2.1, HE.out.2.2.2⟩
        case measure => simp [intOf]; omega
      · have hgd : decide (((k + 1 : Nat) : Int) < most) = false := decide_eq_false hgo
        rw [hgd]
        have htk : Hid (tk most S.length = k + 1) := Lib.hid (by unfold tk; omega)
        go_wp2_with fail
        refine bodyPost_ret (results_none rfl _ _ _) rfl ?_
        refine ⟨rfl, v3, ?_, HE.out.2.2.2⟩
        rw [htk.out]
        exact HE.out.1
    · obtain rfl : k = T.length := by omega
      have hl1 : decide ((T.length : Int) < (T.length : Int)) = false := decide_eq_false (by omega)
      have htk : Hid (tk most S.length = T.length) := Lib.hid (by unfold tk; omega)
      have HH := Lib.hid (And.intro hGk hfr)
      clear hGk hfr hown hlen hvk
      go_wp2_with fail
      go_end0
      refine ⟨rfl, v, ?_, HH.out.2⟩
      rw [htk.out]
      exact HH.out.1

set_option maxRecDepth 100000 in
set_option maxHeartbeats 4000000 in
theorem iter_nil (w : World) (Bh g m : Nat) (nn : Nat) (D : DataW Unit) (last : Int) (hS : SortOK [] []) (lb mb B : Nat) (most : Int) (G : Gat lb mb B most [] (.slice none 0 0) w)
    (hBh : w.cell? ⟨Bh, 0, none⟩ = some (.pointer (some ⟨g, 0, none⟩))) (hBl : Bh < w.heap.size) (R : Raw w 0 g m (.slice none 0 0) [] nn D last) :
    Calls Try.prog 28 #[.func (.func 26) #[] #[.pointer (some ⟨lb, 0, none⟩), .pointer (some ⟨mb, 0, none⟩)], .pointer (some ⟨Bh, 0, none⟩)] w fun e w' => e = .returned (.tuple #[]) ∧ ∃ v', Gat lb mb B most [] v' w' ∧ Fr (fun k => k = lb) w w' := by
  have hg0 : w.cell? ⟨g, 0, none⟩ = some (.slice none 0 0) := (cell_of_row w g 0 _ 56 (0, 0) R.blk).trans rfl
  have hgl : g < w.heap.size := (Array.getElem?_eq_some_iff.1 R.blk).1
  have HG := Lib.hid G
  clear G
  go_enter Try.func28, Try.ntmps28
  go_wp2_with fail
  have hrow : ((w.alloc (.cells #[] 58)).alloc (.cells #[.slice (some ⟨w.heap.size, 0, none⟩) 0 0] 54)).ownsRow w.heap.size 58 3 (.slice (some ⟨w.heap.size, 0, none⟩) 0 0) 0 [] := (row_new w).alloc _
  have hs := hS.2 ((w.alloc (.cells #[] 58)).alloc (.cells #[.slice (some ⟨w.heap.size, 0, none⟩) 0 0] 54)) w.heap.size w.heap.size 0 (w.heap.size + 1) hrow (by simp) (by simp) (by omega)
  refine hs.mono ?_
  rintro e w2 ⟨rfl, hown2, hfr2⟩
  have hF : Fr (fun k => k = w.heap.size) w w2 := (((Fr.refl _ w).alloc _).alloc _).trans hfr2
  have hB2 : Below w.heap.size w w2 := hF.below (Nat.le_refl _) (fun k hk => by omega)
  have hb := heap_alloc_new (w.alloc (.cells #[] 58)) (.cells #[.slice (some ⟨w.heap.size, 0, none⟩) 0 0] 54)
  rw [World.size_alloc] at hb
  have hc2 : w2.cell? ⟨w.heap.size + 1, 0, none⟩ = some (.slice (some ⟨w.heap.size, 0, none⟩) 0 0) := (cell_of_row w2 (w.heap.size + 1) 0 #[.slice (some ⟨w.heap.size, 0, none⟩) 0 0] 54 (0, 0) (hfr2.keep hb (by omega))).trans rfl
  have H2 : Hid (Gat lb mb B most [] (.slice none 0 0) w2 ∧ Fr (fun k => k = lb) w w2) := ⟨HG.out.below hB2, (Fr.refl _ w).of_below hB2⟩
  clear hs hfr2 hF hB2 hb hrow
  go_wp2_with fail
  go_loopw [18] (fun i wr => i = .int .i64 0 ∧ Hid (Gat lb mb B most [] (.slice none 0 0) wr ∧ Fr (fun k => k = lb) w wr)) (fun _ _ => 0)
  case atStart => exact ⟨rfl, H2⟩
  case round =>
    obtain ⟨rfl, hJs⟩ := hrel
    go_wp2_with fail
    go_end0
    exact ⟨rfl, _, hJs.out⟩

theorem row_base {w : World} {B B2 e L k : Nat} {v : Value} {xs : List Value} (h : w.ownsRow B e k v L xs) (hB : B2 ≤ B) : w.ownsRow B2 e k v L xs := by
  obtain ⟨hl, h | ⟨g', cap', cur, h, hb, r⟩⟩ := h
  · exact ⟨hl, .inl h⟩
  · exact ⟨hl, .inr ⟨g', cap', cur, h, Nat.le_trans hB hb, r⟩⟩

theorem iter_any (w : World) (Bh B0 g m : Nat) (v : Value) (L : List Th) (n : Nat) (last : Int) (H : HV w B0 g m v L last n) (lb mb B : Nat) (most : Int) (h1m : 1 ≤ most) (G : Gat lb mb B most [] (.slice none 0 0) w)
    (hBh : w.cell? ⟨Bh, 0, none⟩ = some (.pointer (some ⟨g, 0, none⟩))) (hBl : Bh < w.heap.size) :
    Calls Try.prog 28 #[.func (.func 26) #[] #[.pointer (some ⟨lb, 0, none⟩), .pointer (some ⟨mb, 0, none⟩)], .pointer (some ⟨Bh, 0, none⟩)] w fun e w' => e = .returned (.tuple #[]) ∧ ∃ v', Gat lb mb B most ((L.take (tk most L.length)).map pr) v' w' ∧ Fr (fun k => k = lb) w w' := by
  obtain ⟨T, D, R, hH, A, hp⟩ := H.ex
  have hlen := hp.length_eq
  have hll := H.len
  have hS := sort_to T L hp H.sorted (by omega)
  have R0 : Raw w 0 g m v T n D last := ⟨R.blk, Nat.zero_le _, row_base R.own (Nat.zero_le _), R.mp, Nat.zero_le _⟩
  rcases R0.shape with ⟨rfl, rfl⟩ | ⟨sb, cap, rfl⟩
  · obtain rfl : L = [] := List.length_eq_zero_iff.1 (by simpa using hlen.symm)
    exact (iter_nil w Bh g m n D last hS lb mb B most G hBh hBl R0).mono fun e w' h => by simpa using h
  · exact iter_in w Bh g m sb cap T L n D last hS lb mb B most h1m G hBh hBl R0 (by omega)

theorem run_equalIn_func_nil {P : Program} (w : World) (d : Nat) (t : TypeId) (x y : Array TypeId) (v : Bool) (f : Fn) (a b : Array Value) (h : P.underlying t = some (.func x y v)) : (Op.equalIn (d + 1) t (.func f a b) .nilFunc).run P w = .ok false w := by
  simp [Op.equalIn, run_underlying h]
theorem run_eql_func_nil {P : Program} (w : World) (t : TypeId) (x y : Array TypeId) (v : Bool) (f : Fn) (a b : Array Value) (h : P.underlying t = some (.func x y v)) : (binOp .eql t (.func f a b) .nilFunc).run P w = .ok (.bool false) w := by
  have e : (Op.equal t (.func f a b) .nilFunc).run P w = .ok false w := run_equalIn_func_nil w 9999 t x y v f a b h
  simp only [binOp]
  simp [e]
theorem ul61 : ∃ x y v, Try.prog.underlying 61 = some (.func x y v) := ⟨_, _, _, Try.underlying61⟩
theorem eq61 (w : World) (f : Fn) (a b : Array Value) : (binOp .eql 61 (.func f a b) .nilFunc).run Try.prog w = .ok (.bool false) w := by
  obtain ⟨x, y, v, h⟩ := ul61
  exact run_eql_func_nil w 61 x y v f a b h

set_option maxRecDepth 100000 in
set_option maxHeartbeats 4000000 in
theorem all_any (w : World) (B0 g m : Nat) (v : Value) (L : List Th) (n : Nat) (last : Int) (H : HV w B0 g m v L last n) (most : Int) (h1m : 1 ≤ most) :
    Calls Try.prog 20 #[.pointer (some ⟨g, 0, none⟩), .int .i64 most] w fun e w' => ∃ v', e = .returned v' ∧ w'.ownsRow w.heap.size 49 2 v' ((L.take (tk most L.length)).map pr).length (pflat ((L.take (tk most L.length)).map pr)) ∧ Below w.heap.size w w' := by
  have HH := Lib.hid H
  clear H
  have hm1 : decide (most < 1) = false := decide_eq_false (by omega)
  have he := eq61
  go_enter Try.func20, Try.ntmps20
  go_wp2_with fail
  refine ((callsIn_wide (n := 4)).1 (all_in _ _ _)).mono ?_
  rintro e w1 ⟨rfl, rfl⟩
  go_wp2_with fail
  clear he
  have h0 : (((w.alloc (.cells #[.int .i64 most] 3)).alloc (.cells #[.pointer (some ⟨g, 0, none⟩)] 23)).alloc (.cells #[.slice none 0 0] 46)).heap.size = w.heap.size + 3 := by simp
  have bm : (((w.alloc (.cells #[.int .i64 most] 3)).alloc (.cells #[.pointer (some ⟨g, 0, none⟩)] 23)).alloc (.cells #[.slice none 0 0] 46)).heap[w.heap.size]? = some (.cells #[.int .i64 most] 3 (0, 0)) :=
    (Below.heap_alloc _ _ _ (by simp; omega)).trans ((Below.heap_alloc _ _ _ (by simp)).trans (heap_alloc_new w _))
  have bh : (((w.alloc (.cells #[.int .i64 most] 3)).alloc (.cells #[.pointer (some ⟨g, 0, none⟩)] 23)).alloc (.cells #[.slice none 0 0] 46)).heap[w.heap.size + 1]? = some (.cells #[.pointer (some ⟨g, 0, none⟩)] 23 (0, 0)) := by
    refine (Below.heap_alloc _ _ _ (by simp)).trans ?_
    have := heap_alloc_new (w.alloc (.cells #[.int .i64 most] 3)) (.cells #[.pointer (some ⟨g, 0, none⟩)] 23)
    rwa [World.size_alloc] at this
  have bl : (((w.alloc (.cells #[.int .i64 most] 3)).alloc (.cells #[.pointer (some ⟨g, 0, none⟩)] 23)).alloc (.cells #[.slice none 0 0] 46)).heap[w.heap.size + 2]? = some (.cells #[.slice none 0 0] 46 (0, 0)) := by
    have := heap_alloc_new ((w.alloc (.cells #[.int .i64 most] 3)).alloc (.cells #[.pointer (some ⟨g, 0, none⟩)] 23)) (.cells #[.slice none 0 0] 46)
    rwa [World.size_alloc, World.size_alloc] at this
  have hb : Below w.heap.size w (((w.alloc (.cells #[.int .i64 most] 3)).alloc (.cells #[.pointer (some ⟨g, 0, none⟩)] 23)).alloc (.cells #[.slice none 0 0] 46)) := (((Below.refl _ w).alloc (Nat.le_refl _) _).alloc (by simp) _).alloc (by simp; omega) _
  have G0 : Gat (w.heap.size + 2) w.heap.size (w.heap.size + 3) most [] (.slice none 0 0) (((w.alloc (.cells #[.int .i64 most] 3)).alloc (.cells #[.pointer (some ⟨g, 0, none⟩)] 23)).alloc (.cells #[.slice none 0 0] 46)) :=
    ⟨bl, bm, ⟨rfl, .inl ⟨rfl, rfl⟩⟩, by omega, by omega, by omega, by omega⟩
  have hit := iter_any _ (w.heap.size + 1) B0 g m v L n last (HH.out.below hb) (w.heap.size + 2) w.heap.size (w.heap.size + 3) most h1m G0 ((cell_of_row _ (w.heap.size + 1) 0 _ 23 (0, 0) bh).trans rfl) (by omega)
  clear bm bh bl G0
  refine hit.mono ?_
  clear hit
  rintro e w5 ⟨rfl, v5, G5, F5⟩
  have hc5 : w5.cell? ⟨w.heap.size + 2, 0, none⟩ = some v5 := (cell_of_row w5 (w.heap.size + 2) 0 _ 46 (0, 0) G5.l).trans rfl
  have hl5 : w.heap.size + 2 < w5.heap.size := (Array.getElem?_eq_some_iff.1 G5.l).1
  have HE : Hid (w5.ownsRow w.heap.size 49 2 v5 ((L.take (tk most L.length)).map pr).length (pflat ((L.take (tk most L.length)).map pr)) ∧ Below w.heap.size w w5) :=
    ⟨row_base G5.own (by omega), hb.trans (F5.below (by omega) (fun k hk => by omega))⟩
  clear G5 F5 hb h0
  go_wp2_with fail
  go_ret
  exact ⟨_, rfl, HE.out⟩

end Go.Proofs.Ytfibgjgipadmkaa.Hp
