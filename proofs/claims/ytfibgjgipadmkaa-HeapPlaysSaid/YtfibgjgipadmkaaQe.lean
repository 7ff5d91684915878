/- HeapPlays: the program's heap beside the document's. -/
import Derived.Test.YtfibgjgipadmkaaQd
import Derived.Deep.RegionHeld3
import Derived.Deep.DeepCutAuto
namespace Go.Proofs.Ytfibgjgipadmkaa.Hp
set_option linter.unusedVariables false
set_option linter.unusedSimpArgs false
open Go.RowKit Go.Maps Go.ChangeMaps

/-- the program's heap and the document's hold the same -/
structure Both (W : World) (g m r B : Nat) (L : List Th) (last nb : Nat) (wr : World) : Prop where
  ex : ∃ (va : Value) (n : Nat) (A : Option Addr) (c : Nat), HV wr W.heap.size g m va L last n ∧ RF wr B r A c L last ∧ n ≤ nb
  below : Below W.heap.size W wr
  rW : W.heap.size ≤ r

theorem own_block {w : World} {B e k n : Nat} {v : Value} {xs : List Value} (h : w.ownsRow B e k v n xs) {b : Nat} (hb : v.ownBlock = some b) : ∃ cur, w.heap[b]? = some (.cells cur e (0, 0)) := by
  obtain ⟨hl, ⟨rfl, h2⟩ | ⟨g', cap', cur, rfl, hB, hg, r⟩⟩ := h
  · simp [Value.ownBlock] at hb
  · have : g' = b := by simpa [Value.ownBlock] using hb
    subst this
    exact ⟨cur, hg⟩

/-- the two have no block in common -/
theorem hv_rf {w : World} {B0 g m : Nat} {va : Value} {L L2 : List Th} {last last2 : Int} {n B r : Nat} {A : Option Addr} {c : Nat} (H : HV w B0 g m va L last n) (R : RF w B r A c L2 last2) :
    (¬ Foot g m va r ∧ ∀ k, (Value.slice A L2.length c).ownBlock = some k → ¬ Foot g m va k) ∧ (g ≠ r ∧ m ≠ r ∧ ∀ k, va.ownBlock = some k → k ≠ r) := by
  obtain ⟨T, D, Rw, _⟩ := H.ex
  obtain ⟨es, clock, hmb, _⟩ := id Rw.mp
  have hg := Rw.blk
  have hr := R.blk
  have hgr : g ≠ r := by rintro rfl; rw [hg] at hr; simp at hr
  have hmr : m ≠ r := by rintro rfl; rw [hmb] at hr; cases hr
  have hvr : ∀ k, va.ownBlock = some k → k ≠ r := by
    intro k hk e
    obtain ⟨cur, hc⟩ := own_block Rw.own hk
    rw [e, hr] at hc; simp at hc
  refine ⟨⟨?_, ?_⟩, hgr, hmr, hvr⟩
  · rintro (h | h | h)
    · exact hgr h.symm
    · exact hmr h.symm
    · exact hvr r h.symm rfl
  · intro k hk
    obtain ⟨cur, hc⟩ := own_block R.own hk
    rintro (h | h | h)
    · rw [h, hg] at hc; simp at hc
    · rw [h, hmb] at hc; cases hc
    · obtain ⟨cur2, hc2⟩ := own_block Rw.own h.symm
      rw [hc2] at hc; simp at hc

section
variable {W : World} {g m r B : Nat} {L : List Th} {last nb : Nat} {wr : World}
theorem Both.mk' {va : Value} {n : Nat} {A : Option Addr} {c : Nat} (H : HV wr W.heap.size g m va L last n) (R : RF wr B r A c L last) (hn : n ≤ nb) (hb : Below W.heap.size W wr) (hr : W.heap.size ≤ r) : Both W g m r B L last nb wr :=
  ⟨⟨va, n, A, c, H, R, hn⟩, hb, hr⟩
theorem Both.under (h : Both W g m r B L last nb wr) {w' : World} (k : Below wr.heap.size wr w') : Both W g m r B L last nb w' := by
  obtain ⟨⟨va, n, A, c, H, R, hn⟩, hb, hr⟩ := h
  exact ⟨⟨va, n, A, c, H.below k, R.below k, hn⟩, hb.trans (k.mono hb.size), hr⟩
theorem Both.mono (h : Both W g m r B L last nb wr) {nb2 : Nat} (hn : nb ≤ nb2) : Both W g m r B L last nb2 wr := by
  obtain ⟨⟨va, n, A, c, H, R, hn0⟩, hb, hr⟩ := h
  exact ⟨⟨va, n, A, c, H, R, by omega⟩, hb, hr⟩
theorem Both.nodup (h : Both W g m r B L last nb wr) : (L.map Th.h).Nodup := by
  obtain ⟨⟨va, n, A, c, H, R, hn⟩, hb, hr⟩ := h
  exact H.nodup
/-- halfway: the program's heap has turned, the document's not yet -/
def Half (W : World) (g m r B : Nat) (L L2 : List Th) (last last2 nb : Nat) (wr : World) : Prop :=
  ∃ (va : Value) (n : Nat) (A : Option Addr) (c : Nat), HV wr W.heap.size g m va L2 last2 n ∧ RF wr B r A c L last ∧ n ≤ nb ∧ Below W.heap.size W wr ∧ W.heap.size ≤ r

theorem both_put (h : Both W g m r B L last nb wr) (d x : Int) (h1 : last < 1000) (hl : L.length ≤ last) (hn : nb < 700000) :
    Calls Try.prog 10 #[.pointer (some ⟨g, 0, none⟩), .int .u64 d, .int .u64 x] wr fun e w' => e = .returned (.int .i64 ((last : Int) + 1)) ∧ Half W g m r B L (ins L ⟨d, x, (last : Int) + 1⟩) last (last + 1) (nb + L.length + 1) w' ∧ Fr (fun b => W.heap.size ≤ b ∧ ∀ cs, wr.heap[b]? ≠ some (.cells cs 43 (0, 0))) wr w' := by
  obtain ⟨⟨va, n, A, c, H, R, hn0⟩, hb, hr⟩ := h
  obtain ⟨⟨s1, s2⟩, _⟩ := hv_rf H R
  refine (put_hv wr W.heap.size g m va L last n H d x hb.size (by omega) (by omega) (by omega)).mono ?_
  rintro e w' ⟨rfl, v', n', hn', H', F', hv'⟩
  refine ⟨rfl, ⟨v', n', A, c, by rw [Int.natCast_add]; exact H', R.keep F' s1 s2, by omega, hb.trans (H.foot F' hb.size), hr⟩, F'.mono ?_⟩
  intro k hk
  obtain ⟨h1, h2, h3⟩ := H.lt
  obtain ⟨T, D, Rw, _⟩ := H.ex
  obtain ⟨es, clock, hmb, _⟩ := id Rw.mp
  rcases hk with rfl | rfl | h
  · exact ⟨h1.1, fun cs e => by rw [Rw.blk] at e; simp at e⟩
  · exact ⟨h2.1, fun cs e => by rw [hmb] at e; cases e⟩
  · obtain ⟨cur, hc⟩ := own_block Rw.own h.symm
    exact ⟨(h3 k h.symm).1, fun cs e => by rw [hc] at e; simp at e⟩
theorem both_rput {L2 : List Th} (h : Half W g m r B L L2 last (last + 1) nb wr) (d x : Int) (hL : L2 = ins L ⟨d, x, (last : Int) + 1⟩) (h1 : last < 1000) (hl : L.length ≤ last) :
    Calls Try.prog 19 #[.pointer (some ⟨r, 0, none⟩), .int .u64 d, .int .u64 x] wr fun e w' => e = .returned (.int .i64 ((last : Int) + 1)) ∧ Both W g m r B L2 (last + 1) nb w' ∧ Fr (fun b => b = r) wr w' := by
  obtain ⟨va, n, A, c, H, R, hn0, hb, hr⟩ := h
  obtain ⟨_, s1, s2, s3⟩ := hv_rf H R
  refine (rput_any wr B r A c L last d x R (by omega) (by omega) (by omega)).mono ?_
  rintro e w' ⟨rfl, A', c', R', F'⟩
  exact ⟨rfl, ⟨⟨va, n, A', c', H.keep F' s1 s2 s3, by rw [Int.natCast_add, hL]; exact R', hn0⟩, hb.trans (F'.below hb.size (fun k hk => by omega)), hr⟩, F'⟩
theorem filter_at {L : List Th} (hn : (L.map Th.h).Nodup) {q : Nat} (hq : q < L.length) : L.filter (fun x => !(x.h == (at' L q).h)) = L.take q ++ L.drop (q + 1) ∧ ∀ j, j < q → (at' L j).h ≠ (at' L q).h := by
  have hp := List.pairwise_iff_getElem.1 (List.nodup_iff_pairwise_ne.1 hn)
  have ei : ∀ k (hk : k < L.length), at' L k = L[k] := fun k hk => by unfold at'; rw [List.getD_eq_getElem?_getD, List.getElem?_eq_getElem hk]; rfl
  have hne : ∀ i j (hi : i < L.length) (hj : j < L.length), i < j → L[i].h ≠ L[j].h := fun i j hi hj hij => by
    have := hp i j (by simpa using hi) (by simpa using hj) hij
    simpa using this
  refine ⟨?_, fun j hj => by rw [ei j (by omega), ei q hq]; exact hne j q (by omega) hq hj⟩
  have hs : L = L.take q ++ at' L q :: L.drop (q + 1) := by rw [ei q hq, ← List.drop_eq_getElem_cons hq, List.take_append_drop]
  conv => lhs; rw [hs]
  rw [List.filter_append, List.filter_cons_of_neg (by simp [← hs])]
  have e1 : (L.take q).filter (fun x => !(x.h == (at' (L.take q ++ at' L q :: L.drop (q + 1)) q).h)) = L.take q := by
    rw [← hs]
    refine List.filter_eq_self.2 (fun x hx => ?_)
    obtain ⟨j, hj, rfl⟩ := List.getElem_of_mem hx
    rw [List.length_take] at hj
    have := hne j q (by omega) hq (by omega)
    rw [List.getElem_take, ei q hq]; simpa using this
  have e2 : (L.drop (q + 1)).filter (fun x => !(x.h == (at' (L.take q ++ at' L q :: L.drop (q + 1)) q).h)) = L.drop (q + 1) := by
    rw [← hs]
    refine List.filter_eq_self.2 (fun x hx => ?_)
    obtain ⟨j, hj, rfl⟩ := List.getElem_of_mem hx
    rw [List.length_drop] at hj
    have := hne q (q + 1 + j) hq (by omega) (by omega)
    rw [List.getElem_drop, ei q hq]; simpa using this.symm
  rw [e1, e2]

theorem both_drop (h : Both W g m r B L last nb wr) (q : Nat) (hq : q < L.length) (hn : nb < 700000) :
    Calls Try.prog 14 #[.pointer (some ⟨g, 0, none⟩), .int .i64 (at' L q).h] wr fun e w' => e = .returned (.tuple #[.int .u64 (at' L q).w, .bool true]) ∧ Half W g m r B L (L.take q ++ L.drop (q + 1)) last last (nb + 2 * L.length + 3) w' ∧ Fr (fun b => W.heap.size ≤ b ∧ ∀ cs, wr.heap[b]? ≠ some (.cells cs 43 (0, 0))) wr w' := by
  have hnd := h.nodup
  obtain ⟨⟨va, n, A, c, H, R, hn0⟩, hb, hr⟩ := h
  obtain ⟨⟨s1, s2⟩, _⟩ := hv_rf H R
  refine (drop_hv wr W.heap.size g m va L last n H (at' L q) (at_mem hq) (by omega)).mono ?_
  rintro e w' ⟨rfl, v', n', hn', H', F', hv'⟩
  rw [(filter_at hnd hq).1] at H'
  refine ⟨rfl, ⟨v', n', A, c, H', R.keep F' s1 s2, by omega, hb.trans (H.foot F' hb.size), hr⟩, F'.mono ?_⟩
  intro k hk
  obtain ⟨h1, h2, h3⟩ := H.lt
  obtain ⟨T, D, Rw, _⟩ := H.ex
  obtain ⟨es, clock, hmb, _⟩ := id Rw.mp
  rcases hk with rfl | rfl | h
  · exact ⟨h1.1, fun cs e => by rw [Rw.blk] at e; simp at e⟩
  · exact ⟨h2.1, fun cs e => by rw [hmb] at e; cases e⟩
  · obtain ⟨cur, hc⟩ := own_block Rw.own h.symm
    exact ⟨(h3 k h.symm).1, fun cs e => by rw [hc] at e; simp at e⟩
theorem both_rdrop (hnd : (L.map Th.h).Nodup) (q : Nat) (hq : q < L.length) (h : Half W g m r B L (L.take q ++ L.drop (q + 1)) last last nb wr) (hl : L.length ≤ 1000000) :
    Calls Try.prog 15 #[.pointer (some ⟨r, 0, none⟩), .int .i64 (at' L q).h] wr fun e w' => e = .returned (.tuple #[.int .u64 (at' L q).w, .bool true]) ∧ Both W g m r B (L.take q ++ L.drop (q + 1)) last nb w' := by
  obtain ⟨va, n, A, c, H, R, hn0, hb, hr⟩ := h
  obtain ⟨_, s1, s2, s3⟩ := hv_rf H R
  refine (rdrop_any wr B r A c L last _ R q hq rfl (filter_at hnd hq).2 hl).mono ?_
  rintro e w' ⟨rfl, A', c', R', F'⟩
  exact ⟨rfl, ⟨⟨va, n, A', c', H.keep F' s1 s2 s3, R', hn0⟩, hb.trans (F'.below hb.size (fun k hk => by omega)), hr⟩⟩
theorem both_nodrop (h : Both W g m r B L last nb wr) (x : Int) (hx : (Lit.int .i64 x).wf = true) (hno : ∀ t ∈ L, t.h ≠ x) :
    Calls Try.prog 14 #[.pointer (some ⟨g, 0, none⟩), .int .i64 x] wr fun e w' => e = .returned (.tuple #[.int .u64 0, .bool false]) ∧ wr = w' := by
  obtain ⟨⟨va, n, A, c, H, R, hn0⟩, hb, hr⟩ := h
  exact drop_none_hv wr W.heap.size g m va L last n H x hx hno
theorem both_rnodrop (h : Both W g m r B L last nb wr) (x : Int) (hno : ∀ t ∈ L, t.h ≠ x) (hl : L.length ≤ 1000000) :
    Calls Try.prog 15 #[.pointer (some ⟨r, 0, none⟩), .int .i64 x] wr fun e w' => e = .returned (.tuple #[.int .u64 0, .bool false]) ∧ wr = w' := by
  obtain ⟨⟨va, n, A, c, H, R, hn0⟩, hb, hr⟩ := h
  exact rdrop_none wr B r A c L last x R hno hl
theorem both_pop {t : Th} (h : Both W g m r B (t :: L) last nb wr) (now : Int) (hd : ¬ now < t.d) (hn : nb < 700000) :
    Calls Try.prog 11 #[.pointer (some ⟨g, 0, none⟩), .int .u64 now] wr fun e w' => e = .returned (.tuple #[.int .u64 t.w, .bool true]) ∧ Half W g m r B (t :: L) L last last (nb + 2 * L.length + 5) w' ∧ Fr (fun b => W.heap.size ≤ b ∧ ∀ cs, wr.heap[b]? ≠ some (.cells cs 43 (0, 0))) wr w' := by
  obtain ⟨⟨va, n, A, c, H, R, hn0⟩, hb, hr⟩ := h
  obtain ⟨⟨s1, s2⟩, _⟩ := hv_rf H R
  refine (pop_hv wr W.heap.size g m va t L last n H now hd (by omega)).mono ?_
  rintro e w' ⟨rfl, v', n', hn', H', F', hv'⟩
  refine ⟨rfl, ⟨v', n', A, c, H', R.keep F' s1 s2, by omega, hb.trans (H.foot F' hb.size), hr⟩, F'.mono ?_⟩
  intro k hk
  obtain ⟨h1, h2, h3⟩ := H.lt
  obtain ⟨T, D, Rw, _⟩ := H.ex
  obtain ⟨es, clock, hmb, _⟩ := id Rw.mp
  rcases hk with rfl | rfl | h
  · exact ⟨h1.1, fun cs e => by rw [Rw.blk] at e; simp at e⟩
  · exact ⟨h2.1, fun cs e => by rw [hmb] at e; cases e⟩
  · obtain ⟨cur, hc⟩ := own_block Rw.own h.symm
    exact ⟨(h3 k h.symm).1, fun cs e => by rw [hc] at e; simp at e⟩
theorem both_rpop {t : Th} (h : Half W g m r B (t :: L) L last last nb wr) (now : Int) (hd : ¬ now < t.d) (hl : L.length ≤ 1000000) :
    Calls Try.prog 18 #[.pointer (some ⟨r, 0, none⟩), .int .u64 now] wr fun e w' => e = .returned (.tuple #[.int .u64 t.w, .bool true]) ∧ Both W g m r B L last nb w' := by
  obtain ⟨va, n, A, c, H, R, hn0, hb, hr⟩ := h
  obtain ⟨_, s1, s2, s3⟩ := hv_rf H R
  refine (rpop_any wr B r A c t L last now R hd hl).mono ?_
  rintro e w' ⟨rfl, A', c', R', F'⟩
  exact ⟨rfl, ⟨⟨va, n, A', c', H.keep F' s1 s2 s3, R', hn0⟩, hb.trans (F'.below hb.size (fun k hk => by omega)), hr⟩⟩
theorem both_nopop (h : Both W g m r B L last nb wr) (now : Int) (hd : ∀ t L', L = t :: L' → now < t.d) :
    Calls Try.prog 11 #[.pointer (some ⟨g, 0, none⟩), .int .u64 now] wr fun e w' => e = .returned (.tuple #[.int .u64 0, .bool false]) ∧ wr = w' := by
  obtain ⟨⟨va, n, A, c, H, R, hn0⟩, hb, hr⟩ := h
  rcases L with _ | ⟨t, L⟩
  · exact pop_nil_hv wr W.heap.size g m va last n H now
  · exact pop_late_hv wr W.heap.size g m va t L last n H now (hd t L rfl)
theorem both_rnopop (h : Both W g m r B L last nb wr) (now : Int) (hd : ∀ t L', L = t :: L' → now < t.d) :
    Calls Try.prog 18 #[.pointer (some ⟨r, 0, none⟩), .int .u64 now] wr fun e w' => e = .returned (.tuple #[.int .u64 0, .bool false]) ∧ wr = w' := by
  obtain ⟨⟨va, n, A, c, H, R, hn0⟩, hb, hr⟩ := h
  rcases L with _ | ⟨t, L⟩
  · exact rpop_nil wr B r A c last now R
  · exact rpop_late wr B r A c t L last now R (hd t L rfl)
/-- what First says -/
def fst3 (L : List Th) : Value := match L with
  | [] => .tuple #[.int .u64 0, .int .u64 0, .bool false]
  | t :: _ => .tuple #[.int .u64 t.d, .int .u64 t.w, .bool true]
theorem both_first (h : Both W g m r B L last nb wr) :
    Calls Try.prog 16 #[.pointer (some ⟨g, 0, none⟩)] wr fun e w' => e = .returned (fst3 L) ∧ Below wr.heap.size wr w' := by
  obtain ⟨⟨va, n, A, c, H, R, hn0⟩, hb, hr⟩ := h
  rcases L with _ | ⟨t, L⟩
  · exact (first_nil_hv wr W.heap.size g m va last n H).mono (fun e w' ⟨h1, h2⟩ => ⟨h1, by rw [← h2]; exact Below.refl _ _⟩)
  · exact first_hv wr W.heap.size g m va t L last n H
theorem both_rfirst (h : Both W g m r B L last nb wr) :
    Calls Try.prog 17 #[.pointer (some ⟨r, 0, none⟩)] wr fun e w' => e = .returned (fst3 L) ∧ Below wr.heap.size wr w' := by
  obtain ⟨⟨va, n, A, c, H, R, hn0⟩, hb, hr⟩ := h
  rcases L with _ | ⟨t, L⟩
  · exact (rfirst_nil wr B r A c last R).mono (fun e w' ⟨h1, h2⟩ => ⟨h1, by rw [← h2]; exact Below.refl _ _⟩)
  · exact (rfirst_any wr B r A c t L last R).mono (fun e w' ⟨h1, k, h2⟩ => ⟨h1, by rw [h2]; exact below_drewN _ _⟩)
theorem both_len (h : Both W g m r B L last nb wr) :
    Calls Try.prog 12 #[.pointer (some ⟨g, 0, none⟩)] wr fun e w' => e = .returned (.int .i64 L.length) ∧ Below wr.heap.size wr w' := by
  obtain ⟨⟨va, n, A, c, H, R, hn0⟩, hb, hr⟩ := h
  exact len_b wr W.heap.size g m va L last n H
theorem both_all (h : Both W g m r B L last nb wr) (most : Int) (h1m : 1 ≤ most) :
    Calls Try.prog 20 #[.pointer (some ⟨g, 0, none⟩), .int .i64 most] wr fun e w' => ∃ A c, e = .returned (.slice A (tk most L.length) c) ∧ RP w' wr.heap.size A c ((L.take (tk most L.length)).map pr) ∧ Below wr.heap.size wr w' := by
  obtain ⟨⟨va, n, A, c, H, R, hn0⟩, hb, hr⟩ := h
  refine (all_any wr W.heap.size g m va L n last H most h1m).mono ?_
  rintro e w' ⟨v', rfl, hown, hb'⟩
  have hl : ((L.take (tk most L.length)).map pr).length = tk most L.length := by rw [List.length_map, List.length_take]; unfold tk; omega
  obtain ⟨A', c', rfl⟩ := own_slice hown
  rw [hl]
  refine ⟨A', c', rfl, ⟨hown⟩, hb'⟩
theorem both_same (h : Both W g m r B L last nb wr) {B1 : Nat} {Al : Option Addr} {cl : Nat} (Rp : RP wr B1 Al cl (L.map pr)) (hl : L.length ≤ 1000000) :
    Calls Try.prog 21 #[.slice Al L.length cl, .pointer (some ⟨r, 0, none⟩)] wr fun e w' => e = .returned (.bool true) ∧ Below wr.heap.size wr w' := by
  obtain ⟨⟨va, n, A, c, H, R, hn0⟩, hb, hr⟩ := h
  have := same_any wr B1 B r Al A cl c (L.map pr) L last Rp R rfl hl
  rwa [List.length_map] at this
end

end Go.Proofs.Ytfibgjgipadmkaa.Hp
