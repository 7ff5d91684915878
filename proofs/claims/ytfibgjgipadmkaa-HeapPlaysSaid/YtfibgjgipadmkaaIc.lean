/- Pop and Len over a row in order; a heap beside other work. -/
import Derived.Test.YtfibgjgipadmkaaIb
namespace Go.Proofs.Ytfibgjgipadmkaa.Hp
set_option linter.unusedVariables false
set_option linter.unusedSimpArgs false
open Go.RowKit Go.Maps Go.ChangeMaps

theorem Raw.keep {S : Nat → Prop} {w w' : World} {B g m : Nat} {v : Value} {T : List Th} {n : Nat} {D : DataW Unit} {last : Int} (R : Raw w B g m v T n D last) (F : Fr S w w') (hg : ¬ S g) (hm : ¬ S m) (hv : ∀ k, v.ownBlock = some k → ¬ S k) : Raw w' B g m v T n D last := by
  refine ⟨F.keep R.blk hg, R.bg, ?_, ?_, R.bm⟩
  · obtain ⟨hl, h2⟩ := R.own
    rcases h2 with h | ⟨g', cap', cur, h, hb, hgg, r⟩
    · exact ⟨hl, .inl h⟩
    · exact ⟨hl, .inr ⟨g', cap', cur, h, hb, F.keep hgg (hv g' (by rw [h]; rfl)), r⟩⟩
  · obtain ⟨es, clock, hb, r⟩ := R.mp
    exact ⟨es, clock, F.keep hb hm, r⟩
theorem HV.keep {S : Nat → Prop} {w w' : World} {B g m : Nat} {v : Value} {L : List Th} {n : Nat} {last : Int} (H : HV w B g m v L last n) (F : Fr S w w') (hg : ¬ S g) (hm : ¬ S m) (hv : ∀ k, v.ownBlock = some k → ¬ S k) : HV w' B g m v L last n := by
  obtain ⟨T, D, R, r⟩ := H.ex
  exact ⟨⟨T, D, R.keep F hg hm hv, r⟩, H.sorted, H.hs, H.h0, H.h1, H.len⟩
theorem HV.below {w w' : World} {B g m : Nat} {v : Value} {L : List Th} {n : Nat} {last : Int} (H : HV w B g m v L last n) (h : Below w.heap.size w w') : HV w' B g m v L last n := by
  obtain ⟨T, D, R, r⟩ := H.ex
  exact ⟨⟨T, D, R.below h, r⟩, H.sorted, H.hs, H.h0, H.h1, H.len⟩
theorem HV.lt {w : World} {B g m : Nat} {v : Value} {L : List Th} {n : Nat} {last : Int} (H : HV w B g m v L last n) : (B ≤ g ∧ g < w.heap.size) ∧ (B ≤ m ∧ m < w.heap.size) ∧ ∀ k, v.ownBlock = some k → B ≤ k ∧ k < w.heap.size := by
  obtain ⟨T, D, R, r⟩ := H.ex
  exact ⟨⟨R.bg, (Array.getElem?_eq_some_iff.1 R.blk).1⟩, ⟨R.bm, R.mp.lt⟩, fun k hk => R.own.lt k hk⟩

theorem pop_nil_hv (w : World) (B g m : Nat) (v : Value) (last : Int) (n : Nat) (H : HV w B g m v [] last n) (now : Int) :
    Calls Try.prog 11 #[.pointer (some ⟨g, 0, none⟩), .int .u64 now] w fun e w' => e = .returned (.tuple #[.int .u64 0, .bool false]) ∧ w = w' := by
  obtain ⟨T, D, R, hH, A, hp⟩ := H.ex
  obtain rfl := List.Perm.eq_nil hp
  exact pop_nil w B g m v n D last now R
theorem pop_late_hv (w : World) (B g m : Nat) (v : Value) (t : Th) (L : List Th) (last : Int) (n : Nat) (H : HV w B g m v (t :: L) last n) (now : Int) (hd : now < t.d) :
    Calls Try.prog 11 #[.pointer (some ⟨g, 0, none⟩), .int .u64 now] w fun e w' => e = .returned (.tuple #[.int .u64 0, .bool false]) ∧ w = w' := by
  obtain ⟨T, D, R, hH, A, hp⟩ := H.ex
  exact pop_late w B g m v T n D last now R (by rw [hp.length_eq]; simp) (by rw [top_of hH hp H.sorted]; exact hd)
theorem filter_head {t : Th} {L : List Th} (h : ((t :: L).map Th.h).Nodup) : (t :: L).filter (fun x => !(x.h == t.h)) = L := by
  rw [List.filter_cons_of_neg (by simp)]
  rw [List.map_cons, List.nodup_cons] at h
  exact List.filter_eq_self.2 (fun x hx => by
    have : x.h ≠ t.h := fun e => h.1 (by rw [← e]; exact List.mem_map_of_mem hx)
    simpa using this)
theorem pop_hv (w : World) (B g m : Nat) (v : Value) (t : Th) (L : List Th) (last : Int) (n : Nat) (H : HV w B g m v (t :: L) last n) (now : Int) (hd : ¬ now < t.d) (hn : n < 600000000) :
    Calls Try.prog 11 #[.pointer (some ⟨g, 0, none⟩), .int .u64 now] w fun e w' => e = .returned (.tuple #[.int .u64 t.w, .bool true]) ∧ ∃ v' n', n' ≤ n + 2 * L.length + 5 ∧
      HV w' B g m v' L last n' ∧ Fr (Foot g m v) w w' ∧ ∀ k, v'.ownBlock = some k → v.ownBlock = some k ∨ w.heap.size ≤ k := by
  have hdr := drop_hv w B g m v (t :: L) last n H t List.mem_cons_self hn
  rw [filter_head H.nodup] at hdr
  obtain ⟨T, D, R, hH, A, hp⟩ := H.ex
  have htop := top_of hH hp H.sorted
  refine pop_any w B g m v T n D last now R (by rw [hp.length_eq]; simp) (by rw [htop]; exact hd) _ _ _ ?_
  rw [htop]
  refine hdr.mono ?_
  rintro e w' ⟨rfl, v', n', hn', r⟩
  exact ⟨rfl, v', n', by simp at hn'; omega, r⟩

/-- Len, where All's sort is known to come to its end -/
theorem len_hv (w : World) (B g m : Nat) (v : Value) (L : List Th) (last : Int) (n : Nat) (H : HV w B g m v L last n) (hS : ∀ T : List Th, T.length = L.length → ∃ S, SortOK T S) :
    Calls Try.prog 12 #[.pointer (some ⟨g, 0, none⟩)] w fun e w' => e = .returned (.int .i64 L.length) ∧ Below w.heap.size w w' := by
  obtain ⟨T, D, R, hH, A, hp⟩ := H.ex
  obtain ⟨S, hS⟩ := hS T hp.length_eq
  have R0 : Raw w 0 g m v T n D last := ⟨R.blk, Nat.zero_le _, by
    obtain ⟨hl, h2⟩ := R.own
    rcases h2 with h | ⟨g', cap', cur, h, hb, r⟩
    · exact ⟨hl, .inl h⟩
    · exact ⟨hl, .inr ⟨g', cap', cur, h, Nat.zero_le _, r⟩⟩, R.mp, Nat.zero_le _⟩
  have := len_any w g m v T S n D last hS R0 (by have := H.len; have := hp.length_eq; omega)
  rwa [hp.length_eq] at this
theorem sort_small (L : List Th) (h : L.length ≤ 1) : ∀ T : List Th, T.length = L.length → ∃ S, SortOK T S := fun T hT => ⟨T, sort_tiny T (by omega)⟩

/-! where nothing below B may turn -/
theorem HV.foot {w w' : World} {B g m : Nat} {v : Value} {L : List Th} {n : Nat} {last : Int} (H : HV w B g m v L last n) (F : Fr (Foot g m v) w w') (hB : B ≤ w.heap.size) : Below B w w' :=
  F.below hB (fun k hk => by
    obtain ⟨h1, h2, h3⟩ := H.lt
    rcases hk with h | h | h
    · omega
    · omega
    · exact (h3 k h.symm).1)
theorem put_b (w : World) (B g m : Nat) (v : Value) (L : List Th) (last : Int) (n : Nat) (H : HV w B g m v L last n) (d x : Int) (hB : B ≤ w.heap.size) (h1 : last < 1000000) (hl : L.length < 1000000) (hn : n < 700000000) :
    Calls Try.prog 10 #[.pointer (some ⟨g, 0, none⟩), .int .u64 d, .int .u64 x] w fun e w' => e = .returned (.int .i64 (last + 1)) ∧ ∃ v' n', n' ≤ n + L.length + 1 ∧ HV w' B g m v' (ins L ⟨d, x, last + 1⟩) (last + 1) n' ∧ Below B w w' :=
  (put_hv w B g m v L last n H d x hB h1 hl hn).mono (fun e w' h => ⟨h.1, by obtain ⟨v', n', a, b, c, _⟩ := h.2; exact ⟨v', n', a, b, H.foot c hB⟩⟩)
theorem pop_b (w : World) (B g m : Nat) (v : Value) (t : Th) (L : List Th) (last : Int) (n : Nat) (H : HV w B g m v (t :: L) last n) (now : Int) (hB : B ≤ w.heap.size) (hd : ¬ now < t.d) (hn : n < 600000000) :
    Calls Try.prog 11 #[.pointer (some ⟨g, 0, none⟩), .int .u64 now] w fun e w' => e = .returned (.tuple #[.int .u64 t.w, .bool true]) ∧ ∃ v' n', n' ≤ n + 2 * L.length + 5 ∧ HV w' B g m v' L last n' ∧ Below B w w' :=
  (pop_hv w B g m v t L last n H now hd hn).mono (fun e w' h => ⟨h.1, by obtain ⟨v', n', a, b, c, _⟩ := h.2; exact ⟨v', n', a, b, H.foot c hB⟩⟩)
theorem drop_b (w : World) (B g m : Nat) (v : Value) (L : List Th) (last : Int) (n : Nat) (H : HV w B g m v L last n) (t : Th) (ht : t ∈ L) (hB : B ≤ w.heap.size) (hn : n < 600000000) :
    Calls Try.prog 14 #[.pointer (some ⟨g, 0, none⟩), .int .i64 t.h] w fun e w' => e = .returned (.tuple #[.int .u64 t.w, .bool true]) ∧ ∃ v' n', n' ≤ n + 2 * L.length + 3 ∧ HV w' B g m v' (L.filter (fun x => !(x.h == t.h))) last n' ∧ Below B w w' :=
  (drop_hv w B g m v L last n H t ht hn).mono (fun e w' h => ⟨h.1, by obtain ⟨v', n', a, b, c, _⟩ := h.2; exact ⟨v', n', a, b, H.foot c hB⟩⟩)

set_option maxRecDepth 100000 in
set_option maxHeartbeats 2000000 in
/-- awake: the document's example holds -/
theorem awake_any (w : World) : Calls Try.prog 9 #[] w fun e w' => e = .returned (.bool true) ∧ Below w.heap.size w w' := by
  go_enter Try.func9, Try.ntmps9
  go_wp2_with fail
  refine (new_hv w w.heap.size (Nat.le_refl _)).mono ?_
  rintro e w1 ⟨rfl, H1, b1⟩
  have hB1 := b1.size
  generalize w.heap.size + 1 = g at H1 ⊢
  go_wp2_with fail
  refine (put_b w1 w.heap.size g w.heap.size _ [] 0 0 H1 5 70 hB1 (by decide) (by decide) (by decide)).mono ?_
  rintro e w2 ⟨rfl, v2, n2, hn2, H2, b2⟩
  have hB2 := b2.size
  change n2 ≤ 1 at hn2
  change HV w2 _ _ _ _ [⟨5, 70, 1⟩] 1 _ at H2
  have c2 : ((0 : Int) + 1 == 1) = true := rfl
  go_wp2_with fail
  refine (put_b w2 w.heap.size g w.heap.size v2 [⟨5, 70, 1⟩] 1 n2 H2 3 71 (by omega) (by decide) (by decide) (by omega)).mono ?_
  rintro e w3 ⟨rfl, v3, n3, hn3, H3, b3⟩
  have hB3 := b3.size
  change n3 ≤ n2 + 1 + 1 at hn3
  change HV w3 _ _ _ _ [⟨3, 71, 2⟩, ⟨5, 70, 1⟩] 2 _ at H3
  go_wp2_with fail
  refine (put_b w3 w.heap.size g w.heap.size v3 [⟨3, 71, 2⟩, ⟨5, 70, 1⟩] 2 n3 H3 3 72 (by omega) (by decide) (by decide) (by omega)).mono ?_
  rintro e w4 ⟨rfl, v4, n4, hn4, H4, b4⟩
  have hB4 := b4.size
  change n4 ≤ n3 + 2 + 1 at hn4
  change HV w4 _ _ _ _ [⟨3, 71, 2⟩, ⟨3, 72, 3⟩, ⟨5, 70, 1⟩] 3 _ at H4
  go_wp2_with fail
  refine (pop_b w4 w.heap.size g w.heap.size v4 ⟨3, 71, 2⟩ [⟨3, 72, 3⟩, ⟨5, 70, 1⟩] 3 n4 H4 3 (by omega) (by decide) (by omega)).mono ?_
  rintro e w5 ⟨rfl, v5, n5, hn5, H5, b5⟩
  have hB5 := b5.size
  change n5 ≤ n4 + 2 * 2 + 5 at hn5
  go_wp2_with fail
  refine (pop_b w5 w.heap.size g w.heap.size v5 ⟨3, 72, 3⟩ [⟨5, 70, 1⟩] 3 n5 H5 3 (by omega) (by decide) (by omega)).mono ?_
  rintro e w6 ⟨rfl, v6, n6, hn6, H6, b6⟩
  have hB6 := b6.size
  go_wp2_with fail
  refine (pop_late_hv w6 w.heap.size g w.heap.size v6 ⟨5, 70, 1⟩ [] 3 n6 H6 4 (by decide)).mono ?_
  rintro e w7 ⟨rfl, rfl⟩
  go_wp2_with fail
  refine (len_hv w6 w.heap.size g w.heap.size v6 [⟨5, 70, 1⟩] 3 n6 H6 (sort_small _ (by decide))).mono ?_
  rintro e w8 ⟨rfl, b8⟩
  have hbel : Below w.heap.size w w8 := (((((b1.trans b2).trans b3).trans b4).trans b5).trans b6).trans (b8.mono (by omega))
  clear H1 H2 H3 H4 H5 H6 b1 b2 b3 b4 b5 b6 b8
  go_wp2_with fail
  go_ret
  exact ⟨rfl, hbel⟩

end Go.Proofs.Ytfibgjgipadmkaa.Hp
