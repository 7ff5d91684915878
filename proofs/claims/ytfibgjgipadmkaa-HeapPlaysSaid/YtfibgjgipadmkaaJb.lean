/- Within; a heap beside a row of bools. -/
import Derived.Test.YtfibgjgipadmkaaJa
namespace Go.Proofs.Ytfibgjgipadmkaa.Hp
set_option linter.unusedVariables false
set_option linter.unusedSimpArgs false
open Go.RowKit Go.Maps Go.ChangeMaps

set_option maxHeartbeats 1000000 in
theorem within_any (v n : Int) (h : 1 ≤ n) (hn : n ≤ 1000000000) (w : World) : ∃ r : Nat, (r : Int) < n ∧
    Calls Try.prog 13 #[.int .i64 v, .int .i64 n] w fun e w' => e = .returned (.int .i64 r) ∧ Below w.heap.size w w' := by
  have h1 := Int.tmod_lt_of_pos v (show 0 < n by omega)
  have h2 : -n < Int.tmod v n := by
    rcases Int.le_total 0 v with hv | hv
    · have := Int.tmod_nonneg n hv; omega
    · have := Int.tmod_lt_of_pos (-v) (show 0 < n by omega)
      rw [Int.neg_tmod] at this; omega
  have hd : decide (n < 1) = false := decide_eq_false (by omega)
  have hz : (n == 0) = false := beq_false_of_ne (by omega)
  have hz2 : ¬ n = 0 := by omega
  by_cases hneg : Int.tmod v n < 0
  · refine ⟨(Int.tmod v n + n).toNat, by omega, ?_⟩
    have hr : (((Int.tmod v n + n).toNat : Nat) : Int) = Int.tmod v n + n := by omega
    rw [hr]
    have hw1 : IntKind.i64.wrap (Int.tmod v n) = Int.tmod v n := IntWalk.i64_in _ (by omega)
    have hw2 : IntKind.i64.wrap (Int.tmod v n + n) = Int.tmod v n + n := IntWalk.i64_in _ (by omega)
    have hd2 : decide (Int.tmod v n < 0) = true := decide_eq_true hneg
    clear h1 h2 hr hneg
    go_enter Try.func13, Try.ntmps13
    go_wp2
    go_ret
    exact ⟨rfl, Below.refl _ _⟩
  · refine ⟨(Int.tmod v n).toNat, by omega, ?_⟩
    have hr : (((Int.tmod v n).toNat : Nat) : Int) = Int.tmod v n := by omega
    rw [hr]
    have hw1 : IntKind.i64.wrap (Int.tmod v n) = Int.tmod v n := IntWalk.i64_in _ (by omega)
    have hd2 : decide (Int.tmod v n < 0) = false := decide_eq_false hneg
    clear h1 h2 hr hneg
    go_enter Try.func13, Try.ntmps13
    go_wp2
    go_ret
    exact ⟨rfl, Below.refl _ _⟩

/-- a heap that the call has made, and a row of bools at sb -/
def St (W : World) (N sb : Nat) (Lq : List Th) (G : Int → Bool) (nb : Nat) (wr : World) : Prop :=
  ∃ (n : Nat) (v1 : Value), HV wr W.heap.size (W.heap.size + 1) W.heap.size v1 Lq N n ∧ n ≤ nb ∧ Below W.heap.size W wr ∧ (∀ b, v1.ownBlock = some b → b ≠ sb) ∧ W.heap.size + 1 < sb ∧ wr.rowIs sb 4 N (fun j => .bool (G j))

section
variable {W : World} {N sb : Nat} {Lq : List Th} {G : Int → Bool} {nb : Nat} {wr : World}
theorem St.bel (h : St W N sb Lq G nb wr) : Below W.heap.size W wr := by obtain ⟨_, _, _, _, b, _⟩ := h; exact b
theorem St.sbl (h : St W N sb Lq G nb wr) : W.heap.size + 1 < sb ∧ sb < wr.heap.size := by obtain ⟨_, _, _, _, _, _, a, r⟩ := h; exact ⟨a, r.lt⟩
theorem St.row (h : St W N sb Lq G nb wr) : wr.rowIs sb 4 N (fun j => .bool (G j)) := by obtain ⟨_, _, _, _, _, _, _, r⟩ := h; exact r
theorem St.cell (h : St W N sb Lq G nb wr) {j : Nat} (hj : j < N) : wr.cell? ⟨sb, j, none⟩ = some (.bool (G j)) := h.row.cell hj
theorem St.drewN (h : St W N sb Lq G nb wr) (q : Nat) : St W N sb Lq G nb (wr.drewN q) := by
  obtain ⟨n, v1, H, a, b, c, d, r⟩ := h
  exact ⟨n, v1, H.below (below_drewN _ _), a, b.trans (below_drewN _ _), c, d, r⟩
theorem St.below (h : St W N sb Lq G nb wr) {w' : World} (k : Below wr.heap.size wr w') : St W N sb Lq G nb w' := by
  obtain ⟨n, v1, H, a, b, c, d, r⟩ := h
  exact ⟨n, v1, H.below k, a, b.trans (k.mono b.size), c, d, r.of_block (k.block _ r.lt)⟩
theorem St.set (h : St W N sb Lq G nb wr) {j : Nat} (hj : j < N) : St W N sb Lq (fun i => G i || (j : Int) == i) nb (wr.setCell ⟨sb, j, none⟩ (.bool true)) := by
  obtain ⟨n, v1, H, a, b, c, d, r⟩ := h
  have hF : Fr (fun b => b = sb) wr (wr.setCell ⟨sb, j, none⟩ (.bool true)) := (Fr.refl (fun b => b = sb) wr).setCell (p := ⟨sb, j, none⟩) (.inl rfl) _
  refine ⟨n, v1, H.keep hF (by omega) (by omega) (fun k hk => c k hk), a, b.trans ((Below.refl _ wr).setCell (show W.heap.size ≤ sb by omega) _), c, d, (r.set j (.bool true)).congr (fun i hi => ?_)⟩
  show (if i = j then Value.bool true else Value.bool (G i)) = Value.bool (G i || (j : Int) == (i : Int))
  by_cases h : i = j
  · rw [if_pos h, h]; simp
  · rw [if_neg h]
    have : ((j : Int) == (i : Int)) = false := beq_false_of_ne (by omega)
    rw [this, Bool.or_false]
theorem St.congr (h : St W N sb Lq G nb wr) {L2 : List Th} {G2 : Int → Bool} (hL : Lq = L2) (hG : ∀ j : Nat, j < N → G j = G2 j) : St W N sb L2 G2 nb wr := by
  subst hL
  obtain ⟨n, v1, H, a, b, c, d, r⟩ := h
  exact ⟨n, v1, H, a, b, c, d, r.congr (fun i hi => by rw [hG i hi])⟩
theorem St.mono (h : St W N sb Lq G nb wr) {nb2 : Nat} (hn : nb ≤ nb2) : St W N sb Lq G nb2 wr := by
  obtain ⟨n, v1, H, a, r⟩ := h
  exact ⟨n, v1, H, by omega, r⟩
theorem St.sorted (h : St W N sb Lq G nb wr) : Lq.Pairwise (fun a b => aheadB a b = true) := by
  obtain ⟨n, v1, H, a, r⟩ := h; exact H.sorted

theorem St.moved {n2 : Nat} {v1 v2 : Value} {L2 : List Th} {w' : World} (b : Below W.heap.size W wr) {n : Nat} (H : HV wr W.heap.size (W.heap.size + 1) W.heap.size v1 Lq N n) (c : ∀ b, v1.ownBlock = some b → b ≠ sb) (d : W.heap.size + 1 < sb) (r : wr.rowIs sb 4 N (fun j => .bool (G j)))
    (H2 : HV w' W.heap.size (W.heap.size + 1) W.heap.size v2 L2 N n2) (F : Fr (Foot (W.heap.size + 1) W.heap.size v1) wr w') (hv : ∀ k, v2.ownBlock = some k → v1.ownBlock = some k ∨ wr.heap.size ≤ k) (hn2 : n2 ≤ nb) : St W N sb L2 G nb w' := by
  have hnS : ¬ Foot (W.heap.size + 1) W.heap.size v1 sb := by
    rintro (h | h | h)
    · omega
    · omega
    · exact c sb h.symm rfl
  have hl := r.lt
  refine ⟨n2, v2, H2, hn2, b.trans (H.foot F b.size), fun k hk h => ?_, d, r.of_block (F.block sb hl hnS)⟩
  rcases hv k hk with h2 | h2
  · exact c k h2 h
  · omega
end

theorem st_pop (W : World) (N sb : Nat) (t : Th) (Lq : List Th) (G : Int → Bool) (nb : Nat) (wr : World) (h : St W N sb (t :: Lq) G nb wr) (now : Int) (hd : ¬ now < t.d) (hn : nb < 600000000) :
    Calls Try.prog 11 #[.pointer (some ⟨W.heap.size + 1, 0, none⟩), .int .u64 now] wr fun e w' => e = .returned (.tuple #[.int .u64 t.w, .bool true]) ∧ St W N sb Lq G (nb + 2 * Lq.length + 5) w' := by
  obtain ⟨n, v1, H, a, b, c, d, r⟩ := h
  refine (pop_hv wr W.heap.size (W.heap.size + 1) W.heap.size v1 t Lq N n H now hd (by omega)).mono ?_
  rintro e w' ⟨rfl, v2, n2, hn2, H2, F2, hv2⟩
  exact ⟨rfl, St.moved b H c d r H2 F2 hv2 (by omega)⟩
theorem st_pop_nil (W : World) (N sb : Nat) (G : Int → Bool) (nb : Nat) (wr : World) (h : St W N sb [] G nb wr) (now : Int) :
    Calls Try.prog 11 #[.pointer (some ⟨W.heap.size + 1, 0, none⟩), .int .u64 now] wr fun e w' => e = .returned (.tuple #[.int .u64 0, .bool false]) ∧ wr = w' := by
  obtain ⟨n, v1, H, a, b, c, d, r⟩ := h
  exact pop_nil_hv wr W.heap.size (W.heap.size + 1) W.heap.size v1 N n H now
theorem st_drop (W : World) (N sb : Nat) (t : Th) (Lq : List Th) (G : Int → Bool) (nb : Nat) (wr : World) (h : St W N sb Lq G nb wr) (ht : t ∈ Lq) (hn : nb < 600000000) :
    Calls Try.prog 14 #[.pointer (some ⟨W.heap.size + 1, 0, none⟩), .int .i64 t.h] wr fun e w' => e = .returned (.tuple #[.int .u64 t.w, .bool true]) ∧ St W N sb (Lq.filter (fun x => !(x.h == t.h))) G (nb + 2 * Lq.length + 3) w' := by
  obtain ⟨n, v1, H, a, b, c, d, r⟩ := h
  refine (drop_hv wr W.heap.size (W.heap.size + 1) W.heap.size v1 Lq N n H t ht (by omega)).mono ?_
  rintro e w' ⟨rfl, v2, n2, hn2, H2, F2, hv2⟩
  exact ⟨rfl, St.moved b H c d r H2 F2 hv2 (by omega)⟩
theorem st_drop_none (W : World) (N sb : Nat) (Lq : List Th) (G : Int → Bool) (nb : Nat) (wr : World) (s : St W N sb Lq G nb wr) (h : Int) (hh : (Lit.int .i64 h).wf = true) (hno : ∀ t ∈ Lq, t.h ≠ h) :
    Calls Try.prog 14 #[.pointer (some ⟨W.heap.size + 1, 0, none⟩), .int .i64 h] wr fun e w' => e = .returned (.tuple #[.int .u64 0, .bool false]) ∧ wr = w' := by
  obtain ⟨n, v1, H, a, b, c, d, r⟩ := s
  exact drop_none_hv wr W.heap.size (W.heap.size + 1) W.heap.size v1 Lq N n H h hh hno

/-- after the puts, the row of bools made -/
theorem st_made {W wr : World} {N : Nat} {L : List Th} {v1 : Value} {n nb : Nat} (H : HV wr W.heap.size (W.heap.size + 1) W.heap.size v1 L N n) (hn : n ≤ nb) (hb : Below W.heap.size W wr) :
    St W N wr.heap.size L (fun _ => false) nb (wr.alloc (.cells (madeCells #[.bool false] N) 4)) :=
  ⟨n, v1, H.below ((Below.refl _ _).alloc (Nat.le_refl _) _), hn, hb.alloc hb.size _, fun b hb2 => by have := H.lt.2.2 b hb2; omega, H.lt.1.2, World.rowIs_made wr (.bool false) N 4⟩

end Go.Proofs.Ytfibgjgipadmkaa.Hp
