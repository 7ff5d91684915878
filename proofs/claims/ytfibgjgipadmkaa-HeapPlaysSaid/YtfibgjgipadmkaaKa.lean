/- HeapWaits: the walk. -/
import Derived.Test.YtfibgjgipadmkaaJb
import Derived.Test.YtfibgjgipadmkaaSk
namespace Go.Proofs.Ytfibgjgipadmkaa.Hp
set_option linter.unusedVariables false
set_option linter.unusedSimpArgs false
open Go.RowKit Go.Maps Go.ChangeMaps

theorem sort_all (L : List Th) (h : L.length ≤ 1000000) : ∀ T : List Th, T.length = L.length → ∃ S, SortOK T S := fun T hT => by
  by_cases h2 : 2 ≤ T.length
  · exact ⟨_, sort_pdq T h2 (by omega)⟩
  · exact ⟨T, sort_tiny T (by omega)⟩

/-- Len, whatever is there -/
theorem len_b (w : World) (B g m : Nat) (v : Value) (L : List Th) (last : Int) (n : Nat) (H : HV w B g m v L last n) :
    Calls Try.prog 12 #[.pointer (some ⟨g, 0, none⟩)] w fun e w' => e = .returned (.int .i64 L.length) ∧ Below w.heap.size w w' :=
  len_hv w B g m v L last n H (sort_all L H.len)

/-- how many deadlines have come -/
def due (ds : Nat → Int) (now : Int) : Nat → Nat
  | 0 => 0
  | k + 1 => due ds now k + if ds k ≤ now then 1 else 0
theorem due_le (ds : Nat → Int) (now : Int) : ∀ k, due ds now k ≤ k
  | 0 => Nat.le_refl _
  | k + 1 => by have := due_le ds now k; rw [due]; split <;> omega
theorem due_count (ds : Nat → Int) (now : Int) : ∀ k, ((List.range k).map (th ds)).countP (fun t => decide (t.d ≤ now)) = due ds now k
  | 0 => rfl
  | k + 1 => by
    rw [List.range_succ, List.map_append, List.countP_append, due_count ds now k, due]
    simp [List.countP_cons, th]
theorem due_PL (ds : Nat → Int) (now : Int) (k : Nat) : (PL ds k).countP (fun t => decide (t.d ≤ now)) = due ds now k := by
  rw [(PL_perm ds k).countP_eq, due_count]
theorem at_due (now : Int) : ∀ (L : List Th), L.Pairwise (fun a b => aheadB a b = true) → ∀ i, i < L.length → ((at' L i).d ≤ now ↔ i < L.countP (fun t => decide (t.d ≤ now)))
  | [], _, i, h => by simp at h
  | t :: L, hs, i, h => by
    obtain ⟨h1, h2⟩ := List.pairwise_cons.1 hs
    have hd : ∀ x ∈ L, t.d ≤ x.d := fun x hx => by have := h1 x hx; rw [ahead_iff] at this; omega
    by_cases ht : t.d ≤ now
    · rw [List.countP_cons_of_pos (by simpa using ht)]
      rcases i with _ | i
      · simp [at', ht]
      · have := at_due now L h2 i (by simpa using h)
        rw [show at' (t :: L) (i + 1) = at' L i by simp [at']]
        omega
    · have h0 : (t :: L).countP (fun t => decide (t.d ≤ now)) = 0 := by
        rw [List.countP_eq_zero]
        intro x hx
        rcases List.mem_cons.1 hx with rfl | hx
        · simpa using ht
        · have := hd x hx; simp; omega
      rw [h0]
      have hx := at_mem h
      rcases List.mem_cons.1 hx with e | hx
      · rw [e]; omega
      · have := hd _ hx; omega

set_option maxRecDepth 100000 in
set_option maxHeartbeats 2000000 in
theorem waits_long (W : World) (a : Option Addr) (len cap : Nat) (now : Int) (hl : 200 < len) :
    Calls Try.prog 6 #[.slice a len cap, .int .u64 now] W fun e W' => e = .returned (.bool true) ∧ Below W.heap.size W W' := by
  have hd : decide ((200 : Int) < (len : Int)) = true := decide_eq_true (by omega)
  go_enter Try.func6, Try.ntmps6
  go_wp2_with fail
  refine (new_hv W W.heap.size (Nat.le_refl _)).mono ?_
  rintro e w1 ⟨rfl, H1, b1⟩
  clear H1
  have hs1 := b1.size
  generalize W.heap.size + 1 = g
  go_wp2_with fail
  refine (awake_any w1).mono ?_
  rintro e w2 ⟨rfl, b2⟩
  have hb := b1.trans (b2.mono hs1)
  clear b1 b2
  go_wp2_with fail
  go_ret
  exact ⟨rfl, hb⟩

def WaRel (W : World) (L : List Th) (N c : Nat) (iv : Value) (wr : World) : Prop :=
  ∃ (q n : Nat) (v1 : Value), iv = .int .i64 q ∧ q ≤ c ∧ HV wr W.heap.size (W.heap.size + 1) W.heap.size v1 (L.drop q) N n ∧ n ≤ N * 1000 + q * 1000 ∧ Below W.heap.size W wr

set_option maxRecDepth 100000 in
set_option maxHeartbeats 4000000 in
theorem waits_any (W : World) (a : Option Addr) (len cap : Nat) (hl : len ≤ 200) (ds : Nat → Int) (now : Int) (hN : Nums W a len ds) (hwf : ∀ i, i < len → 0 ≤ ds i ∧ ds i ≤ 18446744073709551615) :
    Calls Try.prog 6 #[.slice a len cap, .int .u64 now] W fun e W' => e = .returned (.bool true) ∧ Below W.heap.size W W' := by
  have hd : decide ((200 : Int) < (len : Int)) = false := decide_eq_false (by omega)
  go_enter Try.func6, Try.ntmps6
  go_wp2_with fail
  refine (new_hv W W.heap.size (Nat.le_refl _)).mono ?_
  rintro e w1 ⟨rfl, H1, b1⟩
  have hs1 := b1.size
  have hnil := Lib.hid hN
  clear hN
  go_wp2_with fail
  go_loopw [6, 7] (fun nv v wr => ∃ (k n : Nat) (v1 : Value), nv = .int .i64 (due ds now k) ∧ v = .int .i64 k ∧ k ≤ len ∧ HV wr W.heap.size (W.heap.size + 1) W.heap.size v1 (PL ds k) k n ∧ n ≤ k * 1000 ∧ Below W.heap.size W wr) (fun _ v _ => len - (intOf v).toNat)
  case atStart => exact ⟨0, 0, _, rfl, rfl, Nat.zero_le _, H1, by omega, b1⟩
  case round =>
    obtain ⟨k, n, v1, rfl, rfl, hk, H, hn, hb⟩ := hrel
    have hdl := due_le ds now k
    by_cases hlt : k < len
    · rcases hnil.out with h | ⟨x, rfl, hxb, hcell⟩
      · omega
      have hx := (hb.cell (p := x.add k) (by rw [add_block']; exact hxb)).trans (hcell k hlt)
      have hl1 : decide ((k : Int) < (len : Int)) = true := decide_eq_true (by omega)
      have hi0 : (0 : Int) ≤ (k : Int) := by omega
      have hi1 : (k : Int) < (len : Int) := by omega
      have hadd : IntKind.i64.wrap ((k : Int) + 1) = (k : Int) + 1 := IntWalk.i64_in _ (by omega)
      have hadd2 : IntKind.i64.wrap ((due ds now k : Int) + 1) = (due ds now k : Int) + 1 := IntWalk.i64_in _ (by omega)
      have hcv : IntKind.u64.wrap (k : Int) = (k : Int) := IntWalk.u64_in _ (by omega)
      have HC := Lib.hid hcell
      clear hcell
      go_wp2_with fail
      refine (put_b wr W.heap.size (W.heap.size + 1) W.heap.size v1 (PL ds k) k n H (ds k) k hb.size (by omega) (by rw [PL_len]; omega) (by omega)).mono ?_
      rintro e w2 ⟨rfl, v2, n2, hn2, H2, b2⟩
      rw [PL_len] at hn2
      have hx2 := ((hb.trans b2).cell (p := x.add k) (by rw [add_block']; exact hxb)).trans (HC.out k hlt)
      have HE : Hid (HV w2 W.heap.size (W.heap.size + 1) W.heap.size v2 (PL ds (k + 1)) ((k + 1 : Nat) : Int) n2 ∧ Below W.heap.size W w2) := ⟨by rw [Int.natCast_add]; exact H2, hb.trans b2⟩
      clear H2 b2 H hx
      by_cases hdue : ds k ≤ now
      · have hdn : decide (ds k ≤ now) = true := decide_eq_true hdue
        have hds : Hid (due ds now (k + 1) = due ds now k + 1) := by rw [due, if_pos hdue]; rfl
        go_wp2_with fail
        go_roundw
        case rel => exact ⟨k + 1, n2, v2, by rw [hds.out]; simp, by simp, by omega, HE.out.1, by omega, HE.out.2⟩
        case measure => simp [intOf]; omega
      · have hdn : decide (ds k ≤ now) = false := decide_eq_false hdue
        have hds : Hid (due ds now (k + 1) = due ds now k) := by rw [due, if_neg hdue]; rfl
        go_wp2_with fail
        go_roundw
        case rel => exact ⟨k + 1, n2, v2, by rw [hds.out], by simp, by omega, HE.out.1, by omega, HE.out.2⟩
        case measure => simp [intOf]; omega
    · obtain rfl : k = len := by omega
      have hl1 : decide ((k : Int) < (k : Int)) = false := decide_eq_false (by omega)
      clear H1 b1
      have hPl := PL_len ds k
      have hcnt := due_PL ds now k
      obtain ⟨c, hc⟩ : ∃ c, c = due ds now k := ⟨_, rfl⟩
      rw [← hc] at hdl hcnt ⊢
      obtain ⟨L, hL⟩ : ∃ L, L = PL ds k := ⟨_, rfl⟩
      rw [← hL] at H hPl hcnt
      have hmem : ∀ i, i < k → ∃ j, j < k ∧ at' L i = th ds j := fun i hi => by
        have := at_mem (T := L) (i := i) (by omega)
        rw [hL] at this ⊢
        exact PL_mem this
      have HD : Hid (∀ i, i < L.length → ((at' L i).d ≤ now ↔ i < c)) := fun i hi => by rw [← hcnt]; exact at_due now L H.sorted i hi
      have HM := Lib.hid hmem
      have HPl := Lib.hid hPl
      have H0 : Hid (WaRel W L k c (.int .i64 0) wr) := ⟨0, n, v1, rfl, Nat.zero_le _, H, by omega, hb⟩
      clear hL hc hcnt hmem H hb hn
      go_wp2_with fail
      go_loopw [8] (fun iv wl => WaRel W L k c iv wl) (fun iv _ => c - (intOf iv).toNat)
      case atStart => exact H0.out
      case round =>
        clear H0
        obtain ⟨q, n, v1, rfl, hq, H, hn, hb⟩ := hrel
        by_cases hqc : q < c
        · have hl1 : decide ((q : Int) < (c : Int)) = true := decide_eq_true (by omega)
          have hqk : q < k := by omega
          obtain ⟨j, hj, hjt⟩ := HM.out q hqk
          have hdue := (HD.out q (by rw [HPl.out]; omega)).2 hqc
          rw [drop_at (by rw [HPl.out]; omega), hjt] at H
          rw [hjt] at hdue
          have hdj : ds j ≤ now := hdue
          obtain ⟨x, hax, hxb, hcell⟩ : ∃ x, a = some x ∧ x.block < W.heap.size ∧ ∀ i, i < k → W.cell? (x.add i) = some (.int .u64 (ds i)) := by
            rcases hnil.out with h | h
            · omega
            · exact h
          have hle : (L.drop (q + 1)).length ≤ k := by rw [List.length_drop, HPl.out]; omega
          subst hax
          have HC := Lib.hid hcell
          clear hcell hjt hdue
          have hpop := pop_b wr W.heap.size (W.heap.size + 1) W.heap.size v1 (th ds j) (L.drop (q + 1)) k n H now hb.size (by show ¬ _ < ds j; omega) (by omega)
          rw [show (th ds j).w = (j : Int) from rfl] at hpop
          clear H
          go_wp2_with fail
          refine hpop.mono ?_
          clear hpop
          rintro e wB ⟨rfl, v2, n2, hn2, H2, b2⟩
          have hbB : Below W.heap.size W wB := hb.trans b2
          have hxj := (hbB.cell (p := x.add j) (by rw [add_block']; exact hxb)).trans (HC.out j hj)
          have hadd : IntKind.i64.wrap ((q : Int) + 1) = (q : Int) + 1 := IntWalk.i64_in _ (by omega)
          have hcv : IntKind.u64.wrap (k : Int) = (k : Int) := IntWalk.u64_in _ (by omega)
          have hge : decide ((k : Int) ≤ (j : Int)) = false := decide_eq_false (by omega)
          have hj0 : (0 : Int) ≤ (j : Int) := by omega
          have hj1 : (j : Int) < (k : Int) := by omega
          have hgt : decide (now < ds j) = false := decide_eq_false (by omega)
          have HE : Hid (WaRel W L k c (.int .i64 ((q : Int) + 1)) wB) := ⟨q + 1, n2, v2, by simp, by omega, H2, by omega, hbB⟩
          clear H2 b2 hb hbB
          go_wp2_with fail
          go_roundw
          case rel => exact HE.out
          case measure => simp [intOf]; omega
        · obtain rfl : q = c := by omega
          have hl1 : decide ((q : Int) < (q : Int)) = false := decide_eq_false (by omega)
          have hsub : IntKind.i64.wrap ((k : Int) - (q : Int)) = (k : Int) - (q : Int) := IntWalk.i64_in _ (by omega)
          by_cases hend : q < k
          · obtain ⟨t, ht⟩ : ∃ t, t = at' L q := ⟨_, rfl⟩
            have hdue := (HD.out q (by rw [HPl.out]; omega))
            rw [drop_at (by rw [HPl.out]; omega), ← ht] at H
            rw [← ht] at hdue
            have hdt : now < t.d := by omega
            have hlen : (t :: L.drop (q + 1)).length = k - q := by rw [List.length_cons, List.length_drop, HPl.out]; omega
            clear hdue ht
            have HH := Lib.hid H
            clear H
            go_wp2_with fail
            refine (pop_late_hv wr W.heap.size (W.heap.size + 1) W.heap.size v1 t (L.drop (q + 1)) k n HH.out now hdt).mono ?_
            rintro e wB ⟨rfl, rfl⟩
            have hle := len_b wr W.heap.size (W.heap.size + 1) W.heap.size v1 _ k n HH.out
            rw [hlen, Int.ofNat_sub (by omega)] at hle
            go_wp2_with fail
            refine hle.mono ?_
            clear hle
            rintro e w5 ⟨rfl, b5⟩
            have H5 := Lib.hid (HH.out.below b5)
            go_wp2_with fail
            refine (first_hv w5 W.heap.size (W.heap.size + 1) W.heap.size v1 t (L.drop (q + 1)) k n H5.out).mono ?_
            rintro e w6 ⟨rfl, b6⟩
            have hl2 : decide ((q : Int) < (k : Int)) = true := decide_eq_true (by omega)
            have hgt : decide (now < t.d) = true := decide_eq_true hdt
            go_wp2_with fail
            refine (awake_any w6).mono ?_
            rintro e w7 ⟨rfl, b7⟩
            have hbb := ((hb.trans (b5.mono hb.size)).trans (b6.mono (by have := hb.size; have := b5.size; omega))).trans (b7.mono (by have := hb.size; have := b5.size; have := b6.size; omega))
            clear hb b5 b6 b7 HH H5
            go_wp2_with fail
            go_ret
            exact ⟨rfl, hbb⟩
          · obtain rfl : q = k := by omega
            rw [List.drop_eq_nil_of_le (by rw [HPl.out]; omega)] at H
            have HH := Lib.hid H
            clear H
            go_wp2_with fail
            refine (pop_nil_hv wr W.heap.size (W.heap.size + 1) W.heap.size v1 q n HH.out now).mono ?_
            rintro e wB ⟨rfl, rfl⟩
            have hle := len_b wr W.heap.size (W.heap.size + 1) W.heap.size v1 _ q n HH.out
            go_wp2_with fail
            refine hle.mono ?_
            clear hle
            rintro e w5 ⟨rfl, b5⟩
            have H5 := Lib.hid (HH.out.below b5)
            go_wp2_with fail
            refine (first_nil_hv w5 W.heap.size (W.heap.size + 1) W.heap.size v1 q n H5.out).mono ?_
            rintro e w6 ⟨rfl, rfl⟩
            go_wp2_with fail
            refine (awake_any w5).mono ?_
            rintro e w7 ⟨rfl, b7⟩
            have hbb := (hb.trans (b5.mono hb.size)).trans (b7.mono (by have := hb.size; have := b5.size; omega))
            clear hb b5 b7 HH H5
            go_wp2_with fail
            go_ret
            exact ⟨rfl, hbb⟩

end Go.Proofs.Ytfibgjgipadmkaa.Hp
