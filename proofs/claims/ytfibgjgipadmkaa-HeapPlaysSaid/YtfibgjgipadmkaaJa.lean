/- HeapSorts: the walk. -/
import Derived.Test.YtfibgjgipadmkaaIc
import Derived.Deep.OwnRows
namespace Go.Proofs.Ytfibgjgipadmkaa.Hp
set_option linter.unusedVariables false
set_option linter.unusedSimpArgs false
open Go.RowKit Go.Maps Go.ChangeMaps

def th (ds : Nat → Int) (i : Nat) : Th := ⟨ds i, i, i + 1⟩
/-- what lies in the heap when k things have been put in -/
def PL (ds : Nat → Int) : Nat → List Th
  | 0 => []
  | k + 1 => ins (PL ds k) (th ds k)
theorem PL_len (ds : Nat → Int) : ∀ k, (PL ds k).length = k
  | 0 => rfl
  | k + 1 => by rw [PL, ins_len, PL_len ds k]
theorem PL_perm (ds : Nat → Int) : ∀ k, (PL ds k).Perm ((List.range k).map (th ds))
  | 0 => List.Perm.refl _
  | k + 1 => by
    rw [PL, List.range_succ, List.map_append]
    exact (ins_perm _ _).trans (((PL_perm ds k).cons _).trans (List.perm_append_singleton _ _).symm)
theorem PL_mem {ds : Nat → Int} {k : Nat} {t : Th} (h : t ∈ PL ds k) : ∃ j, j < k ∧ t = th ds j := by
  have := (PL_perm ds k).mem_iff.1 h
  obtain ⟨j, hj, e⟩ := List.mem_map.1 this
  exact ⟨j, List.mem_range.1 hj, e.symm⟩

theorem add_block' (x : Addr) (k : Nat) : (x.add k).block = x.block := by unfold Addr.add; split <;> rfl

theorem info4 : (Try.prog.info? 4).map (fun i => (i.zero, i.size, i.bytes)) = some (some (.bool false), 1, 1) := by kernel_rfl
theorem drop_at {L : List Th} {k : Nat} (h : k < L.length) : L.drop k = at' L k :: L.drop (k + 1) := by
  rw [List.drop_eq_getElem_cons h]
  unfold at'; rw [List.getD_eq_getElem?_getD, List.getElem?_eq_getElem h]; rfl
theorem at_pair {L : List Th} (hs : L.Pairwise (fun a b => aheadB a b = true)) {i j : Nat} (hij : i < j) (hj : j < L.length) : aheadB (at' L i) (at' L j) = true := by
  rw [List.pairwise_iff_getElem] at hs
  have := hs i j (by omega) hj hij
  unfold at'
  rw [List.getD_eq_getElem?_getD, List.getElem?_eq_getElem (by omega), List.getD_eq_getElem?_getD, List.getElem?_eq_getElem hj]
  exact this
/-- has the thing of number j been popped, when q have been? -/
def seenB (L : List Th) (q : Nat) (j : Int) : Bool := (L.take q).any (fun t => t.w == j)
theorem seenB_zero (L : List Th) (j : Int) : seenB L 0 j = false := by simp [seenB]
theorem seenB_succ {L : List Th} {q : Nat} (h : q < L.length) (j : Int) : seenB L (q + 1) j = (seenB L q j || (at' L q).w == j) := by
  unfold seenB at'
  rw [List.take_succ_eq_append_getElem h, List.any_append, List.getD_eq_getElem?_getD, List.getElem?_eq_getElem h]
  simp
theorem seenB_iff {L : List Th} {q : Nat} (hq : q ≤ L.length) (j : Int) : seenB L q j = true ↔ ∃ i, i < q ∧ (at' L i).w = j := by
  unfold seenB
  rw [List.any_eq_true]
  constructor
  · rintro ⟨t, ht, e⟩
    obtain ⟨i, hi, hit⟩ := mem_at ht
    rw [List.length_take] at hi
    rw [at_take (by omega)] at hit
    exact ⟨i, by omega, by rw [hit]; simpa using e⟩
  · rintro ⟨i, hi, e⟩
    refine ⟨at' L i, ?_, by simpa using e⟩
    have := at_mem (T := L.take q) (i := i) (by rw [List.length_take]; omega)
    rwa [at_take hi] at this

def SoRel (W : World) (L : List Th) (N sb : Nat) (lv iv : Value) (wr : World) : Prop :=
  ∃ (q n : Nat) (v1 : Value) (lw : Int), iv = .int .i64 q ∧ lv = .int .u64 lw ∧ q ≤ N ∧ HV wr W.heap.size (W.heap.size + 1) W.heap.size v1 (L.drop q) N n ∧ n ≤ N * 1000 + q * 1000 ∧ Below W.heap.size W wr ∧
    (∀ b, v1.ownBlock = some b → b ≠ sb) ∧ W.heap.size + 1 < sb ∧ wr.rowIs sb 4 N (fun j => .bool (seenB L q j)) ∧ (0 < q → lw = (at' L (q - 1)).w)

theorem below_drewN {B : Nat} (w : World) (n : Nat) : Below B w (w.drewN n) := ⟨rfl, rfl, rfl, Nat.le_refl _, fun _ _ => rfl⟩
theorem SoRel.drewN {W : World} {L : List Th} {N sb : Nat} {lv iv : Value} {wr : World} (h : SoRel W L N sb lv iv wr) (n : Nat) : SoRel W L N sb lv iv (wr.drewN n) := by
  obtain ⟨q, m, v1, lw, a, b, c, H, d, e, f, g, r, i⟩ := h
  exact ⟨q, m, v1, lw, a, b, c, H.below (below_drewN _ _), d, e.trans (below_drewN _ _), f, g, r, i⟩

/-- a row of unsigned numbers that came in -/
def Nums (W : World) (a : Option Addr) (len : Nat) (ds : Nat → Int) : Prop :=
  len = 0 ∨ ∃ x, a = some x ∧ x.block < W.heap.size ∧ ∀ i, i < len → W.cell? (x.add i) = some (.int .u64 (ds i))

set_option maxRecDepth 100000 in
set_option maxHeartbeats 2000000 in
theorem sorts_long (W : World) (a : Option Addr) (len cap : Nat) (hl : 300 < len) :
    Calls Try.prog 3 #[.slice a len cap] W fun e W' => e = .returned (.bool true) ∧ Below W.heap.size W W' := by
  have hd : decide ((300 : Int) < (len : Int)) = true := decide_eq_true (by omega)
  go_enter Try.func3, Try.ntmps3
  go_wp2_with fail
  refine (new_hv W W.heap.size (Nat.le_refl _)).mono ?_
  rintro e w1 ⟨rfl, H1, b1⟩
  clear H1
  have hs1 := b1.size
  generalize W.heap.size + 1 = g
  go_wp2_with fail
  refine (awake_any w1).mono ?_
  rintro e w2 ⟨rfl, b2⟩
  have hb := b1.trans (b2.mono hs1)
  clear b1 b2
  go_wp2_with fail
  go_ret
  exact ⟨rfl, hb⟩

set_option maxRecDepth 100000 in
set_option maxHeartbeats 4000000 in
theorem sorts_any (W : World) (a : Option Addr) (len cap : Nat) (hl : len ≤ 300) (ds : Nat → Int) (hN : Nums W a len ds) (hwf : ∀ i, i < len → 0 ≤ ds i ∧ ds i ≤ 18446744073709551615) :
    Calls Try.prog 3 #[.slice a len cap] W fun e W' => e = .returned (.bool true) ∧ Below W.heap.size W W' := by
  have hd : decide ((300 : Int) < (len : Int)) = false := decide_eq_false (by omega)
  go_enter Try.func3, Try.ntmps3
  go_wp2_with fail
  refine (new_hv W W.heap.size (Nat.le_refl _)).mono ?_
  rintro e w1 ⟨rfl, H1, b1⟩
  have hs1 := b1.size
  have hnil : len = 0 ∨ ∃ x, a = some x ∧ x.block < W.heap.size ∧ ∀ i, i < len → W.cell? (x.add i) = some (.int .u64 (ds i)) := by
    rcases hN with h | h
    · exact .inl h
    · exact .inr h
  go_wp2_with fail
  go_loopw [4] (fun v wr => ∃ (k n : Nat) (v1 : Value), v = .int .i64 k ∧ k ≤ len ∧ HV wr W.heap.size (W.heap.size + 1) W.heap.size v1 (PL ds k) k n ∧ n ≤ k * 1000 ∧ Below W.heap.size W wr) (fun v _ => len - (intOf v).toNat)
  case atStart => exact ⟨0, 0, _, rfl, Nat.zero_le _, H1, by omega, b1⟩
  case round =>
    obtain ⟨k, n, v1, rfl, hk, H, hn, hb⟩ := hrel
    by_cases hlt : k < len
    · rcases hnil with h | ⟨x, rfl, hxb, hcell⟩
      · omega
      have hx := (hb.cell (p := x.add k) (by rw [add_block']; exact hxb)).trans (hcell k hlt)
      have hl1 : decide ((k : Int) < (len : Int)) = true := decide_eq_true (by omega)
      have hi0 : (0 : Int) ≤ (k : Int) := by omega
      have hi1 : (k : Int) < (len : Int) := by omega
      have hadd : IntKind.i64.wrap ((k : Int) + 1) = (k : Int) + 1 := IntWalk.i64_in _ (by omega)
      have hcv : IntKind.u64.wrap (k : Int) = (k : Int) := IntWalk.u64_in _ (by omega)
      go_wp2_with fail
      refine (put_b wr W.heap.size (W.heap.size + 1) W.heap.size v1 (PL ds k) k n H (ds k) k hb.size (by omega) (by rw [PL_len]; omega) (by omega)).mono ?_
      rintro e w2 ⟨rfl, v2, n2, hn2, H2, b2⟩
      rw [PL_len] at hn2
      have HE : Hid (HV w2 W.heap.size (W.heap.size + 1) W.heap.size v2 (PL ds (k + 1)) ((k + 1 : Nat) : Int) n2 ∧ Below W.heap.size W w2) := ⟨by rw [Int.natCast_add]; exact H2, hb.trans b2⟩
      clear H2 b2 H
      go_wp2_with fail
      go_roundw
      case rel => exact ⟨k + 1, n2, v2, by simp, by omega, HE.out.1, by omega, HE.out.2⟩
      case measure => simp [intOf]; omega
    · obtain rfl : k = len := by omega
      have hl1 : decide ((k : Int) < (k : Int)) = false := decide_eq_false (by omega)
      clear H1 b1
      have hmk := run_make_row' (P := Try.prog) 28 4 (.bool false) 1 Try.underlying28 info4 rfl .i64 .i64 k (by omega) (by omega)
      have hPl := PL_len ds k
      obtain ⟨L, hL⟩ : ∃ L, L = PL ds k := ⟨_, rfl⟩
      rw [← hL] at H hPl
      have hmem : ∀ i, i < k → ∃ j, j < k ∧ at' L i = th ds j := fun i hi => by
        have := at_mem (T := L) (i := i) (by omega)
        rw [hL] at this ⊢
        exact PL_mem this
      have hsd := H.sorted
      clear hL
      have hlt0 := H.lt
      have hrow0 := World.rowIs_made wr (.bool false) k 4
      have H0 : Hid (SoRel W L k wr.heap.size (.int .u64 0) (.int .i64 0) (wr.alloc (.cells (madeCells #[.bool false] k) 4))) :=
        ⟨0, n, v1, 0, rfl, rfl, Nat.zero_le _, H.below ((Below.refl _ _).alloc (Nat.le_refl _) _), by omega, hb.alloc hb.size _, fun b hb2 => by have := hlt0.2.2 b hb2; omega, hlt0.1.2, hrow0.congr (fun i _ => by rw [seenB_zero]), fun h => by omega⟩
      have hsbW : W.heap.size + 1 < wr.heap.size := hlt0.1.2
      clear H hrow0 hlt0
      go_wp2_with fail
      clear hmk
      generalize wr.heap.size = sb at H0 hsbW ⊢
      generalize wr.alloc (.cells (madeCells #[.bool false] k) 4) = w3 at H0 ⊢
      clear hn hb
      go_loopw [6, 7] (fun lv iv wl => SoRel W L k sb lv iv wl) (fun _ iv _ => k - (intOf iv).toNat)
      case atStart => exact H0.out
      case round =>
        obtain ⟨q, n, v1, lw, rfl, rfl, hq, H, hn, hb, hvs, _, hrow, hlw⟩ := hrel
        by_cases hql : q < k
        · have hl1 : decide ((q : Int) < (k : Int)) = true := decide_eq_true (by omega)
          obtain ⟨j, hj, hjt⟩ := hmem q hql
          rw [drop_at (by omega), hjt] at H
          obtain ⟨x, hax, hxb, hcell⟩ : ∃ x, a = some x ∧ x.block < W.heap.size ∧ ∀ i, i < k → W.cell? (x.add i) = some (.int .u64 (ds i)) := by
            rcases hnil with h | h
            · omega
            · exact h
          subst hax
          have hdj := hwf j hj
          go_wp2_with fail
          refine (pop_hv wr W.heap.size (W.heap.size + 1) W.heap.size v1 (th ds j) (L.drop (q + 1)) k n H 18446744073709551615 (by show ¬ _ < ds j; omega) (by omega)).mono ?_
          rintro e wB ⟨rfl, v2, n2, hn2, H2, F2, hv2⟩
          rw [List.length_drop, hPl] at hn2
          have hnS : ¬ Foot (W.heap.size + 1) W.heap.size v1 sb := by
            rintro (h | h | h)
            · omega
            · omega
            · exact hvs sb h.symm rfl
          have hsbl := hrow.lt
          have hrow2 := hrow.of_block (F2.block sb hsbl hnS)
          have hbB : Below W.heap.size W wB := hb.trans (H.foot F2 hb.size)
          have hns : seenB L q j = false := by
            cases h : seenB L q j with
            | false => rfl
            | true =>
              obtain ⟨i, hi, e⟩ := (seenB_iff (by omega) _).1 h
              obtain ⟨j2, hj2, e2⟩ := hmem i (by omega)
              rw [e2] at e
              have e3 : j2 = j := by have e : (j2 : Int) = j := e; omega
              have := at_pair hsd hi (by omega)
              rw [e2, hjt, e3, ahead_irr] at this
              cases this
          have hnew : ∀ i, seenB L (q + 1) i = (seenB L q i || (j : Int) == i) := fun i => by rw [seenB_succ (by omega), hjt]; rfl
          have hcj : wB.cell? ⟨sb, j, none⟩ = some (.bool false) := by rw [hrow2.cell hj, hns]
          have hxj := (hbB.cell (p := x.add j) (by rw [add_block']; exact hxb)).trans (hcell j hj)
          have hfz := hrow2.frozen j
          have HE : Hid (SoRel W L k sb (.int .u64 j) (.int .i64 ((q : Int) + 1)) (wB.setCell ⟨sb, j, none⟩ (.bool true))) := by
            have hF : Fr (fun b => b = sb) wB (wB.setCell ⟨sb, j, none⟩ (.bool true)) := (Fr.refl (fun b => b = sb) wB).setCell (p := ⟨sb, j, none⟩) (.inl rfl) _
            refine ⟨q + 1, n2, v2, j, by simp, rfl, by omega, H2.keep hF (by omega) (by omega) (fun b hb2 h => ?_), by omega, hbB.trans ((Below.refl _ wB).setCell (show W.heap.size ≤ sb by omega) _), fun b hb2 h => ?_, by omega, (hrow2.set j (.bool true)).congr (fun i hi => ?_), fun _ => ?_⟩
            · rcases hv2 b hb2 with h2 | h2
              · exact hvs b h2 h
              · omega
            · rcases hv2 b hb2 with h2 | h2
              · exact hvs b h2 h
              · omega
            · show (if i = j then Value.bool true else Value.bool (seenB L q i)) = Value.bool (seenB L (q + 1) i)
              rw [hnew]
              by_cases h : i = j
              · rw [if_pos h, h]; simp
              · rw [if_neg h]
                have : ((j : Int) == (i : Int)) = false := beq_false_of_ne (by omega)
                rw [this, Bool.or_false]
            · rw [Nat.add_sub_cancel, hjt]; rfl
          have hordx : q = 0 ∨ ∃ jl : Nat, 0 < q ∧ jl < k ∧ lw = jl ∧ (ds jl < ds j ∨ (ds jl = ds j ∧ jl < j)) := by
            by_cases h0 : q = 0
            · exact .inl h0
            · right
              obtain ⟨jl, hjl, e⟩ := hmem (q - 1) (by omega)
              refine ⟨jl, by omega, hjl, by rw [hlw (by omega), e]; rfl, ?_⟩
              have := at_pair hsd (i := q - 1) (j := q) (by omega) (by omega)
              rw [e, hjt, ahead_iff] at this
              rcases this with h | ⟨h, h2⟩
              · exact .inl h
              · exact .inr ⟨h, by have h2 : (jl : Int) + 1 < (j : Int) + 1 := h2; omega⟩
          have hadd : IntKind.i64.wrap ((q : Int) + 1) = (q : Int) + 1 := IntWalk.i64_in _ (by omega)
          have hcv : IntKind.u64.wrap (k : Int) = (k : Int) := IntWalk.u64_in _ (by omega)
          have hge : decide ((k : Int) ≤ (j : Int)) = false := decide_eq_false (by omega)
          have hj0 : (0 : Int) ≤ (j : Int) := by omega
          have hj1 : (j : Int) < (k : Int) := by omega
          have hsb2 : sb < wB.heap.size := by have := F2.size; omega
          have hxb2 : x.block < wB.heap.size := by have := hbB.size; omega
          change Hid (SoRel W L k sb (.int .u64 j) (.int .i64 ((q : Int) + 1)) (wB.setCell ⟨sb, j, none⟩ (.bool true))) at HE
          have hthw : (th ds j).w = (j : Int) := rfl
          rw [hthw]
          have HX : Hid (∀ jl, jl < k → wB.cell? (x.add jl) = some (.int .u64 (ds jl))) := fun jl hjl => (hbB.cell (p := x.add jl) (by rw [add_block']; exact hxb)).trans (hcell jl hjl)
          have hrow := Lib.hid hrow2
          clear H H2 F2 hv2 hnS hrow2 hnew hns hvs hb hlw hcell hbB
          go_wp2_with fail
          rcases hordx with h0 | ⟨jl, h0, hjl, rfl, hless | ⟨heq, hltj⟩⟩
          · have hq0 : decide ((0 : Int) < (q : Int)) = false := decide_eq_false (by omega)
            go_quiet (fail)
            go_wp2_with fail
            go_roundw
            case rel => subst h0; exact HE.out.drewN nq
            case measure => simp [intOf]; omega
          · have hq0 : decide ((0 : Int) < (q : Int)) = true := decide_eq_true (by omega)
            have hxl := HX.out jl hjl
            have hl0 : (0 : Int) ≤ (jl : Int) := by omega
            have hl2 : (jl : Int) < (k : Int) := by omega
            have hgt : decide (ds j < ds jl) = false := decide_eq_false (by omega)
            have heq2 : (ds jl == ds j) = false := beq_false_of_ne (by omega)
            go_quiet (fail)
            go_wp2_with fail
            go_roundw
            case rel => exact HE.out.drewN nq
            case measure => simp [intOf]; omega
          · have hq0 : decide ((0 : Int) < (q : Int)) = true := decide_eq_true (by omega)
            have hxl := HX.out jl hjl
            have hl0 : (0 : Int) ≤ (jl : Int) := by omega
            have hl2 : (jl : Int) < (k : Int) := by omega
            have hgt : decide (ds j < ds jl) = false := decide_eq_false (by omega)
            have heq2 : (ds jl == ds j) = true := by simp [heq]
            have hgt2 : decide ((j : Int) < (jl : Int)) = false := decide_eq_false (by omega)
            go_quiet (fail)
            go_wp2_with fail
            go_roundw
            case rel => exact HE.out.drewN nq
            case measure => simp [intOf]; omega
        · obtain rfl : q = k := by omega
          have hl1 : decide ((q : Int) < (q : Int)) = false := decide_eq_false (by omega)
          rw [List.drop_eq_nil_of_le (by omega)] at H
          go_wp2_with fail
          refine (pop_nil_hv wr W.heap.size (W.heap.size + 1) W.heap.size v1 q n H 18446744073709551615).mono ?_
          rintro e wB ⟨rfl, rfl⟩
          go_wp2_with fail
          refine (len_hv wr W.heap.size (W.heap.size + 1) W.heap.size v1 [] q n H (sort_small _ (by simp))).mono ?_
          rintro e w5 ⟨rfl, b5⟩
          go_wp2_with fail
          refine (awake_any w5).mono ?_
          rintro e w6 ⟨rfl, b6⟩
          have hbb := (hb.trans (b5.mono hb.size)).trans (b6.mono (by have := hb.size; have := b5.size; omega))
          clear hb b5 b6 H hrow
          go_wp2_with fail
          go_ret
          exact ⟨rfl, hbb⟩

end Go.Proofs.Ytfibgjgipadmkaa.Hp
