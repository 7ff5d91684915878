/- HeapPlays: the walk. -/
import Derived.Test.YtfibgjgipadmkaaQe
namespace Go.Proofs.Ytfibgjgipadmkaa.Hp
set_option linter.unusedVariables false
set_option linter.unusedSimpArgs false
open Go.RowKit Go.Maps Go.ChangeMaps

/-- one call of the script -/
structure Op4 where
  o : Int
  h : Int
  d : Int
  x : Int

def Ops (W : World) (a : Option Addr) (len : Nat) (f : Nat → Op4) : Prop :=
  len = 0 ∨ ∃ y, a = some y ∧ y.block < W.heap.size ∧ ∀ i, i < len → ∀ j u, ([.int .i64 (f i).o, .int .i64 (f i).h, .int .u64 (f i).d, .int .u64 (f i).x] : List Value)[j]? = some u → W.cell? (y.add (i * 4 + j)) = some u

theorem addr_next (y : Addr) (a j : Nat) : y.add (a + (j + 1)) = ⟨(y.add a).block, (y.add a).off + (j + 1), none⟩ := by
  unfold Addr.add
  rw [if_neg (by omega)]
  by_cases h : a = 0
  · subst h; simp
  · rw [if_neg h]; simp; omega

set_option maxRecDepth 100000 in
set_option maxHeartbeats 8000000 in
theorem plays_any (W : World) (a : Option Addr) (len cap : Nat) (most : Int) (f : Nat → Op4) (hN : Ops W a len f) (hwf : ∀ i, i < len → (Lit.int .i64 (f i).h).wf = true) :
    Calls Try.prog 5 #[.slice a len cap, .int .i64 most] W fun e W' => e = .returned (.bool true) ∧ Below W.heap.size W W' := by
  have HN := Lib.hid hN
  have HW := Lib.hid hwf
  clear hN hwf
  go_enter Try.func5, Try.ntmps5
  go_wp2_with fail
  refine (new_hv W W.heap.size (Nat.le_refl _)).mono ?_
  rintro e w1 ⟨rfl, H1, b1⟩
  have hs1 := b1.size
  generalize hg : W.heap.size + 1 = g at H1 ⊢
  generalize hm : W.heap.size = m at H1
  have hgl := H1.lt.1
  have H0 : Hid (Both W g m w1.heap.size (w1.heap.size + 1) [] 0 0 (w1.alloc (.cells #[.slice none 0 0, .int .i64 0] 41))) := by
    rw [← hm] at H1 ⊢
    refine ⟨⟨_, 0, none, 0, H1.below ((Below.refl _ _).alloc (Nat.le_refl _) _), ⟨heap_alloc_new w1 _, ⟨rfl, .inl ⟨rfl, rfl⟩⟩, Nat.lt_succ_self _, by simp⟩, Nat.le_refl _⟩, b1.alloc hs1 _, hs1⟩
  clear H1 b1 hg hm hgl
  go_wp2_with fail
  generalize hr : w1.heap.size = r at H0 ⊢
  generalize w1.alloc _ = w2 at H0 ⊢
  clear hr
  go_loopw [7] (fun v wr => ∃ (k : Nat) (L : List Th) (last : Nat), v = .int .i64 k ∧ k ≤ len ∧ k ≤ 100 ∧ last ≤ k ∧ L.length ≤ last ∧ Hid (Both W g m r (r + 1) L last (k * 1000) wr)) (fun v _ => len - (intOf v).toNat)
  case atStart => exact ⟨0, [], 0, rfl, Nat.zero_le _, Nat.zero_le _, Nat.le_refl _, Nat.le_refl _, H0⟩
  case round =>
    clear H0
    obtain ⟨k, L, last, rfl, hk, hk1, hlk, hLl, S⟩ := hrel
    have hbW := S.out.below.size
    by_cases hgo : k < len ∧ k < 100
    · obtain ⟨hlt, hlt2⟩ := hgo
      rcases HN.out with h | ⟨y, rfl, hyb, hcell⟩
      · omega
      have hc : ∀ j u, ([.int .i64 (f k).o, .int .i64 (f k).h, .int .u64 (f k).d, .int .u64 (f k).x] : List Value)[j]? = some u → wr.cell? (y.add (k * 4 + j)) = some u := fun j u hu =>
        (S.out.below.cell (p := y.add (k * 4 + j)) (by rw [add_block']; exact hyb)).trans (hcell k hlt j u hu)
      have hx0 := hc 0 _ rfl
      have hx1 := hc 1 _ rfl
      have hx2 := hc 2 _ rfl
      have hx3 := hc 3 _ rfl
      rw [Nat.add_zero] at hx0
      rw [addr_next] at hx1 hx2 hx3
      have hyl : y.block < wr.heap.size := by omega
      have hl1 : decide ((k : Int) < (len : Int)) = true := decide_eq_true (by omega)
      have hl2 : decide ((k : Int) < 100) = true := decide_eq_true (by omega)
      have hi0 : (0 : Int) ≤ (k : Int) := by omega
      have hi1 : (k : Int) < (len : Int) := by omega
      have hadd : IntKind.i64.wrap ((k : Int) + 1) = (k : Int) + 1 := IntWalk.i64_in _ (by omega)
      have hf1 := Lib.hid (HW.out k hlt)
      clear hc hcell
      have S1 : Hid (Both W g m r (r + 1) L last (k * 1000) (wr.alloc (.cells #[.int .i64 (f k).o, .int .i64 (f k).h, .int .u64 (f k).d, .int .u64 (f k).x] 43))) := Lib.hid (S.out.under ((Below.refl _ _).alloc (Nat.le_refl _) _))
      have X1 : Hid ((wr.alloc (.cells #[.int .i64 (f k).o, .int .i64 (f k).h, .int .u64 (f k).d, .int .u64 (f k).x] 43)).heap[wr.heap.size]? = some (.cells #[.int .i64 (f k).o, .int .i64 (f k).h, .int .u64 (f k).d, .int .u64 (f k).x] 43 (0, 0))) := Lib.hid (heap_alloc_new _ _)
      obtain ⟨q, hq, hwi⟩ := within_any (f k).o 5 (by omega) (by omega) (wr.alloc (.cells #[.int .i64 (f k).o, .int .i64 (f k).h, .int .u64 (f k).d, .int .u64 (f k).x] 43))
      go_wp2_with fail
      refine hwi.mono ?_
      clear hwi
      rintro e w3 ⟨rfl, b3⟩
      have S3 := Lib.hid (S1.out.under b3)
      have X3 : Hid (w3.heap[wr.heap.size]? = some (.cells #[.int .i64 (f k).o, .int .i64 (f k).h, .int .u64 (f k).d, .int .u64 (f k).x] 43 (0, 0))) := Lib.hid ((b3.block _ (Array.getElem?_eq_some_iff.1 X1.out).1).trans X1.out)
      have hbx : wr.heap.size < w3.heap.size := (Array.getElem?_eq_some_iff.1 X3.out).1
      have x1 : w3.cell? ⟨wr.heap.size, 1, none⟩ = some (.int .i64 (f k).h) := (cell_of_row w3 wr.heap.size 1 _ 43 (0, 0) X3.out).trans rfl
      have x2 : w3.cell? ⟨wr.heap.size, 2, none⟩ = some (.int .u64 (f k).d) := (cell_of_row w3 wr.heap.size 2 _ 43 (0, 0) X3.out).trans rfl
      have x3 : w3.cell? ⟨wr.heap.size, 3, none⟩ = some (.int .u64 (f k).x) := (cell_of_row w3 wr.heap.size 3 _ 43 (0, 0) X3.out).trans rfl
      have hbr : r < wr.heap.size := by obtain ⟨va, n, A, c, _, R, _⟩ := S.out.ex; exact R.rl
      clear b3 S1 X1 S hx0 hx1 hx2 hx3
      generalize wr.heap.size = bx at X3 hbx x1 x2 x3 hbr ⊢
      have hq5 : q = 0 ∨ q = 1 ∨ q = 2 ∨ q = 3 ∨ q = 4 := by omega
      clear hq
      generalize hcd : (f k).d = dd at x2 X3 ⊢
      generalize hcx : (f k).x = xx at x3 X3 ⊢
      generalize hch : (f k).h = hh at x1 X3 hf1 ⊢
      generalize hco : (f k).o = oo at X3 ⊢
      clear hcd hcx hch hco
      rcases hq5 with rfl | rfl | rfl | rfl | rfl
      · go_wp2_with fail
        have S3d := Lib.hid (S3.out.under (below_drewN w3 1))
        go_region_held3 (fun w' => w'.cell? ⟨bx, 2, none⟩ = some (.int .u64 dd) ∧ w'.cell? ⟨bx, 3, none⟩ = some (.int .u64 xx)) (first | go_keep | exact ⟨y2, y3⟩ | exact ⟨z2, z3⟩)
          (first
            | (go_at_call 10; refine (both_put S3d.out dd xx (by omega) hLl (by omega)).mono ?_; rintro e w4 ⟨rfl, hH, hF⟩; have X4 := Lib.hid ((hF.block bx hbx (fun h => h.2 _ X3.out)).trans X3.out); have y2 : w4.cell? ⟨bx, 2, none⟩ = some (.int .u64 dd) := (cell_of_row w4 bx 2 _ 43 (0, 0) X4.out).trans rfl; have y3 : w4.cell? ⟨bx, 3, none⟩ = some (.int .u64 xx) := (cell_of_row w4 bx 3 _ 43 (0, 0) X4.out).trans rfl; have hb4 : bx < w4.heap.size := Nat.lt_of_lt_of_le hbx hF.size; have HH := Lib.hid hH; clear hH hF)
            | (go_at_call 19; refine (both_rput HH.out dd xx rfl (by omega) hLl).mono ?_; rintro e w5 ⟨rfl, hB, hF⟩; have X5 := Lib.hid ((hF.block bx hb4 (by omega)).trans X4.out); have z2 : w5.cell? ⟨bx, 2, none⟩ = some (.int .u64 dd) := (cell_of_row w5 bx 2 _ 43 (0, 0) X5.out).trans rfl; have z3 : w5.cell? ⟨bx, 3, none⟩ = some (.int .u64 xx) := (cell_of_row w5 bx 3 _ 43 (0, 0) X5.out).trans rfl; have S5 := Lib.hid hB; clear hB hF))
        have hne : (((last : Int) + 1) != ((last : Int) + 1)) = false := by simp
        have S0 := S5
        clear S5
        obtain ⟨L2, last2, nb2, hl2, hk2, hn2, S5⟩ : ∃ L2 last2 nb2, L2.length ≤ last2 ∧ last2 ≤ k + 1 ∧ nb2 ≤ (k + 1) * 1000 ∧ Hid (Both W g m r (r + 1) L2 last2 nb2 w5) :=
          ⟨_, _, _, by rw [ins_len]; omega, by omega, by omega, S0⟩
        clear S0 HH X4 X5 y2 y3 z2 z3 hb4 S3 S3d X3 x1 x2 x3
        have hnn : ((L2.length : Int) != (L2.length : Int)) = false := by simp
        obtain ⟨A9, c9, hc9, hr9⟩ : ∃ A c, w5.cell? ⟨r, 0, none⟩ = some (.slice A L2.length c) ∧ r < w5.heap.size := by
          obtain ⟨va, n, A, c, _, R, _⟩ := S5.out.ex
          exact ⟨A, c, R.c0, R.rl⟩
        have S5d := Lib.hid (S5.out.under (below_drewN w5 1))
        go_wp2_with fail
        go_region_held3 (fun w' => w'.cell? ⟨r, 0, none⟩ = some (.slice A9 L2.length c9)) (first | go_keep | exact t0)
          (first
            | (go_at_call 12; refine (both_len S5d.out).mono ?_; rintro e w6 ⟨rfl, b6⟩; have t0 : w6.cell? ⟨r, 0, none⟩ = some (.slice A9 L2.length c9) := (b6.cell (p := ⟨r, 0, none⟩) hr9).trans hc9; have S6 := Lib.hid (S5d.out.under b6); clear b6))
        go_wp2_with fail
        go_roundw
        case rel => exact ⟨k + 1, L2, last2, by simp, by omega, by omega, hk2, hl2, Lib.hid (S6.out.mono hn2)⟩
        case measure => simp [intOf]; omega
      · go_wp2_with fail
        have S3d := Lib.hid (S3.out.under (below_drewN w3 1))
        go_region_held3 (fun w' => w'.cell? ⟨bx, 2, none⟩ = some (.int .u64 dd) ∧ w'.cell? ⟨bx, 3, none⟩ = some (.int .u64 xx)) (first | go_keep | exact ⟨y2, y3⟩ | exact ⟨z2, z3⟩)
          (first
            | (go_at_call 10; refine (both_put S3d.out dd xx (by omega) hLl (by omega)).mono ?_; rintro e w4 ⟨rfl, hH, hF⟩; have X4 := Lib.hid ((hF.block bx hbx (fun h => h.2 _ X3.out)).trans X3.out); have y2 : w4.cell? ⟨bx, 2, none⟩ = some (.int .u64 dd) := (cell_of_row w4 bx 2 _ 43 (0, 0) X4.out).trans rfl; have y3 : w4.cell? ⟨bx, 3, none⟩ = some (.int .u64 xx) := (cell_of_row w4 bx 3 _ 43 (0, 0) X4.out).trans rfl; have hb4 : bx < w4.heap.size := Nat.lt_of_lt_of_le hbx hF.size; have HH := Lib.hid hH; clear hH hF)
            | (go_at_call 19; refine (both_rput HH.out dd xx rfl (by omega) hLl).mono ?_; rintro e w5 ⟨rfl, hB, hF⟩; have X5 := Lib.hid ((hF.block bx hb4 (by omega)).trans X4.out); have z2 : w5.cell? ⟨bx, 2, none⟩ = some (.int .u64 dd) := (cell_of_row w5 bx 2 _ 43 (0, 0) X5.out).trans rfl; have z3 : w5.cell? ⟨bx, 3, none⟩ = some (.int .u64 xx) := (cell_of_row w5 bx 3 _ 43 (0, 0) X5.out).trans rfl; have S5 := Lib.hid hB; clear hB hF))
        have hne : (((last : Int) + 1) != ((last : Int) + 1)) = false := by simp
        have S0 := S5
        clear S5
        obtain ⟨L2, last2, nb2, hl2, hk2, hn2, S5⟩ : ∃ L2 last2 nb2, L2.length ≤ last2 ∧ last2 ≤ k + 1 ∧ nb2 ≤ (k + 1) * 1000 ∧ Hid (Both W g m r (r + 1) L2 last2 nb2 w5) :=
          ⟨_, _, _, by rw [ins_len]; omega, by omega, by omega, S0⟩
        clear S0 HH X4 X5 y2 y3 z2 z3 hb4 S3 S3d X3 x1 x2 x3
        have hnn : ((L2.length : Int) != (L2.length : Int)) = false := by simp
        obtain ⟨A9, c9, hc9, hr9⟩ : ∃ A c, w5.cell? ⟨r, 0, none⟩ = some (.slice A L2.length c) ∧ r < w5.heap.size := by
          obtain ⟨va, n, A, c, _, R, _⟩ := S5.out.ex
          exact ⟨A, c, R.c0, R.rl⟩
        have S5d := Lib.hid (S5.out.under (below_drewN w5 1))
        go_wp2_with fail
        go_region_held3 (fun w' => w'.cell? ⟨r, 0, none⟩ = some (.slice A9 L2.length c9)) (first | go_keep | exact t0)
          (first
            | (go_at_call 12; refine (both_len S5d.out).mono ?_; rintro e w6 ⟨rfl, b6⟩; have t0 : w6.cell? ⟨r, 0, none⟩ = some (.slice A9 L2.length c9) := (b6.cell (p := ⟨r, 0, none⟩) hr9).trans hc9; have S6 := Lib.hid (S5d.out.under b6); clear b6))
        go_wp2_with fail
        go_roundw
        case rel => exact ⟨k + 1, L2, last2, by simp, by omega, by omega, hk2, hl2, Lib.hid (S6.out.mono hn2)⟩
        case measure => simp [intOf]; omega
      · by_cases hin : ∃ j, j < L.length ∧ (at' L j).h = hh
        · obtain ⟨j, hj, rfl⟩ := hin
          have hnd := Lib.hid S3.out.nodup
          go_wp2_with fail
          refine (both_drop S3.out j hj (by omega)).mono ?_
          rintro e w4 ⟨rfl, hH, hF⟩
          have X4 := Lib.hid ((hF.block bx hbx (fun h => h.2 _ X3.out)).trans X3.out)
          have hb4 : bx < w4.heap.size := Nat.lt_of_lt_of_le hbx hF.size
          have y1 : w4.cell? ⟨bx, 1, none⟩ = some (.int .i64 (at' L j).h) := (cell_of_row w4 bx 1 _ 43 (0, 0) X4.out).trans rfl
          have HH := Lib.hid hH
          clear hH hF
          go_wp2_with fail
          refine (both_rdrop hnd.out j hj HH.out (by omega)).mono ?_
          rintro e w5 ⟨rfl, hB⟩
          have S0 := Lib.hid hB
          clear hB
          obtain ⟨L2, last2, nb2, hl2, hk2, hn2, S5⟩ : ∃ L2 last2 nb2, L2.length ≤ last2 ∧ last2 ≤ k + 1 ∧ nb2 ≤ (k + 1) * 1000 ∧ Hid (Both W g m r (r + 1) L2 last2 nb2 w5) :=
            ⟨_, _, _, by rw [List.length_append, List.length_take, List.length_drop]; omega, by omega, by omega, S0⟩
          clear S0 HH X4 y1 hb4 S3 X3 x1 x2 x3 hnd
          have hnn : ((L2.length : Int) != (L2.length : Int)) = false := by simp
          obtain ⟨A9, c9, hc9, hr9⟩ : ∃ A c, w5.cell? ⟨r, 0, none⟩ = some (.slice A L2.length c) ∧ r < w5.heap.size := by
            obtain ⟨va, n, A, c, _, R, _⟩ := S5.out.ex
            exact ⟨A, c, R.c0, R.rl⟩
          have S5d := Lib.hid (S5.out.under (below_drewN w5 1))
          go_wp2_with fail
          go_region_held3 (fun w' => w'.cell? ⟨r, 0, none⟩ = some (.slice A9 L2.length c9)) (first | go_keep | exact t0)
            (first
              | (go_at_call 12; refine (both_len S5d.out).mono ?_; rintro e w6 ⟨rfl, b6⟩; have t0 : w6.cell? ⟨r, 0, none⟩ = some (.slice A9 L2.length c9) := (b6.cell (p := ⟨r, 0, none⟩) hr9).trans hc9; have S6 := Lib.hid (S5d.out.under b6); clear b6))
          go_wp2_with fail
          go_roundw
          case rel => exact ⟨k + 1, L2, last2, by simp, by omega, by omega, hk2, hl2, Lib.hid (S6.out.mono hn2)⟩
          case measure => simp [intOf]; omega
        · have hno : Hid (∀ t ∈ L, t.h ≠ hh) := Lib.hid (fun t ht e => by
            obtain ⟨j, hj, he⟩ := mem_at ht
            exact hin ⟨j, hj, by rw [he]; exact e⟩)
          clear hin
          go_wp2_with fail
          refine (both_nodrop S3.out hh hf1.out hno.out).mono ?_
          rintro e w4 ⟨rfl, rfl⟩
          go_wp2_with fail
          refine (both_rnodrop S3.out hh hno.out (by omega)).mono ?_
          rintro e w5 ⟨rfl, hw⟩
          have S0 : Hid (Both W g m r (r + 1) L last (k * 1000) w5) := Lib.hid (by rw [← hw]; exact S3.out)
          obtain ⟨L2, last2, nb2, hl2, hk2, hn2, S5⟩ : ∃ L2 last2 nb2, L2.length ≤ last2 ∧ last2 ≤ k + 1 ∧ nb2 ≤ (k + 1) * 1000 ∧ Hid (Both W g m r (r + 1) L2 last2 nb2 w5) :=
            ⟨_, _, _, hLl, by omega, by omega, S0⟩
          clear hw S0 S3 X3 x1 x2 x3 hno
          have hnn : ((L2.length : Int) != (L2.length : Int)) = false := by simp
          obtain ⟨A9, c9, hc9, hr9⟩ : ∃ A c, w5.cell? ⟨r, 0, none⟩ = some (.slice A L2.length c) ∧ r < w5.heap.size := by
            obtain ⟨va, n, A, c, _, R, _⟩ := S5.out.ex
            exact ⟨A, c, R.c0, R.rl⟩
          have S5d := Lib.hid (S5.out.under (below_drewN w5 1))
          go_wp2_with fail
          go_region_held3 (fun w' => w'.cell? ⟨r, 0, none⟩ = some (.slice A9 L2.length c9)) (first | go_keep | exact t0)
            (first
              | (go_at_call 12; refine (both_len S5d.out).mono ?_; rintro e w6 ⟨rfl, b6⟩; have t0 : w6.cell? ⟨r, 0, none⟩ = some (.slice A9 L2.length c9) := (b6.cell (p := ⟨r, 0, none⟩) hr9).trans hc9; have S6 := Lib.hid (S5d.out.under b6); clear b6))
          go_wp2_with fail
          go_roundw
          case rel => exact ⟨k + 1, L2, last2, by simp, by omega, by omega, hk2, hl2, Lib.hid (S6.out.mono hn2)⟩
          case measure => simp [intOf]; omega
      · rcases L with _ | ⟨t, L⟩
        · go_wp2_with fail
          refine (both_first S3.out).mono ?_
          rintro e w4 ⟨rfl, b4⟩
          have S4 := Lib.hid (S3.out.under b4)
          clear b4
          unfold fst3
          go_wp2_with fail
          refine (both_rfirst S4.out).mono ?_
          rintro e w5 ⟨rfl, b5⟩
          have S0 := Lib.hid (S4.out.under b5)
          clear b5
          unfold fst3
          obtain ⟨L2, last2, nb2, hl2, hk2, hn2, S5⟩ : ∃ L2 last2 nb2, L2.length ≤ last2 ∧ last2 ≤ k + 1 ∧ nb2 ≤ (k + 1) * 1000 ∧ Hid (Both W g m r (r + 1) L2 last2 nb2 w5) :=
            ⟨_, _, _, hLl, by omega, by omega, S0⟩
          clear S0 S3 S4 X3 x1 x2 x3
          have hnn : ((L2.length : Int) != (L2.length : Int)) = false := by simp
          obtain ⟨A9, c9, hc9, hr9⟩ : ∃ A c, w5.cell? ⟨r, 0, none⟩ = some (.slice A L2.length c) ∧ r < w5.heap.size := by
            obtain ⟨va, n, A, c, _, R, _⟩ := S5.out.ex
            exact ⟨A, c, R.c0, R.rl⟩
          have S5d := Lib.hid (S5.out.under (below_drewN w5 1))
          go_wp2_with fail
          go_region_held3 (fun w' => w'.cell? ⟨r, 0, none⟩ = some (.slice A9 L2.length c9)) (first | go_keep | exact t0)
            (first
              | (go_at_call 12; refine (both_len S5d.out).mono ?_; rintro e w6 ⟨rfl, b6⟩; have t0 : w6.cell? ⟨r, 0, none⟩ = some (.slice A9 L2.length c9) := (b6.cell (p := ⟨r, 0, none⟩) hr9).trans hc9; have S6 := Lib.hid (S5d.out.under b6); clear b6))
          go_wp2_with fail
          go_roundw
          case rel => exact ⟨k + 1, L2, last2, by simp, by omega, by omega, hk2, hl2, Lib.hid (S6.out.mono hn2)⟩
          case measure => simp [intOf]; omega
        · go_wp2_with fail
          refine (both_first S3.out).mono ?_
          rintro e w4 ⟨rfl, b4⟩
          have S4 := Lib.hid (S3.out.under b4)
          clear b4
          unfold fst3
          go_wp2_with fail
          refine (both_rfirst S4.out).mono ?_
          rintro e w5 ⟨rfl, b5⟩
          have S0 := Lib.hid (S4.out.under b5)
          clear b5
          unfold fst3
          obtain ⟨L2, last2, nb2, hl2, hk2, hn2, S5⟩ : ∃ L2 last2 nb2, L2.length ≤ last2 ∧ last2 ≤ k + 1 ∧ nb2 ≤ (k + 1) * 1000 ∧ Hid (Both W g m r (r + 1) L2 last2 nb2 w5) :=
            ⟨_, _, _, hLl, by omega, by omega, S0⟩
          clear S0 S3 S4 X3 x1 x2 x3
          have hnn : ((L2.length : Int) != (L2.length : Int)) = false := by simp
          obtain ⟨A9, c9, hc9, hr9⟩ : ∃ A c, w5.cell? ⟨r, 0, none⟩ = some (.slice A L2.length c) ∧ r < w5.heap.size := by
            obtain ⟨va, n, A, c, _, R, _⟩ := S5.out.ex
            exact ⟨A, c, R.c0, R.rl⟩
          have S5d := Lib.hid (S5.out.under (below_drewN w5 1))
          go_wp2_with fail
          go_region_held3 (fun w' => w'.cell? ⟨r, 0, none⟩ = some (.slice A9 L2.length c9)) (first | go_keep | exact t0)
            (first
              | (go_at_call 12; refine (both_len S5d.out).mono ?_; rintro e w6 ⟨rfl, b6⟩; have t0 : w6.cell? ⟨r, 0, none⟩ = some (.slice A9 L2.length c9) := (b6.cell (p := ⟨r, 0, none⟩) hr9).trans hc9; have S6 := Lib.hid (S5d.out.under b6); clear b6))
          go_wp2_with fail
          go_roundw
          case rel => exact ⟨k + 1, L2, last2, by simp, by omega, by omega, hk2, hl2, Lib.hid (S6.out.mono hn2)⟩
          case measure => simp [intOf]; omega
      · rcases L with _ | ⟨t, L⟩
        · go_wp2_with fail
          refine (both_nopop S3.out dd (fun t L' h => by cases h)).mono ?_
          rintro e w4 ⟨rfl, hw4⟩
          subst hw4
          go_wp2_with fail
          refine (both_rnopop S3.out dd (fun t L' h => by cases h)).mono ?_
          rintro e w5 ⟨rfl, hw⟩
          have S0 := Lib.hid S3.out
          rw [hw] at S0
          obtain ⟨L2, last2, nb2, hl2, hk2, hn2, S5⟩ : ∃ L2 last2 nb2, L2.length ≤ last2 ∧ last2 ≤ k + 1 ∧ nb2 ≤ (k + 1) * 1000 ∧ Hid (Both W g m r (r + 1) L2 last2 nb2 w5) :=
            ⟨_, _, _, hLl, by omega, by omega, S0⟩
          clear hw S0 S3 X3 x1 x2 x3
          have hnn : ((L2.length : Int) != (L2.length : Int)) = false := by simp
          obtain ⟨A9, c9, hc9, hr9⟩ : ∃ A c, w5.cell? ⟨r, 0, none⟩ = some (.slice A L2.length c) ∧ r < w5.heap.size := by
            obtain ⟨va, n, A, c, _, R, _⟩ := S5.out.ex
            exact ⟨A, c, R.c0, R.rl⟩
          have S5d := Lib.hid (S5.out.under (below_drewN w5 1))
          go_wp2_with fail
          go_region_held3 (fun w' => w'.cell? ⟨r, 0, none⟩ = some (.slice A9 L2.length c9)) (first | go_keep | exact t0)
            (first
              | (go_at_call 12; refine (both_len S5d.out).mono ?_; rintro e w6 ⟨rfl, b6⟩; have t0 : w6.cell? ⟨r, 0, none⟩ = some (.slice A9 L2.length c9) := (b6.cell (p := ⟨r, 0, none⟩) hr9).trans hc9; have S6 := Lib.hid (S5d.out.under b6); clear b6))
          go_wp2_with fail
          go_roundw
          case rel => exact ⟨k + 1, L2, last2, by simp, by omega, by omega, hk2, hl2, Lib.hid (S6.out.mono hn2)⟩
          case measure => simp [intOf]; omega
        · by_cases hd : dd < t.d
          · have HD := Lib.hid hd
            clear hd
            go_wp2_with fail
            refine (both_nopop S3.out dd (fun t' L' h => by cases h; exact HD.out)).mono ?_
            rintro e w4 ⟨rfl, hw4⟩
            subst hw4
            go_wp2_with fail
            refine (both_rnopop S3.out dd (fun t' L' h => by cases h; exact HD.out)).mono ?_
            rintro e w5 ⟨rfl, hw⟩
            have S0 := Lib.hid S3.out
            rw [hw] at S0
            obtain ⟨L2, last2, nb2, hl2, hk2, hn2, S5⟩ : ∃ L2 last2 nb2, L2.length ≤ last2 ∧ last2 ≤ k + 1 ∧ nb2 ≤ (k + 1) * 1000 ∧ Hid (Both W g m r (r + 1) L2 last2 nb2 w5) :=
              ⟨_, _, _, hLl, by omega, by omega, S0⟩
            clear hw S0 S3 X3 x1 x2 x3
            have hnn : ((L2.length : Int) != (L2.length : Int)) = false := by simp
            obtain ⟨A9, c9, hc9, hr9⟩ : ∃ A c, w5.cell? ⟨r, 0, none⟩ = some (.slice A L2.length c) ∧ r < w5.heap.size := by
              obtain ⟨va, n, A, c, _, R, _⟩ := S5.out.ex
              exact ⟨A, c, R.c0, R.rl⟩
            have S5d := Lib.hid (S5.out.under (below_drewN w5 1))
            go_wp2_with fail
            go_region_held3 (fun w' => w'.cell? ⟨r, 0, none⟩ = some (.slice A9 L2.length c9)) (first | go_keep | exact t0)
              (first
                | (go_at_call 12; refine (both_len S5d.out).mono ?_; rintro e w6 ⟨rfl, b6⟩; have t0 : w6.cell? ⟨r, 0, none⟩ = some (.slice A9 L2.length c9) := (b6.cell (p := ⟨r, 0, none⟩) hr9).trans hc9; have S6 := Lib.hid (S5d.out.under b6); clear b6))
            go_wp2_with fail
            go_roundw
            case rel => exact ⟨k + 1, L2, last2, by simp, by omega, by omega, hk2, hl2, Lib.hid (S6.out.mono hn2)⟩
            case measure => simp [intOf]; omega
          · have HD := Lib.hid hd
            clear hd
            rw [List.length_cons] at hLl
            go_wp2_with fail
            refine (both_pop S3.out dd (Int.not_lt.2 HD.out) (by omega)).mono ?_
            rintro e w4 ⟨rfl, hH, hF⟩
            have X4 := Lib.hid ((hF.block bx hbx (fun h => h.2 _ X3.out)).trans X3.out)
            have hb4 : bx < w4.heap.size := Nat.lt_of_lt_of_le hbx hF.size
            have y2 : w4.cell? ⟨bx, 2, none⟩ = some (.int .u64 dd) := (cell_of_row w4 bx 2 _ 43 (0, 0) X4.out).trans rfl
            have HH := Lib.hid hH
            clear hH hF
            go_wp2_with fail
            refine (both_rpop HH.out dd (Int.not_lt.2 HD.out) (by omega)).mono ?_
            rintro e w5 ⟨rfl, hB⟩
            have S0 := Lib.hid hB
            clear hB
            obtain ⟨L2, last2, nb2, hl2, hk2, hn2, S5⟩ : ∃ L2 last2 nb2, L2.length ≤ last2 ∧ last2 ≤ k + 1 ∧ nb2 ≤ (k + 1) * 1000 ∧ Hid (Both W g m r (r + 1) L2 last2 nb2 w5) :=
              ⟨_, _, _, by omega, by omega, by omega, S0⟩
            clear S0 HH X4 y2 hb4 S3 X3 x1 x2 x3
            have hnn : ((L2.length : Int) != (L2.length : Int)) = false := by simp
            obtain ⟨A9, c9, hc9, hr9⟩ : ∃ A c, w5.cell? ⟨r, 0, none⟩ = some (.slice A L2.length c) ∧ r < w5.heap.size := by
              obtain ⟨va, n, A, c, _, R, _⟩ := S5.out.ex
              exact ⟨A, c, R.c0, R.rl⟩
            have S5d := Lib.hid (S5.out.under (below_drewN w5 1))
            go_wp2_with fail
            go_region_held3 (fun w' => w'.cell? ⟨r, 0, none⟩ = some (.slice A9 L2.length c9)) (first | go_keep | exact t0)
              (first
                | (go_at_call 12; refine (both_len S5d.out).mono ?_; rintro e w6 ⟨rfl, b6⟩; have t0 : w6.cell? ⟨r, 0, none⟩ = some (.slice A9 L2.length c9) := (b6.cell (p := ⟨r, 0, none⟩) hr9).trans hc9; have S6 := Lib.hid (S5d.out.under b6); clear b6))
            go_wp2_with fail
            go_roundw
            case rel => exact ⟨k + 1, L2, last2, by simp, by omega, by omega, hk2, hl2, Lib.hid (S6.out.mono hn2)⟩
            case measure => simp [intOf]; omega
    · have hL100 : L.length ≤ 100 := by omega
      have hd1 : decide (k < len) = true ∧ decide ((k : Int) < 100) = false ∨ decide (k < len) = false := by
        by_cases h : k < len
        · exact .inl ⟨decide_eq_true h, decide_eq_false (by omega)⟩
        · exact .inr (decide_eq_false h)
      have ht1 : tk 1000 L.length = L.length := by unfold tk; omega
      have hall := both_all S.out 1000 (by decide)
      rw [ht1, List.take_of_length_le (Nat.le_refl _)] at hall
      have HA := Lib.hid hall
      clear hgo hall ht1
      rcases hd1 with ⟨hd1, hd2⟩ | hd1
      · go_wp2_with fail
        refine HA.out.mono ?_
        rintro e w3 ⟨Al, cl, rfl, hrp, b3⟩
        have S3 := Lib.hid (S.out.under b3)
        have P3 := Lib.hid hrp
        clear hrp b3 S HA hd1
        obtain ⟨q, hq, hwi⟩ := within_any most 30 (by omega) (by omega) w3
        go_wp2_with fail
        refine hwi.mono ?_
        clear hwi
        rintro e w4 ⟨rfl, b4⟩
        have S4 := Lib.hid (S3.out.under b4)
        have P4 := Lib.hid (P3.out.below b4)
        clear b4 S3 P3
        have hadd2 : IntKind.i64.wrap (1 + (q : Int)) = 1 + (q : Int) := IntWalk.i64_in _ (by omega)
        have hall := both_all S4.out (1 + (q : Int)) (by omega)
        obtain ⟨N, hNt⟩ : ∃ N, N = tk (1 + (q : Int)) L.length := ⟨_, rfl⟩
        have hN1 : N ≤ L.length := by rw [hNt]; unfold tk; omega
        have hN2 : N = min (1 + q) L.length := by rw [hNt]; unfold tk; omega
        rw [← hNt] at hall
        have HN2 := Lib.hid hN2
        clear hNt hN2
        go_wp2_with fail
        refine hall.mono ?_
        clear hall
        rintro e w5 ⟨As, cs, rfl, hrp, b5⟩
        have S5 := Lib.hid (S4.out.under b5)
        have P5 := Lib.hid (P4.out.below b5)
        have Q5 := Lib.hid hrp
        have hB5 := Lib.hid (S5.out.below)
        clear b5 S4 P4 hrp
        have hmin : ((N : Int) != min (1 + (q : Int)) (L.length : Int)) = false := by rw [bne_eq_false_iff_eq]; have := HN2.out; omega
        have hpl : (L.map pr).length = L.length := List.length_map ..
        have hql : ((L.take N).map pr).length = N := by rw [List.length_map, List.length_take]; omega
        have HPL := Lib.hid hpl
        have HQL := Lib.hid hql
        clear hpl hql
        go_wp2_with fail
        clear hmin
        go_loopw [26] (fun v wl => ∃ t : Nat, v = .int .i64 t ∧ t ≤ N ∧ Hid (∃ mm, wl = w5.drewN mm)) (fun v _ => N - (intOf v).toNat)
        case atStart => exact ⟨0, rfl, Nat.zero_le _, Lib.hid ⟨0, rfl⟩⟩
        case round =>
          obtain ⟨t, rfl, ht, HD⟩ := hrel
          have hbl : Below w5.heap.size w5 wr := by obtain ⟨mm, e⟩ := HD.out; rw [e]; exact below_drewN _ _
          by_cases htN : t < N
          · obtain ⟨gs, rfl, hgsl, hs0, hs1'⟩ := (Q5.out.below hbl).at_ (k := t) (by rw [HQL.out]; exact htN)
            obtain ⟨gl, rfl, hgll, hl0, hl1'⟩ := (P5.out.below hbl).at_ (k := t) (by rw [HPL.out]; omega)
            have e1 : ((L.take N).map pr)[t]'(by rw [HQL.out]; exact htN) = (L.map pr)[t]'(by rw [HPL.out]; omega) := by
              rw [List.getElem_map, List.getElem_map, List.getElem_take]
            rw [e1] at hs0 hs1'
            generalize (L.map pr)[t]'(by rw [HPL.out]; omega) = pp at hs0 hs1' hl0 hl1'
            obtain ⟨p1, p2⟩ := pp
            have hlt1 : decide ((t : Int) < (N : Int)) = true := decide_eq_true (by omega)
            have ht0 : (0 : Int) ≤ (t : Int) := by omega
            have ht1 : (t : Int) < (N : Int) := by omega
            have ht2 : (t : Int) < (L.length : Int) := by omega
            have hadd3 : IntKind.i64.wrap ((t : Int) + 1) = (t : Int) + 1 := IntWalk.i64_in _ (by omega)
            clear e1 hbl
            go_wp2_with fail
            go_quiet (fail)
            go_wp2_with fail
            go_roundw
            case rel => exact ⟨t + 1, by simp, by omega, Lib.hid (by obtain ⟨mm, e⟩ := HD.out; exact ⟨_, by rw [e, World.drewN_drewN]⟩)⟩
            case measure => simp [intOf]; omega
          · have hlt1 : decide (t < N) = false := decide_eq_false htN
            have S6 := Lib.hid (S5.out.under hbl)
            have P6 := Lib.hid (P5.out.below hbl)
            clear hbl
            go_wp2_with fail
            refine (both_same S6.out P6.out (by omega)).mono ?_
            rintro e w7 ⟨rfl, b7⟩
            have S7 := Lib.hid (S6.out.under b7)
            clear b7
            go_wp2_with fail
            refine (awake_any w7).mono ?_
            rintro e w8 ⟨rfl, b8⟩
            have hbb : Hid (Below W.heap.size W w8) := Lib.hid (S7.out.below.trans (b8.mono S7.out.below.size))
            clear b8
            go_wp2_with fail
            go_ret
            exact ⟨rfl, hbb.out⟩
      · go_wp2_with fail
        refine HA.out.mono ?_
        rintro e w3 ⟨Al, cl, rfl, hrp, b3⟩
        have S3 := Lib.hid (S.out.under b3)
        have P3 := Lib.hid hrp
        clear hrp b3 S HA hd1
        obtain ⟨q, hq, hwi⟩ := within_any most 30 (by omega) (by omega) w3
        go_wp2_with fail
        refine hwi.mono ?_
        clear hwi
        rintro e w4 ⟨rfl, b4⟩
        have S4 := Lib.hid (S3.out.under b4)
        have P4 := Lib.hid (P3.out.below b4)
        clear b4 S3 P3
        have hadd2 : IntKind.i64.wrap (1 + (q : Int)) = 1 + (q : Int) := IntWalk.i64_in _ (by omega)
        have hall := both_all S4.out (1 + (q : Int)) (by omega)
        obtain ⟨N, hNt⟩ : ∃ N, N = tk (1 + (q : Int)) L.length := ⟨_, rfl⟩
        have hN1 : N ≤ L.length := by rw [hNt]; unfold tk; omega
        have hN2 : N = min (1 + q) L.length := by rw [hNt]; unfold tk; omega
        rw [← hNt] at hall
        have HN2 := Lib.hid hN2
        clear hNt hN2
        go_wp2_with fail
        refine hall.mono ?_
        clear hall
        rintro e w5 ⟨As, cs, rfl, hrp, b5⟩
        have S5 := Lib.hid (S4.out.under b5)
        have P5 := Lib.hid (P4.out.below b5)
        have Q5 := Lib.hid hrp
        have hB5 := Lib.hid (S5.out.below)
        clear b5 S4 P4 hrp
        have hmin : ((N : Int) != min (1 + (q : Int)) (L.length : Int)) = false := by rw [bne_eq_false_iff_eq]; have := HN2.out; omega
        have hpl : (L.map pr).length = L.length := List.length_map ..
        have hql : ((L.take N).map pr).length = N := by rw [List.length_map, List.length_take]; omega
        have HPL := Lib.hid hpl
        have HQL := Lib.hid hql
        clear hpl hql
        go_wp2_with fail
        clear hmin
        go_loopw [26] (fun v wl => ∃ t : Nat, v = .int .i64 t ∧ t ≤ N ∧ Hid (∃ mm, wl = w5.drewN mm)) (fun v _ => N - (intOf v).toNat)
        case atStart => exact ⟨0, rfl, Nat.zero_le _, Lib.hid ⟨0, rfl⟩⟩
        case round =>
          obtain ⟨t, rfl, ht, HD⟩ := hrel
          have hbl : Below w5.heap.size w5 wr := by obtain ⟨mm, e⟩ := HD.out; rw [e]; exact below_drewN _ _
          by_cases htN : t < N
          · obtain ⟨gs, rfl, hgsl, hs0, hs1'⟩ := (Q5.out.below hbl).at_ (k := t) (by rw [HQL.out]; exact htN)
            obtain ⟨gl, rfl, hgll, hl0, hl1'⟩ := (P5.out.below hbl).at_ (k := t) (by rw [HPL.out]; omega)
            have e1 : ((L.take N).map pr)[t]'(by rw [HQL.out]; exact htN) = (L.map pr)[t]'(by rw [HPL.out]; omega) := by
              rw [List.getElem_map, List.getElem_map, List.getElem_take]
            rw [e1] at hs0 hs1'
            generalize (L.map pr)[t]'(by rw [HPL.out]; omega) = pp at hs0 hs1' hl0 hl1'
            obtain ⟨p1, p2⟩ := pp
            have hlt1 : decide ((t : Int) < (N : Int)) = true := decide_eq_true (by omega)
            have ht0 : (0 : Int) ≤ (t : Int) := by omega
            have ht1 : (t : Int) < (N : Int) := by omega
            have ht2 : (t : Int) < (L.length : Int) := by omega
            have hadd3 : IntKind.i64.wrap ((t : Int) + 1) = (t : Int) + 1 := IntWalk.i64_in _ (by omega)
            clear e1 hbl
            go_wp2_with fail
            go_quiet (fail)
            go_wp2_with fail
            go_roundw
            case rel => exact ⟨t + 1, by simp, by omega, Lib.hid (by obtain ⟨mm, e⟩ := HD.out; exact ⟨_, by rw [e, World.drewN_drewN]⟩)⟩
            case measure => simp [intOf]; omega
          · have hlt1 : decide (t < N) = false := decide_eq_false htN
            have S6 := Lib.hid (S5.out.under hbl)
            have P6 := Lib.hid (P5.out.below hbl)
            clear hbl
            go_wp2_with fail
            refine (both_same S6.out P6.out (by omega)).mono ?_
            rintro e w7 ⟨rfl, b7⟩
            have S7 := Lib.hid (S6.out.under b7)
            clear b7
            go_wp2_with fail
            refine (awake_any w7).mono ?_
            rintro e w8 ⟨rfl, b8⟩
            have hbb : Hid (Below W.heap.size W w8) := Lib.hid (S7.out.below.trans (b8.mono S7.out.below.size))
            clear b8
            go_wp2_with fail
            go_ret
            exact ⟨rfl, hbb.out⟩

end Go.Proofs.Ytfibgjgipadmkaa.Hp
