/- HeapTwo: the walk. -/
import Derived.Test.YtfibgjgipadmkaaKc
namespace Go.Proofs.Ytfibgjgipadmkaa.Hp
set_option linter.unusedVariables false
set_option linter.unusedSimpArgs false
open Go.RowKit Go.Maps Go.ChangeMaps

/-- two heaps, apart -/
def Two (W : World) (ga ma : Nat) (gb mb : Nat) (va : Value) (La : List Th) (la na : Nat) (wr : World) : Prop :=
  HV wr W.heap.size ga ma va La la na ∧ HV wr W.heap.size gb mb (.slice none 0 0) [] 0 0 ∧ Below W.heap.size W wr ∧
  (gb ≠ ga ∧ gb ≠ ma ∧ mb ≠ ga ∧ mb ≠ ma) ∧ (∀ k, va.ownBlock = some k → k ≠ gb ∧ k ≠ mb)

set_option maxRecDepth 100000 in
set_option maxHeartbeats 2000000 in
theorem two_long (W : World) (a : Option Addr) (len cap : Nat) (hl : 100 < len) :
    Calls Try.prog 7 #[.slice a len cap] W fun e W' => e = .returned (.bool true) ∧ Below W.heap.size W W' := by
  have hd : decide ((100 : Int) < (len : Int)) = true := decide_eq_true (by omega)
  go_enter Try.func7, Try.ntmps7
  go_wp2_with fail
  refine (new_hv W W.heap.size (Nat.le_refl _)).mono ?_
  rintro e w1 ⟨rfl, H1, b1⟩
  clear H1
  have hs1 := b1.size
  generalize W.heap.size + 1 = g
  go_wp2_with fail
  refine (new_hv w1 w1.heap.size (Nat.le_refl _)).mono ?_
  rintro e w2 ⟨rfl, H2, b2⟩
  clear H2
  have hs2 := b2.size
  generalize w1.heap.size + 1 = g2
  go_wp2_with fail
  refine (awake_any w2).mono ?_
  rintro e w3 ⟨rfl, b3⟩
  have hb := (b1.trans (b2.mono hs1)).trans (b3.mono (by omega))
  clear b1 b2 b3
  go_wp2_with fail
  go_ret
  exact ⟨rfl, hb⟩

set_option maxRecDepth 100000 in
set_option maxHeartbeats 4000000 in
theorem two_any (W : World) (a : Option Addr) (len cap : Nat) (hl : len ≤ 100) (ds : Nat → Int) (hN : Nums W a len ds) :
    Calls Try.prog 7 #[.slice a len cap] W fun e W' => e = .returned (.bool true) ∧ Below W.heap.size W W' := by
  have hd : decide ((100 : Int) < (len : Int)) = false := decide_eq_false (by omega)
  go_enter Try.func7, Try.ntmps7
  go_wp2_with fail
  refine (new_hv W W.heap.size (Nat.le_refl _)).mono ?_
  rintro e w1 ⟨rfl, H1, b1⟩
  have hs1 := b1.size
  have hlt1 := H1.lt
  have H1 := Lib.hid H1
  generalize W.heap.size + 1 = ga at H1 hlt1 ⊢
  generalize hma : W.heap.size = ma at H1 hlt1
  go_wp2_with fail
  refine (new_hv w1 W.heap.size hs1).mono ?_
  rintro e w2 ⟨rfl, H2, b2⟩
  have hs2 := b2.size
  have hnil := Lib.hid hN
  have H0 : Hid (Two W ga ma (w1.heap.size + 1) w1.heap.size (.slice none 0 0) [] 0 0 w2) := by
    have H1' := H1.out
    rw [← hma] at H1' hlt1 ⊢
    exact ⟨H1'.below b2, H2, b1.trans (b2.mono hs1), ⟨by omega, by omega, by omega, by omega⟩, fun k hk => by simp [Value.ownBlock] at hk⟩
  clear hN H2 H1 hlt1 hma b1 b2
  generalize w1.heap.size + 1 = gb at H0 ⊢
  generalize w1.heap.size = mb at H0
  go_wp2_with fail
  clear hs2 hs1
  go_loopw [5] (fun v wr => ∃ (k n : Nat) (va : Value) (La : List Th), v = .int .i64 k ∧ k ≤ len ∧ La.length = k ∧ n ≤ k * 1000 ∧ Hid (Two W ga ma gb mb va La k n wr)) (fun v _ => len - (intOf v).toNat)
  case atStart => exact ⟨0, 0, _, [], rfl, Nat.zero_le _, rfl, by omega, H0⟩
  case round =>
    clear H0
    obtain ⟨k, n, va, La, rfl, hk, hLa, hn, H⟩ := hrel
    have hbW := H.out.2.2.1.size
    by_cases hlt : k < len
    · rcases hnil.out with h | ⟨x, rfl, hxb, hcell⟩
      · omega
      have hx := (H.out.2.2.1.cell (p := x.add k) (by rw [add_block']; exact hxb)).trans (hcell k hlt)
      have hl1 : decide ((k : Int) < (len : Int)) = true := decide_eq_true (by omega)
      have hi0 : (0 : Int) ≤ (k : Int) := by omega
      have hi1 : (k : Int) < (len : Int) := by omega
      have hadd : IntKind.i64.wrap ((k : Int) + 1) = (k : Int) + 1 := IntWalk.i64_in _ (by omega)
      clear hcell
      have hput := put_hv wr W.heap.size ga ma va La k n H.out.1 (ds k) 5 hbW (by omega) (by omega) (by omega)
      have HL := Lib.hid hLa
      clear hLa
      go_wp2_with fail
      refine hput.mono ?_
      clear hput
      rintro e w2 ⟨rfl, v2, n2, hn2, H2, F2, hv2⟩
      rw [HL.out] at hn2
      have HE : Hid (Two W ga ma gb mb v2 (ins La ⟨ds k, 5, (k : Int) + 1⟩) (k + 1) n2 w2) := by
        obtain ⟨h1, h2, h3, ⟨h4, h5, h6, h7⟩, h8⟩ := H.out
        refine ⟨by rw [Int.natCast_add]; exact H2, h2.keep F2 ?_ ?_ (fun q hq => by simp [Value.ownBlock] at hq), h3.trans (h1.foot F2 hbW), ⟨h4, h5, h6, h7⟩, fun q hq => ?_⟩
        · rintro (h | h | h)
          · exact h4 h
          · exact h5 h
          · exact (h8 gb h.symm).1 rfl
        · rintro (h | h | h)
          · exact h6 h
          · exact h7 h
          · exact (h8 mb h.symm).2 rfl
        · rcases hv2 q hq with h | h
          · exact h8 q h
          · have := h2.lt.1.2
            have := h2.lt.2.1.2
            omega
      have hlen2 : Hid ((ins La ⟨ds k, 5, (k : Int) + 1⟩).length = k + 1) := Lib.hid (by rw [ins_len, HL.out])
      clear H2 F2 hv2 H
      go_wp2_with fail
      go_roundw
      case rel => exact ⟨k + 1, n2, v2, _, by simp, by omega, hlen2.out, by omega, HE⟩
      case measure => simp [intOf]; omega
    · obtain rfl : k = len := by omega
      have hl1 : decide ((k : Int) < (k : Int)) = false := decide_eq_false (by omega)
      have HL := Lib.hid hLa
      clear hLa
      go_wp2_with fail
      refine (first_nil_hv wr W.heap.size gb mb _ 0 0 H.out.2.1).mono ?_
      rintro e w3 ⟨rfl, rfl⟩
      go_wp2_with fail
      refine (len_b wr W.heap.size gb mb _ [] 0 0 H.out.2.1).mono ?_
      rintro e w4 ⟨rfl, b4⟩
      have H4 : Hid (Two W ga ma gb mb va La k n w4) := by
        obtain ⟨h1, h2, h3, h4, h5⟩ := H.out
        exact ⟨h1.below b4, h2.below b4, h3.trans (b4.mono hbW), h4, h5⟩
      have hbW4 := H4.out.2.2.1.size
      clear b4 H
      go_wp2_with fail
      refine (put_hv w4 W.heap.size gb mb _ [] 0 0 H4.out.2.1 1 2 hbW4 (by decide) (by decide) (by decide)).mono ?_
      rintro e w5 ⟨rfl, v5, n5, hn5, H5, F5, hv5⟩
      have H5 := Lib.hid H5
      have HA : Hid (HV w5 W.heap.size ga ma va La k n ∧ Below W.heap.size W w5) := by
        obtain ⟨h1, h2, h3, ⟨h4, h5, h6, h7⟩, h8⟩ := H4.out
        refine ⟨h1.keep F5 ?_ ?_ (fun q hq => ?_), h3.trans (h2.foot F5 hbW4)⟩
        · rintro (h | h | h)
          · exact h4 h.symm
          · exact h6 h.symm
          · simp [Value.ownBlock] at h
        · rintro (h | h | h)
          · exact h5 h.symm
          · exact h7 h.symm
          · simp [Value.ownBlock] at h
        · rintro (h | h | h)
          · exact (h8 q hq).1 h
          · exact (h8 q hq).2 h
          · simp [Value.ownBlock] at h
      have c5 : ((0 : Int) + 1 == 1) = true := rfl
      clear F5 hv5 H4
      go_wp2_with fail
      have hla := len_b w5 W.heap.size ga ma va La k n HA.out.1
      rw [HL.out] at hla
      refine hla.mono ?_
      clear hla
      rintro e w6 ⟨rfl, b6⟩
      have HB : Hid (HV w6 W.heap.size gb mb v5 (ins [] ⟨1, 2, 0 + 1⟩) (0 + 1) n5 ∧ Below W.heap.size W w6) := ⟨H5.out.below b6, HA.out.2.trans (b6.mono HA.out.2.size)⟩
      clear b6 HA H5
      go_wp2_with fail
      refine (all_any w6 W.heap.size gb mb v5 _ n5 _ HB.out.1 9 (by decide)).mono ?_
      rintro e w7 ⟨v7, rfl, hown7, b7⟩
      obtain ⟨g7, c7, rfl⟩ : ∃ g7 c7, v7 = .slice (some ⟨g7, 0, none⟩) 1 c7 := by
        obtain ⟨hl, h | ⟨g', cap', cur, h, r⟩⟩ := hown7
        · exact absurd h.2 (by decide)
        · exact ⟨g', cap', h⟩
      have HC : Hid (Below W.heap.size W w7) := HB.out.2.trans (b7.mono HB.out.2.size)
      have hs7 := HC.out.size
      clear hown7 b7 HB
      go_wp2_with fail
      refine (awake_any w7).mono ?_
      rintro e w8 ⟨rfl, b8⟩
      have HD : Hid (Below W.heap.size W w8) := HC.out.trans (b8.mono hs7)
      clear b8 HC
      go_wp2_with fail
      go_ret
      exact ⟨rfl, HD.out⟩

end Go.Proofs.Ytfibgjgipadmkaa.Hp
