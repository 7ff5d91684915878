/- The document's heap: Put. -/
import Derived.Test.YtfibgjgipadmkaaQb
import Derived.Laws.AppendOwnNone
namespace Go.Proofs.Ytfibgjgipadmkaa.Hp
set_option linter.unusedVariables false
set_option linter.unusedSimpArgs false
open Go.RowKit Go.Maps Go.ChangeMaps

theorem while_at (p : Th → Bool) : ∀ (L : List Th) (k : Nat), k ≤ L.length → (∀ j, j < k → p (at' L j) = true) → (k < L.length → p (at' L k) = false) → L.takeWhile p = L.take k ∧ L.dropWhile p = L.drop k
  | [], k, hk, _, _ => by simp
  | x :: L, 0, _, _, h => by
    have := h (by simp)
    rw [show at' (x :: L) 0 = x from rfl] at this
    rw [List.takeWhile_cons_of_neg (by rw [this]; simp), List.dropWhile_cons_of_neg (by rw [this]; simp)]
    exact ⟨rfl, rfl⟩
  | x :: L, k + 1, hk, h1, h2 => by
    have h0 := h1 0 (by omega)
    rw [show at' (x :: L) 0 = x from rfl] at h0
    obtain ⟨a, b⟩ := while_at p L k (by simpa using hk) (fun j hj => h1 (j + 1) (by omega)) (fun hk => h2 (by simpa using hk))
    rw [List.takeWhile_cons_of_pos h0, List.dropWhile_cons_of_pos h0, a, b]
    exact ⟨rfl, rfl⟩
theorem ins_at (L : List Th) (t : Th) (k : Nat) (hk : k ≤ L.length) (h1 : ∀ j, j < k → (at' L j).d ≤ t.d) (h2 : k < L.length → ¬ (at' L k).d ≤ t.d) : ins L t = L.take k ++ t :: L.drop k := by
  obtain ⟨a, b⟩ := while_at (fun x => decide (x.d ≤ t.d)) L k hk (fun j hj => by simpa using h1 j hj) (fun hk => by simpa using h2 hk)
  unfold ins
  rw [a, b]

theorem RF.shape {w : World} {B r : Nat} {A : Option Addr} {c : Nat} {L : List Th} {last : Int} (R : RF w B r A c L last) : (A = none ∧ c = 0 ∧ L = []) ∨ ∃ gb, A = some ⟨gb, 0, none⟩ := by
  obtain ⟨hl, ⟨h, h2⟩ | ⟨g', cap', cur, h, q⟩⟩ := R.own
  · injection h with a b e
    exact .inl ⟨a, e, List.length_eq_zero_iff.1 h2⟩
  · injection h with a b e
    exact .inr ⟨_, a⟩

theorem rf_last {w : World} {B r : Nat} {A : Option Addr} {c : Nat} {L : List Th} {last : Int} (R : RF w B r A c L last) (l2 : Int) : RF (w.setCell ⟨r, 1, none⟩ (.int .i64 l2)) B r A c L l2 ∧ Fr (fun k => k = r) w (w.setCell ⟨r, 1, none⟩ (.int .i64 l2)) := by
  refine ⟨⟨?_, ?_, R.lt, by simp [World.setCell]; exact R.B⟩, (Fr.refl (fun k => k = r) w).setCell (p := ⟨r, 1, none⟩) (.inl rfl) _⟩
  · have := heap_setCell_same w r 1 _ 41 (.int .i64 l2) R.blk
    simpa using this
  · have hgs : w.grownBy (w.setCell ⟨r, 1, none⟩ (.int .i64 l2)) (some r) := ⟨rfl, rfl, rfl, by simp [World.setCell], fun k _ hk => heap_setCell_other w ⟨r, 1, none⟩ k _ (fun e => hk (by simp [e]))⟩
    exact R.own.kept hgs (.inr (fun e => by have := (R.own.lt r e).1; have := R.lt; omega))

set_option maxRecDepth 100000 in
set_option maxHeartbeats 8000000 in
theorem rput_some (w : World) (B r gb : Nat) (c : Nat) (L : List Th) (last d x : Int) (R : RF w B r (some ⟨gb, 0, none⟩) c L last) (hlen : L.length ≤ 1000000) (hl0 : 0 ≤ last) (hl1 : last ≤ 1000000) :
    Calls Try.prog 19 #[.pointer (some ⟨r, 0, none⟩), .int .u64 d, .int .u64 x] w fun e w' => e = .returned (.int .i64 (last + 1)) ∧ ∃ A' c', RF w' B r A' c' (ins L ⟨d, x, last + 1⟩) (last + 1) ∧ Fr (fun k => k = r) w w' := by
  have c1 := R.c1
  have f1 := R.f 1
  have rl := R.rl
  have hcap := Lib.hid R.cap
  obtain ⟨R1, F1⟩ := rf_last R (last + 1)
  have HF1 := Lib.hid F1
  have hs1 : (w.setCell ⟨r, 1, none⟩ (.int .i64 (last + 1))).heap.size = w.heap.size := by simp [World.setCell]
  obtain ⟨n, hn⟩ : ∃ n, n = L.length := ⟨_, rfl⟩
  have HM := Lib.hid hn
  have hnb : n ≤ 1000000 := by omega
  have hadd0 : IntKind.i64.wrap (last + 1) = last + 1 := IntWalk.i64_in _ (by omega)
  clear R F1 hn hlen
  go_enter Try.func19, Try.ntmps19
  go_upto_region 2 with fail
  have HR := Lib.hid R1
  clear R1
  have HS1 := Lib.hid hs1
  clear hs1
  have hr0 := HR.out.rl
  generalize w.setCell ⟨r, 1, none⟩ (.int .i64 (last + 1)) = W1 at HR HS1 HF1 hr0 ⊢
  go_wp2_with fail
  go_loopw [7] (fun v wr => ∃ k : Nat, v = .int .i64 k ∧ k ≤ n ∧ Hid (∀ j, j < k → (at' L j).d ≤ d) ∧ wr = W1) (fun v _ => n + 1 - (intOf v).toNat)
  case atStart => exact ⟨0, rfl, Nat.zero_le _, Lib.hid (fun j hj => absurd hj (Nat.not_lt_zero _)), rfl⟩
  case round =>
    obtain ⟨k, rfl, hk, HK, rfl⟩ := hrel
    have c0 := HR.out.c0
    rw [← HM.out] at c0
    by_cases hlt : k < n
    · obtain ⟨gb', hA, hgl, h0, h1, h2⟩ := HR.out.at_ (k := k) (by have := HM.out; omega)
      injection hA with hA
      injection hA with hA
      subst hA
      have hl1 : decide ((k : Int) < (n : Int)) = true := decide_eq_true (by omega)
      have hi0 : (0 : Int) ≤ (k : Int) := by omega
      have hi1 : (k : Int) < (n : Int) := by omega
      have hadd : IntKind.i64.wrap ((k : Int) + 1) = (k : Int) + 1 := IntWalk.i64_in _ (by omega)
      by_cases hle : (at' L k).d ≤ d
      · have hld : decide ((at' L k).d ≤ d) = true := decide_eq_true hle
        have HK2 : Hid (∀ j, j < k + 1 → (at' L j).d ≤ d) := Lib.hid (fun j hj => by
          rcases Nat.lt_or_ge j k with h | h
          · exact HK.out j h
          · rw [show j = k by omega]; exact hle)
        clear hle
        go_wp2_with fail
        go_roundw
        case rel => exact ⟨k + 1, by simp, by omega, HK2, trivial⟩
        case measure => simp [intOf]; omega
      · have hld : decide ((at' L k).d ≤ d) = false := decide_eq_false hle
        have HI : Hid (ins L ⟨d, x, last + 1⟩ = L.take k ++ (⟨d, x, last + 1⟩ : Th) :: L.drop k) := Lib.hid (ins_at L ⟨d, x, last + 1⟩ k (by have := HM.out; omega) HK.out (fun _ => hle))
        have HN : Hid (k + 1 + (n - k) ≤ 1000001 ∧ k ≤ n ∧ n = L.length) := Lib.hid (by have := HM.out; omega)
        clear hle
        have hfront := Lib.hid ((HR.out.reads.front (k := k) (by have := HN.out; omega)))
        obtain ⟨i0, hi, hz0, hz1, hz2⟩ := info_parts info66
        have hnil : wr.ownsRow w.heap.size 66 3 (.slice none 0 0) 0 [] := ⟨rfl, .inl ⟨rfl, rfl⟩⟩
        have hq0 : (k : Int) ≤ (c : Int) := by have := hcap.out; have := HN.out; omega
        go_wp2_with (at_builtin; refine wpList_append_any _ rfl (.tmp 37) (.tmp 43) 39 rfl w.heap.size 66 i0 (.agg #[.int .u64 0, .int .u64 0, .int .i64 0]) 3 24 Try.underlying39 hi hz0 hz1 hz2 rfl (by decide) (.slice none 0 0) 0 [] rfl hnil wr.heap.size _ _ _ ((flat L).take (k * 3)) rfl hfront.out (fun u hu => flat_one (List.mem_of_mem_take hu)) (by have := HN.out; unfold maxLen; omega) (by have := HN.out; omega) (by exact Nat.le_of_eq HS1.out.symm) ?_)
        intro v1 w1 hown hgrow hat
        rw [← flat_take] at hown
        obtain ⟨A1, c1, rfl⟩ := own_slice hown
        have hb1 : Below w.heap.size wr w1 := (Below.refl _ wr).grown hgrow (Nat.le_of_eq HS1.out.symm) (fun q hq => by simp [Value.ownBlock] at hq)
        have HO1 := Lib.hid hown
        have HB1 := Lib.hid hb1
        have R1 := HR.out.below (by rw [HS1.out]; exact hb1)
        have hc1 := R1.c1
        have hr1 := R1.rl
        have hown1a := hown.alloc (.cells #[.int .u64 d, .int .u64 x, .int .i64 (last + 1)] 66)
        have hone : Reads (w1.alloc (.cells #[.int .u64 d, .int .u64 x, .int .i64 (last + 1)] 66)) (w1.heap.size + 1) 3 (some ⟨w1.heap.size, 0, none⟩) 1 (cells ⟨d, x, last + 1⟩) :=
          ⟨rfl, fun _ => ⟨_, rfl, Nat.lt_succ_self _, World.news_of_block (heap_alloc_new w1 _)⟩⟩
        have hs1 : w.heap.size ≤ w1.heap.size := Nat.le_trans (Nat.le_of_eq HS1.out.symm) hb1.size
        clear R1 hown hgrow hat hfront hnil c0 hb1
        go_wp2_with (at_builtin; refine wpList_append_any _ rfl (.tmp 45) (.tmp 53) 39 rfl w.heap.size 66 i0 (.agg #[.int .u64 0, .int .u64 0, .int .i64 0]) 3 24 Try.underlying39 hi hz0 hz1 hz2 rfl (by decide) (.slice A1 k c1) k (flat (L.take k)) rfl hown1a (w1.heap.size + 1) _ _ _ (cells ⟨d, x, last + 1⟩) rfl hone (fun u hu => by simp [cells] at hu; rcases hu with rfl | rfl | rfl <;> rfl) (by have := HN.out; unfold maxLen; omega) (by have := HN.out; omega) (by simp; omega) ?_)
        intro v2 w2 hown hgrow hat
        obtain ⟨A2, c2, rfl⟩ := own_slice hown
        have hb2 : Below w.heap.size wr w2 := (HB1.out.alloc hs1 _).grown hgrow (by simp; omega) (fun q hq => (HO1.out.lt q hq).1)
        have HO2 := Lib.hid hown
        have HB2 := Lib.hid hb2
        have hs2 : w.heap.size ≤ w2.heap.size := Nat.le_trans (Nat.le_of_eq HS1.out.symm) hb2.size
        have R2 := HR.out.below (by rw [HS1.out]; exact hb2)
        have hc2 := R2.c0
        rw [← HM.out] at hc2
        have hr2 := R2.rl
        have hcut2 := R2.reads.cut (k := k) (cap := c) (by have := HN.out; omega) hcap.out
        rw [← flat_drop, ← HM.out] at hcut2
        clear R2 hown hgrow hat hone hown1a hc1 hb2
        by_cases hck : c = k
        · exfalso; have := hcap.out; have := HN.out; omega
        · rw [if_neg hck] at hcut2
          rw [show Option.map (fun x : Addr => x.add (k * 3)) (some ⟨gb, 0, none⟩) = some ⟨gb, k * 3, none⟩ by rw [Option.map_some, at_zero]] at hcut2
          have hcut := Lib.hid hcut2
          clear hcut2
          (try clear hl1)
          (try clear hq0)
          go_wp2_with (at_builtin; refine wpList_append_any _ rfl (.tmp 56) (.tmp 62) 39 rfl w.heap.size 66 i0 (.agg #[.int .u64 0, .int .u64 0, .int .i64 0]) 3 24 Try.underlying39 hi hz0 hz1 hz2 rfl (by decide) (.slice A2 (k + 1) c2) (k + 1) (flat (L.take k) ++ cells ⟨d, x, last + 1⟩) rfl HO2.out w2.heap.size _ _ _ (flat (L.drop k)) rfl hcut.out (fun u hu => flat_one hu) (by have := HN.out; unfold maxLen; omega) (by have := HN.out; omega) hs2 ?_)
          intro v3 w3 hown hgrow hat
          have hb3 : Below w.heap.size wr w3 := HB2.out.grown hgrow hs2 (fun q hq => (HO2.out.lt q hq).1)
          have hown3 : w3.ownsRow w.heap.size 66 3 v3 (ins L ⟨d, x, last + 1⟩).length (flat (ins L ⟨d, x, last + 1⟩)) := by
            rw [HI.out, flat_append, flat_cons]
            have e : (L.take k ++ (⟨d, x, last + 1⟩ : Th) :: L.drop k).length = k + 1 + (n - k) := by rw [HM.out, List.length_append, List.length_cons, List.length_take, List.length_drop]; have := HN.out; omega
            rw [e]; exact hown
          obtain ⟨A', c', rfl⟩ := own_slice hown3
          have hs1 := HS1.out
          have HE := Lib.hid (rf_set HR.out (by rw [hs1]; exact hb3) (by rw [hs1]; exact hown3))
          have hlen : (ins L ⟨d, x, last + 1⟩).length = k + 1 + (n - k) := by rw [ins_len, HM.out]; have := HN.out; omega
          rw [hlen] at HE ⊢
          have R3 := HR.out.below (by rw [hs1]; exact hb3)
          have hf := R3.f 0
          have hr3 := R3.rl
          have hcc := R3.c0
          have hc1 := (HE.out).1.c1
          clear hown hown3 hgrow hat hb3 hi hz0 hz1 hz2 hlen R3
          go_wp2_with fail
          go_ret
          exact ⟨rfl, _, _, HE.out.1, HF1.out.trans HE.out.2⟩
    · have HKN : Hid (k = n) := Lib.hid (by omega)
      have hl1 : decide (k < n) = false := decide_eq_false (by omega)
      have HI : Hid (ins L ⟨d, x, last + 1⟩ = L.take k ++ (⟨d, x, last + 1⟩ : Th) :: L.drop k) := Lib.hid (ins_at L ⟨d, x, last + 1⟩ k (by have := HM.out; omega) HK.out (fun h => by have := HM.out; omega))
      have HN : Hid (k + 1 + (n - k) ≤ 1000001 ∧ k ≤ n ∧ n = L.length) := Lib.hid (by have := HM.out; omega)
      clear hlt
      have hfront := Lib.hid ((HR.out.reads.front (k := k) (by have := HN.out; omega)))
      obtain ⟨i0, hi, hz0, hz1, hz2⟩ := info_parts info66
      have hnil : wr.ownsRow w.heap.size 66 3 (.slice none 0 0) 0 [] := ⟨rfl, .inl ⟨rfl, rfl⟩⟩
      have hq0 : (k : Int) ≤ (c : Int) := by have := hcap.out; have := HN.out; omega
      go_wp2_with (at_builtin; refine wpList_append_any _ rfl (.tmp 37) (.tmp 43) 39 rfl w.heap.size 66 i0 (.agg #[.int .u64 0, .int .u64 0, .int .i64 0]) 3 24 Try.underlying39 hi hz0 hz1 hz2 rfl (by decide) (.slice none 0 0) 0 [] rfl hnil wr.heap.size _ _ _ ((flat L).take (k * 3)) rfl hfront.out (fun u hu => flat_one (List.mem_of_mem_take hu)) (by have := HN.out; unfold maxLen; omega) (by have := HN.out; omega) (by exact Nat.le_of_eq HS1.out.symm) ?_)
      intro v1 w1 hown hgrow hat
      rw [← flat_take] at hown
      obtain ⟨A1, c1, rfl⟩ := own_slice hown
      have hb1 : Below w.heap.size wr w1 := (Below.refl _ wr).grown hgrow (Nat.le_of_eq HS1.out.symm) (fun q hq => by simp [Value.ownBlock] at hq)
      have HO1 := Lib.hid hown
      have HB1 := Lib.hid hb1
      have R1 := HR.out.below (by rw [HS1.out]; exact hb1)
      have hc1 := R1.c1
      have hr1 := R1.rl
      have hown1a := hown.alloc (.cells #[.int .u64 d, .int .u64 x, .int .i64 (last + 1)] 66)
      have hone : Reads (w1.alloc (.cells #[.int .u64 d, .int .u64 x, .int .i64 (last + 1)] 66)) (w1.heap.size + 1) 3 (some ⟨w1.heap.size, 0, none⟩) 1 (cells ⟨d, x, last + 1⟩) :=
        ⟨rfl, fun _ => ⟨_, rfl, Nat.lt_succ_self _, World.news_of_block (heap_alloc_new w1 _)⟩⟩
      have hs1 : w.heap.size ≤ w1.heap.size := Nat.le_trans (Nat.le_of_eq HS1.out.symm) hb1.size
      clear R1 hown hgrow hat hfront hnil c0 hb1
      go_wp2_with (at_builtin; refine wpList_append_any _ rfl (.tmp 45) (.tmp 53) 39 rfl w.heap.size 66 i0 (.agg #[.int .u64 0, .int .u64 0, .int .i64 0]) 3 24 Try.underlying39 hi hz0 hz1 hz2 rfl (by decide) (.slice A1 k c1) k (flat (L.take k)) rfl hown1a (w1.heap.size + 1) _ _ _ (cells ⟨d, x, last + 1⟩) rfl hone (fun u hu => by simp [cells] at hu; rcases hu with rfl | rfl | rfl <;> rfl) (by have := HN.out; unfold maxLen; omega) (by have := HN.out; omega) (by simp; omega) ?_)
      intro v2 w2 hown hgrow hat
      obtain ⟨A2, c2, rfl⟩ := own_slice hown
      have hb2 : Below w.heap.size wr w2 := (HB1.out.alloc hs1 _).grown hgrow (by simp; omega) (fun q hq => (HO1.out.lt q hq).1)
      have HO2 := Lib.hid hown
      have HB2 := Lib.hid hb2
      have hs2 : w.heap.size ≤ w2.heap.size := Nat.le_trans (Nat.le_of_eq HS1.out.symm) hb2.size
      have R2 := HR.out.below (by rw [HS1.out]; exact hb2)
      have hc2 := R2.c0
      rw [← HM.out] at hc2
      have hr2 := R2.rl
      have hcut2 := R2.reads.cut (k := k) (cap := c) (by have := HN.out; omega) hcap.out
      rw [← flat_drop, ← HM.out] at hcut2
      clear R2 hown hgrow hat hone hown1a hc1 hb2
      by_cases hck : c = k
      · obtain rfl : k = c := hck.symm
        rw [if_pos rfl] at hcut2
        have hcut := Lib.hid hcut2
        clear hcut2
        (try clear hl1)
        (try clear hq0)
        go_wp2_with (at_builtin; refine wpList_append_any _ rfl (.tmp 56) (.tmp 62) 39 rfl w.heap.size 66 i0 (.agg #[.int .u64 0, .int .u64 0, .int .i64 0]) 3 24 Try.underlying39 hi hz0 hz1 hz2 rfl (by decide) (.slice A2 (k + 1) c2) (k + 1) (flat (L.take k) ++ cells ⟨d, x, last + 1⟩) rfl HO2.out w2.heap.size _ _ _ (flat (L.drop k)) rfl hcut.out (fun u hu => flat_one hu) (by have := HN.out; unfold maxLen; omega) (by have := HN.out; omega) hs2 ?_)
        intro v3 w3 hown hgrow hat
        have hb3 : Below w.heap.size wr w3 := HB2.out.grown hgrow hs2 (fun q hq => (HO2.out.lt q hq).1)
        have hown3 : w3.ownsRow w.heap.size 66 3 v3 (ins L ⟨d, x, last + 1⟩).length (flat (ins L ⟨d, x, last + 1⟩)) := by
          rw [HI.out, flat_append, flat_cons]
          have e : (L.take k ++ (⟨d, x, last + 1⟩ : Th) :: L.drop k).length = k + 1 + (n - k) := by rw [HM.out, List.length_append, List.length_cons, List.length_take, List.length_drop]; have := HN.out; omega
          rw [e]; exact hown
        obtain ⟨A', c', rfl⟩ := own_slice hown3
        have hs1 := HS1.out
        have HE := Lib.hid (rf_set HR.out (by rw [hs1]; exact hb3) (by rw [hs1]; exact hown3))
        have hlen : (ins L ⟨d, x, last + 1⟩).length = k + 1 + (n - k) := by rw [ins_len, HM.out]; have := HN.out; omega
        rw [hlen] at HE ⊢
        have R3 := HR.out.below (by rw [hs1]; exact hb3)
        have hf := R3.f 0
        have hr3 := R3.rl
        have hcc := R3.c0
        have hc1 := (HE.out).1.c1
        clear hown hown3 hgrow hat hb3 hi hz0 hz1 hz2 hlen R3
        go_wp2_with fail
        go_ret
        exact ⟨rfl, _, _, HE.out.1, HF1.out.trans HE.out.2⟩
      · rw [if_neg hck] at hcut2
        rw [show Option.map (fun x : Addr => x.add (k * 3)) (some ⟨gb, 0, none⟩) = some ⟨gb, k * 3, none⟩ by rw [Option.map_some, at_zero]] at hcut2
        have hcut := Lib.hid hcut2
        clear hcut2
        (try clear hl1)
        (try clear hq0)
        go_wp2_with (at_builtin; refine wpList_append_any _ rfl (.tmp 56) (.tmp 62) 39 rfl w.heap.size 66 i0 (.agg #[.int .u64 0, .int .u64 0, .int .i64 0]) 3 24 Try.underlying39 hi hz0 hz1 hz2 rfl (by decide) (.slice A2 (k + 1) c2) (k + 1) (flat (L.take k) ++ cells ⟨d, x, last + 1⟩) rfl HO2.out w2.heap.size _ _ _ (flat (L.drop k)) rfl hcut.out (fun u hu => flat_one hu) (by have := HN.out; unfold maxLen; omega) (by have := HN.out; omega) hs2 ?_)
        intro v3 w3 hown hgrow hat
        have hb3 : Below w.heap.size wr w3 := HB2.out.grown hgrow hs2 (fun q hq => (HO2.out.lt q hq).1)
        have hown3 : w3.ownsRow w.heap.size 66 3 v3 (ins L ⟨d, x, last + 1⟩).length (flat (ins L ⟨d, x, last + 1⟩)) := by
          rw [HI.out, flat_append, flat_cons]
          have e : (L.take k ++ (⟨d, x, last + 1⟩ : Th) :: L.drop k).length = k + 1 + (n - k) := by rw [HM.out, List.length_append, List.length_cons, List.length_take, List.length_drop]; have := HN.out; omega
          rw [e]; exact hown
        obtain ⟨A', c', rfl⟩ := own_slice hown3
        have hs1 := HS1.out
        have HE := Lib.hid (rf_set HR.out (by rw [hs1]; exact hb3) (by rw [hs1]; exact hown3))
        have hlen : (ins L ⟨d, x, last + 1⟩).length = k + 1 + (n - k) := by rw [ins_len, HM.out]; have := HN.out; omega
        rw [hlen] at HE ⊢
        have R3 := HR.out.below (by rw [hs1]; exact hb3)
        have hf := R3.f 0
        have hr3 := R3.rl
        have hcc := R3.c0
        have hc1 := (HE.out).1.c1
        clear hown hown3 hgrow hat hb3 hi hz0 hz1 hz2 hlen R3
        go_wp2_with fail
        go_ret
        exact ⟨rfl, _, _, HE.out.1, HF1.out.trans HE.out.2⟩

set_option maxRecDepth 100000 in
set_option maxHeartbeats 4000000 in
theorem rput_none (w : World) (B r : Nat) (last d x : Int) (R : RF w B r none 0 [] last) (hl0 : 0 ≤ last) (hl1 : last ≤ 1000000) :
    Calls Try.prog 19 #[.pointer (some ⟨r, 0, none⟩), .int .u64 d, .int .u64 x] w fun e w' => e = .returned (.int .i64 (last + 1)) ∧ ∃ A' c', RF w' B r A' c' (ins [] ⟨d, x, last + 1⟩) (last + 1) ∧ Fr (fun k => k = r) w w' := by
  have c1 := R.c1
  have f1 := R.f 1
  have rl := R.rl
  obtain ⟨R1, F1⟩ := rf_last R (last + 1)
  have HF1 := Lib.hid F1
  have hs1 : (w.setCell ⟨r, 1, none⟩ (.int .i64 (last + 1))).heap.size = w.heap.size := by simp [World.setCell]
  have hadd0 : IntKind.i64.wrap (last + 1) = last + 1 := IntWalk.i64_in _ (by omega)
  clear R F1
  go_enter Try.func19, Try.ntmps19
  go_upto_region 2 with fail
  have HR := Lib.hid R1
  clear R1
  have HS1 := Lib.hid hs1
  clear hs1
  have hr0 := HR.out.rl
  have hc0 := HR.out.c0
  have hc1 := HR.out.c1
  rw [List.length_nil] at hc0
  generalize w.setCell ⟨r, 1, none⟩ (.int .i64 (last + 1)) = W1 at HR HS1 HF1 hr0 hc0 hc1 ⊢
  have hone : Reads (W1.alloc (.cells #[.int .u64 d, .int .u64 x, .int .i64 (last + 1)] 66)) (W1.heap.size + 1) 3 (some ⟨W1.heap.size, 0, none⟩) 1 (cells ⟨d, x, last + 1⟩) :=
    ⟨rfl, fun _ => ⟨_, rfl, Nat.lt_succ_self _, World.news_of_block (heap_alloc_new W1 _)⟩⟩
  have hnil : (W1.alloc (.cells #[.int .u64 d, .int .u64 x, .int .i64 (last + 1)] 66)).ownsRow w.heap.size 66 3 (.slice none 0 0) 0 [] := ⟨rfl, .inl ⟨rfl, rfl⟩⟩
  obtain ⟨i0, hi, hz0, hz1, hz2⟩ := info_parts info66
  go_wp2_with fail
  go_loopw [7] (fun v wr => v = .int .i64 0 ∧ wr = W1) (fun _ _ => 0)
  case atStart => exact ⟨rfl, rfl⟩
  case round =>
    obtain ⟨rfl, rfl⟩ := hrel
    go_wp2_with (at_builtin; refine wpList_append_any _ rfl (.tmp 45) (.tmp 53) 39 rfl w.heap.size 66 i0 (.agg #[.int .u64 0, .int .u64 0, .int .i64 0]) 3 24 Try.underlying39 hi hz0 hz1 hz2 rfl (by decide) (.slice none 0 0) 0 [] rfl hnil (wr.heap.size + 1) _ _ _ (cells ⟨d, x, last + 1⟩) rfl hone (fun u hu => by simp [cells] at hu; rcases hu with rfl | rfl | rfl <;> rfl) (by unfold maxLen; omega) (by omega) (by have := HS1.out; rw [World.size_alloc]; omega) ?_)
    intro v2 w2 hown hgrow hat
    have hwz := HS1.out
    obtain ⟨A2, c2, rfl⟩ := own_slice hown
    have hb2 : Below w.heap.size wr w2 := ((Below.refl _ wr).alloc (by omega) _).grown hgrow (by simp; omega) (fun q hq => by simp [Value.ownBlock] at hq)
    have hown2 : w2.ownsRow w.heap.size 66 3 (.slice A2 (ins [] ⟨d, x, last + 1⟩).length c2) (ins [] ⟨d, x, last + 1⟩).length (flat (ins [] ⟨d, x, last + 1⟩)) := by
      simpa [ins, flat] using hown
    have HE := Lib.hid (rf_set HR.out (by rw [hwz]; exact hb2) (by rw [hwz]; exact hown2))
    rw [show (ins [] (⟨d, x, last + 1⟩ : Th)).length = 1 from rfl] at HE hown2
    have R2 := HR.out.below (by rw [hwz]; exact hb2)
    have hcc := R2.c0
    rw [List.length_nil] at hcc
    have hf := R2.f 0
    have hr2 := R2.rl
    have hc2 := HE.out.1.c1
    clear hwz
    clear hown hgrow hat hone hnil R2
    go_wp2_with (at_builtin; refine wpList_append_own_none rfl (.tmp 56) (.tmp 62) 39 rfl w.heap.size 66 i0 3 Try.underlying39 hi (.slice A2 1 c2) 1 _ rfl hown2 rfl ?_)
    all_goals (first | (go_wp2_with fail; go_ret; exact ⟨rfl, _, _, HE.out.1, HF1.out.trans HE.out.2⟩) | skip)

theorem rput_any (w : World) (B r : Nat) (A : Option Addr) (c : Nat) (L : List Th) (last d x : Int) (R : RF w B r A c L last) (hlen : L.length ≤ 1000000) (hl0 : 0 ≤ last) (hl1 : last ≤ 1000000) :
    Calls Try.prog 19 #[.pointer (some ⟨r, 0, none⟩), .int .u64 d, .int .u64 x] w fun e w' => e = .returned (.int .i64 (last + 1)) ∧ ∃ A' c', RF w' B r A' c' (ins L ⟨d, x, last + 1⟩) (last + 1) ∧ Fr (fun k => k = r) w w' := by
  rcases R.shape with ⟨rfl, rfl, rfl⟩ | ⟨gb, rfl⟩
  · exact rput_none w B r last d x R hl0 hl1
  · exact rput_some w B r gb c L last d x R hlen hl0 hl1

end Go.Proofs.Ytfibgjgipadmkaa.Hp
