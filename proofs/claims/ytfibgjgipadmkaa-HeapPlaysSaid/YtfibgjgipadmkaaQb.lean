/- The document's heap: Drop. -/
import Derived.Test.YtfibgjgipadmkaaQa
namespace Go.Proofs.Ytfibgjgipadmkaa.Hp
set_option linter.unusedVariables false
set_option linter.unusedSimpArgs false
open Go.RowKit Go.Maps Go.ChangeMaps

theorem flat_drop : ∀ (L : List Th) (q : Nat), flat (L.drop q) = (flat L).drop (q * 3)
  | [], q => by simp [flat]
  | x :: L, 0 => by simp [flat]
  | x :: L, q + 1 => by
    rw [List.drop_succ_cons, flat_cons, flat_drop L q, show (q + 1) * 3 = (cells x).length + q * 3 by simp [cells]; omega, List.drop_length_add_append]
theorem Reads.front {w : World} {B size n k : Nat} {A : Option Addr} {xs : List Value} (h : Reads w B size A n xs) (hk : k ≤ n) : Reads w B size A k (xs.take (k * size)) := by
  refine ⟨by rw [List.length_take, h.1]; exact Nat.min_eq_left (Nat.mul_le_mul_right _ hk), fun hn => ?_⟩
  obtain ⟨ad, rfl, hb, hc⟩ := h.2 (by omega)
  refine ⟨ad, rfl, hb, fun j u hu => hc j u ?_⟩
  rw [List.getElem?_take] at hu
  split at hu
  · exact hu
  · cases hu

set_option maxRecDepth 100000 in
set_option maxHeartbeats 2000000 in
theorem rdrop_none (w : World) (B r : Nat) (A : Option Addr) (c : Nat) (L : List Th) (last h : Int) (R : RF w B r A c L last) (hno : ∀ t ∈ L, t.h ≠ h) (hlen : L.length ≤ 1000000) :
    Calls Try.prog 15 #[.pointer (some ⟨r, 0, none⟩), .int .i64 h] w fun e w' => e = .returned (.tuple #[.int .u64 0, .bool false]) ∧ w = w' := by
  have c0 := R.c0
  have rl := R.rl
  have HR := Lib.hid R
  have HN := Lib.hid hno
  clear R hno
  go_enter Try.func15, Try.ntmps15
  go_wp2_with fail
  go_loop [6] (fun v => ∃ k : Nat, v = .int .i64 k ∧ k ≤ L.length) (fun v => L.length - (intOf v).toNat)
  case atStart => exact ⟨0, rfl, Nat.zero_le _⟩
  case round =>
    obtain ⟨k, rfl, hk⟩ := hrel
    by_cases hlt : k < L.length
    · obtain ⟨gb, hA, hgl, h0, h1, h2⟩ := HR.out.at_ hlt
      have hne : ((at' L k).h == h) = false := beq_false_of_ne (HN.out _ (at_mem hlt))
      have hl1 : decide ((k : Int) < (L.length : Int)) = true := decide_eq_true (by omega)
      have hi0 : (0 : Int) ≤ (k : Int) := by omega
      have hi1 : (k : Int) < (L.length : Int) := by omega
      have hadd : IntKind.i64.wrap ((k : Int) + 1) = (k : Int) + 1 := IntWalk.i64_in _ (by omega)
      have HA := Lib.hid hA
      rw [hA] at c0
      clear hA
      go_wp2_with fail
      go_round
      case rel => exact ⟨k + 1, by simp, by omega⟩
      case measure => simp [intOf]; omega
    · obtain rfl : k = L.length := by omega
      have hl1 : decide ((L.length : Int) < (L.length : Int)) = false := decide_eq_false (by omega)
      go_wp2_with fail
      go_ret2
      exact ⟨rfl, rfl⟩

set_option maxRecDepth 100000 in
set_option maxHeartbeats 4000000 in
theorem rdrop_any (w : World) (B r : Nat) (A : Option Addr) (c : Nat) (L : List Th) (last h : Int) (R : RF w B r A c L last) (q : Nat) (hq : q < L.length) (hqh : (at' L q).h = h) (hno : ∀ j, j < q → (at' L j).h ≠ h) (hlen : L.length ≤ 1000000) :
    Calls Try.prog 15 #[.pointer (some ⟨r, 0, none⟩), .int .i64 h] w fun e w' => e = .returned (.tuple #[.int .u64 (at' L q).w, .bool true]) ∧ ∃ A' c', RF w' B r A' c' (L.take q ++ L.drop (q + 1)) last ∧ Fr (fun k => k = r) w w' := by
  have c0 := R.c0
  have rl := R.rl
  obtain ⟨gb, rfl, hgl, _⟩ := R.at_ hq
  have hcap := Lib.hid R.cap
  have HR := Lib.hid R
  have HNO := Lib.hid hno
  have HQH := Lib.hid hqh
  obtain ⟨n, hn⟩ : ∃ n, n = L.length := ⟨_, rfl⟩
  have HM := Lib.hid hn
  have HN : Hid (q + (n - (q + 1)) ≤ 1000000 ∧ q < n ∧ n = L.length) := Lib.hid (by omega)
  have hqn : q < n := by omega
  have hqb : q ≤ 1000000 := by omega
  rw [← hn] at c0
  clear R hno hqh hn hq hlen
  go_enter Try.func15, Try.ntmps15
  go_wp2_with fail
  go_loopw [6] (fun v wr => ∃ k : Nat, v = .int .i64 k ∧ k ≤ q ∧ wr = w) (fun v _ => q + 1 - (intOf v).toNat)
  case atStart => exact ⟨0, rfl, Nat.zero_le _, rfl⟩
  case round =>
    obtain ⟨k, rfl, hk, rfl⟩ := hrel
    obtain ⟨gb', hA, _, h0, h1, h2⟩ := HR.out.at_ (k := k) (by have := HN.out; omega)
    injection hA with hA
    injection hA with hA
    subst hA
    have hl1 : decide ((k : Int) < (n : Int)) = true := decide_eq_true (by omega)
    have hi0 : (0 : Int) ≤ (k : Int) := by omega
    have hi1 : (k : Int) < (n : Int) := by omega
    have hadd : IntKind.i64.wrap ((k : Int) + 1) = (k : Int) + 1 := IntWalk.i64_in _ (by omega)
    by_cases hkq : k < q
    · have hne : ((at' L k).h == h) = false := beq_false_of_ne (HNO.out _ hkq)
      go_wp2_with fail
      go_roundw
      case rel => exact ⟨k + 1, by simp, by omega, trivial⟩
      case measure => simp [intOf]; omega
    · obtain rfl : k = q := by omega
      have heq : ((at' L k).h == h) = true := by simp [HQH.out]
      have hfront := Lib.hid ((HR.out.reads.front (k := k) (by have := HN.out; omega)))
      obtain ⟨i0, hi, hz0, hz1, hz2⟩ := info_parts info66
      have hnil : wr.ownsRow wr.heap.size 66 3 (.slice none 0 0) 0 [] := ⟨rfl, .inl ⟨rfl, rfl⟩⟩
      have hq0 : (k : Int) ≤ (c : Int) := by have := hcap.out; have := HN.out; omega
      go_wp2_with (at_builtin; refine wpList_append_any _ rfl (.tmp 36) (.tmp 42) 39 rfl wr.heap.size 66 i0 (.agg #[.int .u64 0, .int .u64 0, .int .i64 0]) 3 24 Try.underlying39 hi hz0 hz1 hz2 rfl (by decide) (.slice none 0 0) 0 [] rfl hnil wr.heap.size _ _ _ ((flat L).take (k * 3)) rfl hfront.out (fun u hu => flat_one (List.mem_of_mem_take hu)) (by have := HN.out; unfold maxLen; omega) (by have := HN.out; omega) (Nat.le_refl _) ?_)
      intro v1 w1 hown hgrow hat
      rw [← flat_take] at hown
      obtain ⟨A1, c1, rfl⟩ := own_slice hown
      have hb1 : Below wr.heap.size wr w1 := (Below.refl _ wr).grown hgrow (Nat.le_refl _) (fun q hq => by simp [Value.ownBlock] at hq)
      have HO1 := Lib.hid hown
      have HB1 := Lib.hid hb1
      have R1 := HR.out.below hb1
      have hc1 := R1.c0
      rw [← HM.out] at hc1
      have hr1 := R1.rl
      have hcut2 := R1.reads.cut (k := k + 1) (cap := c) (by have := HN.out; omega) hcap.out
      rw [← flat_drop, ← HM.out] at hcut2
      have hk1 : (k : Int) + 1 ≤ (n : Int) := by omega
      clear R1 hown hb1 hgrow hat hfront hnil h0 h1 h2 c0
      by_cases hck : c = k + 1
      · subst hck
        rw [if_pos rfl] at hcut2
        have hcut := Lib.hid hcut2
        clear hcut2
        go_wp2_with (at_builtin; refine wpList_append_any _ rfl (.tmp 45) (.tmp 52) 39 rfl wr.heap.size 66 i0 (.agg #[.int .u64 0, .int .u64 0, .int .i64 0]) 3 24 Try.underlying39 hi hz0 hz1 hz2 rfl (by decide) (.slice A1 k c1) k (flat (L.take k)) rfl HO1.out w1.heap.size _ _ _ (flat (L.drop (k + 1))) rfl hcut.out (fun u hu => flat_one hu) (by have := HN.out; unfold maxLen; omega) (by have := HN.out; omega) (by exact HB1.out.size) ?_)
        intro v2 w2 hown hgrow hat
        rw [HM.out, ← flat_append] at hown
        have hb2 : Below wr.heap.size wr w2 := HB1.out.grown hgrow HB1.out.size (fun k hk => (HO1.out.lt k hk).1)
        have hown2 : w2.ownsRow wr.heap.size 66 3 v2 (L.take k ++ L.drop (k + 1)).length (flat (L.take k ++ L.drop (k + 1))) := by
          have e : (L.take k ++ L.drop (k + 1)).length = k + (L.length - (k + 1)) := by rw [List.length_append, List.length_take, List.length_drop]; have := HN.out; omega
          rw [e]; exact hown
        obtain ⟨A', c', rfl⟩ := own_slice hown2
        have HE := Lib.hid (rf_set HR.out hb2 hown2)
        have hlen : (L.take k ++ L.drop (k + 1)).length = k + (n - (k + 1)) := by rw [HM.out, List.length_append, List.length_take, List.length_drop]; have := HN.out; omega
        rw [hlen] at HE ⊢
        have hf := (HR.out.below hb2).f 0
        have hr1 := (HR.out.below hb2).rl
        have hcc := (HR.out.below hb2).c0
        clear hown hown2 hgrow hat hb2 hi hz0 hz1 hz2 hlen
        go_wp2_with fail
        go_ret2
        exact ⟨rfl, _, _, HE.out⟩
      · rw [if_neg hck] at hcut2
        rw [show Option.map (fun x : Addr => x.add ((k + 1) * 3)) (some ⟨gb, 0, none⟩) = some ⟨gb, (k + 1) * 3, none⟩ by rw [Option.map_some, at_zero]] at hcut2
        have hcut := Lib.hid hcut2
        clear hcut2
        go_wp2_with (at_builtin; refine wpList_append_any _ rfl (.tmp 45) (.tmp 52) 39 rfl wr.heap.size 66 i0 (.agg #[.int .u64 0, .int .u64 0, .int .i64 0]) 3 24 Try.underlying39 hi hz0 hz1 hz2 rfl (by decide) (.slice A1 k c1) k (flat (L.take k)) rfl HO1.out w1.heap.size _ _ _ (flat (L.drop (k + 1))) rfl hcut.out (fun u hu => flat_one hu) (by have := HN.out; unfold maxLen; omega) (by have := HN.out; omega) (by exact HB1.out.size) ?_)
        intro v2 w2 hown hgrow hat
        rw [HM.out, ← flat_append] at hown
        have hb2 : Below wr.heap.size wr w2 := HB1.out.grown hgrow HB1.out.size (fun k hk => (HO1.out.lt k hk).1)
        have hown2 : w2.ownsRow wr.heap.size 66 3 v2 (L.take k ++ L.drop (k + 1)).length (flat (L.take k ++ L.drop (k + 1))) := by
          have e : (L.take k ++ L.drop (k + 1)).length = k + (L.length - (k + 1)) := by rw [List.length_append, List.length_take, List.length_drop]; have := HN.out; omega
          rw [e]; exact hown
        obtain ⟨A', c', rfl⟩ := own_slice hown2
        have HE := Lib.hid (rf_set HR.out hb2 hown2)
        have hlen : (L.take k ++ L.drop (k + 1)).length = k + (n - (k + 1)) := by rw [HM.out, List.length_append, List.length_take, List.length_drop]; have := HN.out; omega
        rw [hlen] at HE ⊢
        have hf := (HR.out.below hb2).f 0
        have hr1 := (HR.out.below hb2).rl
        have hcc := (HR.out.below hb2).c0
        clear hown hown2 hgrow hat hb2 hi hz0 hz1 hz2 hlen
        go_wp2_with fail
        go_ret2
        exact ⟨rfl, _, _, HE.out⟩

end Go.Proofs.Ytfibgjgipadmkaa.Hp
