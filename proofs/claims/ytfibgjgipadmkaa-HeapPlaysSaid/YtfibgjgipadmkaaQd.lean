/- same: the law's own comparison of what All tells with the document's heap. -/
import Derived.Test.YtfibgjgipadmkaaQc
import Derived.Test.YtfibgjgipadmkaaKd
namespace Go.Proofs.Ytfibgjgipadmkaa.Hp
set_option linter.unusedVariables false
set_option linter.unusedSimpArgs false
open Go.RowKit Go.Maps Go.ChangeMaps

/-- a row of pairs -/
structure RP (w : World) (B : Nat) (A : Option Addr) (c : Nat) (ps : List (Int × Int)) : Prop where
  own : w.ownsRow B 49 2 (.slice A ps.length c) ps.length (pflat ps)
theorem RP.keep {w w' : World} {B : Nat} {A : Option Addr} {c : Nat} {ps : List (Int × Int)} {S : Nat → Prop} (R : RP w B A c ps) (F : Fr S w w') (h3 : ∀ k, (Value.slice A ps.length c).ownBlock = some k → ¬ S k) : RP w' B A c ps := by
  refine ⟨?_⟩
  obtain ⟨hl, h⟩ := R.own
  rcases h with h | ⟨g', cap', cur, h, hb, hgg, r⟩
  · exact ⟨hl, .inl h⟩
  · exact ⟨hl, .inr ⟨g', cap', cur, h, hb, F.keep hgg (h3 g' (by rw [h]; rfl)), r⟩⟩
theorem RP.below {w w' : World} {B : Nat} {A : Option Addr} {c : Nat} {ps : List (Int × Int)} (R : RP w B A c ps) (h : Below w.heap.size w w') : RP w' B A c ps :=
  R.keep (S := fun _ => False) ((Fr.refl _ w).of_below h) (fun _ _ h => h)
theorem RP.at_ {w : World} {B : Nat} {A : Option Addr} {c : Nat} {ps : List (Int × Int)} (R : RP w B A c ps) {k : Nat} (hk : k < ps.length) : ∃ gb, A = some ⟨gb, 0, none⟩ ∧ gb < w.heap.size ∧ w.cell? ⟨gb, k * 2, none⟩ = some (.int .u64 ps[k].1) ∧ w.cell? ⟨gb, k * 2 + 1, none⟩ = some (.int .u64 ps[k].2) := by
  obtain ⟨gb, cap, hv, _, hlt⟩ := R.own.form (by omega)
  have hA : A = some ⟨gb, 0, none⟩ := by injection hv
  subst hA
  obtain ⟨a, b⟩ := pflat_get ps k hk
  exact ⟨gb, rfl, hlt, (R.own.cellAt (k * 2) (by omega)).trans a, (R.own.cellAt (k * 2 + 1) (by omega)).trans b⟩

set_option maxRecDepth 100000 in
set_option maxHeartbeats 2000000 in
theorem same_any (w : World) (B1 B r : Nat) (Al A : Option Addr) (cl c : Nat) (ps : List (Int × Int)) (L : List Th) (last : Int) (Rp : RP w B1 Al cl ps) (R : RF w B r A c L last) (hps : ps = L.map pr) (hlen : L.length ≤ 1000000) :
    Calls Try.prog 21 #[.slice Al ps.length cl, .pointer (some ⟨r, 0, none⟩)] w fun e w' => e = .returned (.bool true) ∧ Below w.heap.size w w' := by
  have hpl : ps.length = L.length := by rw [hps, List.length_map]
  have HP := Lib.hid Rp
  have HR := Lib.hid R
  have HE := Lib.hid hps
  have HL := Lib.hid hpl
  have c0 := R.c0
  have rl := R.rl
  rw [← hpl] at c0
  clear Rp R hps
  obtain ⟨n, hn⟩ : ∃ n, n = ps.length := ⟨_, rfl⟩
  have HN := Lib.hid hn
  have hnb : n ≤ 1000000 := by omega
  rw [← hn] at c0 ⊢
  clear hn hpl
  go_enter Try.func21, Try.ntmps21
  go_wp2_with fail
  go_loopw [5] (fun v wr => ∃ k : Nat, v = .int .i64 k ∧ k ≤ n ∧ Hid (Below w.heap.size w wr ∧ ∃ m, wr = w.drewN m)) (fun v _ => n - (intOf v).toNat)
  case atStart => exact ⟨0, rfl, Nat.zero_le _, Lib.hid ⟨Below.refl _ _, 0, rfl⟩⟩
  case round =>
    obtain ⟨k, rfl, hk, HB⟩ := hrel
    have c0 : wr.cell? ⟨r, 0, none⟩ = some (.slice A n c) := by obtain ⟨m, e⟩ := HB.out.2; rw [e]; exact c0
    have rl : r < wr.heap.size := by obtain ⟨m, e⟩ := HB.out.2; rw [e]; exact rl
    by_cases hlt : k < n
    · have HP' := HP.out.below (HB.out.1)
      have HR' := HR.out.below (HB.out.1)
      obtain ⟨gp, rfl, hgpl, hp0, hp1⟩ := HP'.at_ (k := k) (by rw [← HN.out]; exact hlt)
      obtain ⟨gb, hA, hgl, h0, h1, h2⟩ := HR'.at_ (k := k) (by rw [← HL.out, ← HN.out]; exact hlt)
      rw [hA] at c0
      have hpk : ps[k]'(by rw [← HN.out]; exact hlt) = pr (at' L k) := by
        have e : ps[k]? = (L.map pr)[k]? := by rw [HE.out]
        rw [List.getElem?_eq_getElem (by rw [← HN.out]; exact hlt), List.getElem?_map, List.getElem?_eq_getElem (by rw [← HL.out, ← HN.out]; exact hlt)] at e
        injection e with e
        rw [e]; unfold at'; rw [List.getD_eq_getElem?_getD, List.getElem?_eq_getElem (by rw [← HL.out, ← HN.out]; exact hlt)]; rfl
      rw [hpk] at hp0 hp1
      change wr.cell? _ = some (.int .u64 (at' L k).d) at hp0
      change wr.cell? _ = some (.int .u64 (at' L k).w) at hp1
      have hl1 : decide ((k : Int) < (n : Int)) = true := decide_eq_true (by omega)
      have hi0 : (0 : Int) ≤ (k : Int) := by omega
      have hi1 : (k : Int) < (n : Int) := by omega
      have hadd : IntKind.i64.wrap ((k : Int) + 1) = (k : Int) + 1 := IntWalk.i64_in _ (by omega)
      clear hpk HP' HR' hA
      go_wp2_with fail
      go_quiet (fail)
      go_wp2_with fail
      go_roundw
      case rel => exact ⟨k + 1, by simp, by omega, Lib.hid ⟨HB.out.1.trans (below_drewN _ _), by obtain ⟨m, e⟩ := HB.out.2; exact ⟨_, by rw [e, World.drewN_drewN]⟩⟩⟩
      case measure => simp [intOf]; omega
    · have hl1 : decide ((k : Int) < (n : Int)) = false := decide_eq_false (by omega)
      go_wp2_with fail
      go_ret
      exact ⟨rfl, HB.out.1⟩

end Go.Proofs.Ytfibgjgipadmkaa.Hp
