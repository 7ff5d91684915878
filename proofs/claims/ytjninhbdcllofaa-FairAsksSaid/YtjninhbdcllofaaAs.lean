/- The walk of FairAsks. -/
import Derived.Test.YtjninhbdcllofaaFr
import Derived.Test.YtjninhbdcllofaaFt
import Derived.Laws.AppendOwnNone
namespace Go.Proofs.Ytjninhbdcllofaa.As
set_option linter.unusedVariables false
set_option linter.unusedSimpArgs false
open Go.RowKit Go.Proofs.Ytjninhbdcllofaa.Fa Go.Proofs.Ytjninhbdcllofaa.Fp Go.Proofs.Ytjninhbdcllofaa.Fq Go.Proofs.Ytjninhbdcllofaa.Fr Go.Proofs.Ytjninhbdcllofaa.Ft Go.Proofs.YtjninhbdcllofaaW.PrintWords Go.Proofs.YtjninhbdcllofaaW.PrintLast Go.Proofs.YtjninhbdcllofaaW.PrintMore

def cellsOf34 (x : S34) : List Value := [.int .i64 x.f0, .int .i64 x.f1, .int .u64 x.f2]
def flat (l : List S34) : List Value := l.flatMap cellsOf34

theorem flat_cons (x : S34) (l : List S34) : flat (x :: l) = cellsOf34 x ++ flat l := rfl
theorem flat_len : ∀ l : List S34, (flat l).length = l.length * 3
  | [] => rfl
  | x :: l => by rw [flat_cons, List.length_append, flat_len l]; simp [cellsOf34]; omega
theorem flat_drop : ∀ (l : List S34) (j : Nat) (x : S34), l[j]? = some x → ((flat l).drop (j * 3)).take 3 = cellsOf34 x
  | [], j, x, h => by simp at h
  | y :: l, 0, x, h => by
    have : y = x := by simpa using h
    subst this
    rfl
  | y :: l, j + 1, x, h => by
    have e : (j + 1) * 3 = (cellsOf34 y).length + j * 3 := by simp [cellsOf34]; omega
    rw [flat_cons, e, List.drop_length_add_append]
    exact flat_drop l j x (by simpa using h)
theorem flat_one {l : List S34} {u : Value} (h : u ∈ flat l) : u.oneCell' = true := by
  unfold flat at h
  obtain ⟨x, _, hu⟩ := List.mem_flatMap.1 h
  simp only [cellsOf34, List.mem_cons, List.not_mem_nil, or_false] at hu
  rcases hu with rfl | rfl | rfl <;> rfl

/-- an own row of entries -/
theorem R_of_own {w : World} {base : Nat} {v : Value} {l : List S34} (h : w.ownsRow base 34 3 v l.length (flat l)) : Kd.R k34 34 w base (fun _ => True) v l :=
  ⟨fun _ _ => trivial, flat l, h, flat_len l, fun j p hp => by
    have := flat_drop l j p hp
    show k34.M _ _ _ p (((flat l).drop (j * 3)).take 3)
    rw [this]; exact k34_mkM _ _ _ p⟩

/-- what came in, cell by cell -/
theorem news_of_C {w : World} {ad : Addr} {n : Nat} {l : List S34} (h : Kd.C k34 w (some ad) n l) : ∀ j u, (flat l)[j]? = some u → w.cell? (ad.add j) = some u := by
  intro j u hu
  have hj : j < l.length * 3 := by rw [← flat_len]; exact (List.getElem?_eq_some_iff.1 hu).1
  have hi : j / 3 < l.length := by omega
  obtain ⟨ad', he, hc⟩ := h.2.2 (by have := h.1; omega)
  obtain rfl : ad = ad' := by injection he
  obtain ⟨c, hcl, hK, hcell⟩ := hc (j / 3) _ (List.getElem?_eq_getElem hi)
  have hcc := k34_open hK
  have hd := flat_drop l (j / 3) _ (List.getElem?_eq_getElem hi)
  have hu' : c[j % 3]? = some u := by
    rw [hcc]
    have : (((flat l).drop (j / 3 * 3)).take 3)[j % 3]? = some u := by
      rw [List.getElem?_take, if_pos (by omega), List.getElem?_drop, show j / 3 * 3 + j % 3 = j by omega]; exact hu
    rw [hd] at this; exact this
  have := hcell (j % 3) u hu'
  rw [show (j / 3 * k34.sz + j % 3) = j from by show j / 3 * 3 + j % 3 = j; omega] at this
  exact this

set_option maxHeartbeats 1000000 in
theorem asks_far (a0 a2 : Int) (A : Option Addr) (c : Nat) (l : List S34) (w : World) (h : 3000 < l.length) :
    Calls Try.prog 3 #[.int .i64 a0, .slice A l.length c, .int .i64 a2] w fun e w' => e = .returned (.bool true) ∧ Below w.heap.size w w' := by
  obtain ⟨k, hk⟩ := Ev.rounds awake_ev
  have HK := Aside0.mk hk
  clear hk
  have b0 : decide ((3000 : Int) < (l.length : Int)) = true := decide_eq_true (by omega)
  go_enter Try.func3, Try.ntmps3
  go_wp2_with fail
  refine (distafflaw27_awake.calls k true _ HK.out).mono ?_
  rintro e w' ⟨rfl, hb⟩
  go_wp2_with fail
  go_ret
  exact ⟨rfl, hb⟩

set_option maxHeartbeats 1000000 in
theorem asks_near (a0 a2 : Int) (ad : Addr) (c : Nat) (l : List S34) (w : World) (hl : l.length ≤ 3000) (hC : Kd.C k34 w (some ad) l.length l) (hc : l.length ≤ c)
    (k : Nat) (b : Bool) (k1 : fair_Fair.f k a0 l a2 = some b) (k2 : distaffref26_Fair.f k a0 l a2 = some b) (k3 : distafflaw27_same.f k l l = some true) (k4 : distafflaw27_awake.f k = some true) :
    Calls Try.prog 3 #[.int .i64 a0, .slice (some ad) l.length c, .int .i64 a2] w fun e w' => e = .returned (.bool true) ∧ Below w.heap.size w w' := by
  have hN := Aside0.mk (news_of_C hC)
  have K1 := Aside0.mk k1
  have K2 := Aside0.mk k2
  have K3 := Aside0.mk k3
  have K4 := Aside0.mk k4
  have HC := Aside0.mk hC
  clear k1 k2 k3 k4 hC
  have b0 : decide ((3000 : Int) < (l.length : Int)) = false := decide_eq_false (by omega)
  obtain ⟨i0, hi, hz0, hz1, hz2⟩ := info_parts info34
  go_enter Try.func3, Try.ntmps3
  go_wp2_with ((with_reducible refine gate_builtin (b := .append) (xs := #[.const (.slice none 0 0), .tmp 12]) rfl ?_); (at_builtin; refine wpList_append_own _ rfl (.const (.slice none 0 0)) (.tmp 12) 22 rfl w.heap.size 34 i0 (.agg #[.int .i64 0, .int .i64 0, .int .u64 0]) 3 24 Try.underlying22 hi hz0 hz1 hz2 rfl (by decide) (.slice none 0 0) 0 [] rfl (own_nil _ _ _ _) ad l.length c (flat l) rfl ?c1 ?c2 ?c3 ?c4 ?c5 ?c6 ?_))
  case c1 => exact flat_len l
  case c2 => exact hN.out
  case c3 => exact fun u hu => flat_one hu
  case c4 => unfold maxLen; omega
  case c5 => omega
  case c6 => exact Nat.le_refl _
  intro v1 w1 ho hg _
  have HR := Aside0.mk (R_of_own ho)
  have HB1 : Aside0 (Below w.heap.size w w1) := ⟨(Below.refl _ _).grown hg (Nat.le_refl _) (fun k hk => by simp [Value.ownBlock] at hk)⟩
  clear ho hg hN
  obtain ⟨A1, c1, rfl⟩ := Kd.R_slice HR.out
  have hr1 := Kd.R_reads' HR.out
  have HC1 := Aside0.mk hr1.2.2
  have HL1 := Aside0.mk hr1.2.1
  clear hr1
  have HC0 : Aside0 (Kd.C k34 w1 (some ad) l.length l) := ⟨Kd.C_below HC.out HB1.out⟩
  clear HR HC
  go_wp2_with fail
  refine (fair_Fair.calls k a0 _ _ l a2 b _ HC1.out HL1.out K1.out).mono ?_
  rintro e w2 ⟨rfl, hb2⟩
  have HC2 : Aside0 (Kd.C k34 w2 (some ad) l.length l) := ⟨Kd.C_below HC0.out hb2⟩
  have HD2 : Aside0 (Kd.C k34 w2 A1 l.length l) := ⟨Kd.C_below HC1.out hb2⟩
  have HB2 : Aside0 (Below w.heap.size w w2) := ⟨HB1.out.trans (hb2.mono HB1.out.size)⟩
  clear hb2 HB1 HC0 HC1
  go_wp2_with fail
  refine (distaffref26_Fair.calls k a0 _ _ l a2 b _ HC2.out hc K2.out).mono ?_
  rintro e w3 ⟨rfl, hb3⟩
  have HC3 : Aside0 (Kd.C k34 w3 (some ad) l.length l) := ⟨Kd.C_below HC2.out hb3⟩
  have HD3 : Aside0 (Kd.C k34 w3 A1 l.length l) := ⟨Kd.C_below HD2.out hb3⟩
  have HB3 : Aside0 (Below w.heap.size w w3) := ⟨HB2.out.trans (hb3.mono HB2.out.size)⟩
  clear hb3 HB2 HC2 HD2
  have hbb : (b == b) = true := by simp
  go_wp2_with fail
  refine (distafflaw27_same.calls k _ _ l _ _ l true _ HC3.out hc HD3.out HL1.out K3.out).mono ?_
  rintro e w4 ⟨rfl, n4, rfl⟩
  go_wp2_with fail
  refine (distafflaw27_awake.calls k true _ K4.out).mono ?_
  rintro e w5 ⟨rfl, hb5⟩
  have HB5 : Aside0 (Below w.heap.size w w5) := ⟨(pw_below_drewN HB3.out n4).trans (hb5.mono HB3.out.size)⟩
  clear hb5 HB3
  go_wp2_with fail
  go_ret
  exact ⟨rfl, HB5.out⟩

set_option maxHeartbeats 1000000 in
theorem asks_nil (a0 a2 : Int) (w : World)
    (k : Nat) (b : Bool) (k1 : fair_Fair.f k a0 [] a2 = some b) (k2 : distaffref26_Fair.f k a0 [] a2 = some b) (k3 : distafflaw27_same.f k [] [] = some true) (k4 : distafflaw27_awake.f k = some true) :
    Calls Try.prog 3 #[.int .i64 a0, .slice none 0 0, .int .i64 a2] w fun e w' => e = .returned (.bool true) ∧ Below w.heap.size w w' := by
  have K1 := Aside0.mk k1
  have K2 := Aside0.mk k2
  have K3 := Aside0.mk k3
  have K4 := Aside0.mk k4
  clear k1 k2 k3 k4
  obtain ⟨i0, hi, hz0, hz1, hz2⟩ := info_parts info34
  go_enter Try.func3, Try.ntmps3
  go_wp2_with ((with_reducible refine gate_builtin (b := .append) (xs := #[.const (.slice none 0 0), .tmp 12]) rfl ?_); (at_builtin; refine wpList_append_own_none rfl (.const (.slice none 0 0)) (.tmp 12) 22 rfl w.heap.size 34 i0 3 Try.underlying22 hi (.slice none 0 0) 0 [] rfl (own_nil _ _ _ _) rfl ?_))
  go_wp2_with fail
  refine (fair_Fair.calls k a0 _ _ [] a2 b _ (Kd.C_nil k34 _) (Nat.le_refl _) K1.out).mono ?_
  rintro e w2 ⟨rfl, hb2⟩
  have HB2 : Aside0 (Below w.heap.size w w2) := ⟨hb2⟩
  clear hb2
  go_wp2_with fail
  refine (distaffref26_Fair.calls k a0 _ _ [] a2 b _ (Kd.C_nil k34 _) (Nat.le_refl _) K2.out).mono ?_
  rintro e w3 ⟨rfl, hb3⟩
  have HB3 : Aside0 (Below w.heap.size w w3) := ⟨HB2.out.trans (hb3.mono HB2.out.size)⟩
  clear hb3 HB2
  have hbb : (b == b) = true := by simp
  go_wp2_with fail
  refine (distafflaw27_same.calls k _ _ [] _ _ [] true _ (Kd.C_nil k34 _) (Nat.le_refl _) (Kd.C_nil k34 _) (Nat.le_refl _) K3.out).mono ?_
  rintro e w4 ⟨rfl, n4, rfl⟩
  go_wp2_with fail
  refine (distafflaw27_awake.calls k true _ K4.out).mono ?_
  rintro e w5 ⟨rfl, hb5⟩
  have HB5 : Aside0 (Below w.heap.size w w5) := ⟨(pw_below_drewN HB3.out n4).trans (hb5.mono HB3.out.size)⟩
  clear hb5 HB3
  go_wp2_with fail
  go_ret
  exact ⟨rfl, HB5.out⟩

theorem asks_all (a0 a2 : Int) (l : List S34) (hl : l.length ≤ 3000) (h2 : a2 ≤ 9223372036854775807) :
    ∃ k b, fair_Fair.f k a0 l a2 = some b ∧ distaffref26_Fair.f k a0 l a2 = some b ∧ distafflaw27_same.f k l l = some true ∧ distafflaw27_awake.f k = some true := by
  obtain ⟨b, ⟨K1, h1⟩, e1⟩ := fair_spec a0 a2 l (by omega)
  obtain ⟨b', ⟨K2, h2⟩, e2⟩ := ref_spec a0 a2 l (by omega) h2
  obtain ⟨K3, h3⟩ := same_ev l (by omega)
  obtain ⟨K4, h4⟩ := awake_ev
  have hb : b' = b := by rw [Bool.eq_iff_iff, e1, e2]
  subst hb
  exact ⟨K1 + K2 + K3 + K4, b', h1 _ (by omega), h2 _ (by omega), h3 _ (by omega), h4 _ (by omega)⟩

end Go.Proofs.Ytjninhbdcllofaa.As
