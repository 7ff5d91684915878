/- First; Pop of a thing that is not there. -/
import Derived.Test.YtfibgjgipadmkaaHi
namespace Go.Proofs.Ytfibgjgipadmkaa.Hp
set_option linter.unusedVariables false
set_option linter.unusedSimpArgs false
open Go.RowKit Go.Maps Go.ChangeMaps

theorem Raw.shape {w : World} {B g m : Nat} {v : Value} {T : List Th} {n : Nat} {D : DataW Unit} {last : Int} (R : Raw w B g m v T n D last) : (v = .slice none 0 0 ∧ T = []) ∨ ∃ sb cap, v = .slice (some ⟨sb, 0, none⟩) T.length cap := by
  rcases R.own.2 with ⟨h, h2⟩ | ⟨g', cap', cur, h, _⟩
  · exact .inl ⟨h, List.length_eq_zero_iff.1 h2⟩
  · exact .inr ⟨g', cap', h⟩

set_option maxRecDepth 100000 in
set_option maxHeartbeats 1000000 in
theorem first_nil (w : World) (B g m : Nat) (v : Value) (n : Nat) (D : DataW Unit) (last : Int) (R : Raw w B g m v [] n D last) :
    Calls Try.prog 16 #[.pointer (some ⟨g, 0, none⟩)] w fun e w' => e = .returned (.tuple #[.int .u64 0, .int .u64 0, .bool false]) ∧ w = w' := by
  have hg0 : w.cell? ⟨g, 0, none⟩ = some v := (cell_of_row w g 0 _ 56 (0, 0) R.blk).trans rfl
  have hgl : g < w.heap.size := (Array.getElem?_eq_some_iff.1 R.blk).1
  rcases R.shape with ⟨rfl, _⟩ | ⟨sb, cap, rfl⟩
  · go_enter Try.func16, Try.ntmps16
    go_wp2
    go_ret3
    exact ⟨rfl, rfl⟩
  · rw [List.length_nil] at hg0
    go_enter Try.func16, Try.ntmps16
    go_wp2
    go_ret3
    exact ⟨rfl, rfl⟩

set_option maxRecDepth 100000 in
set_option maxHeartbeats 1000000 in
theorem first_any (w : World) (B g m : Nat) (v : Value) (T : List Th) (n : Nat) (D : DataW Unit) (last : Int) (R : Raw w B g m v T n D last) (hT : 0 < T.length) :
    Calls Try.prog 16 #[.pointer (some ⟨g, 0, none⟩)] w fun e w' => e = .returned (.tuple #[.int .u64 (at' T 0).d, .int .u64 (at' T 0).w, .bool true]) ∧ Below w.heap.size w w' := by
  have hgl : g < w.heap.size := (Array.getElem?_eq_some_iff.1 R.blk).1
  rcases R.shape with ⟨rfl, h⟩ | ⟨sb, cap, rfl⟩
  · rw [h] at hT; simp at hT
  · have hg0 : w.cell? ⟨g, 0, none⟩ = some (.slice (some ⟨sb, 0, none⟩) T.length cap) := (cell_of_row w g 0 _ 56 (0, 0) R.blk).trans rfl
    obtain ⟨hx0, hx1, hx2⟩ := R.thing 0 hT
    rw [Nat.zero_mul] at hx0 hx1 hx2
    rw [Nat.zero_add] at hx1 hx2
    have hsl : sb < w.heap.size := (R.own.lt sb rfl).2
    have h1 : ((T.length : Int) == 0) = false := beq_false_of_ne (by omega)
    have h2 : (0 : Int) < (T.length : Int) := by omega
    have h3 : T.length ≠ 0 := by omega
    go_enter Try.func16, Try.ntmps16
    go_wp2
    go_quiet (fail)
    go_wp2
    go_ret3
    exact ⟨rfl, ⟨rfl, rfl, rfl, Nat.le_refl _, fun _ _ => rfl⟩⟩

set_option maxRecDepth 100000 in
set_option maxHeartbeats 1000000 in
theorem pop_nil (w : World) (B g m : Nat) (v : Value) (n : Nat) (D : DataW Unit) (last now : Int) (R : Raw w B g m v [] n D last) :
    Calls Try.prog 11 #[.pointer (some ⟨g, 0, none⟩), .int .u64 now] w fun e w' => e = .returned (.tuple #[.int .u64 0, .bool false]) ∧ w = w' := by
  have hg0 : w.cell? ⟨g, 0, none⟩ = some v := (cell_of_row w g 0 _ 56 (0, 0) R.blk).trans rfl
  have hgl : g < w.heap.size := (Array.getElem?_eq_some_iff.1 R.blk).1
  rcases R.shape with ⟨rfl, _⟩ | ⟨sb, cap, rfl⟩
  · go_enter Try.func11, Try.ntmps11
    go_wp2
    go_ret2
    exact ⟨rfl, rfl⟩
  · rw [List.length_nil] at hg0
    go_enter Try.func11, Try.ntmps11
    go_wp2
    go_ret2
    exact ⟨rfl, rfl⟩

set_option maxRecDepth 100000 in
set_option maxHeartbeats 1000000 in
theorem pop_late (w : World) (B g m : Nat) (v : Value) (T : List Th) (n : Nat) (D : DataW Unit) (last now : Int) (R : Raw w B g m v T n D last) (hT : 0 < T.length) (hd : now < (at' T 0).d) :
    Calls Try.prog 11 #[.pointer (some ⟨g, 0, none⟩), .int .u64 now] w fun e w' => e = .returned (.tuple #[.int .u64 0, .bool false]) ∧ w = w' := by
  have hgl : g < w.heap.size := (Array.getElem?_eq_some_iff.1 R.blk).1
  rcases R.shape with ⟨rfl, h⟩ | ⟨sb, cap, rfl⟩
  · rw [h] at hT; simp at hT
  · have hg0 : w.cell? ⟨g, 0, none⟩ = some (.slice (some ⟨sb, 0, none⟩) T.length cap) := (cell_of_row w g 0 _ 56 (0, 0) R.blk).trans rfl
    obtain ⟨hx0, hx1, hx2⟩ := R.thing 0 hT
    rw [Nat.zero_mul] at hx0 hx1 hx2
    rw [Nat.zero_add] at hx1 hx2
    have hsl : sb < w.heap.size := (R.own.lt sb rfl).2
    have h1 : ((T.length : Int) == 0) = false := beq_false_of_ne (by omega)
    have h2 : (0 : Int) < (T.length : Int) := by omega
    have h3 : T.length ≠ 0 := by omega
    have h4 : decide (now < (at' T 0).d) = true := decide_eq_true hd
    go_enter Try.func11, Try.ntmps11
    go_wp2
    go_ret2
    exact ⟨rfl, rfl⟩

set_option maxRecDepth 100000 in
set_option maxHeartbeats 1000000 in
/-- Pop of a thing that has come is its Drop -/
theorem pop_any (w : World) (B g m : Nat) (v : Value) (T : List Th) (n : Nat) (D : DataW Unit) (last now : Int) (R : Raw w B g m v T n D last) (hT : 0 < T.length) (hd : ¬ now < (at' T 0).d) (a : Int) (b : Bool) (Post : World → Prop)
    (hdrop : Calls Try.prog 14 #[.pointer (some ⟨g, 0, none⟩), .int .i64 (at' T 0).h] w fun e w' => e = .returned (.tuple #[.int .u64 a, .bool b]) ∧ Post w') :
    Calls Try.prog 11 #[.pointer (some ⟨g, 0, none⟩), .int .u64 now] w fun e w' => e = .returned (.tuple #[.int .u64 a, .bool b]) ∧ Post w' := by
  have hgl : g < w.heap.size := (Array.getElem?_eq_some_iff.1 R.blk).1
  rcases R.shape with ⟨rfl, h⟩ | ⟨sb, cap, rfl⟩
  · rw [h] at hT; simp at hT
  · have hg0 : w.cell? ⟨g, 0, none⟩ = some (.slice (some ⟨sb, 0, none⟩) T.length cap) := (cell_of_row w g 0 _ 56 (0, 0) R.blk).trans rfl
    obtain ⟨hx0, hx1, hx2⟩ := R.thing 0 hT
    rw [Nat.zero_mul] at hx0 hx1 hx2
    rw [Nat.zero_add] at hx1 hx2
    have hsl : sb < w.heap.size := (R.own.lt sb rfl).2
    have h1 : ((T.length : Int) == 0) = false := beq_false_of_ne (by omega)
    have h2 : (0 : Int) < (T.length : Int) := by omega
    have h3 : T.length ≠ 0 := by omega
    have h4 : decide (now < (at' T 0).d) = false := decide_eq_false hd
    go_enter Try.func11, Try.ntmps11
    go_wp2_with fail
    refine hdrop.mono ?_
    rintro e w2 ⟨rfl, hp⟩
    have hp := Lib.hid hp
    go_wp2_with fail
    go_ret2
    exact ⟨rfl, hp.out⟩

end Go.Proofs.Ytfibgjgipadmkaa.Hp
