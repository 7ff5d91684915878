/- Drop. -/
import Derived.Test.YtfibgjgipadmkaaHf
import Derived.Outline
namespace Go.Proofs.Ytfibgjgipadmkaa.Hp
set_option linter.unusedVariables false
set_option linter.unusedSimpArgs false
open Go.RowKit Go.Maps Go.ChangeMaps

theorem zero3 (w : World) : (zeroValue 3).run Try.prog w = .ok (.int .i64 0) w := by kernel_rfl

set_option maxRecDepth 100000 in
set_option maxHeartbeats 1000000 in
theorem drop_no (w : World) (B g m : Nat) (v : Value) (T : List Th) (n : Nat) (D : DataW Unit) (last : Int) (R : Raw w B g m v T n D last) (h : Int) (hh : (Lit.int .i64 h).wf = true) (hno : Maps.has D (.int .i64 h) = false) :
    Calls Try.prog 14 #[.pointer (some ⟨g, 0, none⟩), .int .i64 h] w fun e w' => e = .returned (.tuple #[.int .u64 0, .bool false]) ∧ w = w' := by
  have hg1 : w.cell? ⟨g, 1, none⟩ = some (.map (some m)) := (cell_of_row w g 1 _ 56 (0, 0) R.blk).trans rfl
  have hgl : g < w.heap.size := (Array.getElem?_eq_some_iff.1 R.blk).1
  go_enter Try.func14, Try.ntmps14
  go_wp2_with (at_lookup; refine wpList_lookup_own_ok_int _ rfl _ _ 53 rfl 3 3 .i64 keyI Try.underlying53 Try.underlying3 (zero3 _) m n D rfl R.mp _ _ rfl (keyOf_int_mk Try.underlying3 hh) ?_; intro c hat hwc)
  go_ret2
  exact ⟨rfl, rfl⟩

end Go.Proofs.Ytfibgjgipadmkaa.Hp
