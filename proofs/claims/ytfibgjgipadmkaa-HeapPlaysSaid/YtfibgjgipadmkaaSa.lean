/- Sorting the row: the less that All hands over; the world while it is sorted. -/
import Derived.Test.YtfibgjgipadmkaaIc
import Derived.Sort.WalkA
import Derived.Shelf.SlSortFuncK.ComposeK
import Derived.Shelf.SlSortFuncK.SWK
namespace Go.Proofs.Ytfibgjgipadmkaa.Hp
set_option linter.unusedVariables false
set_option linter.unusedSimpArgs false
open Go.RowKit Go.Maps Go.ChangeMaps Go.Lib Go.Sort

instance : Inhabited Th := ⟨z⟩

/-- the row at blk holds d, the slice's box is there -/
structure SH (blk Bs N cap : Nat) (d : Array Th) (w : World) : Prop where
  holds : HoldsK cells 3 w blk 0 d
  size : d.size = N
  bs : w.cell? ⟨Bs, 0, none⟩ = some (.slice (some ⟨blk, 0, none⟩) N cap)
  bsl : Bs < w.heap.size
  blkl : blk < w.heap.size
  ne : Bs ≠ blk
  shape : ∃ cur, w.heap[blk]? = some (.cells cur 58 (0, 0)) ∧ cur.size = cap * 3

section
variable {blk Bs N cap : Nat} {d : Array Th} {w : World}
theorem SH.fr (h : SH blk Bs N cap d w) {w' : World} {d' : Array Th} (k : Fr (fun b => b = blk) w w') (hh : HoldsK cells 3 w' blk 0 d') (hs : d'.size = N) (hq : ∃ cur, w'.heap[blk]? = some (.cells cur 58 (0, 0)) ∧ cur.size = cap * 3) : SH blk Bs N cap d' w' :=
  ⟨hh, hs, (World.cell?_of_block (a := ⟨Bs, 0, none⟩) (k.block Bs h.bsl h.ne)).trans h.bs, by have := k.size; have := h.bsl; omega, by have := k.size; have := h.blkl; omega, h.ne, hq⟩
theorem SH.below (h : SH blk Bs N cap d w) {w' : World} (k : Go.RowKit.Below w.heap.size w w') : SH blk Bs N cap d w' := by
  refine ⟨?_, h.size, (k.cell (p := ⟨Bs, 0, none⟩) h.bsl).trans h.bs, by have := k.size; have := h.bsl; omega, by have := k.size; have := h.blkl; omega, h.ne, by rw [k.block blk h.blkl]; exact h.shape⟩
  intro j hj
  obtain ⟨a, b⟩ := h.holds j hj
  exact ⟨(World.cell?_of_block (a := ⟨blk, 0 + j, none⟩) (k.block blk h.blkl)).trans a, (World.frozen?_of_block (a := ⟨blk, 0 + j, none⟩) (k.block blk h.blkl)).trans b⟩
theorem SH.cell (h : SH blk Bs N cap d w) {i : Nat} (hi : i < N) :
    w.cell? ⟨blk, i * 3, none⟩ = some (.int .u64 d[i]!.d) ∧ w.cell? ⟨blk, i * 3 + 1, none⟩ = some (.int .u64 d[i]!.w) ∧ w.cell? ⟨blk, i * 3 + 2, none⟩ = some (.int .i64 d[i]!.h) := by
  have hi' : i < d.size := by rw [h.size]; exact hi
  have a := (h.holds.cell hi' (show 0 < 3 by omega)).1
  have b := (h.holds.cell hi' (show 1 < 3 by omega)).1
  have c := (h.holds.cell hi' (show 2 < 3 by omega)).1
  rw [Nat.zero_add] at a b c
  exact ⟨a, b, c⟩

set_option maxRecDepth 100000 in
set_option maxHeartbeats 1000000 in
theorem less_any (h : SH blk Bs N cap d w) (i j : Nat) (hi : i < N) (hj : j < N) :
    Calls Try.prog 30 #[.int .i64 i, .int .i64 j, .pointer (some ⟨Bs, 0, none⟩)] w fun e w' => e = .returned (.bool (aheadB d[i]! d[j]!)) ∧ Go.RowKit.Below w.heap.size w w' := by
  obtain ⟨a0, a1, a2⟩ := h.cell hi
  obtain ⟨b0, b1, b2⟩ := h.cell hj
  have hbs := h.bs
  have hbl := h.bsl
  have hkl := h.blkl
  have hi0 : (0 : Int) ≤ (i : Int) := by omega
  have hi1 : (i : Int) < (N : Int) := by omega
  have hj0 : (0 : Int) ≤ (j : Int) := by omega
  have hj1 : (j : Int) < (N : Int) := by omega
  generalize d[i]! = x at a0 a1 a2 ⊢
  generalize d[j]! = y at b0 b1 b2 ⊢
  go_enter Try.func30, Try.ntmps30
  go_wp2_with fail
  go_still_tail 8, (by kernel_rfl)
  change wpList _ _ _ _ _ w.drew
  go_wp2_with fail
  refine (ahead_any x y w.drew).mono ?_
  rintro e w1 ⟨rfl, hb⟩
  have hb2 : Go.RowKit.Below w.heap.size w w1 := ⟨hb.os, hb.tape, hb.output, hb.size, hb.block⟩
  clear hb
  go_wp2_with fail
  go_ret
  exact ⟨rfl, hb2⟩

theorem fr_putRow (w : World) (n : Nat) (d' : Array Th) (os : Array Obj) : Fr (fun b => b = blk) w (sortWorldK cells 3 w blk 0 n d' os) := by
  unfold sortWorldK
  have h1 : Fr (fun b => b = blk) w (putRowK cells 3 (Sort.ahead w n) blk 0 d') := by
    refine ⟨rfl, rfl, rfl, by simp [putRowK, putRow, mapBlock, Sort.ahead], fun k hk hn => ?_⟩
    show (w.heap.modify blk _)[k]? = _
    rw [Array.getElem?_modify, if_neg (fun e => hn e.symm)]
  exact h1.trans (fr_grow _ _ _)

theorem shape_putRow (w : World) (n : Nat) (d' : Array Th) (os : Array Obj) {c : Nat} (h : ∃ cur, w.heap[blk]? = some (.cells cur 58 (0, 0)) ∧ cur.size = c) : ∃ cur, (sortWorldK cells 3 w blk 0 n d' os).heap[blk]? = some (.cells cur 58 (0, 0)) ∧ cur.size = c := by
  obtain ⟨cur, h1, h2⟩ := h
  refine ⟨putCells id 0 (flatK cells 3 d') cur, ?_, by rw [← h2]; simp [putCells]⟩
  have hb := (Array.getElem?_eq_some_iff.1 h1).1
  have e : (putRowK cells 3 (Sort.ahead w n) blk 0 d').heap[blk]? = some (.cells (putCells id 0 (flatK cells 3 d') cur) 58 (0, 0)) := by
    show (w.heap.modify blk _)[blk]? = _
    rw [Array.getElem?_modify, if_pos rfl, h1]
    rfl
  unfold sortWorldK Go.Sort.grow
  simp only
  rw [Array.getElem?_append_left (Array.getElem?_eq_some_iff.1 e).1]
  exact e

/-- a callee of the library that writes the row alone -/
theorem SH.row (h : SH blk Bs N cap d w) (n : Nat) (d' : Array Th) (os : Array Obj) (hs : d'.size = N) : SH blk Bs N cap d' (sortWorldK cells 3 w blk 0 n d' os) :=
  h.fr (fr_putRow w n d' os) (holdsK_sortWorldK cells 3 w blk 0 n d d' os h.blkl h.holds (by rw [hs, h.size])) hs (shape_putRow w n d' os h.shape)

/-- the swap's two runs of stores -/
theorem SH.swp (h : SH blk Bs N cap d w) (i j : Nat) (hi : i < N) (hj : j < N) :
    SH blk Bs N cap (swp d i j) ((w.setCells blk (0 + i * 3) (cells d[j]!)).setCells blk (0 + j * 3) (cells d[i]!)) ∧ Fr (fun b => b = blk) w ((w.setCells blk (0 + i * 3) (cells d[j]!)).setCells blk (0 + j * 3) (cells d[i]!)) := by
  have k := (SWK.start h.holds).swap (fun _ => rfl) h.blkl i j (by rw [h.size]; exact hi) (by rw [h.size]; exact hj)
  obtain ⟨n, os, e⟩ := k
  rw [e]
  exact ⟨h.row n _ os (by rw [size_swp, h.size]), fr_putRow w n _ os⟩
end

/-- the value that the sort's functions hand to each other -/
def lsV (Bs sf : Nat) (sb : Array Value) : Value := .agg #[.func (.func 30) #[] #[.pointer (some ⟨Bs, 0, none⟩)], .func (.func sf) #[] sb]
/-- its box -/
def lsB (Bs sf : Nat) (sb : Array Value) : Obj := .cells #[.func (.func 30) #[] #[.pointer (some ⟨Bs, 0, none⟩)], .func (.func sf) #[] sb] 82

/-- inside one of the sort's functions, whose box of less and swap is bx -/
structure WS (w0 : World) (blk Bs N cap bx sf : Nat) (sb : Array Value) (d : Array Th) (wr : World) : Prop where
  sh : SH blk Bs N cap d wr
  fr : Fr (fun k => k = blk) w0 wr
  box : wr.heap[bx]? = some (.cells #[.func (.func 30) #[] #[.pointer (some ⟨Bs, 0, none⟩)], .func (.func sf) #[] sb] 82 (0, 0))
  ne : bx ≠ blk

section
variable {w0 : World} {blk Bs N cap bx sf : Nat} {sb : Array Value} {d : Array Th} {wr : World}
theorem WS.start {w : World} (h : SH blk Bs N cap d w) (sf : Nat) (sb : Array Value) : WS w blk Bs N cap w.heap.size sf sb d (w.alloc (.cells #[.func (.func 30) #[] #[.pointer (some ⟨Bs, 0, none⟩)], .func (.func sf) #[] sb] 82)) :=
  ⟨h.below ((Go.RowKit.Below.refl _ _).alloc (Nat.le_refl _) _), (Fr.refl _ w).alloc _, heap_alloc_new w _, by have := h.blkl; omega⟩
theorem WS.c0 (h : WS w0 blk Bs N cap bx sf sb d wr) : wr.cell? ⟨bx, 0, none⟩ = some (.func (.func 30) #[] #[.pointer (some ⟨Bs, 0, none⟩)]) := (cell_of_row wr bx 0 _ 82 (0, 0) h.box).trans rfl
theorem WS.c1 (h : WS w0 blk Bs N cap bx sf sb d wr) : wr.cell? ⟨bx, 1, none⟩ = some (.func (.func sf) #[] sb) := (cell_of_row wr bx 1 _ 82 (0, 0) h.box).trans rfl
theorem WS.lt (h : WS w0 blk Bs N cap bx sf sb d wr) : bx < wr.heap.size := (Array.getElem?_eq_some_iff.1 h.box).1
theorem WS.below (h : WS w0 blk Bs N cap bx sf sb d wr) {w' : World} (k : Go.RowKit.Below wr.heap.size wr w') : WS w0 blk Bs N cap bx sf sb d w' :=
  ⟨h.sh.below k, h.fr.of_below k, (k.block bx h.lt).trans h.box, h.ne⟩
theorem WS.drew (h : WS w0 blk Bs N cap bx sf sb d wr) : WS w0 blk Bs N cap bx sf sb d wr.drew := h.below ⟨rfl, rfl, rfl, Nat.le_refl _, fun _ _ => rfl⟩
theorem WS.drewN (h : WS w0 blk Bs N cap bx sf sb d wr) (q : Nat) : WS w0 blk Bs N cap bx sf sb d (wr.drewN q) := h.below ⟨rfl, rfl, rfl, Nat.le_refl _, fun _ _ => rfl⟩
/-- behind a callee -/
theorem WS.then (h : WS w0 blk Bs N cap bx sf sb d wr) {w' : World} {d' : Array Th} (k : SH blk Bs N cap d' w') (f : Fr (fun k => k = blk) wr w') : WS w0 blk Bs N cap bx sf sb d' w' :=
  ⟨k, h.fr.trans f, f.keep h.box h.ne, h.ne⟩
theorem WS.less (h : WS w0 blk Bs N cap bx sf sb d wr) (i j : Nat) (hi : i < N) (hj : j < N) :
    Calls Try.prog 30 #[.int .i64 i, .int .i64 j, .pointer (some ⟨Bs, 0, none⟩)] wr fun e w' => e = .returned (.bool (aheadB d[i]! d[j]!)) ∧ WS w0 blk Bs N cap bx sf sb d w' :=
  (less_any h.sh i j hi hj).mono fun e w' k => ⟨k.1, h.below k.2⟩
theorem WS.swap (h : WS w0 blk Bs N cap bx sf sb d wr) (hsw : SwapSwapsK Try.prog sf sb cells 3 blk 0 N) (i j : Nat) (hi : i < N) (hj : j < N) :
    ∃ w', (callFunc sf (#[.int .i64 i, .int .i64 j] ++ sb)).run Try.prog wr = .ok (.value (.tuple #[])) w' ∧ WS w0 blk Bs N cap bx sf sb (swp d i j) w' := by
  obtain ⟨k1, k2⟩ := h.sh.swp i j hi hj
  exact ⟨_, hsw wr d h.sh.holds h.sh.size i j hi hj, h.then k1 k2⟩
end

set_option maxRecDepth 100000 in
set_option maxHeartbeats 2000000 in
theorem insertion_any {blk Bs N cap : Nat} {d : Array Th} {w : World} {sf : Nat} {sb : Array Value} (hsw : SwapSwapsK Try.prog sf sb cells 3 blk 0 N) (h : SH blk Bs N cap d w) (a b : Nat) (hab : a ≤ b) (hb : b ≤ N) (hN : N ≤ 1000000000) :
    Calls Try.prog 47 #[lsV Bs sf sb, .int .i64 a, .int .i64 b] w fun e w' => e = .returned (.tuple #[]) ∧ SH blk Bs N cap (Sort.insertionSort aheadB d a b) w' ∧ Fr (fun k => k = blk) w w' := by
  unfold lsV
  have h1 := Lib.hid (WS.start h sf sb)
  have hadd : IntKind.i64.wrap ((a : Int) + 1) = (a : Int) + 1 := IntWalk.i64_in _ (by omega)
  have hds := h.size
  clear h
  go_enter Try.func47, Try.ntmps47
  go_wp2_with fail
  generalize w.heap.size = bx at h1 ⊢
  generalize w.alloc _ = w1 at h1 ⊢
  go_loopw [6] (fun vi wr => ∃ (i : Nat) (dk : Array Th), vi = .int .i64 i ∧ a < i ∧ i ≤ b + 1 ∧ WS w blk Bs N cap bx sf sb dk wr ∧ insOuter aheadB a b i dk = insOuter aheadB a b (a + 1) d) (fun vi _ => b + 1 - (intOf vi).toNat)
  case atStart => exact ⟨a + 1, d, by simp, by omega, by omega, h1.out, rfl⟩
  case round =>
    obtain ⟨i, dk, rfl, hai, hib, S, hO⟩ := hrel
    have HO := Lib.hid hO
    clear hO h1 hadd
    have hadd : IntKind.i64.wrap ((i : Int) + 1) = (i : Int) + 1 := IntWalk.i64_in _ (by omega)
    by_cases hlt : i < b
    · have S := Lib.hid S
      have hl1 : decide ((i : Int) < (b : Int)) = true := decide_eq_true (by omega)
      go_wp2_with fail
      go_loopw [7] (fun vj wr2 => ∃ (j : Nat) (dj : Array Th), vj = .int .i64 j ∧ a ≤ j ∧ j ≤ i ∧ WS w blk Bs N cap bx sf sb dj wr2 ∧ insInner aheadB a j dj = insInner aheadB a i dk) (fun vj _ => (intOf vj).toNat)
      case atStart => exact ⟨i, dk, rfl, by omega, Nat.le_refl _, S.out, rfl⟩
      case round =>
        obtain ⟨j, dj, rfl, haj, hji, S2, hI⟩ := hrel
        have HI := Lib.hid hI
        clear hI
        have c0 := S2.c0
        have hbx := S2.lt
        by_cases hja : a < j
        · have hl2 : decide ((a : Int) < (j : Int)) = true := decide_eq_true (by omega)
          have hsub : IntKind.i64.wrap ((j : Int) - 1) = (j : Int) - 1 := IntWalk.i64_in _ (by omega)
          have hls := S2.less j (j - 1) (by omega) (by omega)
          rw [show (((j - 1 : Nat) : Int)) = (j : Int) - 1 by omega] at hls
          have S2 := Lib.hid S2
          go_wp2_with fail
          refine hls.mono ?_
          clear hls
          rintro e w3 ⟨rfl, S3⟩
          have c1 := S3.c1
          cases hlv : aheadB dj[j]! dj[j - 1]! with
          | true =>
            obtain ⟨w4, hs, S4⟩ := S3.swap hsw j (j - 1) (by omega) (by omega)
            rw [show (((j - 1 : Nat) : Int)) = (j : Int) - 1 by omega] at hs
            have hbx3 := S3.lt
            clear S3 S2 hbx c0 S
            go_wp2_with fail
            go_roundw
            case rel => exact ⟨j - 1, swp dj j (j - 1), by congr 1; omega, by omega, by omega, S4, by rw [← HI.out, insInner_go aheadB a j dj hja hlv]⟩
            case measure => simp [intOf]; omega
          | false =>
            have S3 := Lib.hid S3
            clear S2 hbx c0 S
            go_wp2_with fail
            go_roundw
            case rel => exact ⟨i + 1, dj, by simp, by omega, by omega, S3.out, by rw [← HO.out, insOuter_go aheadB a b i dk hlt, ← HI.out, insInner_stop aheadB a j dj (Or.inr hlv)]⟩
            case measure => simp [intOf]; omega
        · have hl2 : decide ((a : Int) < (j : Int)) = false := decide_eq_false (by omega)
          have S2 := Lib.hid S2
          clear S
          go_wp2_with fail
          go_roundw
          case rel => exact ⟨i + 1, dj, by simp, by omega, by omega, S2.out, by rw [← HO.out, insOuter_go aheadB a b i dk hlt, ← HI.out, insInner_stop aheadB a j dj (Or.inl (by omega))]⟩
          case measure => simp [intOf]; omega
    · have hl1 : decide ((i : Int) < (b : Int)) = false := decide_eq_false (by omega)
      have S := Lib.hid S
      go_wp2_with fail
      go_end0
      refine ⟨rfl, ?_, S.out.fr⟩
      unfold Sort.insertionSort
      rw [← HO.out, insOuter_stop aheadB a b i dk hlt]
      exact S.out.sh

end Go.Proofs.Ytfibgjgipadmkaa.Hp
