/- A slice that reads as a list; append from one (words laid out for copying); the document's heap, as it lies in memory. -/
import Derived.Test.YtfibgjgipadmkaaIc
import Derived.Laws.OwnMore
import Derived.Deep.AppendLies
import Derived.Deep.Draws
import Derived.Maps.AppendAt
import Derived.RegionTactic
import Derived.OwnWalk
namespace Go.Proofs.Ytfibgjgipadmkaa.Hp
set_option linter.unusedVariables false
set_option linter.unusedSimpArgs false
open Go.RowKit Go.Maps Go.ChangeMaps

theorem block_of_add (a : Addr) (n : Nat) : (a.add n).block = a.block := by unfold Addr.add; split <;> rfl
theorem add_of_add (a : Addr) (i j : Nat) : (a.add i).add j = a.add (i + j) := by
  unfold Addr.add
  by_cases hi : i = 0 <;> by_cases hj : j = 0 <;> simp [hi, hj, Nat.add_assoc]

def Reads (w : World) (B size : Nat) (A : Option Addr) (n : Nat) (xs : List Value) : Prop :=
  xs.length = n * size ∧ (0 < n → ∃ ad, A = some ad ∧ ad.block < B ∧ ∀ j u, xs[j]? = some u → w.cell? (ad.add j) = some u)

section
variable {w w' : World} {B B' size n : Nat} {A : Option Addr} {xs : List Value}
theorem Reads.none_ : Reads w B size A 0 [] := ⟨by simp, fun h => absurd h (by omega)⟩
theorem Reads.at_ {k : Nat} (h : Reads w B 1 A n xs) (hk : k < n) : ∃ ad u, A = some ad ∧ ad.block < B ∧ xs[k]? = some u ∧ w.cell? (ad.add k) = some u := by
  obtain ⟨ad, e, hb, hc⟩ := h.2 (by omega)
  have hl : k < xs.length := by have := h.1; omega
  exact ⟨ad, xs[k], e, hb, List.getElem?_eq_getElem hl, hc k _ (List.getElem?_eq_getElem hl)⟩
theorem Reads.keep (h : Reads w B size A n xs) (hk : ∀ p : Addr, p.block < B → w'.cell? p = w.cell? p) : Reads w' B size A n xs :=
  ⟨h.1, fun hn => by
    obtain ⟨ad, e, hb, hc⟩ := h.2 hn
    exact ⟨ad, e, hb, fun j u hu => (hk _ (by rw [block_of_add]; exact hb)).trans (hc j u hu)⟩⟩
theorem Reads.more (h : Reads w B size A n xs) (hB : B ≤ B') : Reads w B' size A n xs :=
  ⟨h.1, fun hn => by
    obtain ⟨ad, e, hb, hc⟩ := h.2 hn
    exact ⟨ad, e, by omega, hc⟩⟩
theorem Reads.below (h : Reads w B size A n xs) (hb : Below B w w') : Reads w' B size A n xs := h.keep fun _ hp => hb.cell hp
theorem Reads.drew (h : Reads w B size A n xs) : Reads w.drew B size A n xs := h
theorem Reads.drewN (h : Reads w B size A n xs) (k : Nat) : Reads (w.drewN k) B size A n xs := h
theorem Reads.alloc (h : Reads w B size A n xs) (hB : B ≤ w.heap.size) (o : Obj) : Reads (w.alloc o) B size A n xs := h.keep fun p hp => World.cell?_alloc_lt w o p (by omega)
theorem Reads.setCell (h : Reads w B size A n xs) {p : Addr} (hB : B ≤ p.block) (u : Value) : Reads (w.setCell p u) B size A n xs :=
  h.keep fun q hq => World.cell?_setCell_other w p q u (fun e => by subst e; omega)
theorem Reads.grown (h : Reads w B size A n xs) {row : Option Nat} (hg : w.grownBy w' row) (hB : B ≤ w.heap.size) (hr : ∀ g, row = some g → B ≤ g) : Reads w' B size A n xs :=
  h.keep fun p hp => World.cell?_of_block (hg.block p.block (by omega) (fun e => by have := hr _ e.symm; omega))
theorem Reads.cut (h : Reads w B size A n xs) {k cap : Nat} (hk : k ≤ n) (hc : n ≤ cap) :
    Reads w B size (if cap = k then A else A.map (·.add (k * size))) (n - k) (xs.drop (k * size)) := by
  refine ⟨by rw [List.length_drop, h.1, Nat.sub_mul], fun hn => ?_⟩
  obtain ⟨ad, rfl, hb, hcell⟩ := h.2 (by omega)
  rw [if_neg (by omega)]
  refine ⟨ad.add (k * size), rfl, by rw [block_of_add]; exact hb, fun j u hu => ?_⟩
  rw [add_of_add]
  exact hcell _ u (by rw [← hu, List.getElem?_drop])
theorem Reads.of_own {base : Nat} {e : TypeId} {c : Nat} (h : w.ownsRow base e size (.slice A n c) n xs) : Reads w w.heap.size size A n xs := by
  refine ⟨h.1, fun hn => ?_⟩
  obtain ⟨g, cap, hv, _, hlt⟩ := h.form hn
  have hA : A = some ⟨g, 0, none⟩ := by injection hv
  subst hA
  exact ⟨_, rfl, hlt, h.cells (g := g) rfl⟩
end

section
variable {P : Program} (w : World)

theorem run_append_of_nil (base : Nat) (t ty e : TypeId) (i : TypeInfo) (size : Nat) (ht : P.underlying t = some (.slice e)) (hi : P.info? e = some i)
    (v : Value) (n : Nat) (xs : List Value) (hown : w.ownsRow base e size v n xs) (c : Nat) : (Builtin.append_ #[t, t] ty #[v, .slice none 0 c]).run P w = .ok v w := by
  rcases hown.2 with ⟨rfl, rfl⟩ | ⟨g, cap, cur, rfl, _, _, hnc, _⟩
  · simp [Builtin.append_, run_underlying ht, sizeOf, typeInfo, hi, Builtin.lenOf, Builtin.firstCells]
  · simp [Builtin.append_, run_underlying ht, sizeOf, typeInfo, hi, Builtin.lenOf, Builtin.firstCells, hnc, storeCells]

theorem run_append_any (base : Nat) (t ty e : TypeId) (i : TypeInfo) (z : Value) (size bytes : Nat) (ht : P.underlying t = some (.slice e)) (hi : P.info? e = some i) (hz : i.zero = some z)
    (hsize : i.size = size) (hby : i.bytes = bytes) (hzs : z.cells.size = size) (hsz : 0 < size)
    (v : Value) (n : Nat) (xs : List Value) (hown : w.ownsRow base e size v n xs)
    (B : Nat) (A : Option Addr) (m c : Nat) (news : List Value) (hr : Reads w B size A m news) (h1 : ∀ u ∈ news, u.oneCell' = true)
    (h63 : n + m ≤ maxLen) (hbytes : (n + m) * bytes ≤ 140737488355328) (hbase : base ≤ w.heap.size) :
    ∃ v' w', (Builtin.append_ #[t, t] ty #[v, .slice A m c]).run P w = .ok v' w' ∧ w'.ownsRow base e size v' (n + m) (xs ++ news) ∧ w.grownBy w' v.ownBlock ∧
      (v'.ownBlock = v.ownBlock ∨ v'.ownBlock = some w.heap.size) := by
  rcases A with _ | ad
  · have hm : m = 0 := by
      rcases Nat.eq_zero_or_pos m with h0 | h0
      · exact h0
      · obtain ⟨ad, h, _⟩ := hr.2 h0
        cases h
    subst hm
    have hn : news = [] := List.eq_nil_of_length_eq_zero (by simpa using hr.1)
    subst hn
    exact ⟨v, w, run_append_of_nil w base t ty e i size ht hi v n xs hown c, by simpa using hown, World.grownBy.refl w _, .inl rfl⟩
  · have hcells : ∀ j u, news[j]? = some u → w.cell? (ad.add j) = some u := by
      intro j u hu
      rcases Nat.eq_zero_or_pos m with h0 | h0
      · subst h0
        have hn : news = [] := List.eq_nil_of_length_eq_zero (by simpa using hr.1)
        subst hn
        simp at hu
      · obtain ⟨ad', h, _, hc⟩ := hr.2 h0
        injection h with h
        subst h
        exact hc j u hu
    obtain ⟨v', w', hrun, h2, h3, _, h5⟩ := run_append_own_at (P := P) w base t ty e i z size bytes ht hi hz hsize hby hzs hsz v n xs hown ad m c news hr.1 hcells h1 h63 hbytes hbase
    exact ⟨v', w', hrun, h2, h3, h5⟩

theorem wp_append_any {o : Oper} {a : Act} {K : Act → World → Prop} {Q : Exit → Act → World → Prop} (s x : Operand) (t : TypeId)
    (ho : o.op = .call { callee := .builtin .append, args := #[s, x], argTypes := #[t, t] })
    (base : Nat) (e : TypeId) (i : TypeInfo) (z : Value) (size bytes : Nat) (ht : P.underlying t = some (.slice e)) (hi : P.info? e = some i) (hz : i.zero = some z)
    (hsize : i.size = size) (hby : i.bytes = bytes) (hzs : z.cells.size = size) (hsz : 0 < size)
    (v : Value) (n : Nat) (xs : List Value) (hs : a.eval s = v) (hown : w.ownsRow base e size v n xs)
    (B : Nat) (A : Option Addr) (m c : Nat) (news : List Value) (hx : a.eval x = .slice A m c) (hr : Reads w B size A m news) (h1 : ∀ u ∈ news, u.oneCell' = true)
    (h63 : n + m ≤ maxLen) (hbytes : (n + m) * bytes ≤ 140737488355328) (hbase : base ≤ w.heap.size)
    (h : ∀ v' w', w'.ownsRow base e size v' (n + m) (xs ++ news) → w.grownBy w' v.ownBlock → (v'.ownBlock = v.ownBlock ∨ v'.ownBlock = some w.heap.size) → K (a.put o.dst v') w') : o.wp P a w K Q := by
  obtain ⟨v', w', hrun, h2, h3, h4⟩ := run_append_any (P := P) w base t o.type e i z size bytes ht hi hz hsize hby hzs hsz v n xs hown B A m c news hr h1 h63 hbytes hbase
  unfold Oper.wp execOp
  simp only [ho, resolve, invoke, builtin, Sem.run_bind, Sem.run_pure, Result.andThen_ok, List.map_toArray, List.map_cons, List.map_nil, hs, hx, hrun]
  exact h v' w' h2 h3 h4

theorem wpList_append_any {ops : Array Oper} {rest : List Oper} {o : Oper} {a : Act} {Q : Exit → Act → World → Prop} (hgd : o.guard = none) (s x : Operand) (t : TypeId)
    (ho : o.op = .call { callee := .builtin .append, args := #[s, x], argTypes := #[t, t] })
    (base : Nat) (e : TypeId) (i : TypeInfo) (z : Value) (size bytes : Nat) (ht : P.underlying t = some (.slice e)) (hi : P.info? e = some i) (hz : i.zero = some z)
    (hsize : i.size = size) (hby : i.bytes = bytes) (hzs : z.cells.size = size) (hsz : 0 < size)
    (v : Value) (n : Nat) (xs : List Value) (hs : a.eval s = v) (hown : w.ownsRow base e size v n xs)
    (B : Nat) (A : Option Addr) (m c : Nat) (news : List Value) (hx : a.eval x = .slice A m c) (hr : Reads w B size A m news) (h1 : ∀ u ∈ news, u.oneCell' = true)
    (h63 : n + m ≤ maxLen) (hbytes : (n + m) * bytes ≤ 140737488355328) (hbase : base ≤ w.heap.size)
    (h : ∀ v' w', w'.ownsRow base e size v' (n + m) (xs ++ news) → w.grownBy w' v.ownBlock → (v'.ownBlock = v.ownBlock ∨ v'.ownBlock = some w.heap.size) → wpList P ops Q rest (a.put o.dst v') w') : wpList P ops Q (o :: rest) a w :=
  wpList_plain hgd fun _ hK => wp_append_any w s x t ho base e i z size bytes ht hi hz hsize hby hzs hsz v n xs hs hown B A m c news hx hr h1 h63 hbytes hbase fun v' w' h2 h3 h4 => hK _ _ (h v' w' h2 h3 h4)

theorem step_append_any {ops : Array Oper} {o : Oper} {a : Act} {K : Act → World → Prop} {Q : Exit → Act → World → Prop} {E : Prop} (hgd : o.guard = none) (s x : Operand) (t : TypeId)
    (ho : o.op = .call { callee := .builtin .append, args := #[s, x], argTypes := #[t, t] })
    (base : Nat) (e : TypeId) (i : TypeInfo) (z : Value) (size bytes : Nat) (ht : P.underlying t = some (.slice e)) (hi : P.info? e = some i) (hz : i.zero = some z)
    (hsize : i.size = size) (hby : i.bytes = bytes) (hzs : z.cells.size = size) (hsz : 0 < size)
    (v : Value) (n : Nat) (xs : List Value) (hs : a.eval s = v) (hown : w.ownsRow base e size v n xs)
    (B : Nat) (A : Option Addr) (m c : Nat) (news : List Value) (hx : a.eval x = .slice A m c) (hr : Reads w B size A m news) (h1 : ∀ u ∈ news, u.oneCell' = true)
    (h63 : n + m ≤ maxLen) (hbytes : (n + m) * bytes ≤ 140737488355328) (hbase : base ≤ w.heap.size)
    (h : ∀ v' w', w'.ownsRow base e size v' (n + m) (xs ++ news) → w.grownBy w' v.ownBlock → (v'.ownBlock = v.ownBlock ∨ v'.ownBlock = some w.heap.size) → K (a.put o.dst v') w') :
    if Region.wanted o (yielded ops a.tmps) = true then Oper.wp P o a w K Q else E := by
  have hw : Region.wanted o (yielded ops a.tmps) = true := by simp [Region.wanted, hgd]
  rw [if_pos hw]
  exact wp_append_any w s x t ho base e i z size bytes ht hi hz hsize hby hzs hsz v n xs hs hown B A m c news hx hr h1 h63 hbytes hbase h
end

theorem info66 : (Try.prog.info? 66).map (fun i => (i.zero, i.size, i.bytes)) = some (some (.agg #[(.int .u64 0), (.int .u64 0), (.int .i64 0)]), 3, 24) := by kernel_rfl

/-- the document's heap at r: its row of things in order, its last handle -/
structure RF (w : World) (B r : Nat) (A : Option Addr) (c : Nat) (L : List Th) (last : Int) : Prop where
  blk : w.heap[r]? = some (.cells #[.slice A L.length c, .int .i64 last] 41 (0, 0))
  own : w.ownsRow B 66 3 (.slice A L.length c) L.length (flat L)
  lt : r < B
  B : B ≤ w.heap.size

section
variable {w w' : World} {B r : Nat} {A : Option Addr} {c : Nat} {L : List Th} {last : Int}
theorem RF.c0 (R : RF w B r A c L last) : w.cell? ⟨r, 0, none⟩ = some (.slice A L.length c) := (cell_of_row w r 0 _ 41 (0, 0) R.blk).trans rfl
theorem RF.c1 (R : RF w B r A c L last) : w.cell? ⟨r, 1, none⟩ = some (.int .i64 last) := (cell_of_row w r 1 _ 41 (0, 0) R.blk).trans rfl
theorem RF.f (R : RF w B r A c L last) (i : Nat) : w.frozen? ⟨r, i, none⟩ = false := frozen_of_row w r i _ 41 R.blk
theorem RF.rl (R : RF w B r A c L last) : r < w.heap.size := (Array.getElem?_eq_some_iff.1 R.blk).1
theorem RF.cap (R : RF w B r A c L last) : L.length ≤ c := by
  obtain ⟨hl, h | ⟨g', cap', cur, h, hb, hgg, hn, hr⟩⟩ := R.own
  · omega
  · injection h with h1 h2 h3
    subst h3; exact hn
theorem RF.keep {S : Nat → Prop} (R : RF w B r A c L last) (F : Fr S w w') (h1 : ¬ S r) (h2 : ∀ k, (Value.slice A L.length c).ownBlock = some k → ¬ S k) : RF w' B r A c L last := by
  refine ⟨F.keep R.blk h1, ?_, R.lt, Nat.le_trans R.B F.size⟩
  obtain ⟨hl, h⟩ := R.own
  rcases h with h | ⟨g', cap', cur, h, hb, hgg, q⟩
  · exact ⟨hl, .inl h⟩
  · exact ⟨hl, .inr ⟨g', cap', cur, h, hb, F.keep hgg (h2 g' (by rw [h]; rfl)), q⟩⟩
theorem RF.below (R : RF w B r A c L last) (h : Below w.heap.size w w') : RF w' B r A c L last :=
  R.keep (S := fun _ => False) ((Fr.refl _ w).of_below h) (fun h => h) (fun _ _ h => h)
theorem RF.reads (R : RF w B r A c L last) : Reads w w.heap.size 3 A L.length (flat L) := Reads.of_own R.own
/-- a thing's three cells -/
theorem RF.at_ (R : RF w B r A c L last) {k : Nat} (hk : k < L.length) : ∃ gb, A = some ⟨gb, 0, none⟩ ∧ gb < w.heap.size ∧ w.cell? ⟨gb, k * 3, none⟩ = some (.int .u64 (at' L k).d) ∧ w.cell? ⟨gb, k * 3 + 1, none⟩ = some (.int .u64 (at' L k).w) ∧ w.cell? ⟨gb, k * 3 + 2, none⟩ = some (.int .i64 (at' L k).h) := by
  obtain ⟨gb, cap, hv, _, hlt⟩ := R.own.form (by omega)
  have hA : A = some ⟨gb, 0, none⟩ := by injection hv
  subst hA
  exact ⟨gb, rfl, hlt, ((R.own.cellAt (k * 3) (by omega)).trans (flat_get L k 0 (by omega) (by omega))).trans rfl, ((R.own.cellAt (k * 3 + 1) (by omega)).trans (flat_get L k 1 (by omega) (by omega))).trans rfl, ((R.own.cellAt (k * 3 + 2) (by omega)).trans (flat_get L k 2 (by omega) (by omega))).trans rfl⟩
end

theorem row_base {w : World} {B B2 e L k : Nat} {v : Value} {xs : List Value} (h : w.ownsRow B e k v L xs) (hB : B2 ≤ B) : w.ownsRow B2 e k v L xs := by
  obtain ⟨hl, h | ⟨g', cap', cur, h, hb, r⟩⟩ := h
  · exact ⟨hl, .inl h⟩
  · exact ⟨hl, .inr ⟨g', cap', cur, h, Nat.le_trans hB hb, r⟩⟩

/-- a row of the call's own, laid into the heap -/
theorem rf_set {w w1 : World} {B r : Nat} {A A' : Option Addr} {c c' : Nat} {L0 L : List Th} {last : Int} (R : RF w B r A c L0 last) (hb : Below w.heap.size w w1)
    (hown : w1.ownsRow w.heap.size 66 3 (.slice A' L.length c') L.length (flat L)) :
    RF (w1.setCell ⟨r, 0, none⟩ (.slice A' L.length c')) B r A' c' L last ∧ Fr (fun k => k = r) w (w1.setCell ⟨r, 0, none⟩ (.slice A' L.length c')) := by
  have R1 := R.below hb
  have hsz := hb.size
  refine ⟨⟨?_, ?_, R.lt, ?_⟩, ((Fr.refl (fun k => k = r) w).of_below hb).setCell (p := ⟨r, 0, none⟩) (.inl rfl) _⟩
  · have := heap_setCell_same w1 r 0 _ 41 (.slice A' L.length c') R1.blk
    simpa using this
  · have hgs : w1.grownBy (w1.setCell ⟨r, 0, none⟩ (.slice A' L.length c')) (some r) := ⟨rfl, rfl, rfl, by simp [World.setCell], fun k _ hk => heap_setCell_other w1 ⟨r, 0, none⟩ k _ (fun e => hk (by simp [e]))⟩
    exact row_base (hown.kept hgs (.inr (fun e => by have := (hown.lt r e).1; have := R.rl; omega))) R.B
  · simp [World.setCell]; have := R.B; omega
theorem own_slice {w : World} {B e k n : Nat} {v : Value} {xs : List Value} (h : w.ownsRow B e k v n xs) : ∃ A c, v = .slice A n c := by
  obtain ⟨hl, ⟨h, h2⟩ | ⟨g', cap', cur, h, r⟩⟩ := h
  · exact ⟨none, 0, by rw [h, h2]⟩
  · exact ⟨_, cap', h⟩
theorem at_zero (gb k : Nat) : (⟨gb, 0, none⟩ : Addr).add k = ⟨gb, k, none⟩ := by unfold Addr.add; split <;> simp_all

set_option maxRecDepth 100000 in
set_option maxHeartbeats 1000000 in
theorem rfirst_nil (w : World) (B r : Nat) (A : Option Addr) (c : Nat) (last : Int) (R : RF w B r A c [] last) :
    Calls Try.prog 17 #[.pointer (some ⟨r, 0, none⟩)] w fun e w' => e = .returned (.tuple #[.int .u64 0, .int .u64 0, .bool false]) ∧ w = w' := by
  have c0 := R.c0
  have rl := R.rl
  rw [List.length_nil] at c0
  clear R
  go_enter Try.func17, Try.ntmps17
  go_wp2
  go_ret3
  exact ⟨rfl, rfl⟩

set_option maxRecDepth 100000 in
set_option maxHeartbeats 1000000 in
theorem rfirst_any (w : World) (B r : Nat) (A : Option Addr) (c : Nat) (t : Th) (L : List Th) (last : Int) (R : RF w B r A c (t :: L) last) :
    Calls Try.prog 17 #[.pointer (some ⟨r, 0, none⟩)] w fun e w' => e = .returned (.tuple #[.int .u64 t.d, .int .u64 t.w, .bool true]) ∧ ∃ n, w' = w.drewN n := by
  have c0 := R.c0
  have rl := R.rl
  obtain ⟨gb, rfl, hgl, h0, h1, h2⟩ := R.at_ (k := 0) (by simp)
  rw [show at' (t :: L) 0 = t by rfl] at h0 h1 h2
  have hz : (((t :: L).length : Int) == 0) = false := beq_false_of_ne (by simp; omega)
  have hl : 0 < (t :: L).length := by simp
  generalize (t :: L).length = n at c0 hz hl
  simp only [Nat.zero_mul, Nat.zero_add] at h0 h1 h2
  clear R
  go_enter Try.func17, Try.ntmps17
  go_wp2_with fail
  go_quiet (fail)
  go_wp2_with fail
  go_ret3
  exact ⟨rfl, _, rfl⟩

set_option maxRecDepth 100000 in
set_option maxHeartbeats 1000000 in
theorem rpop_nil (w : World) (B r : Nat) (A : Option Addr) (c : Nat) (last now : Int) (R : RF w B r A c [] last) :
    Calls Try.prog 18 #[.pointer (some ⟨r, 0, none⟩), .int .u64 now] w fun e w' => e = .returned (.tuple #[.int .u64 0, .bool false]) ∧ w = w' := by
  have c0 := R.c0
  have rl := R.rl
  rw [List.length_nil] at c0
  clear R
  go_enter Try.func18, Try.ntmps18
  go_wp2
  go_ret2
  exact ⟨rfl, rfl⟩

set_option maxRecDepth 100000 in
set_option maxHeartbeats 1000000 in
theorem rpop_late (w : World) (B r : Nat) (A : Option Addr) (c : Nat) (t : Th) (L : List Th) (last now : Int) (R : RF w B r A c (t :: L) last) (hd : now < t.d) :
    Calls Try.prog 18 #[.pointer (some ⟨r, 0, none⟩), .int .u64 now] w fun e w' => e = .returned (.tuple #[.int .u64 0, .bool false]) ∧ w = w' := by
  have c0 := R.c0
  have rl := R.rl
  obtain ⟨gb, rfl, hgl, h0, h1, h2⟩ := R.at_ (k := 0) (by simp)
  rw [show at' (t :: L) 0 = t by rfl] at h0 h1 h2
  have hz : (((t :: L).length : Int) == 0) = false := beq_false_of_ne (by simp; omega)
  have hl : 0 < (t :: L).length := by simp
  have hdd : decide (now < t.d) = true := decide_eq_true hd
  generalize (t :: L).length = n at c0 hz hl
  simp only [Nat.zero_mul, Nat.zero_add] at h0 h1 h2
  clear R
  go_enter Try.func18, Try.ntmps18
  go_wp2_with fail
  go_ret2
  exact ⟨rfl, rfl⟩

set_option maxRecDepth 100000 in
set_option maxHeartbeats 2000000 in
theorem rpop_any (w : World) (B r : Nat) (A : Option Addr) (c : Nat) (t : Th) (L : List Th) (last now : Int) (R : RF w B r A c (t :: L) last) (hd : ¬ now < t.d) (hlen : L.length ≤ 1000000) :
    Calls Try.prog 18 #[.pointer (some ⟨r, 0, none⟩), .int .u64 now] w fun e w' => e = .returned (.tuple #[.int .u64 t.w, .bool true]) ∧ ∃ A' c', RF w' B r A' c' L last ∧ Fr (fun k => k = r) w w' := by
  have c0 := R.c0
  have rl := R.rl
  have hcut := (R.reads.cut (k := 1) (cap := c) (by simp) R.cap)
  rw [show (flat (t :: L)).drop (1 * 3) = flat L from rfl, show (t :: L).length - 1 = L.length by simp] at hcut
  have hcut2 := hcut.alloc (Nat.le_refl _) (.cells #[] 66)
  have hcap : 1 ≤ c := by have := R.cap; simp at this; omega
  obtain ⟨gb, hA, hgl, h0, h1, h2⟩ := R.at_ (k := 0) (by simp)
  rw [show at' (t :: L) 0 = t by rfl] at h0 h1 h2
  have hz : (((t :: L).length : Int) == 0) = false := beq_false_of_ne (by simp; omega)
  have hl : 0 < (t :: L).length := by simp
  have hdd : decide (now < t.d) = false := decide_eq_false hd
  have hl1 : (1 : Int) ≤ ((t :: L).length : Int) := by omega
  have hsub : (t :: L).length - 1 = L.length := by simp
  have hB := R.B
  have hrB := R.lt
  have HR := Lib.hid R
  subst hA
  simp only [Nat.zero_mul, Nat.zero_add] at h0 h1 h2
  have hnl : (t :: L).length ≤ c := R.cap
  clear R
  generalize (t :: L).length = n at c0 hz hl hl1 hsub hnl
  have hrow : (w.alloc (.cells #[] 66)).ownsRow w.heap.size 66 3 (.slice (some ⟨w.heap.size, 0, none⟩) 0 0) 0 [] :=
    ⟨rfl, .inr ⟨w.heap.size, 0, #[], rfl, Nat.le_refl _, heap_alloc_new w _, Nat.le_refl _, by decide, rfl, rfl⟩⟩
  obtain ⟨i0, hi, hz0, hz1, hz2⟩ := info_parts info66
  rw [← hsub] at hcut2
  have HS := Lib.hid hsub
  clear hcut hd
  by_cases hc1 : c = 1
  · subst hc1
    obtain rfl : n = 1 := by omega
    obtain rfl : L = [] := List.length_eq_zero_iff.1 (by omega)
    clear hcut2 hsub hl1 hl hnl
    have hb1 : Below w.heap.size w (w.alloc (.cells #[] 66)) := (Below.refl _ w).alloc (Nat.le_refl _) _
    have HE := Lib.hid (rf_set (L := []) HR.out hb1 hrow)
    have hf := (HR.out.below hb1).f 0
    have hr1 := (HR.out.below hb1).rl
    have hcc := (HR.out.below hb1).c0
    clear hb1 hrow hi hz0 hz1 hz2
    go_enter Try.func18, Try.ntmps18
    go_wp2_with fail
    go_ret2
    have h := HE.out
    rw [List.length_nil, World.setCell_alloc_past _ _ _ _ rl] at h
    exact ⟨rfl, _, _, h⟩
  · rw [if_neg hc1] at hcut2
    rw [show Option.map (fun x : Addr => x.add (1 * 3)) (some ⟨gb, 0, none⟩) = some ⟨gb, 3, none⟩ by rw [Option.map_some, at_zero]] at hcut2
    have hcut := Lib.hid hcut2
    clear hcut2 hsub
    go_enter Try.func18, Try.ntmps18
    go_wp2_with (at_builtin; refine wpList_append_any _ rfl (.tmp 32) (.tmp 37) 39 rfl w.heap.size 66 i0 (.agg #[.int .u64 0, .int .u64 0, .int .i64 0]) 3 24 Try.underlying39 hi hz0 hz1 hz2 rfl (by decide) (.slice (some ⟨w.heap.size, 0, none⟩) 0 0) 0 [] rfl hrow w.heap.size _ _ _ (flat L) rfl hcut.out (fun u hu => flat_one hu) (by have := HS.out; unfold maxLen; omega) (by have := HS.out; omega) (by simp) ?_)
    intro v1 w1 hown hgrow hat
    rw [HS.out] at hown
    obtain ⟨A', c', rfl⟩ := own_slice hown
    have hb1 : Below w.heap.size w w1 := ((Below.refl _ w).alloc (Nat.le_refl _) _).grown hgrow (by simp) (fun k hk => by injection hk with hk; subst hk; exact Nat.le_refl _)
    have HE := Lib.hid (rf_set HR.out hb1 hown)
    have hf := (HR.out.below hb1).f 0
    have hr1 := (HR.out.below hb1).rl
    have hcc := (HR.out.below hb1).c0
    clear hown hgrow hat hb1 hrow hi hz0 hz1 hz2
    go_wp2_with fail
    go_ret2
    exact ⟨rfl, _, _, HE.out⟩

end Go.Proofs.Ytfibgjgipadmkaa.Hp
