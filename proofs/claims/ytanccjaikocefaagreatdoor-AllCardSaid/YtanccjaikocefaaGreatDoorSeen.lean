/-
  The contracts of slices.AppendSeq and slices.Collect at the counted blocks, against whatever iterator value. Condition: what the iterator gives.
  maps.Values over the map of what was counted gives the blocks, each once, in some order. Condition: the map lies in memory.
  The sort of a slice of blocks, laid at this program.
  slices.SortFunc puts the counted blocks in the order of their addresses. Condition: the row lies in memory.
  The cache's blocks, in the order of their addresses, and chains.Profile. Condition: the setup lies in memory; the table lies.
-/
import Derived.Test.YtanccjaikocefaaGreatDoorRCount
import Derived.Test.YtanccjaikocefaaGreatDoorNote
import Derived.RangeFuncMany
import Derived.RangeFuncLeaves
import Derived.RangeFuncGives
import Derived.Sort.MapsRangeIn
import Derived.Sort.KeysCollected
import Derived.WalkKit
import Derived.OwnWalkIn
import Derived.TacticsInMore
import Derived.RegionIn
import Derived.LoopNIn
import Derived.LoopIn
import Derived.Maps.AppendAt
import Derived.Shelf.Abstract
import Derived.Shelf.AbstractIn
import Derived.Shelf.SlSortCmp.WholeK
import Derived.Test.YtanccjaikocefaaGreatDoorProg
import Derived.Test.YtanccjaikocefaaGreatDoorCRun3
namespace Go.Proofs.YtanccjaikocefaaGreatDoor
open Go.ChangeShapes Go.WideShapes Go.ChangeAt Go.RowKit Go.Maps Go.Sort Go.Shelf
set_option linter.unusedVariables false

theorem row_abides {W W' : World} {row : Option Nat} {base : Nat} {e : TypeId} {size : Nat} {v : Value} {k : Nat} {xs : List Value} (h : W.ownsRow base e size v k xs) (hg : W.grownBy W' row)
    (hrow : ∀ r, row = some r → ∃ o : Obj, W.heap[r]? = some o ∧ o.isWalk = true) : W'.ownsRow base e size v k xs := by
  refine h.kept hg ?_
  rcases h.2 with ⟨rfl, _⟩ | ⟨g, cap, cur, rfl, _, hgb, _⟩
  · exact .inl rfl
  · refine .inr fun e' => ?_
    obtain ⟨o, ho, hw⟩ := hrow g (by simpa [Value.ownBlock] using e'.symm)
    rw [hgb] at ho; cases ho; cases hw
theorem grown_put (W : World) (l : Nat) (o : Obj) : W.grownBy (W.putObj l o) (some l) :=
  ⟨rfl, rfl, rfl, by simp, fun k _ hk => World.putObj_heap_other (fun e => hk (by rw [e]))⟩
theorem grown_set0 (W : World) (b : Nat) (v : Value) : W.grownBy (W.setCell ⟨b, 0, none⟩ v) (some b) :=
  ⟨rfl, rfl, rfl, (KeepsWalks.setCell W _ v).size, fun k _ hk => Below.heap_setCell _ _ _ k (fun e => hk (by rw [e]))⟩
theorem row_ne {W : World} {base : Nat} {e : TypeId} {size : Nat} {v : Value} {k : Nat} {xs : List Value} (h : W.ownsRow base e size v k xs) {j : Nat} {o : Obj} (hj : W.heap[j]? = some o) (hno : ∀ cur, o ≠ .cells cur e (0, 0)) :
    v.ownBlock = none ∨ v.ownBlock ≠ some j := by
  rcases h.2 with ⟨rfl, _⟩ | ⟨g, cap, cur, rfl, _, hgb, _⟩
  · exact .inl rfl
  · refine .inr fun e' => ?_
    have : g = j := by simpa [Value.ownBlock] using e'
    subst this; rw [hgb] at hj; cases hj; exact hno cur rfl
theorem cell_box {W : World} {B : Nat} {v : Value} {t : TypeId} (h : W.heap[B]? = some (.cells #[v] t (0, 0))) : W.cell? ⟨B, 0, none⟩ = some v ∧ W.frozen? ⟨B, 0, none⟩ = false := by
  constructor <;> simp [World.cell?, World.frozen?, h]
theorem set_box {W : World} {B : Nat} {v : Value} {t : TypeId} (v' : Value) (h : W.heap[B]? = some (.cells #[v] t (0, 0))) : (W.setCell ⟨B, 0, none⟩ v').heap[B]? = some (.cells #[v'] t (0, 0)) := by
  rw [heap_setCell_same W B 0 _ _ _ h]
  rfl
theorem row_no_walk {W : World} {base : Nat} {e : TypeId} {size : Nat} {v : Value} {k : Nat} {xs : List Value} (h : W.ownsRow base e size v k xs) : ∀ (j : Nat) (o : Obj), v.ownBlock = some j → W.heap[j]? = some o → o.isWalk = false := by
  intro j o hj ho
  rcases h.2 with ⟨rfl, _⟩ | ⟨g, cap, cur, rfl, _, hgb, _⟩
  · simp [Value.ownBlock] at hj
  · have : g = j := by simpa [Value.ownBlock] using hj
    subst this; rw [hgb] at ho; cases ho; rfl
def encBlk (x : Blk) : Value := .agg (blkA x)
def apAssign : Code := Code.region 2 #[{ dst := some 5, op := Op.alloc 53, type := 0, pos := "iter.go:51", after := #[], guard := none }, { dst := none, op := Op.store 53 (Operand.tmp 5) (Operand.tmp 7), type := 0, pos := "iter.go:51", after := #[{ on := 0, ground := Ground.data }, { on := 0, ground := Ground.phase }], guard := none }] false
def apBody : Code := Code.block 1 (Code.region 3 #[{ dst := some 8, op := Op.load 45 (Operand.tmp 2), type := 45, pos := "iter.go:52", after := #[], guard := none }, { dst := some 9, op := Op.load 53 (Operand.tmp 5), type := 53, pos := "iter.go:52", after := #[], guard := none }, { dst := some 10, op := Op.buildSlice 45 1 #[(0, Operand.tmp 9)], type := 45, pos := "iter.go:52", after := #[{ on := 1, ground := Ground.data }], guard := none }, { dst := some 11, op := Op.call { callee := Callee.builtin Builtin.append, args := #[Operand.tmp 8, Operand.tmp 10], argTypes := #[45, 45] }, type := 45, pos := "iter.go:52", after := #[{ on := 0, ground := Ground.data }, { on := 2, ground := Ground.data }], guard := none }, { dst := none, op := Op.store 45 (Operand.tmp 2) (Operand.tmp 11), type := 0, pos := "iter.go:52", after := #[{ on := 3, ground := Ground.data }, { on := 3, ground := Ground.chain }, { on := 0, ground := Ground.phase }, { on := 1, ground := Ground.phase }, { on := 2, ground := Ground.phase }, { on := 3, ground := Ground.phase }], guard := none }] false)
/-- The loop's record. -/
def apRec (fn : FuncId) (sv : Value) (Bs D : Nat) (st : LoopState) (pend : Option Code) : Loop :=
  { state := st, pending := pend, fn, tmps := #[.slice none 0 0, sv, .pointer (some ⟨Bs, 0, none⟩), undef, .slice none 0 0, undef, sv, undef, undef, undef, undef, undef, undef], params := #[7], assign := apAssign, body := apBody, defers := D }
/-- Between two rounds. -/
structure ApAt (w0 : World) (fn : FuncId) (sv : Value) (Bs l D : Nat) (ss : List Blk) (W : World) : Prop where
  box : ∃ v, W.heap[Bs]? = some (.cells #[v] 45 (0, 0)) ∧ W.ownsRow w0.heap.size 53 4 v ss.length (blkCells ss) ∧ (v = .slice none 0 0 ↔ ss = [])
  L : W.heap[l]? = some (.loop (apRec fn sv Bs D .ready none))
  K : W.heap[D]? = some (.deferred (some []))
  below : Below w0.heap.size w0 W
theorem ap_abides (w0 : World) (fn : FuncId) (sv : Value) (Bs l D B : Nat) (hB : w0.heap.size ≤ B) : AbidesFrom B (ApAt w0 fn sv Bs l D) := fun s W W' row h hg hrow => by
  have hrow' : ∀ r, row = some r → ∃ o : Obj, W.heap[r]? = some o ∧ o.isWalk = true := fun r e => (hrow r e).2
  obtain ⟨v, hv, hr, hn⟩ := h.box
  exact ⟨⟨v, (grownBy_keeps hg hrow' hv rfl).trans hv, row_abides hr hg hrow', hn⟩, (grownBy_keeps hg hrow' h.L rfl).trans h.L, (grownBy_keeps hg hrow' h.K rfl).trans h.K,
    h.below.grown hg h.below.size (fun k e => Nat.le_trans hB (hrow k e).1)⟩
set_option maxRecDepth 100000 in
set_option maxHeartbeats 2000000 in
theorem ap_yield (F : Fence) (m : Nat) (w0 : World) (fn : FuncId) (hfn : F.fn fn) (sv : Value) (Bs l D : Nat) (hBl : Bs ≠ l) (hDl : D ≠ l) (hDB : D ≠ Bs) (h0B : w0.heap.size ≤ Bs) (h0l : w0.heap.size ≤ l)
    (N : Nat) (hN : N ≤ 6000) (ss : List Blk) (x : Blk) (W : World) (h : ApAt w0 fn sv Bs l D ss W) (hlen : ss.length < N) :
    YieldAt F m Tryz.prog l #[encBlk x] W fun e W' => e = .returned (.bool true) ∧ ApAt w0 fn sv Bs l D (ss ++ [x]) W' ∧ KeepsWalks W W' := by
  have hne : (45 : TypeId) ≠ 53 := by decide
  obtain ⟨i0, hi, hz0, hz1, hz2⟩ := info_parts info_blk
  obtain ⟨v, hv, hrow, _⟩ := h.box
  refine ⟨fn, #[.slice none 0 0, sv, .pointer (some ⟨Bs, 0, none⟩), undef, .slice none 0 0, undef, sv, encBlk x, undef, undef, undef, undef, undef], apAssign, apBody, by simpa [apRec] using run_yield (P := Tryz.prog) (args := #[encBlk x]) h.L rfl, roundIn_of_wpIn hfn ?_⟩
  have hl0 : l < W.heap.size := (Array.getElem?_eq_some_iff.1 h.L).1
  have hBlt0 : Bs < W.heap.size := (Array.getElem?_eq_some_iff.1 hv).1
  have hDlt0 : D < W.heap.size := (Array.getElem?_eq_some_iff.1 h.K).1
  obtain ⟨W1, hW1⟩ : ∃ W1, W.alloc (.cells #[.int .u32 x.pc, .int .i64 x.len, .int .i64 x.built, .int .i64 x.entered] 53) = W1 := ⟨_, rfl⟩
  have hL1 : W1.heap[l]? = some (.loop (apRec fn sv Bs D .ready none)) := by rw [← hW1]; exact heap_alloc_old' _ h.L
  have hv1 : W1.heap[Bs]? = some (.cells #[v] 45 (0, 0)) := by rw [← hW1]; exact heap_alloc_old' _ hv
  have hK1 : W1.heap[D]? = some (.deferred (some [])) := by rw [← hW1]; exact heap_alloc_old' _ h.K
  have hx1 : W1.heap[W.heap.size]? = some (.cells #[.int .u32 x.pc, .int .i64 x.len, .int .i64 x.built, .int .i64 x.entered] 53 (0, 0)) := by rw [← hW1]; exact heap_alloc_new W _
  have hrow1 : W1.ownsRow w0.heap.size 53 4 v ss.length (blkCells ss) := by rw [← hW1]; exact hrow.alloc _
  have hb1 : Below w0.heap.size w0 W1 := by rw [← hW1]; exact h.below.alloc h.below.size _
  have hk1 : KeepsWalks W W1 := by rw [← hW1]; exact KeepsWalks.alloc _ _
  have hl : l < W1.heap.size := (Array.getElem?_eq_some_iff.1 hL1).1
  have hbr := run_beginRound (P := Tryz.prog) hL1 rfl
  obtain ⟨W2, hW2⟩ : ∃ W2, W1.putObj l (.loop { apRec fn sv Bs D .ready none with state := .busy }) = W2 := ⟨_, rfl⟩
  rw [hW2] at hbr
  have hg2 : W1.grownBy W2 (some l) := by rw [← hW2]; exact grown_put _ _ _
  have hk2 : KeepsWalks W W2 := by rw [← hW2]; exact hk1.trans (KeepsWalks.putObj _ hL1 rfl)
  have hv2 : W2.heap[Bs]? = some (.cells #[v] 45 (0, 0)) := by rw [← hW2]; exact (World.putObj_heap_other hBl).trans hv1
  have hK2 : W2.heap[D]? = some (.deferred (some [])) := by rw [← hW2]; exact (World.putObj_heap_other hDl).trans hK1
  have hx2 : W2.heap[W.heap.size]? = some (.cells #[.int .u32 x.pc, .int .i64 x.len, .int .i64 x.built, .int .i64 x.entered] 53 (0, 0)) := by rw [← hW2]; exact (World.putObj_heap_other (by omega)).trans hx1
  have hL2 : W2.heap[l]? = some (.loop { apRec fn sv Bs D .ready none with state := .busy }) := by rw [← hW2]; exact World.putObj_heap_same hl
  have hrow2 : W2.ownsRow w0.heap.size 53 4 v ss.length (blkCells ss) := hrow1.kept hg2 (row_ne hrow1 hL1 (fun cur e => by first | cases e | exact hne (Obj.cells.inj e).2.1))
  have hb2 : Below w0.heap.size w0 W2 := hb1.grown hg2 hb1.size (fun k e => by cases e; exact h0l)
  obtain ⟨hc2, hf2⟩ := cell_box hv2
  have hBlt : Bs < W2.heap.size := (Array.getElem?_eq_some_iff.1 hv2).1
  have hl2 : l < W2.heap.size := (Array.getElem?_eq_some_iff.1 hL2).1
  have hDlt : D < W2.heap.size := (Array.getElem?_eq_some_iff.1 hK2).1
  have hxlt : W.heap.size < W2.heap.size := heap_lt hx2
  have x0 : W2.cell? ⟨W.heap.size, 0, none⟩ = some (.int .u32 x.pc) := cell_of_row W2 _ 0 _ _ _ hx2
  have x1 : W2.cell? ⟨W.heap.size, 1, none⟩ = some (.int .i64 x.len) := cell_of_row W2 _ 1 _ _ _ hx2
  have x2 : W2.cell? ⟨W.heap.size, 2, none⟩ = some (.int .i64 x.built) := cell_of_row W2 _ 2 _ _ _ hx2
  have x3 : W2.cell? ⟨W.heap.size, 3, none⟩ = some (.int .i64 x.entered) := cell_of_row W2 _ 3 _ _ _ hx2
  have ne_of : ∀ {j : Nat} {o : Obj}, W2.heap[j]? = some o → (∀ cur, o ≠ .cells cur 53 (0, 0)) → some j ≠ v.ownBlock := fun hj hno => by
    rcases row_ne hrow2 hj hno with e | e
    · rw [e]; simp
    · exact fun e' => e e'.symm
  clear hW2
  unfold apAssign encBlk blkA
  gi_wp2_with (rw [Oper.semAt_eq _ _ _ (fun c h => by cases h)]; go_simp; try go_bits)
  clear hW1
  unfold apBody
  gi_wp2_with (first
    | (gi_at_builtin; refine wpListIn_append_own _ rfl _ _ 45 rfl w0.heap.size 53 i0 (.agg #[.int .u32 0, .int .i64 0, .int .i64 0, .int .i64 0]) 4 32 Tryz.underlying45 hi hz0 hz1 hz2 rfl (by decide) _ _ _ rfl (hrow2.alloc _) ⟨W2.heap.size, 0, none⟩ 1 1 (blkCells [x]) rfl rfl (World.news_of_block (heap_alloc_new W2 (.cells #[.int .u32 x.pc, .int .i64 x.len, .int .i64 x.built, .int .i64 x.entered] 53))) (blk_one _) (by unfold maxLen; omega) (by omega) (by have := hb2.size; simp; omega) ?_; intro v' w3 hown' hg3 hnil3
       have hv3 : w3.heap[Bs]? = some (.cells #[v] 45 (0, 0)) := (hg3.block Bs (by simp; omega) (ne_of hv2 (fun cur e => by first | cases e | exact hne (Obj.cells.inj e).2.1))).trans (heap_alloc_old' _ hv2)
       obtain ⟨hc3, hf3⟩ := cell_box hv3
       obtain ⟨g', cap', cur', rfl, hbase', hgb', hr1, hr2, hr3, hr4⟩ : ∃ g' cap' cur', v' = .slice (some ⟨g', 0, none⟩) (ss.length + 1) cap' ∧ w0.heap.size ≤ g' ∧ w3.heap[g']? = some (.cells cur' 53 (0, 0)) ∧ ss.length + 1 ≤ cap' ∧ cap' ≤ maxLen ∧ cur'.size = cap' * 4 ∧ cur'.toList.take ((ss.length + 1) * 4) = blkCells ss ++ blkCells [x] := by
         rcases hown'.2 with ⟨_, h0⟩ | h'
         · exact absurd h0 (by omega)
         · exact h')
    | (rw [Oper.semAt_eq _ _ _ (fun c h => by cases h)]; go_simp; try go_bits))
  have hg3' : (W2.alloc (.cells #[.int .u32 x.pc, .int .i64 x.len, .int .i64 x.built, .int .i64 x.entered] 53)).grownBy w3 v.ownBlock := hg3
  have hL3 : w3.heap[l]? = some (.loop { apRec fn sv Bs D .ready none with state := .busy }) := (hg3'.block l (by simp; omega) (ne_of hL2 (fun cur e => by first | cases e | exact hne (Obj.cells.inj e).2.1))).trans (heap_alloc_old' _ hL2)
  have hK3 : w3.heap[D]? = some (.deferred (some [])) := (hg3'.block D (by simp; omega) (ne_of hK2 (fun cur e => by first | cases e | exact hne (Obj.cells.inj e).2.1))).trans (heap_alloc_old' _ hK2)
  obtain ⟨w4, hw4⟩ : ∃ w4, w3.setCell ⟨Bs, 0, none⟩ (.slice (some ⟨g', 0, none⟩) (ss.length + 1) cap') = w4 := ⟨_, rfl⟩
  rw [hw4]
  have hg4 : w3.grownBy w4 (some Bs) := by rw [← hw4]; exact grown_set0 _ _ _
  have hv4 : w4.heap[Bs]? = some (.cells #[.slice (some ⟨g', 0, none⟩) (ss.length + 1) cap'] 45 (0, 0)) := by rw [← hw4]; exact set_box _ hv3
  have hL4 : w4.heap[l]? = some (.loop { apRec fn sv Bs D .ready none with state := .busy }) := (hg4.block l (Array.getElem?_eq_some_iff.1 hL3).1 (fun e => hBl (by cases e; rfl))).trans hL3
  have hK4 : w4.heap[D]? = some (.deferred (some [])) := (hg4.block D (Array.getElem?_eq_some_iff.1 hK3).1 (fun e => hDB (by cases e; rfl))).trans hK3
  have hrow4 := hown'.kept hg4 (row_ne hown' hv3 (fun cur e => by first | cases e | exact hne (Obj.cells.inj e).2.1))
  have hl4 : l < w4.heap.size := (Array.getElem?_eq_some_iff.1 hL4).1
  have hb3 : Below w0.heap.size w0 w3 := (hb2.alloc hb2.size _).grown hg3' (by have := hb2.size; simp; omega) (fun k e => (hrow2.lt k e).1)
  have hb4 : Below w0.heap.size w0 w4 := hb3.grown hg4 hb3.size (fun k e => by cases e; exact h0B)
  have hk4 : KeepsWalks W w4 := ((hk2.trans (KeepsWalks.alloc _ _)).trans (KeepsWalks.of_grownBy hg3' (row_no_walk (hrow2.alloc _)))).trans (by rw [← hw4]; exact KeepsWalks.setCell _ _ _)
  clear hw4
  refine ⟨_, _, run_endRound none hL4, rfl, ⟨⟨_, (World.putObj_heap_other hBl).trans hv4, ?_, by simp⟩, World.putObj_heap_same hl4, (World.putObj_heap_other hDl).trans hK4, hb4.grown (grown_put _ _ _) hb4.size (fun k e => by cases e; exact h0l)⟩, hk4.trans (KeepsWalks.putObj _ hL4 rfl)⟩
  have := hrow4.kept (grown_put w4 l (.loop { { apRec fn sv Bs D .ready none with state := .busy } with state := if (none : Option Code).isNone then .ready else .done, pending := none })) (row_ne hrow4 hL4 (fun cur e => by first | cases e | exact hne (Obj.cells.inj e).2.1))
  rw [← blkCells_app] at this
  simpa using this
/-- What the collecting comes to. -/
def GotP (S : List Blk → Prop) (w : World) (e : Ending) (w' : World) : Prop := ∃ (v : Value) (ss : List Blk), e = .returned v ∧ S ss ∧ w'.ownsRow w.heap.size 53 4 v ss.length (blkCells ss) ∧ (v = .slice none 0 0 ↔ ss = []) ∧ Below w.heap.size w w'
set_option maxRecDepth 100000 in
set_option maxHeartbeats 2000000 in
theorem append_seq (F : Fence) (n : Nat) (h11 : F.fn 91) (hro : F.round = none) (hn : 2 ≤ n) (g : Nat) (lb : Array Value) (hFg : F.fn g) (eg : ∀ args w, (callFunc g args).run Tryz.prog w = .ok (.enter g args) w)
    (S : List Blk → Prop) (N : Nat) (hN : N ≤ 6000) (w : World) (hseq : SeqGives F (n - 1) Tryz.prog g lb encBlk S N w) :
    CallsIn F n Tryz.prog 91 #[.slice none 0 0, .func (.func g) #[] lb] w (GotP S w) := by
  have h1 : 1 ≤ n := by omega
  have hne : (45 : TypeId) ≠ 53 := by decide
  refine callsIn_of_wp_marks Tryz.func91 rfl h11 ?_ hro
  simp only [Tryz.ntmps91, List.size_toArray, List.length_cons, List.length_nil, Nat.reduceAdd, Nat.reduceSub, Array.replicate_succ, Array.replicate_zero, List.push_toArray, List.append_toArray, List.nil_append, List.cons_append]
  gi_wp2
  refine wpIn_rangeFunc ?_
  intro fn hfn
  rw [hro]
  obtain ⟨W0, hW0⟩ : ∃ W0, w.alloc (.cells #[.slice none 0 0] 45) = W0 := ⟨_, rfl⟩
  have hs0 : W0.heap.size = w.heap.size + 1 := by rw [← hW0]; simp
  have hv0 : W0.heap[w.heap.size]? = some (.cells #[.slice none 0 0] 45 (0, 0)) := by rw [← hW0]; exact World.alloc_heap_new w _
  have hb0 : Below w.heap.size w W0 := by rw [← hW0]; exact (Below.refl _ w).alloc (Nat.le_refl _) _
  rw [hW0]
  obtain ⟨W1, hW1⟩ : ∃ W1, (W0.alloc (.deferred (some []))).alloc (.loop (apRec fn (.func (.func g) #[] lb) w.heap.size W0.heap.size .ready none)) = W1 := ⟨_, rfl⟩
  have hold : ∀ k, k < W0.heap.size → W1.heap[k]? = W0.heap[k]? := fun k hk => by
    rw [← hW1]; exact (Below.heap_alloc _ _ k (by simp; omega)).trans (Below.heap_alloc _ _ k hk)
  have hb1 : Below w.heap.size w W1 := by rw [← hW1]; exact (hb0.alloc hb0.size _).alloc (by have := hb0.size; simp; omega) _
  have hs1 : W1.heap.size = W0.heap.size + 2 := by rw [← hW1]; simp
  have hM : ApAt w fn (.func (.func g) #[] lb) w.heap.size (W0.heap.size + 1) W0.heap.size [] W1 :=
    ⟨⟨_, (hold w.heap.size (by omega)).trans hv0, ⟨rfl, .inl ⟨rfl, rfl⟩⟩, by simp⟩,
     by rw [← hW1]; have := World.alloc_heap_new (W0.alloc (.deferred (some []))) (.loop (apRec fn (.func (.func g) #[] lb) w.heap.size W0.heap.size .ready none)); rwa [World.size_alloc] at this,
     by rw [← hW1]; exact (Below.heap_alloc _ _ _ (by simp)).trans (World.alloc_heap_new W0 _), hb1⟩
  refine ⟨W0.heap.size + 1, [{ target := .collected W0.heap.size, args := #[] }], W1, { target := .fn (.func g) lb, args := #[.func (.yield (W0.heap.size + 1)) #[] #[]] }, W1, g,
    #[.func (.yield (W0.heap.size + 1)) #[] #[]] ++ lb, W1, ?_, ?_, ?_, ?_, fun _ => h1, ?_⟩
  · rw [← hW1]; exact run_enterLoop_outer _ _ _ _ _
  · simp [resolve, go_sem]
  · intro f' hf'; simp [Target.leads] at hf'; subst hf'; exact hFg
  · simp [invoke, go_sem, eg]
  · refine (hseq (W0.heap.size + 1) (ApAt w fn (.func (.func g) #[] lb) w.heap.size (W0.heap.size + 1) W0.heap.size) W1 hb1 (ap_abides _ _ _ _ _ _ _ hb1.size)
      (fun pre x W hJ hl => ap_yield F (n - 1 - 1) w fn hfn _ w.heap.size (W0.heap.size + 1) W0.heap.size (by omega) (by omega) (by omega) (Nat.le_refl _) (by omega) N hN pre x W hJ hl) hM).mono ?_
    rintro e W2 ⟨⟨v0, rfl⟩, ss, hS, h2⟩
    obtain ⟨v, hv, hrow, hnil⟩ := h2.box
    have hend := run_endLoop (P := Tryz.prog) h2.L (by simp [apRec])
    obtain ⟨W3, hW3⟩ : ∃ W3, W2.putObj (W0.heap.size + 1) (.loop { apRec fn (.func (.func g) #[] lb) w.heap.size W0.heap.size .ready none with state := .exhausted }) = W3 := ⟨_, rfl⟩
    rw [hW3] at hend
    have hg3 : W2.grownBy W3 (some (W0.heap.size + 1)) := by rw [← hW3]; exact grown_put _ _ _
    have hv3 : W3.heap[w.heap.size]? = some (.cells #[v] 45 (0, 0)) := by rw [← hW3]; exact (World.putObj_heap_other (by omega)).trans hv
    have hK3 : W3.heap[W0.heap.size]? = some (.deferred (some [])) := by rw [← hW3]; exact (World.putObj_heap_other (by omega)).trans h2.K
    have hrow3 := hrow.kept hg3 (row_ne hrow h2.L (fun cur e => by first | cases e | exact hne (Obj.cells.inj e).2.1))
    have hb3 : Below w.heap.size w W3 := h2.below.grown hg3 h2.below.size (fun k e => by cases e; omega)
    obtain ⟨hc3, hf3⟩ := cell_box hv3
    clear hW3
    refine ⟨none, W3, hend, ?_⟩
    gi_wp2
    rw [← hs0]
    refine ⟨by simp, .inl ⟨_, _, rfl, run_takeDeferred hK3, ?_⟩⟩
    exact ⟨_, results_tmp rfl _ _ _, v, ss, rfl, hS, hrow3.kept (grown_put _ _ _) (row_ne hrow3 hK3 (fun cur e => by first | cases e | exact hne (Obj.cells.inj e).2.1)), hnil, hb3.grown (grown_put _ _ _) hb3.size (fun k e => by cases e; omega)⟩
set_option maxHeartbeats 1000000 in
theorem collect_seq (F : Fence) (n : Nat) (h8 : F.fn 83) (h11 : F.fn 91) (hro : F.round = none) (hn : 3 ≤ n) (g : Nat) (lb : Array Value) (hFg : F.fn g) (eg : ∀ args w, (callFunc g args).run Tryz.prog w = .ok (.enter g args) w)
    (S : List Blk → Prop) (N : Nat) (hN : N ≤ 6000) (w : World) (hseq : SeqGives F (n - 1 - 1) Tryz.prog g lb encBlk S N w) :
    CallsIn F n Tryz.prog 83 #[.func (.func g) #[] lb] w (GotP S w) := by
  have h1 : 1 ≤ n := by omega
  refine callsIn_of_wp Tryz.func83 rfl h8 ?_ hro
  simp only [Tryz.ntmps83, List.size_toArray, List.length_cons, List.length_nil, Nat.reduceAdd, Nat.reduceSub, Array.replicate_succ, Array.replicate_zero, List.push_toArray, List.append_toArray, List.nil_append, List.cons_append]
  gi_wp2_with (gi_at_call 91; refine (append_seq F (n - 1) h11 hro (by omega) g lb hFg eg S N hN _ hseq).mono ?_; rintro e w' ⟨v, ss, rfl, hS, hrow, hnil, hb⟩)
  go_ret
  exact ⟨v, ss, rfl, hS, hrow, hnil, hb⟩
end Go.Proofs.YtanccjaikocefaaGreatDoor
namespace Go.Proofs.YtanccjaikocefaaGreatDoor
open Go.ChangeShapes Go.WideShapes Go.ChangeAt Go.RowKit Go.Maps Go.Sort Go.Shelf
set_option linter.unusedVariables false

theorem blkR_form (v : Value) (y : DataW Unit × List MemPlace) (h : blkR v = some y) : ∃ c, v = encBlk c := by
  unfold blkR at h
  split at h
  · rename_i cs
    split at h
    · rename_i p l u e hc
      exact ⟨⟨p, l, u, e⟩, by unfold encBlk blkA; congr 1; exact Array.ext' hc⟩
    · cases h
  · cases h
theorem encBlk_D (c : Blk) (y : DataW Unit × List MemPlace) (h : blkR (encBlk c) = some y) : y = (blkD c, []) := by
  rw [show blkR (encBlk c) = some (blkD c, []) from rfl] at h
  exact (Option.some.inj h).symm
theorem blkD_inj {a b : Blk} (h : blkD a = blkD b) : a = b := by
  obtain ⟨a1, a2, a3, a4⟩ := a
  obtain ⟨b1, b2, b3, b4⟩ := b
  simp only [blkD, DataW.agg.injEq, List.cons.injEq, DataW.lit.injEq, Lit.int.injEq, true_and, and_true] at h
  obtain ⟨h1, h2, h3, h4⟩ := h
  subst h1 h2 h3 h4
  rfl
/-- The keys met so far. -/
def CollB (D0 : DataW Unit) (left : Lit → Bool) (ss : List Int) : Prop := ss.Nodup ∧ ∀ x, x ∈ ss ↔ (has D0 (.int .u32 x) = true ∧ left (.int .u32 x) = false)
theorem CollB.start (D0 : DataW Unit) : CollB D0 (has D0) [] := ⟨List.nodup_nil, fun x => by cases has D0 (.int .u32 x) <;> simp⟩
theorem CollB.step {D0 : DataW Unit} {left : Lit → Bool} {ss : List Int} (h : CollB D0 left ss) {x : Int} {y : DataW Unit} (hlk : left (.int .u32 x) = true) (hat : ∀ zd, D0.atKey (.int .u32 x) zd = y) : CollB D0 (fun z => left z && !z.sameKey (.int .u32 x)) (ss ++ [x]) := by
  have hhas : has D0 (.int .u32 x) = true := has_true_of_atKey hat
  have hnew : x ∉ ss := fun hx => by have := ((h.2 x).1 hx).2; rw [hlk] at this; cases this
  refine ⟨List.nodup_append.2 ⟨h.1, by simp, fun a ha b hb => by simp at hb; subst hb; exact fun e => hnew (e ▸ ha)⟩, fun y => ?_⟩
  by_cases hy : y = x
  · subst hy; simp [hhas, Lit.sameKey]
  · simp [h.2 y, hy, Lit.sameKey]
theorem has_blks (l : List Blk) (x : Int) : has (blksD l) (.int .u32 x) = true ↔ ∃ z ∈ l, z.pc = x := by
  unfold blksD
  rw [has_eq, List.any_map]
  simp [blkE, Lit.sameKey, List.any_eq_true]
theorem at_val (l : List Blk) (x : Int) (c : Blk) (h : ∀ zd, (blksD l).atKey (.int .u32 x) zd = blkD c) : c = blkAt l x := by
  have := h (blkD ⟨0, 0, 0, 0⟩)
  rw [at_blks] at this
  exact (blkD_inj this).symm
theorem blkAt_pc (l : List Blk) (x : Int) (h : ∃ z ∈ l, z.pc = x) : blkAt l x ∈ l ∧ (blkAt l x).pc = x := by
  unfold blkAt
  cases hf : l.find? (fun y => y.pc == x) with
  | none =>
    obtain ⟨z, hz, hx⟩ := h
    have := List.find?_eq_none.1 hf z hz
    simp [hx] at this
  | some y =>
    have h1 := List.mem_of_find?_eq_some hf
    have h2 := List.find?_some hf
    exact ⟨h1, by simpa using h2⟩
theorem nodup_map {α β : Type} (f : α → β) {l : List α} (h : (l.map f).Nodup) : l.Nodup := by
  unfold List.Nodup at *
  rw [List.pairwise_map] at h
  exact h.imp (fun hab e => hab (congrArg f e))
theorem rising_nodup {l : List Blk} (h : Rising l) : (l.map (·.pc)).Nodup := by
  unfold List.Nodup
  rw [List.pairwise_map]
  exact h.imp (fun hab => by omega)
theorem blkAt_self {l : List Blk} (h : Rising l) {z : Blk} (hz : z ∈ l) : blkAt l z.pc = z := by
  obtain ⟨h1, h2⟩ := blkAt_pc l z.pc ⟨z, hz, rfl⟩
  have hn := rising_nodup h
  obtain ⟨i, hi⟩ := List.mem_iff_getElem?.1 h1
  obtain ⟨j, hj⟩ := List.mem_iff_getElem?.1 hz
  have hij : i = j := by
    obtain ⟨hi1, hi2⟩ := List.getElem?_eq_some_iff.1 hi
    obtain ⟨hj1, hj2⟩ := List.getElem?_eq_some_iff.1 hj
    refine (List.getElem_inj (xs := l.map (fun z : Blk => z.pc)) (h₀ := by simpa using hi1) (h₁ := by simpa using hj1) hn).1 ?_
    simp only [List.getElem_map]
    rw [hi2, hj2, h2]
  subst hij
  rw [hi] at hj
  exact Option.some.inj hj
/-- All that came. -/
theorem vals_perm {l : List Blk} (h : Rising l) {ps : List (Int × Blk)} (hc : CollB (blksD l) (fun _ => false) (ps.map (·.1))) (hv : ∀ p ∈ ps, p.2 = blkAt l p.1) : (ps.map (·.2)).Perm l := by
  have hmem : ∀ p ∈ ps, ∃ z ∈ l, z.pc = p.1 := fun p hp => (has_blks l p.1).1 ((hc.2 p.1).1 (List.mem_map_of_mem hp)).1
  have hpc : (ps.map (·.2)).map (·.pc) = ps.map (·.1) := by
    rw [List.map_map]
    refine List.map_congr_left (fun p hp => ?_)
    show p.2.pc = p.1
    rw [hv p hp]
    exact (blkAt_pc l p.1 (hmem p hp)).2
  have hn1 : (ps.map (·.2)).Nodup := by
    have := hc.1
    rw [← hpc] at this
    exact nodup_map _ this
  have hn2 : l.Nodup := nodup_map _ (rising_nodup h)
  rw [List.perm_ext_iff_of_nodup hn1 hn2]
  intro z
  constructor
  · intro hz
    obtain ⟨p, hp, rfl⟩ := List.mem_map.1 hz
    rw [hv p hp]
    exact (blkAt_pc l p.1 (hmem p hp)).1
  · intro hz
    have : z.pc ∈ ps.map (·.1) := (hc.2 z.pc).2 ⟨(has_blks l z.pc).2 ⟨z, hz, rfl⟩, rfl⟩
    obtain ⟨p, hp, he⟩ := List.mem_map.1 this
    refine List.mem_map.2 ⟨p, hp, ?_⟩
    rw [hv p hp]
    have he' : p.1 = z.pc := he
    rw [he']
    exact blkAt_self h hz
set_option maxRecDepth 100000 in
set_option maxHeartbeats 2000000 in
/-- The iterator that maps.Values hands back. -/
theorem values_gives (F : Fence) (n : Nat) (h10 : F.fn 85) (hro : F.round = none) (hn : 1 ≤ n) (Bm b nn : Nat) (l : List Blk) (hri : Rising l) (w : World) (hBm : Bm < w.heap.size) (hm : w.cell? ⟨Bm, 0, none⟩ = some (.map (some b))) (hown0 : SeenIs w b nn l) :
    SeqGives F n Tryz.prog 85 #[.pointer (some ⟨Bm, 0, none⟩)] encBlk (fun ss => ss.Perm l) (Maps.size (blksD l)) w := fun lp J W hW hJ hY h0 => by
  have hown : SeenIs W b nn l := by
    have hbl := hown0.lt
    obtain ⟨es, clock, hb, Ft, hs, hD⟩ := hown0
    exact ⟨es, clock, (hW.block b hbl).trans hb, Ft, hs, hD⟩
  have hm' : W.cell? ⟨Bm, 0, none⟩ = some (.map (some b)) := (hW.cell (p := ⟨Bm, 0, none⟩) hBm).trans hm
  refine callsIn_of_wp Tryz.func85 rfl h10 ?_ hro
  simp only [Tryz.ntmps85, List.size_toArray, List.length_cons, List.length_nil, Nat.reduceAdd, Nat.reduceSub, Array.replicate_succ, Array.replicate_zero, List.push_toArray, List.append_toArray, List.nil_append, List.cons_append]
  gi_wp2_with (first
    | (gi_at_range; refine wpListIn_range_own _ rfl _ 91 rfl 22 53 u32_keyed Tryz.underlying91 _ b nn _ rfl hown ?_; intro w0 hrg0 hg0 hs0)
    | gi_in)
  go_frame
  gi_loopw [4] (fun _ wr => ∃ (left : Lit → Bool) (cnt : Nat) (ps : List (Int × Blk)), wr.ranges Tryz.prog 22 blkR b W.heap.size nn (blksD l) left cnt ∧ ps.length + cnt ≤ Maps.size (blksD l) ∧ CollB (blksD l) left (ps.map (·.1)) ∧ (∀ p ∈ ps, p.2 = blkAt l p.1) ∧ J (ps.map (·.2)) wr)
    (fun _ wr => wr.rangeLeft b W.heap.size)
  case atStart =>
    exact ⟨_, _, [], hrg0, by simp, CollB.start _, by simp, hJ [] W w0 none h0 hg0 (fun r e => by cases e)⟩
  case round =>
    obtain ⟨left, cnt, ps, hrg, hcs, hC, hV, hJs⟩ := hrel
    gi_wp2_with (first
      | (gi_at_next; refine wpListIn_next_ranges _ rfl _ rfl 22 u32_keyed blkR (Value.int .u32) encBlk (fun key kl hk => by obtain ⟨x, hx, _⟩ := Maps.keyOf_int_inv Tryz.underlying22 hk; exact ⟨x, hx⟩) blkR_form b W.heap.size nn _ _ _ rfl hrg ?_ ?_)
      | gi_in)
    · intro hc0 hl0
      gi_wp2
      go_end0
      refine ⟨⟨_, rfl⟩, ps.map (·.2), vals_perm hri ?_ hV, hJs⟩
      have : left = fun _ => false := funext hl0
      rw [← this]
      exact hC
    · intro x c kl yd yp w2 cnt2 hkey hlk hv hat hrg2 hlt hg2 hs2 hen
      obtain ⟨x', ex, rfl, _⟩ := Maps.keyOf_int_inv Tryz.underlying22 hkey
      obtain rfl : x = x' := by simpa using ex
      obtain rfl : yd = blkD c := (Prod.mk.inj (encBlk_D c (yd, yp) hv)).1
      have hval := at_val l x c hat
      have HVAL := Lib.hid hval
      clear hval
      have hJ2 : J (ps.map (·.2)) w2 := hJ _ wr w2 (some W.heap.size) hJs hg2 (fun r e => by cases e; exact ⟨Nat.le_refl _, hrg.iter_walk⟩)
      obtain ⟨W3, hW3⟩ : ∃ W3, w2.alloc (.cells (blkA c) 53) = W3 := ⟨_, rfl⟩
      have hgA : w2.grownBy W3 none := by rw [← hW3]; exact World.grownBy_alloc _ _ _
      have hJ3 : J (ps.map (·.2)) W3 := hJ _ w2 W3 none hJ2 hgA (fun r e => by cases e)
      have hrg3 : W3.ranges Tryz.prog 22 blkR b W.heap.size nn (blksD l) (fun z => left z && !z.sameKey (.int .u32 x)) cnt2 := by rw [← hW3]; exact hrg2.of_walks (KeepsWalks.alloc _ _)
      have hx3 : W3.heap[w2.heap.size]? = some (.cells (blkA c) 53 (0, 0)) := by rw [← hW3]; exact heap_alloc_new w2 _
      have k0 : W3.cell? ⟨w2.heap.size, 0, none⟩ = some (.int .u32 c.pc) := cell_of_row W3 _ 0 _ _ _ hx3
      have k1 : W3.cell? ⟨w2.heap.size, 1, none⟩ = some (.int .i64 c.len) := cell_of_row W3 _ 1 _ _ _ hx3
      have k2 : W3.cell? ⟨w2.heap.size, 2, none⟩ = some (.int .i64 c.built) := cell_of_row W3 _ 2 _ _ _ hx3
      have k3 : W3.cell? ⟨w2.heap.size, 3, none⟩ = some (.int .i64 c.entered) := cell_of_row W3 _ 3 _ _ _ hx3
      obtain ⟨fn, tmps, assign, body, hy, hR⟩ := hY (ps.map (·.2)) c W3 hJ3 (by simp; omega)
      unfold encBlk blkA at hy hen
      unfold blkA at hW3
      clear hs2
      unfold encBlk blkA
      gi_wp2
      refine hR.mono ?_
      have hC2 : CollB (blksD l) (fun z => left z && !z.sameKey (.int .u32 x)) ((ps ++ [(x, c)]).map (·.1)) := by simpa using hC.step hlk hat
      have hV2 : ∀ p ∈ ps ++ [(x, c)], p.2 = blkAt l p.1 := fun p hp => (List.mem_append.1 hp).elim (hV p) (fun e => by simp at e; subst e; exact HVAL.out)
      rintro e W4 ⟨rfl, hJ4, hk4⟩
      gi_wp2
      have hrg4 := hrg3.of_walks hk4
      go_roundw
      case rel => exact ⟨_, cnt2, ps ++ [(x, c)], hrg4, by simp; omega, hC2, hV2, by simpa using hJ4⟩
      case measure => rw [hrg4.left_eq, hrg.left_eq]; exact hlt
end Go.Proofs.YtanccjaikocefaaGreatDoor
namespace Go.Proofs.YtanccjaikocefaaGreatDoor
open Go.Proofs
open Go.Shelf
def sortBlk_ren : Go.Shelf.Ren := ⟨fun | 6 => 84 | 15 => 93 | 14 => 92 | 28 => 103 | 29 => 104 | 20 => 95 | 21 => 96 | 22 => 97 | 23 => 98 | 24 => 99 | 25 => 100 | 26 => 101 | 27 => 102 | 46 => 105 | 47 => 106 | 48 => 107 | 49 => 108 | 50 => 109 | 57 => 110 | n => n, fun | 22 => 45 | 24 => 53 | 25 => 117 | 3 => 3 | 39 => 56 | 0 => 0 | 53 => 22 | 55 => 60 | 4 => 4 | 46 => 149 | 45 => 148 | 50 => 153 | 5 => 5 | 9 => 9 | 66 => 157 | 70 => 161 | 76 => 163 | 77 => 164 | n => n, fun n => n⟩
theorem sortBlk : Go.Proofs.SlLaysF0.n6 Tryz.prog sortBlk_ren := {
  mixed := by kernel_rfl
  f6 := ⟨Tryz.f84.name, by decide, Tryz.func84.trans (congrArg some (by kernel_rfl))⟩
  f14 := ⟨Tryz.f92.name, by decide, Tryz.func92.trans (congrArg some (by kernel_rfl))⟩
  f15 := Tryz.func93.trans (congrArg some (by kernel_rfl))
  f20 := ⟨Tryz.f95.name, by decide, Tryz.func95.trans (congrArg some (by kernel_rfl))⟩
  f21 := ⟨Tryz.f96.name, by decide, Tryz.func96.trans (congrArg some (by kernel_rfl))⟩
  f22 := ⟨Tryz.f97.name, by decide, Tryz.func97.trans (congrArg some (by kernel_rfl))⟩
  f23 := ⟨Tryz.f98.name, by decide, Tryz.func98.trans (congrArg some (by kernel_rfl))⟩
  f24 := ⟨Tryz.f99.name, by decide, Tryz.func99.trans (congrArg some (by kernel_rfl))⟩
  f25 := ⟨Tryz.f100.name, by decide, Tryz.func100.trans (congrArg some (by kernel_rfl))⟩
  f26 := ⟨Tryz.f101.name, by decide, Tryz.func101.trans (congrArg some (by kernel_rfl))⟩
  f27 := ⟨Tryz.f102.name, by decide, Tryz.func102.trans (congrArg some (by kernel_rfl))⟩
  f28 := Tryz.func103.trans (congrArg some (by kernel_rfl))
  f29 := Tryz.func104.trans (congrArg some (by kernel_rfl))
  f46 := ⟨Tryz.f105.name, by decide, Tryz.func105.trans (congrArg some (by kernel_rfl))⟩
  f47 := Tryz.func106.trans (congrArg some (by kernel_rfl))
  f48 := Tryz.func107.trans (congrArg some (by kernel_rfl))
  f49 := ⟨Tryz.f108.name, by decide, Tryz.func108.trans (congrArg some (by kernel_rfl))⟩
  f50 := ⟨Tryz.f109.name, by decide, Tryz.func109.trans (congrArg some (by kernel_rfl))⟩
  f57 := ⟨Tryz.f110.name, by decide, Tryz.func110.trans (congrArg some (by kernel_rfl))⟩
  t0 := Tryz.underlying0
  a0 := Tryz.isAgg0
  z0 := Tryz.sizeOf0
  v0 := Tryz.zeroValue0
  t3 := Tryz.underlying3
  a3 := Tryz.isAgg3
  z3 := Tryz.sizeOf3
  v3 := Tryz.zeroValue3
  t4 := Tryz.underlying4
  a4 := Tryz.isAgg4
  z4 := Tryz.sizeOf4
  v4 := Tryz.zeroValue4
  t5 := Tryz.underlying5
  a5 := Tryz.isAgg5
  z5 := Tryz.sizeOf5
  v5 := Tryz.zeroValue5
  t9 := Tryz.underlying9
  a9 := Tryz.isAgg9
  z9 := Tryz.sizeOf9
  v9 := Tryz.zeroValue9
  t22 := Tryz.underlying45
  a22 := Tryz.isAgg45
  z22 := Tryz.sizeOf45
  v22 := Tryz.zeroValue45
  t25 := Tryz.underlying117
  a25 := Tryz.isAgg117
  z25 := Tryz.sizeOf117
  v25 := Tryz.zeroValue117
  t39 := Tryz.underlying56
  a39 := Tryz.isAgg56
  z39 := Tryz.sizeOf56
  v39 := Tryz.zeroValue56
  t45 := Tryz.underlying148
  a45 := Tryz.isAgg148
  z45 := Tryz.sizeOf148
  v45 := Tryz.zeroValue148
  t46 := Tryz.underlying149
  a46 := Tryz.isAgg149
  z46 := Tryz.sizeOf149
  v46 := Tryz.zeroValue149
  t50 := Tryz.underlying153
  a50 := Tryz.isAgg153
  z50 := Tryz.sizeOf153
  v50 := Tryz.zeroValue153
  t53 := Tryz.underlying22
  a53 := Tryz.isAgg22
  z53 := Tryz.sizeOf22
  v53 := Tryz.zeroValue22
  t55 := Tryz.underlying60
  a55 := Tryz.isAgg60
  z55 := Tryz.sizeOf60
  v55 := Tryz.zeroValue60
  t66 := Tryz.underlying157
  a66 := Tryz.isAgg157
  z66 := Tryz.sizeOf157
  v66 := Tryz.zeroValue157
  t70 := Tryz.underlying161
  a70 := Tryz.isAgg161
  z70 := Tryz.sizeOf161
  v70 := Tryz.zeroValue161
  t76 := Tryz.underlying163
  a76 := Tryz.isAgg163
  z76 := Tryz.sizeOf163
  v76 := Tryz.zeroValue163
  t77 := Tryz.underlying164
  a77 := Tryz.isAgg164
  z77 := Tryz.sizeOf164
  v77 := Tryz.zeroValue164 }
end Go.Proofs.YtanccjaikocefaaGreatDoor
namespace Go.Proofs.YtanccjaikocefaaGreatDoor
open Go.ChangeShapes Go.WideShapes Go.ChangeAt Go.RowKit Go.Sort Go.Shelf
set_option linter.unusedVariables false

instance : Inhabited Blk := ⟨⟨0, 0, 0, 0⟩⟩
def encB (x : Blk) : List Value := [.int .u32 x.pc, .int .i64 x.len, .int .i64 x.built, .int .i64 x.entered]
def cfB (x y : Blk) : Int := Lib.compareInt x.pc y.pc
theorem ltB (x y : Blk) : ltOf cfB x y = decide (x.pc < y.pc) := by
  unfold ltOf cfB Lib.compareInt
  by_cases h1 : x.pc < y.pc
  · simp [h1]
  · by_cases h2 : y.pc < x.pc <;> simp [h1, h2]
theorem swoB : SWO (ltOf cfB) where
  irrefl x := by rw [ltB]; simp
  trans x y z h1 h2 := by rw [ltB] at *; simp at *; omega
  ntrans x y z h1 h2 := by rw [ltB] at *; simp at *; omega
theorem isnan_any (x : Int) (w : World) : Calls Tryz.prog 86 #[.int .u32 x] w fun e w' => e = .returned (.bool false) ∧ w' = w := by
  go_enter Tryz.func86, Tryz.ntmps86
  go_wp2
  go_ret
  exact ⟨by simp, rfl⟩
set_option maxHeartbeats 1000000 in
theorem compare_any (x y : Int) (w : World) : Calls Tryz.prog 69 #[.int .u32 x, .int .u32 y] w fun e w' => e = .returned (.int .i64 (Lib.compareInt x y)) ∧ w' = w := by
  go_enter Tryz.func69, Tryz.ntmps69
  go_wp2_with (go_at_call 86; refine (isnan_any _ _).mono ?_; rintro e w' ⟨rfl, hw⟩; rw [hw])
  all_goals (go_ret; refine ⟨?_, rfl⟩; unfold Lib.compareInt; (repeat' split) <;> first | rfl | (exfalso; omega))
set_option maxHeartbeats 1000000 in
/-- What compares two blocks: it boxes both. -/
theorem seencmp_any (x y : Blk) (W : World) : Calls Tryz.prog 68 #[.agg #[.int .u32 x.pc, .int .i64 x.len, .int .i64 x.built, .int .i64 x.entered], .agg #[.int .u32 y.pc, .int .i64 y.len, .int .i64 y.built, .int .i64 y.entered]] W fun e w' => e = .returned (.int .i64 (cfB x y)) ∧ ∃ q os', w' = grow (W.drewN q) os' := by
  have hcon := fun W' => compare_any x.pc y.pc W'
  unfold cfB
  generalize Lib.compareInt x.pc y.pc = r at hcon ⊢
  go_enter Tryz.func68, Tryz.ntmps68
  go_wp2_with (go_at_call 69; refine (hcon _).mono ?_; rintro e w' ⟨rfl, rfl⟩)
  go_ret
  exact ⟨rfl, 0, _, by rw [alloc_eq_grow, alloc_eq_grow, grow_grow]; rfl⟩
theorem cmpLaysB (blk off size : Nat) (w : World) : CmpLays Tryz.prog 68 #[] encB 4 cfB blk off size w := fun _ _ _ _ x y => seencmp_any x y _
theorem flat_list (l : List Blk) : (flatK encB 4 l.toArray).toList = blkCells l := by
  apply List.ext_getElem?
  intro t
  by_cases ht : t < l.length * 4
  · have hk : t / 4 < l.length := by omega
    have hy : l[t / 4]? = some l[t / 4]! := by rw [getElem!_pos l _ hk]; exact List.getElem?_eq_getElem hk
    obtain ⟨g0, g1, g2, g3⟩ := blkCells_get l (t / 4) _ hy
    have h1 : (flatK encB 4 l.toArray).toList[t]? = some (encB l[t / 4]!)[t % 4]! := by simp [flatK, ht]
    rw [h1]
    have hm : t % 4 = 0 ∨ t % 4 = 1 ∨ t % 4 = 2 ∨ t % 4 = 3 := by omega
    rcases hm with e | e | e | e <;> rw [e]
    · conv => rhs; rw [show t = t / 4 * 4 by omega]
      exact g0.symm
    · conv => rhs; rw [show t = t / 4 * 4 + 1 by omega]
      exact g1.symm
    · conv => rhs; rw [show t = t / 4 * 4 + 2 by omega]
      exact g2.symm
    · conv => rhs; rw [show t = t / 4 * 4 + 3 by omega]
      exact g3.symm
  · rw [List.getElem?_eq_none (by simp; omega), List.getElem?_eq_none (by rw [blkCells_len]; omega)]
theorem holdsB {w : World} {g : Nat} {cur : Array Value} {e : TypeId} {l : List Blk} (hb : w.heap[g]? = some (.cells cur e (0, 0))) (ht : cur.toList.take (l.length * 4) = blkCells l) : HoldsK encB 4 w g 0 l.toArray := by
  intro j hj
  have hj' : j < l.length * 4 := by simpa using hj
  refine ⟨?_, by simp [World.frozen?, hb]⟩
  have h1 : (cur.toList.take (l.length * 4))[j]? = (flatK encB 4 l.toArray).toList[j]? := by rw [ht, flat_list]
  rw [List.getElem?_take_of_lt hj'] at h1
  simp only [World.cell?, hb, Nat.zero_add]
  simp only [Option.isSome_none, Bool.false_eq_true, if_false]
  rw [← Array.getElem?_toList, h1, Array.getElem?_toList, getElem!_pos _ j hj]
  simp
theorem heap_sortB {w : World} {g n : Nat} {os : Array Obj} {cur : Array Value} {e : TypeId} {fr : Nat × Nat} (d : Array Blk) (hb : w.heap[g]? = some (.cells cur e fr)) :
    (sortWorldK encB 4 w g 0 n d os).heap[g]? = some (.cells (putCells id 0 (flatK encB 4 d) cur) e fr) := by
  have hg : g < w.heap.size := (Array.getElem?_eq_some_iff.1 hb).1
  unfold sortWorldK
  rw [heap_grow_old _ _ (by simpa [putRowK] using hg)]
  simp [putRowK, putRow, mapBlock, Sort.ahead, Array.getElem?_modify, hb, onCells]
theorem only_sortB {w : World} {g n : Nat} {os : Array Obj} (d : Array Blk) : Only (· = g) w (sortWorldK encB 4 w g 0 n d os) := by
  refine ⟨rfl, rfl, rfl, by simp [sortWorldK, putRowK], fun k hk hne => ?_⟩
  unfold sortWorldK
  rw [heap_grow_old _ _ (by simpa [putRowK] using hk)]
  have : g ≠ k := fun e => hne e.symm
  simp [putRowK, putRow, mapBlock, Sort.ahead, Array.getElem?_modify, this]
theorem take_sortB (cur : Array Value) (l : List Blk) (h : l.length * 4 ≤ cur.size) : (putCells id 0 (flatK encB 4 l.toArray) cur).toList.take (l.length * 4) = blkCells l := by
  rw [← flat_list]
  apply List.ext_getElem?
  intro j
  by_cases hj : j < l.length * 4
  · rw [List.getElem?_take_of_lt hj, Array.getElem?_toList, Array.getElem?_toList]
    have hs : j < (flatK encB 4 l.toArray).size := by simpa using hj
    rw [Array.getElem?_eq_getElem hs]
    simp [putCells, hj, show j < cur.size by omega]
  · rw [List.getElem?_eq_none (by simp; omega), List.getElem?_eq_none (by simp; omega)]
/-- The sorted row is the blocks by address. -/
theorem sorted_eq {l ss : List Blk} (hri : Rising l) (hp : ss.Perm l) {d' : Array Blk} (h1 : PermIn 0 ss.toArray.size ss.toArray d') (h2 : SortedIn (ltOf cfB) 0 ss.toArray.size d') : d'.toList = l := by
  obtain ⟨hs, _, hperm⟩ := h1
  have hperm' : d'.toList.Perm l := by
    refine List.Perm.trans ?_ hp
    have e1 : d'.extract 0 ss.toArray.size = d' := by rw [← hs]; exact Array.extract_size
    have e2 : ss.toArray.extract 0 ss.toArray.size = ss.toArray := Array.extract_size
    rw [e1, e2] at hperm
    exact hperm
  have hle : d'.toList.Pairwise (fun a c : Blk => a.pc ≤ c.pc) := by
    rw [List.pairwise_iff_getElem]
    intro i j hi hj hij
    have hj' : j < d'.size := by simpa using hj
    have hi' : i < d'.size := by simpa using hi
    have := h2 i j (Nat.zero_le _) hij (by rw [← hs]; exact hj')
    rw [ltB, getElem!_pos d' j hj', getElem!_pos d' i hi'] at this
    simp only [decide_eq_false_iff_not] at this
    simp only [Array.getElem_toList]
    omega
  refine hperm'.eq_of_pairwise ?_ hle (hri.imp (fun h => by omega))
  intro a c ha hc h3 h4
  have ha' : a ∈ l := hperm'.mem_iff.1 ha
  have e : a.pc = c.pc := by omega
  rw [← blkAt_self hri ha', ← blkAt_self hri hc, e]
set_option maxHeartbeats 1000000 in
theorem sort_any (base g cap : Nat) (l ss : List Blk) (hri : Rising l) (hp : ss.Perm l) (hn : ss.length ≤ 6000) (w : World) (hown : w.ownsRow base 53 4 (.slice (some ⟨g, 0, none⟩) ss.length cap) ss.length (blkCells ss)) :
    Calls Tryz.prog 84 #[.slice (some ⟨g, 0, none⟩) ss.length cap, .func (.func 68) #[] #[]] w fun e w' =>
      e = .returned (.tuple #[]) ∧ w'.ownsRow base 53 4 (.slice (some ⟨g, 0, none⟩) l.length cap) l.length (blkCells l) ∧ Only (· = g) w w' := by
  rcases hown.2 with ⟨h, _⟩ | ⟨g', cap', cur, hv, hbase, hb, h1, h2, h3, h4⟩
  · cases h
  obtain ⟨rfl, rfl⟩ : g = g' ∧ cap = cap' := by cases hv; exact ⟨rfl, rfl⟩
  have eg : ∀ args w, (callFunc 68 args).run Tryz.prog w = .ok (.enter 68 args) w := enters_of Tryz.func68 (by kernel_rfl) rfl
  have hcon := AnyQ.slices_SortFunc sortBlk 4 Tryz.isAgg53 Tryz.sizeOf53 encB (fun _ => rfl) (fun x v hv => by simp [encB] at hv; rcases hv with rfl | rfl | rfl | rfl <;> rfl) cfB swoB 68 #[] g 0 cap ss.toArray w eg (cmpLaysB g 0 ss.toArray.size w) (holdsB hb h4) (Array.getElem?_eq_some_iff.1 hb).1 (by simp; omega)
  change Calls Tryz.prog 84 _ _ _ at hcon
  refine hcon.mono ?_
  rintro e w' ⟨rfl, d', n, os, hp', hs', rfl⟩
  have hd := sorted_eq hri hp hp' hs'
  have hl : l.length = ss.length := hp.length_eq.symm
  obtain rfl : d' = l.toArray := by rw [← hd]
  refine ⟨rfl, ⟨by rw [blkCells_len], .inr ⟨g, cap, _, rfl, hbase, heap_sortB _ hb, by omega, h2, by simp [putCells, h3], take_sortB cur l (by rw [h3]; omega)⟩⟩, only_sortB _⟩
set_option maxHeartbeats 1000000 in
theorem insort_nil (fv : Value) (w : World) : Calls Tryz.prog 95 #[.slice none 0 0, .int .i64 0, .int .i64 0, fv] w fun e w' => e = .returned (.tuple #[]) ∧ w' = w := by
  go_enter Tryz.func95, Tryz.ntmps95
  go_wp2
  refine wp_loop_rounds 1 ?_
  rw [rounds_succ]
  go_wp2
  go_end0
  exact ⟨rfl, rfl⟩
set_option maxHeartbeats 1000000 in
theorem pdq_nil (lim : Int) (fv : Value) (w : World) : Calls Tryz.prog 92 #[.slice none 0 0, .int .i64 0, .int .i64 0, .int .i64 lim, fv] w fun e w' => e = .returned (.tuple #[]) ∧ w' = w := by
  go_enter Tryz.func92, Tryz.ntmps92
  go_wp2
  refine wp_loop_rounds 1 ?_
  rw [rounds_succ]
  go_wp2_with (go_at_call 95; refine (insort_nil _ _).mono ?_; rintro e w' ⟨rfl, rfl⟩)
  (try simp only [Exit.inBlock, Exit.then]); refine bodyPost_ret (results_none rfl _ _ _) rfl ?_
  exact ⟨rfl, rfl⟩
/-- A nil row is left as it is. -/
theorem sort_nil (fv : Value) (w : World) : Calls Tryz.prog 84 #[.slice none 0 0, fv] w fun e w' => e = .returned (.tuple #[]) ∧ w' = w := by
  have hl : ∀ W, Calls Tryz.prog 93 #[.int .u64 0] W fun e w' => e = .returned (.int .i64 (Lib.bitLen 0 : Nat)) ∧ w' = W := fun W =>
    Any.bits_Len (SlLaysF0.n15.bits (P := Tryz.prog) (ρ := sortBlk_ren) { sortBlk with }) 0 W (by omega) (by omega)
  go_enter Tryz.func84, Tryz.ntmps84
  go_wp2_with (first | (go_at_call 93; refine (hl _).mono ?_; rintro e w' ⟨rfl, rfl⟩) | (go_at_call 92; refine (pdq_nil _ _ _).mono ?_; rintro e w' ⟨rfl, rfl⟩))
  go_end0
  exact ⟨rfl, rfl⟩
end Go.Proofs.YtanccjaikocefaaGreatDoor
namespace Go.Proofs.YtanccjaikocefaaGreatDoor
open Go.ChangeShapes Go.WideShapes Go.ChangeAt Go.RowKit Go.Sort Go.Shelf
set_option linter.unusedVariables false

theorem runR_stay (n : Nat) (r : RS) (h : r.ended = true) : runR n r = r := by
  cases n
  · rfl
  · rw [runR, if_pos h]
theorem runR_blocks (n : Nat) : ∀ r : RS, r.ended = false → r.Head → (runR n r).blocks.length ≤ 4002 := by
  induction n with
  | zero =>
    intro r he h
    have h1 := h.cnt.nblocks
    have h2 := h.ok.steps
    have h3 := h.ok.fuel
    show r.blocks.length ≤ 4002
    omega
  | succ n ih =>
    intro r he h
    rw [runR, if_neg (by rw [he]; decide)]
    cases hn : r.step.ended
    · exact ih r.step hn (step_go he h hn).1
    · rw [runR_stay n _ hn]
      have h1 := (step_end h).nblocks
      have h2 := h.ok.steps
      have h3 := h.ok.fuel
      omega
theorem R_blocks (p : Setup) (hp : p.Ok) (h : p.err true = 0) : p.R.blocks.length ≤ 4002 := runR_blocks _ _ rfl (Setup.head h hp)
theorem size_blks (l : List Blk) : Maps.size (blksD l) = l.length := by simp [blksD, Maps.size]
theorem values_any (mb : Nat) (w : World) : Calls Tryz.prog 67 #[.map (some mb)] w fun e w' => e = .returned (.func (.func 85) #[] #[.pointer (some ⟨w.heap.size, 0, none⟩)]) ∧ w' = w.alloc (.cells #[.map (some mb)] 91) := by
  go_enter Tryz.func67, Tryz.ntmps67
  go_wp2
  go_ret
  exact ⟨rfl, rfl⟩
/-- What a sorted row comes to. -/
def RowP (l : List Blk) (w : World) (e : Ending) (w' : World) : Prop := ∃ v, e = .returned v ∧ w'.ownsRow w.heap.size 53 4 v l.length (blkCells l) ∧ Only (fun _ => False) w w'
set_option maxHeartbeats 1000000 in
theorem sortedfunc_any (Bm b nn : Nat) (l : List Blk) (hri : Rising l) (hl : l.length ≤ 6000) (w : World) (hBm : Bm < w.heap.size) (hm : w.cell? ⟨Bm, 0, none⟩ = some (.map (some b))) (hown : SeenIs w b nn l) :
    Calls Tryz.prog 66 #[.func (.func 85) #[] #[.pointer (some ⟨Bm, 0, none⟩)], .func (.func 68) #[] #[]] w (RowP l w) := by
  have hcol := callsIn_wide.1 (collect_seq Fence.wide 3 trivial trivial rfl (Nat.le_refl _) 85 #[.pointer (some ⟨Bm, 0, none⟩)] trivial (enters_of Tryz.func85 (by kernel_rfl) rfl) (fun ss => ss.Perm l) (Maps.size (blksD l)) (by rw [size_blks]; exact hl) w
    (values_gives Fence.wide _ trivial rfl (Nat.le_refl _) Bm b nn l hri w hBm hm hown))
  have HCOL := Lib.hid hcol
  clear hcol hm hown
  go_enter Tryz.func66, Tryz.ntmps66
  go_wp2_with (go_at_call 83; refine HCOL.out.mono ?_; rintro e W ⟨v, ss, rfl, hS, hrow, hnil, hb⟩)
  have hO : Only (fun _ => False) w W := ⟨hb.os, hb.tape, hb.output, hb.size, fun k hk _ => hb.block k hk⟩
  have hlen : ss.length = l.length := List.Perm.length_eq hS
  rcases hrow.2 with ⟨rfl, hz⟩ | ⟨gb, cap, cur, rfl, hbase, hgb, r1, r2, r3, r4⟩
  · have hss : ss = [] := List.eq_nil_of_length_eq_zero hz
    subst hss
    have hll : l = [] := List.eq_nil_of_length_eq_zero (by simpa using hlen.symm)
    subst hll
    go_wp2_with (go_at_call 84; refine (sort_nil _ W).mono ?_; rintro e w' ⟨rfl, rfl⟩)
    go_ret
    exact ⟨.slice none 0 0, rfl, by simpa using hrow, hO⟩
  · have hso := sort_any w.heap.size gb cap l ss hri hS (by omega) W hrow
    rw [hlen] at hso ⊢
    have HSO := Lib.hid hso
    clear hso hgb hrow r1 r2 r3 r4 hnil
    go_wp2_with (go_at_call 84; refine HSO.out.mono ?_; rintro e w' ⟨rfl, hrow', ho'⟩)
    go_ret
    exact ⟨_, rfl, hrow', hO.trans ho' (fun _ _ h => h) (fun i hi h => by omega)⟩
/-- What (*Cache).Seen comes to. -/
theorem seen_any (cb b slb m mb nn : Nat) (ar us bu : Int) (l : List Blk) (hri : Rising l) (hl : l.length ≤ 6000) (w : World) (hc : w.heap[cb]? = some (.cells (cRow b slb m ar us bu (.map (some mb))) 93 (0, 0))) (hown : SeenIs w mb nn l) :
    Calls Tryz.prog 38 #[.pointer (some ⟨cb, 0, none⟩)] w (RowP l w) := by
  have c5 : w.cell? ⟨cb, 5, none⟩ = some (.map (some mb)) := cell_of_row w _ 5 _ _ _ hc
  have hmb := hown.lt
  have hO : Only (fun _ => False) w (w.alloc (.cells #[.map (some mb)] 91)) := (Only.refl _ w).alloc _
  have hown' := hown.only hO (fun h => h)
  have hs := sortedfunc_any w.heap.size mb nn l hri hl (w.alloc (.cells #[.map (some mb)] 91)) (by simp) (by simp) hown'
  have HS := Lib.hid hs
  have HO := Lib.hid hO
  clear hs hO hown hown' hc
  go_enter Tryz.func38, Tryz.ntmps38
  go_wp2_with (first | (go_at_call 67; refine (values_any mb _).mono ?_; rintro e w' ⟨rfl, rfl⟩) | (go_at_call 66; refine HS.out.mono ?_; rintro e w' ⟨v, rfl, hrow, ho⟩))
  go_ret
  exact ⟨_, rfl, ownsRow_base hrow (by simp), HO.out.then ho⟩
/-- The blocks that Profile and Play hand back. -/
def Setup.L (p : Setup) : List Blk := if p.err true = 0 then p.R.blocks else []
theorem L_len (p : Setup) (hp : p.Ok) : p.L.length ≤ 4002 := by
  unfold Setup.L
  split
  · rename_i h
    exact R_blocks p hp h
  · exact Nat.zero_le _
/-- What Profile comes to. -/
def ProfP (k : Int) (l : List Blk) (w : World) (e : Ending) (w' : World) : Prop := ∃ v, e = .returned (.tuple #[v, .int .i64 k]) ∧ w'.ownsRow w.heap.size 53 4 v l.length (blkCells l) ∧ Only (fun _ => False) w w'
theorem results_vk {fn : Func} {p q : Tmp} (hres : fn.results = #[.tmp p, .tmp q]) (tmps : Array Value) (w : World) (v1 v2 : Value) (h1 : tmps.getD p undef = v1) (h2 : tmps.getD q undef = v2) :
    (results fn tmps).run Tryz.prog w = .ok (.tuple #[v1, v2]) w := by
  have h1' : tmps[p]?.getD undef = v1 := by simpa using h1
  have h2' : tmps[q]?.getD undef = v2 := by simpa using h2
  simp [results, hres, h1', h2']
set_option maxRecDepth 100000 in
theorem profile_err (p : Setup) (av : Value) (w : World) (k : Int) (hk : (k == 0) = false) (hbl : ∀ W, Only (fun _ => False) w W → Calls Tryz.prog 37 #[.agg (p.cells av)] W (BlocksN k W)) :
    Calls Tryz.prog 20 #[.agg (p.cells av)] w (ProfP k [] w) := by
  unfold Setup.cells at *
  have HN := Lib.hid hbl
  have hk2 : (k != 0) = true := by simp only [bne, hk]; rfl
  clear hbl
  go_enter Tryz.func20, Tryz.ntmps20
  go_wp2_with fail
  obtain ⟨W0, hW0⟩ : ∃ W0, W0 = bw p av w := ⟨_, rfl⟩
  have hO0 : Only (fun _ => False) w W0 := hW0 ▸ bw_only p av w
  unfold bw Setup.cells at hW0
  rw [← hW0]
  clear hW0
  refine (HN.out W0 hO0).mono ?_
  rintro e w1 ⟨rfl, ho1⟩
  go_wp2_with fail
  refine bodyPost_ret (results_vk Tryz.results20 _ _ _ _ (by rfl) (by rfl)) rfl ?_
  exact ⟨.slice none 0 0, rfl, World.ownsRow_nil _ _ _ _, hO0.then ho1⟩
set_option maxRecDepth 100000 in
theorem profile_good (p : Setup) (hl : p.R.blocks.length ≤ 4002) (av : Value) (w : World) (hbl : ∀ W, Only (fun _ => False) w W → Calls Tryz.prog 37 #[.agg (p.cells av)] W (BlocksG p W)) :
    Calls Tryz.prog 20 #[.agg (p.cells av)] w (ProfP 0 p.R.blocks w) := by
  unfold Setup.cells at *
  have HN := Lib.hid hbl
  clear hbl
  go_enter Tryz.func20, Tryz.ntmps20
  go_wp2_with fail
  obtain ⟨W0, hW0⟩ : ∃ W0, W0 = bw p av w := ⟨_, rfl⟩
  have hO0 : Only (fun _ => False) w W0 := hW0 ▸ bw_only p av w
  unfold bw Setup.cells at hW0
  rw [← hW0]
  clear hW0
  refine (HN.out W0 hO0).mono ?_
  rintro e w1 ⟨b, cb, slb, mb, n, m, x, rfl, hM, hu, l1, l2, hc, hn, hr, ho1⟩
  have hseen := seen_any cb b slb m mb n _ _ _ p.R.blocks hr (by omega) w1 hc hn
  have HS := Lib.hid hseen
  have HO := Lib.hid (hO0.then ho1)
  clear hM hc hn hr hO0 ho1 hseen hu
  go_wp2_with fail
  refine HS.out.mono ?_
  rintro e w2 ⟨v, rfl, hrow, ho2⟩
  go_wp2_with fail
  refine bodyPost_ret (results_vk Tryz.results20 _ _ _ _ (by rfl) (by rfl)) rfl ?_
  exact ⟨v, rfl, ownsRow_base hrow HO.out.size, HO.out.then ho2⟩
/-- Profile, whatever the setup. -/
theorem profile_any (p : Setup) (hp : p.Ok) (ab : Nat) (av : Value) (w : World) (ha : TextsAt w ab av p.ans) (hab : ab < w.heap.size) (ht : Tab w) :
    Calls Tryz.prog 20 #[.agg (p.cells av)] w (ProfP (p.err true) p.L w) := by
  have hb : ∀ W, Only (fun _ => False) w W → Calls Tryz.prog 37 #[.agg (p.cells av)] W (fun e w' => (p.err true = 0 → BlocksG p W e w') ∧ (p.err true ≠ 0 → BlocksN (p.err true) W e w')) := fun W hO => blocks_any p hp ab av W (ha.only hO (fun h => h)) (Nat.lt_of_lt_of_le hab hO.size) (ht.only hO (fun h => h))
  unfold Setup.L
  by_cases h : p.err true = 0
  · rw [if_pos h, h]
    exact profile_good p (R_blocks p hp h) av w (fun W hO => (hb W hO).mono (fun e w' q => q.1 h))
  · rw [if_neg h]
    exact profile_err p av w _ (by simpa using h) (fun W hO => (hb W hO).mono (fun e w' q => q.2 h))
end Go.Proofs.YtanccjaikocefaaGreatDoor
