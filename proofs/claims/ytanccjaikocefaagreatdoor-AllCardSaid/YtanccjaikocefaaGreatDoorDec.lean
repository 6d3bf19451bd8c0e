/-
  The contracts of 'rv.fill' and 'rv.Decode': what they return is what the plain functions give; of memory that was there before nothing but the instruction handed to 'fill' is written. Conditions: the word is of 32 bits; the program's table holds what its text says.
-/
import Derived.Test.YtanccjaikocefaaGreatDoorNum
import Derived.Test.YtanccjaikocefaaGreatDoorNumPlain
import Derived.Test.YtanccjaikocefaaGreatDoorFrame
import Derived.Lib.Hide
namespace Go.Proofs.YtanccjaikocefaaGreatDoor
open Go.ChangeShapes Go.WideShapes Go.ChangeAt Go.RowKit
set_option linter.unusedVariables false

/-- An instruction lies in a block of its own. -/
def InsAt (w : World) (b : Nat) (i : Ins) : Prop := w.heap[b]? = some (.cells i.cells 32 (0, 0))
theorem InsAt.cell {w : World} {b : Nat} {i : Ins} (h : InsAt w b i) (j : Nat) : w.cell? ⟨b, j, none⟩ = i.cells[j]? := cell_of_row w b j _ _ _ h
theorem InsAt.free {w : World} {b : Nat} {i : Ins} (h : InsAt w b i) (j : Nat) : w.frozen? ⟨b, j, none⟩ = false := frozen_of_row w b j _ _ h
def FillPost (b : Nat) (i : Ins) (w : World) (e : Ending) (w' : World) : Prop := e = .returned (.tuple #[]) ∧ InsAt w' b i ∧ Only (· = b) w w'

theorem fill_any (f op wd : Int) (h0 : 0 ≤ wd) (h1 : wd < 4294967296) (b : Nat) (w : World) (hb : InsAt w b ⟨op, 0, 0, 0, 0⟩) :
    Calls Tryz.prog 39 #[.pointer (some ⟨b, 0, none⟩), .int .i64 f, .int .u32 wd] w (FillPost b (fillI op f wd) w) := by
  have c1 : w.cell? ⟨b, 1, none⟩ = some (.int .i64 0) := hb.cell 1
  have c2 : w.cell? ⟨b, 2, none⟩ = some (.int .i64 0) := hb.cell 2
  have c3 : w.cell? ⟨b, 3, none⟩ = some (.int .i64 0) := hb.cell 3
  have c4 : w.cell? ⟨b, 4, none⟩ = some (.int .i32 0) := hb.cell 4
  have f1 : w.frozen? ⟨b, 1, none⟩ = false := hb.free 1
  have f2 : w.frozen? ⟨b, 2, none⟩ = false := hb.free 2
  have f3 : w.frozen? ⟨b, 3, none⟩ = false := hb.free 3
  have f4 : w.frozen? ⟨b, 4, none⟩ = false := hb.free 4
  go_enter Tryz.func39, Tryz.ntmps39
  go_wp2
  all_goals first | go_end0 | refine bodyPost_ret (results_none rfl _ _ _) rfl ?_
  all_goals go_tidy
  · have g1 := heap_setCell_same _ b 3 _ _ (.int .i64 (rs2F wd)) (heap_setCell_same _ b 2 _ _ (.int .i64 (rs1F wd)) (heap_setCell_same w b 1 _ _ (.int .i64 (rdF wd)) hb))
    rw [sp_rd wd h0 h1, sp_rs1 wd h0 h1, sp_rs2 wd h0 h1]
    refine ⟨rfl, ?_, by repeat (first | exact Only.refl _ _ | refine Only.set1 ?_ _ _)⟩
    simp [InsAt, fillI, Ins.cells, *]
  · have g1 := heap_setCell_same _ b 4 _ _ (.int .i32 (immI wd)) (heap_setCell_same _ b 2 _ _ (.int .i64 (rs1F wd)) (heap_setCell_same w b 1 _ _ (.int .i64 (rdF wd)) hb))
    rw [sp_I wd h0 h1, sp_rd wd h0 h1, sp_rs1 wd h0 h1]
    refine ⟨rfl, ?_, by repeat (first | exact Only.refl _ _ | refine Only.set1 ?_ _ _)⟩
    simp [InsAt, fillI, Ins.cells, *]
  · have g1 := heap_setCell_same _ b 4 _ _ (.int .i32 (rs2F wd)) (heap_setCell_same _ b 2 _ _ (.int .i64 (rs1F wd)) (heap_setCell_same w b 1 _ _ (.int .i64 (rdF wd)) hb))
    rw [sp_H wd h0 h1, sp_rd wd h0 h1, sp_rs1 wd h0 h1]
    refine ⟨rfl, ?_, by repeat (first | exact Only.refl _ _ | refine Only.set1 ?_ _ _)⟩
    simp [InsAt, fillI, Ins.cells, *]
  · have g1 := heap_setCell_same _ b 4 _ _ (.int .i32 (immS wd)) (heap_setCell_same _ b 3 _ _ (.int .i64 (rs2F wd)) (heap_setCell_same w b 2 _ _ (.int .i64 (rs1F wd)) hb))
    rw [sp_S wd h0 h1, sp_rs1 wd h0 h1, sp_rs2 wd h0 h1]
    refine ⟨rfl, ?_, by repeat (first | exact Only.refl _ _ | refine Only.set1 ?_ _ _)⟩
    simp [InsAt, fillI, Ins.cells, *]
  · have g1 := heap_setCell_same _ b 4 _ _ (.int .i32 (immB wd)) (heap_setCell_same _ b 3 _ _ (.int .i64 (rs2F wd)) (heap_setCell_same w b 2 _ _ (.int .i64 (rs1F wd)) hb))
    rw [sp_B wd h0 h1, sp_rs1 wd h0 h1, sp_rs2 wd h0 h1]
    refine ⟨rfl, ?_, by repeat (first | exact Only.refl _ _ | refine Only.set1 ?_ _ _)⟩
    simp [InsAt, fillI, Ins.cells, *]
  · have g1 := heap_setCell_same _ b 4 _ _ (.int .i32 (immU wd)) (heap_setCell_same w b 1 _ _ (.int .i64 (rdF wd)) hb)
    rw [sp_U wd h0 h1, sp_rd wd h0 h1]
    refine ⟨rfl, ?_, by repeat (first | exact Only.refl _ _ | refine Only.set1 ?_ _ _)⟩
    simp [InsAt, fillI, Ins.cells, *]
  · have g1 := heap_setCell_same _ b 4 _ _ (.int .i32 (immJ wd)) (heap_setCell_same w b 1 _ _ (.int .i64 (rdF wd)) hb)
    rw [sp_J wd h0 h1, sp_rd wd h0 h1]
    refine ⟨rfl, ?_, by repeat (first | exact Only.refl _ _ | refine Only.set1 ?_ _ _)⟩
    simp [InsAt, fillI, Ins.cells, *]
  · refine ⟨rfl, ?_, Only.refl _ _⟩
    simpa [InsAt, fillI, Ins.cells, *] using hb

/-- The program's table holds what its text says. -/
def Tab (w : World) : Prop := w.rangeAt 0 0 tabCells
theorem Tab.only {S : Nat → Prop} {w w' : World} (h : Tab w) (k : Only S w w') (hS : ¬ S 0) : Tab w' := k.range hS h
theorem Tab.alloc {w : World} (h : Tab w) (o : Obj) : Tab (w.alloc o) := World.rangeAt_alloc h o
theorem tabLen : tabCells.length = 196 := by kernel_rfl
theorem Tab.pos {w : World} (h : Tab w) : 0 < w.heap.size := by
  have := h 0 (.int .i64 0) rfl
  exact block_lt_of_cell this
theorem tabInfo : (Tryz.prog.info? 98).map (·.size) = some tabCells.length := by kernel_rfl
def decP (wd : Int) : Value := match decO wd with
  | some i => .tuple #[.agg i.cells, .bool true]
  | none => .tuple #[.agg Ins.zero.cells, .bool false]
theorem run_index_tab (k : Nat) (hk : k < 49) (w : World) : (Instr.index 98 (.agg tabCells.toArray) (.int .i64 (k : Int))).run Tryz.prog w = .ok (.agg #[.int .i64 (tabAt k).1, .int .i64 (tabAt k).2.1, .int .u32 (tabAt k).2.2.1, .int .u32 (tabAt k).2.2.2]) w :=
  match k, hk with
  | 0, _ => by kernel_rfl
  | 1, _ => by kernel_rfl
  | 2, _ => by kernel_rfl
  | 3, _ => by kernel_rfl
  | 4, _ => by kernel_rfl
  | 5, _ => by kernel_rfl
  | 6, _ => by kernel_rfl
  | 7, _ => by kernel_rfl
  | 8, _ => by kernel_rfl
  | 9, _ => by kernel_rfl
  | 10, _ => by kernel_rfl
  | 11, _ => by kernel_rfl
  | 12, _ => by kernel_rfl
  | 13, _ => by kernel_rfl
  | 14, _ => by kernel_rfl
  | 15, _ => by kernel_rfl
  | 16, _ => by kernel_rfl
  | 17, _ => by kernel_rfl
  | 18, _ => by kernel_rfl
  | 19, _ => by kernel_rfl
  | 20, _ => by kernel_rfl
  | 21, _ => by kernel_rfl
  | 22, _ => by kernel_rfl
  | 23, _ => by kernel_rfl
  | 24, _ => by kernel_rfl
  | 25, _ => by kernel_rfl
  | 26, _ => by kernel_rfl
  | 27, _ => by kernel_rfl
  | 28, _ => by kernel_rfl
  | 29, _ => by kernel_rfl
  | 30, _ => by kernel_rfl
  | 31, _ => by kernel_rfl
  | 32, _ => by kernel_rfl
  | 33, _ => by kernel_rfl
  | 34, _ => by kernel_rfl
  | 35, _ => by kernel_rfl
  | 36, _ => by kernel_rfl
  | 37, _ => by kernel_rfl
  | 38, _ => by kernel_rfl
  | 39, _ => by kernel_rfl
  | 40, _ => by kernel_rfl
  | 41, _ => by kernel_rfl
  | 42, _ => by kernel_rfl
  | 43, _ => by kernel_rfl
  | 44, _ => by kernel_rfl
  | 45, _ => by kernel_rfl
  | 46, _ => by kernel_rfl
  | 47, _ => by kernel_rfl
  | 48, _ => by kernel_rfl
  | n + 49, h => by omega
theorem load_tab {ops : Array Oper} {rest : List Oper} {Q : Exit → Act → World → Prop} (a : Act) (w : World) (p : String) (es : Array Edge) (ht : Tab w)
    (h : wpList Tryz.prog ops Q rest (a.put (some 6) (.agg tabCells.toArray)) w) : wpList Tryz.prog ops Q (⟨some 6, .load 98 (.global 0), 98, p, es, none⟩ :: rest) a w :=
  wpList_load_mid rfl 98 (.global 0) rfl 0 0 rfl tabCells _ ht Tryz.underlying98 rfl tabInfo h
theorem heap_alloc_old' {w : World} {b : Nat} {o : Obj} (o' : Obj) (h : w.heap[b]? = some o) : (w.alloc o').heap[b]? = some o := by
  rw [Below.heap_alloc _ _ _ (heap_lt h)]; exact h
theorem tabAt_get (k : Nat) (hk : k < tabRows.length) : tabRows[k]'hk = tabAt k := by
  simp [tabAt, List.getD_eq_getElem?_getD, List.getElem?_eq_getElem hk]
theorem tabRows_length : tabRows.length = 49 := by kernel_rfl
theorem decP_some {wd : Int} {k : Nat} (hk : k < 49) (hno : ∀ j, j < k → fits wd (tabAt j) = false) (hy : fits wd (tabAt k) = true) :
    decP wd = .tuple #[.agg (fillI (tabAt k).1 (tabAt k).2.1 wd).cells, .bool true] := by
  have e : tabRows.find? (fits wd) = some (tabAt k) := by
    rw [List.find?_eq_some_iff_getElem]
    refine ⟨hy, k, by rw [tabRows_length]; exact hk, tabAt_get k _, fun j hj => ?_⟩
    rw [tabAt_get j]
    simp [hno j hj]
  simp [decP, decO, e]
theorem decP_none {wd : Int} (hno : ∀ j, j < 49 → fits wd (tabAt j) = false) : decP wd = .tuple #[.agg Ins.zero.cells, .bool false] := by
  have e : tabRows.find? (fits wd) = none := by
    rw [List.find?_eq_none]
    intro x hx
    obtain ⟨j, hj, rfl⟩ := List.getElem_of_mem hx
    rw [tabAt_get j, hno j (by rw [← tabRows_length]; exact hj)]
    simp
  simp [decP, decO, e]
set_option maxRecDepth 100000 in
set_option maxHeartbeats 1000000 in
theorem decode_any (wd : Int) (h0 : 0 ≤ wd) (h1 : wd < 4294967296) (w : World) (ht : Tab w) :
    Calls Tryz.prog 21 #[.int .u32 wd] w (fun e w' => e = .returned (decP wd) ∧ Only (fun _ => False) w w') := by
  go_enter Tryz.func21, Tryz.ntmps21
  go_wp2_with (with_reducible refine load_tab _ _ _ _ (ht.alloc _) ?_)
  go_loopw [7] (fun t wr => ∃ k : Nat, k ≤ 49 ∧ t = .int .i64 k ∧ (∀ j, j < k → fits wd (tabAt j) = false) ∧ InsAt wr w.heap.size Ins.zero ∧ Only (fun _ => False) w wr) (fun t _ => (49 - intOf t).toNat)
  case atStart => exact ⟨0, by decide, rfl, fun j h => absurd h (Nat.not_lt_zero _), heap_alloc_new _ _, (Only.refl _ _).alloc _⟩
  case round =>
    obtain ⟨k, hk, rfl, hno, hi, ho⟩ := hrel
    have HNO := Lib.hid hno
    clear hno
    have hsz : w.heap.size < wr.heap.size := heap_lt hi
    by_cases hlt : k < 49
    · have hidx := run_index_tab k hlt
      have e0 : wr.cell? ⟨w.heap.size, 0, none⟩ = some (.int .i64 0) := hi.cell 0
      have e1 : wr.frozen? ⟨w.heap.size, 0, none⟩ = false := hi.free 0
      cases hfit : fits wd (tabAt k)
      · have hf : (bits BinOp.and IntKind.u32 wd (tabAt k).2.2.1 == (tabAt k).2.2.2) = false := hfit
        have HF := Lib.hid hfit
        clear hfit
        go_wp2_with fail
        go_roundw
        case rel =>
          refine ⟨k + 1, by omega, by go_num, ?_, ?_, ho.alloc _⟩
          · intro j hj
            by_cases h : j < k
            · exact HNO.out j h
            · rw [show j = k by omega]; exact HF.out
          · exact (heap_alloc_old' _ hi)
        case measure => simp [intOf]; omega
      · have hf : (bits BinOp.and IntKind.u32 wd (tabAt k).2.2.1 == (tabAt k).2.2.2) = true := hfit
        have HF := Lib.hid hfit
        clear hfit
        go_wp2_with fail
        refine (fill_any _ (tabAt k).1 _ h0 h1 _ _ ?_).mono ?_
        · exact heap_alloc_old' _ (heap_setCell_same _ _ 0 _ _ _ hi)
        rintro e w1 ⟨rfl, hi1, ho1⟩
        have d0 : w1.cell? ⟨w.heap.size, 0, none⟩ = some (.int .i64 (fillI (tabAt k).1 (tabAt k).2.1 wd).op) := hi1.cell 0
        have d1 : w1.cell? ⟨w.heap.size, 1, none⟩ = some (.int .i64 (fillI (tabAt k).1 (tabAt k).2.1 wd).rd) := hi1.cell 1
        have d2 : w1.cell? ⟨w.heap.size, 2, none⟩ = some (.int .i64 (fillI (tabAt k).1 (tabAt k).2.1 wd).rs1) := hi1.cell 2
        have d3 : w1.cell? ⟨w.heap.size, 3, none⟩ = some (.int .i64 (fillI (tabAt k).1 (tabAt k).2.1 wd).rs2) := hi1.cell 3
        have d4 : w1.cell? ⟨w.heap.size, 4, none⟩ = some (.int .i32 (fillI (tabAt k).1 (tabAt k).2.1 wd).imm) := hi1.cell 4
        have q0 : w1.frozen? ⟨w.heap.size, 0, none⟩ = false := hi1.free 0
        have q1 : w1.frozen? ⟨w.heap.size, 1, none⟩ = false := hi1.free 1
        have q2 : w1.frozen? ⟨w.heap.size, 2, none⟩ = false := hi1.free 2
        have q3 : w1.frozen? ⟨w.heap.size, 3, none⟩ = false := hi1.free 3
        have q4 : w1.frozen? ⟨w.heap.size, 4, none⟩ = false := hi1.free 4
        have HO : Only (fun _ => False) w w1 := (((ho.setN (Nat.le_refl _) _ _).alloc _).trans ho1 (fun _ _ h => h) (fun i hi h => by omega))
        clear ho1 ho
        generalize hF : fillI (tabAt k).1 (tabAt k).2.1 wd = I at *
        have HF2 := Lib.hid hF
        clear hF
        go_wp2_with fail
        refine bodyPost_ret (v := .tuple #[.agg I.cells, .bool true]) (by simp [results, Tryz.results21, go_sem, d0, d1, d2, d3, d4, Ins.cells]) rfl ⟨?_, ?_⟩
        · rw [decP_some hlt HNO.out HF.out, HF2.out]
        · repeat (first | exact HO | refine Only.setN ?_ (Nat.le_refl _) _ _)
    · have hk49 : k = 49 := by omega
      have hP := decP_none (wd := wd) (fun j hj => HNO.out j (by omega))
      have HP := Lib.hid hP
      clear hP hk49
      have d0 : wr.cell? ⟨w.heap.size, 0, none⟩ = some (.int .i64 0) := hi.cell 0
      have d1 : wr.cell? ⟨w.heap.size, 1, none⟩ = some (.int .i64 0) := hi.cell 1
      have d2 : wr.cell? ⟨w.heap.size, 2, none⟩ = some (.int .i64 0) := hi.cell 2
      have d3 : wr.cell? ⟨w.heap.size, 3, none⟩ = some (.int .i64 0) := hi.cell 3
      have d4 : wr.cell? ⟨w.heap.size, 4, none⟩ = some (.int .i32 0) := hi.cell 4
      have q0 : wr.frozen? ⟨w.heap.size, 0, none⟩ = false := hi.free 0
      have q1 : wr.frozen? ⟨w.heap.size, 1, none⟩ = false := hi.free 1
      have q2 : wr.frozen? ⟨w.heap.size, 2, none⟩ = false := hi.free 2
      have q3 : wr.frozen? ⟨w.heap.size, 3, none⟩ = false := hi.free 3
      have q4 : wr.frozen? ⟨w.heap.size, 4, none⟩ = false := hi.free 4
      go_wp2_with fail
      refine bodyPost_ret (v := .tuple #[.agg Ins.zero.cells, .bool false]) (by simp [results, Tryz.results21, go_sem, d0, d1, d2, d3, d4, Ins.cells, Ins.zero]) rfl ⟨?_, ?_⟩
      · rw [HP.out]
      · repeat (first | exact ho | refine Only.setN ?_ (Nat.le_refl _) _ _)
end Go.Proofs.YtanccjaikocefaaGreatDoor
