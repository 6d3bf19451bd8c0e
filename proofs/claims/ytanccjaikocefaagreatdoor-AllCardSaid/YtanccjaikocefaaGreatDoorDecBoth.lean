/-
  The contract of the document's 'Decode': it returns what 'rv.Decode' returns; nothing that was there before is written. And of 'chains.Decode'. Conditions: the word is of 32 bits; the program's table holds what its text says.
-/
import Derived.Test.YtanccjaikocefaaGreatDoorRDec2
namespace Go.Proofs.YtanccjaikocefaaGreatDoor
open Go.ChangeShapes Go.WideShapes Go.ChangeAt Go.RowKit
set_option linter.unusedVariables false

theorem decP_insP (wd : Int) : decP wd = insP (decO wd) := by unfold decP insP; cases decO wd <;> rfl
theorem f_60 (wd : Int) : fld wd 6 0 = wd % 128 := by show wd / 2 ^ (0 : Int).toNat % 2 ^ ((6 : Int) - 0 + 1).toNat = _; simp
theorem f_3125 (wd : Int) (h0 : 0 ≤ wd) (h1 : wd < 4294967296) : fld wd 31 25 = wd / 33554432 := by
  show wd / 33554432 % 128 = _; omega
theorem f_1412 (wd : Int) : fld wd 14 12 = wd / 4096 % 8 := rfl
theorem rdecode_any (wd : Int) (h0 : 0 ≤ wd) (h1 : wd < 4294967296) (w : World) :
    Calls Tryz.prog 10 #[.int .u32 wd] w (OnlyR (decP wd) w) := by
  rw [decP_insP]
  have e7 := f_60 wd
  have e25 := f_3125 wd h0 h1
  have e3 := f_1412 wd
  have eI := f_I wd h0 h1
  have eS := f_S wd h0 h1
  have eB := f_B wd h0 h1
  have ne : ∀ {a b : Int}, a ≠ b → (a == b) = false := fun h => by simpa using h
  by_cases k0 : wd % 128 = 55
  · rw [dec_55 wd h0 h1 k0]; exact rdec_55 wd h0 h1 (by omega) w
  by_cases k1 : wd % 128 = 23
  · rw [dec_23 wd h0 h1 k1]; exact rdec_23 wd h0 h1 (by omega) w
  by_cases k2 : wd % 128 = 111
  · rw [dec_111 wd h0 h1 k2]; exact rdec_111 wd h0 h1 (by omega) w
  by_cases k3 : wd % 128 = 103
  · rw [dec_103 wd h0 h1 k3, ← eI]; exact rdec_103 wd h0 h1 (by omega) w
  by_cases k4 : wd % 128 = 99
  · rw [dec_99 wd h0 h1 k4, ← eB]; exact rdec_99 wd h0 h1 (by omega) w
  by_cases k5 : wd % 128 = 3
  · rw [dec_3 wd h0 h1 k5, ← eI]; exact rdec_3 wd h0 h1 (by omega) w
  by_cases k6 : wd % 128 = 35
  · rw [dec_35 wd h0 h1 k6, ← eS]; exact rdec_35 wd h0 h1 (by omega) w
  by_cases k7 : wd % 128 = 19
  · by_cases j1 : wd / 4096 % 8 = 1
    · by_cases q : wd / 33554432 = 0
      · rw [dec_19_1 wd h0 h1 k7 j1 q]; exact rdec_19_1 wd h0 h1 (by omega) (by omega) (by omega) w
      · rw [dec_19_1n wd h0 h1 k7 j1 q]; exact rdec_19_1n wd h0 h1 (by omega) (by omega) (ne (by omega)) w
    · by_cases j5 : wd / 4096 % 8 = 5
      · by_cases q : wd / 33554432 = 0
        · rw [dec_19_5 wd h0 h1 k7 j5 q]; exact rdec_19_5 wd h0 h1 (by omega) (by omega) (by omega) w
        · by_cases q2 : wd / 33554432 = 32
          · rw [dec_19_6 wd h0 h1 k7 j5 q2]; exact rdec_19_6 wd h0 h1 (by omega) (by omega) (by omega) w
          · rw [dec_19_5n wd h0 h1 k7 j5 q q2]; exact rdec_19_5n wd h0 h1 (by omega) (by omega) (ne (by omega)) (ne (by omega)) w
      · rw [dec_19_i wd h0 h1 k7 j1 j5, ← eI]; exact rdec_19_i wd h0 h1 (by omega) (ne (by omega)) (ne (by omega)) w
  by_cases k8 : wd % 128 = 51
  · by_cases q : wd / 33554432 = 0
    · rw [dec_51_0 wd h0 h1 k8 q]; exact rdec_51_0 wd h0 h1 (by omega) (by omega) w
    · by_cases q1 : wd / 33554432 = 1
      · rw [dec_51_1 wd h0 h1 k8 q1]; exact rdec_51_1 wd h0 h1 (by omega) (by omega) w
      · by_cases q2 : wd / 33554432 = 32
        · rw [dec_51_32 wd h0 h1 k8 q2]; exact rdec_51_32 wd h0 h1 (by omega) (by omega) w
        · rw [dec_51_n wd h0 h1 k8 q q1 q2]; exact rdec_51_n wd h0 h1 (by omega) (ne (by omega)) (ne (by omega)) (ne (by omega)) w
  by_cases k9 : wd % 128 = 15
  · rw [dec_15 wd h0 h1 k9]; exact rdec_15 wd h0 h1 (by omega) w
  by_cases k10 : wd % 128 = 115
  · by_cases q : wd = 115
    · rw [dec_115_0 wd h0 h1 q]; exact rdec_115_0 wd h0 h1 (by omega) (by simpa using q) w
    · by_cases q1 : wd = 1048691
      · rw [dec_115_1 wd h0 h1 q1]; exact rdec_115_1 wd h0 h1 (by omega) (by simpa using q) (by simpa using q1) w
      · rw [dec_115_n wd h0 h1 k10 q q1]; exact rdec_115_n wd h0 h1 (by omega) (by simpa using q) (by simpa using q1) w
  · rw [dec_none wd h0 h1 (by simp; omega)]
    exact rdec_n wd h0 h1 (ne (by omega)) (ne (by omega)) (ne (by omega)) (ne (by omega)) (ne (by omega)) (ne (by omega)) (ne (by omega)) (ne (by omega)) (ne (by omega)) (ne (by omega)) (ne (by omega)) w
def decI (wd : Int) : Ins := (decO wd).getD Ins.zero
def decB (wd : Int) : Bool := (decO wd).isSome
theorem decP_form (wd : Int) : decP wd = .tuple #[.agg #[.int .i64 (decI wd).op, .int .i64 (decI wd).rd, .int .i64 (decI wd).rs1, .int .i64 (decI wd).rs2, .int .i32 (decI wd).imm], .bool (decB wd)] := by
  unfold decP decI decB; cases decO wd <;> rfl
theorem results_two {fn : Func} {p q : Tmp} (hres : fn.results = #[.cell p 32, .tmp q]) (tmps : Array Value) (w : World) (b : Nat) (i : Ins) (v : Value) (h2 : tmps.getD p undef = .pointer (some ⟨b, 0, none⟩)) (h3 : tmps.getD q undef = v) (hi : InsAt w b i) :
    (results fn tmps).run Tryz.prog w = .ok (.tuple #[.agg i.cells, v]) w := by
  have h2' : tmps[p]?.getD undef = .pointer (some ⟨b, 0, none⟩) := by simpa using h2
  have h3' : tmps[q]?.getD undef = v := by simpa using h3
  have hl := run_loadVar_row (P := Tryz.prog) w b _ 32 i.cells _ _ hi Tryz.underlying32 rfl (by kernel_rfl)
  simp [results, hres, asAddr, h2', h3', hl]
theorem Tab.drewN {w : World} (h : Tab w) (n : Nat) : Tab (w.drewN n) := h
theorem cdecode_any (wd : Int) (h0 : 0 ≤ wd) (h1 : wd < 4294967296) (w : World) (ht : Tab w) :
    Calls Tryz.prog 9 #[.int .u32 wd] w (OnlyR (decP wd) w) := by
  have hfin : decP wd = _ := decP_form wd
  have HF := Lib.hid hfin
  clear hfin
  go_enter Tryz.func9, Tryz.ntmps9
  go_wp2_with fail
  refine (decode_any wd h0 h1 _ (ht.alloc _)).mono ?_
  rintro e w1 ⟨rfl, ho⟩
  rw [decP_form]
  have hi : InsAt w1 w.heap.size Ins.zero := ho.heap (fun h => h) (heap_alloc_new _ _)
  have HO : Only (fun _ => False) w w1 := ((Only.refl _ w).alloc _).then ho
  clear ho
  have hsz : w.heap.size < w1.heap.size := heap_lt hi
  generalize decI wd = I at *
  generalize decB wd = B at *
  have q0 : w1.cell? ⟨w.heap.size, 0, none⟩ = some (.int .i64 0) := hi.cell 0
  have q1 : w1.cell? ⟨w.heap.size, 1, none⟩ = some (.int .i64 0) := hi.cell 1
  have q2 : w1.cell? ⟨w.heap.size, 2, none⟩ = some (.int .i64 0) := hi.cell 2
  have q3 : w1.cell? ⟨w.heap.size, 3, none⟩ = some (.int .i64 0) := hi.cell 3
  have q4 : w1.cell? ⟨w.heap.size, 4, none⟩ = some (.int .i32 0) := hi.cell 4
  have r0 : w1.frozen? ⟨w.heap.size, 0, none⟩ = false := hi.free 0
  have r1 : w1.frozen? ⟨w.heap.size, 1, none⟩ = false := hi.free 1
  have r2 : w1.frozen? ⟨w.heap.size, 2, none⟩ = false := hi.free 2
  have r3 : w1.frozen? ⟨w.heap.size, 3, none⟩ = false := hi.free 3
  have r4 : w1.frozen? ⟨w.heap.size, 4, none⟩ = false := hi.free 4
  go_wp2_with fail
  refine bodyPost_ret (results_two Tryz.results9 _ _ w.heap.size I (.bool B) ?_ ?_ ?_) rfl ⟨?_, ?_⟩
  · rfl
  · rfl
  · exact ins_store5 hi _ _ _ _ _
  · rw [HF.out]; rfl
  · repeat (first | with_reducible exact HO | with_reducible refine Only.setW ?_ _ _)
set_option maxRecDepth 100000 in
theorem decodes_any (wd : Int) (h0 : 0 ≤ wd) (h1 : wd < 4294967296) (w : World) (ht : Tab w) :
    Calls Tryz.prog 4 #[.int .u32 wd] w (OnlyR (.bool true) w) := by
  go_enter Tryz.func4, Tryz.ntmps4
  go_wp2_with fail
  refine (cdecode_any wd h0 h1 _ ht).mono ?_
  rintro e w1 ⟨rfl, ho⟩
  rw [decP_form]
  go_wp2_with fail
  refine (rdecode_any wd h0 h1 _).mono ?_
  rintro e w2 ⟨rfl, ho2⟩
  rw [decP_form]
  have hi : InsAt w2 w1.heap.size (decI wd) := ho2.heap (fun h => h) (heap_alloc_new _ _)
  have hsz : w1.heap.size < w2.heap.size := heap_lt hi
  have q0 : w2.cell? ⟨w1.heap.size, 0, none⟩ = some (.int .i64 (decI wd).op) := hi.cell 0
  have q1 : w2.cell? ⟨w1.heap.size, 1, none⟩ = some (.int .i64 (decI wd).rd) := hi.cell 1
  have q2 : w2.cell? ⟨w1.heap.size, 2, none⟩ = some (.int .i64 (decI wd).rs1) := hi.cell 2
  have q3 : w2.cell? ⟨w1.heap.size, 3, none⟩ = some (.int .i64 (decI wd).rs2) := hi.cell 3
  have q4 : w2.cell? ⟨w1.heap.size, 4, none⟩ = some (.int .i32 (decI wd).imm) := hi.cell 4
  have HO : Only (fun _ => False) w w2 := ho.then (((Only.refl _ w1).alloc _).then ho2)
  clear ho ho2
  generalize decI wd = I at *
  generalize decB wd = B at *
  go_wp2_with fail
  go_ret
  exact ⟨rfl, HO.alloc _⟩
end Go.Proofs.YtanccjaikocefaaGreatDoor
