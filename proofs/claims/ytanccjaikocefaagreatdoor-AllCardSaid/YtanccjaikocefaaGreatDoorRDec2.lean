/-
  The contract of the document's 'Decode', opcode by opcode: it returns what the plain functions give; nothing that was there before is written. Condition: the word is of 32 bits.
-/
import Derived.Test.YtanccjaikocefaaGreatDoorRDec
import Derived.Deep.RegionWith
namespace Go.Proofs.YtanccjaikocefaaGreatDoor
open Go.ChangeShapes Go.WideShapes Go.ChangeAt Go.RowKit
set_option linter.unusedVariables false

theorem fbd (wd : Int) : (0 ≤ fld wd 11 7 ∧ fld wd 11 7 < 32) ∧ (0 ≤ fld wd 14 12 ∧ fld wd 14 12 < 8) ∧ (0 ≤ fld wd 19 15 ∧ fld wd 19 15 < 32) ∧ (0 ≤ fld wd 24 20 ∧ fld wd 24 20 < 32) ∧ (0 ≤ fld wd 31 25 ∧ fld wd 31 25 < 128) ∧ (0 ≤ fld wd 31 20 ∧ fld wd 31 20 < 4096) :=
  ⟨fld_bd wd 11 7, fld_bd wd 14 12, fld_bd wd 19 15, fld_bd wd 24 20, fld_bd wd 31 25, fld_bd wd 31 20⟩
theorem f_rd (wd : Int) : fld wd 11 7 = rdF wd := rfl
theorem f_rs1 (wd : Int) : fld wd 19 15 = rs1F wd := rfl
theorem f_rs2 (wd : Int) : fld wd 24 20 = rs2F wd := rfl
theorem f_U (wd : Int) (h0 : 0 ≤ wd) (h1 : wd < 4294967296) : wrap32 (bits BinOp.andNot IntKind.u32 wd 4095) = immU wd := by
  rw [andNot_4095 wd h0 h1]; unfold immU wrap32; omega
theorem f_I (wd : Int) (h0 : 0 ≤ wd) (h1 : wd < 4294967296) : sgn (fld wd 31 20) 12 = immI wd := by
  show (if (wd / 1048576 % 4096) / 2048 % 2 = 1 then wd / 1048576 % 4096 - 4096 else wd / 1048576 % 4096) = immI wd
  unfold immI wrap32; split <;> omega
theorem v_S (a b : Int) (h : 0 ≤ a ∧ a < 128) (k : 0 ≤ b ∧ b < 32) : bits BinOp.or IntKind.u32 (a * 32) b = a * 32 + b := or_add _ _ 5 (by omega) (by omega) (by omega) (by omega) (by omega) (by omega)
theorem v_B (a b c d : Int) (ha : 0 ≤ a ∧ a < 2) (hb : 0 ≤ b ∧ b < 2) (hc : 0 ≤ c ∧ c < 64) (hd : 0 ≤ d ∧ d < 16) :
    bits BinOp.or IntKind.u32 (bits BinOp.or IntKind.u32 (bits BinOp.or IntKind.u32 (a * 4096) (b * 2048)) (c * 32)) (d * 2) = a * 4096 + b * 2048 + c * 32 + d * 2 := by
  rw [or_add (a * 4096) _ 12 (by omega) (by omega) (by omega) (by omega) (by omega) (by omega), or_add _ (c * 32) 11 (by omega) (by omega) (by omega) (by omega) (by omega) (by omega), or_add _ (d * 2) 5 (by omega) (by omega) (by omega) (by omega) (by omega) (by omega)]
theorem v_J (a b c d : Int) (ha : 0 ≤ a ∧ a < 2) (hb : 0 ≤ b ∧ b < 256) (hc : 0 ≤ c ∧ c < 2) (hd : 0 ≤ d ∧ d < 1024) :
    bits BinOp.or IntKind.u32 (bits BinOp.or IntKind.u32 (bits BinOp.or IntKind.u32 (a * 1048576) (b * 4096)) (c * 2048)) (d * 2) = a * 1048576 + b * 4096 + c * 2048 + d * 2 := by
  rw [or_add (a * 1048576) _ 20 (by omega) (by omega) (by omega) (by omega) (by omega) (by omega), or_add _ (c * 2048) 12 (by omega) (by omega) (by omega) (by omega) (by omega) (by omega), or_add _ (d * 2) 11 (by omega) (by omega) (by omega) (by omega) (by omega) (by omega)]
theorem f_S (wd : Int) (h0 : 0 ≤ wd) (h1 : wd < 4294967296) : sgn (fld wd 31 25 * 32 + fld wd 11 7) 12 = immS wd := by
  show (if (wd / 33554432 % 128 * 32 + wd / 128 % 32) / 2048 % 2 = 1 then wd / 33554432 % 128 * 32 + wd / 128 % 32 - 4096 else wd / 33554432 % 128 * 32 + wd / 128 % 32) = immS wd
  have hs : 0 ≤ wd / 128 % 32 ∧ wd / 128 % 32 < 32 := by omega
  unfold immS
  generalize wd / 128 % 32 = p at *
  by_cases h : wd < 2147483648
  · rw [wrap32_lt h0 h, if_neg (by omega)]; omega
  · rw [wrap32_ge (by omega) h1, if_pos (by omega)]; omega
theorem f_B (wd : Int) (h0 : 0 ≤ wd) (h1 : wd < 4294967296) : sgn (fld wd 31 31 * 4096 + fld wd 7 7 * 2048 + fld wd 30 25 * 32 + fld wd 11 8 * 2) 13 = immB wd := by
  have e1 : fld wd 31 31 = wd / 2147483648 % 2 := rfl
  have e2 : fld wd 7 7 = wd / 128 % 2 := rfl
  have e3 : fld wd 30 25 = wd / 33554432 % 64 := rfl
  have e4 : fld wd 11 8 = wd / 256 % 16 := rfl
  rw [e1, e2, e3, e4]
  have hs : (0 ≤ wd / 128 % 2 ∧ wd / 128 % 2 < 2) ∧ (0 ≤ wd / 33554432 % 64 ∧ wd / 33554432 % 64 < 64) ∧ (0 ≤ wd / 256 % 16 ∧ wd / 256 % 16 < 16) := by omega
  unfold immB
  generalize wd / 128 % 2 = p at *
  generalize wd / 33554432 % 64 = q at *
  generalize wd / 256 % 16 = r at *
  show (if (wd / 2147483648 % 2 * 4096 + p * 2048 + q * 32 + r * 2) / 4096 % 2 = 1 then wd / 2147483648 % 2 * 4096 + p * 2048 + q * 32 + r * 2 - 8192 else wd / 2147483648 % 2 * 4096 + p * 2048 + q * 32 + r * 2) = _
  by_cases h : wd < 2147483648
  · rw [wrap32_lt h0 h, if_neg (by omega)]; omega
  · rw [wrap32_ge (by omega) h1, if_pos (by omega)]; omega
theorem f_J (wd : Int) (h0 : 0 ≤ wd) (h1 : wd < 4294967296) : sgn (fld wd 31 31 * 1048576 + fld wd 19 12 * 4096 + fld wd 20 20 * 2048 + fld wd 30 21 * 2) 21 = immJ wd := by
  have e1 : fld wd 31 31 = wd / 2147483648 % 2 := rfl
  have e2 : fld wd 19 12 = wd / 4096 % 256 := rfl
  have e3 : fld wd 20 20 = wd / 1048576 % 2 := rfl
  have e4 : fld wd 30 21 = wd / 2097152 % 1024 := rfl
  rw [e1, e2, e3, e4]
  have hs : (0 ≤ wd / 4096 % 256 ∧ wd / 4096 % 256 < 256) ∧ (0 ≤ wd / 1048576 % 2 ∧ wd / 1048576 % 2 < 2) ∧ (0 ≤ wd / 2097152 % 1024 ∧ wd / 2097152 % 1024 < 1024) := by omega
  unfold immJ
  generalize wd / 4096 % 256 = p at *
  generalize wd / 1048576 % 2 = q at *
  generalize wd / 2097152 % 1024 = r at *
  show (if (wd / 2147483648 % 2 * 1048576 + p * 4096 + q * 2048 + r * 2) / 1048576 % 2 = 1 then wd / 2147483648 % 2 * 1048576 + p * 4096 + q * 2048 + r * 2 - 2097152 else wd / 2147483648 % 2 * 1048576 + p * 4096 + q * 2048 + r * 2) = _
  by_cases h : wd < 2147483648
  · rw [wrap32_lt h0 h, if_neg (by omega)]; omega
  · rw [wrap32_ge (by omega) h1, if_pos (by omega)]; omega
theorem rone_any (b : Nat) (l : List Int) (k : Int) (L : Nat) (i : Ins) (h0 : 0 ≤ k) (hk : k < 8) (hL : L < 10) (hl : l.length = L) (w : World) (T : TypeId) (fr : Nat × Nat) (hb : w.heap[b]? = some (.cells (l.map (Value.int .i64)).toArray T fr)) :
    Calls Tryz.prog 24 #[.slice (some ⟨b, 0, none⟩) L L, .int .u32 k, .agg i.cells] w (OnlyR (insP (oneO l k i)) w) := by
  subst hl
  by_cases h : k < (l.length : Int)
  · have hk' : k.toNat < l.length := by omega
    have hc : w.cell? ⟨b, k.toNat, none⟩ = some (.int .i64 (l.getD k.toNat 99)) := by
      rw [cell_of_row w b _ _ _ _ hb]
      simp [List.getD_eq_getElem?_getD, List.getElem?_eq_getElem hk']
    have := rone_in b l.length k (l.getD k.toNat 99) i h0 h hk hL w hc
    unfold oneO
    exact this
  · have := rone_out b l.length k i (by omega) hk w
    have e : oneO l k i = none := by
      have : l.getD k.toNat 99 = 99 := by
        rw [List.getD_eq_getElem?_getD, List.getElem?_eq_none (by omega)]; rfl
      unfold oneO; rw [this]; rfl
    rw [e]; exact this
theorem results_ins (tmps : Array Value) (w : World) (b : Nat) (i : Ins) (v : Value) (h2 : tmps.getD 2 undef = .pointer (some ⟨b, 0, none⟩)) (h3 : tmps.getD 3 undef = v) (hi : InsAt w b i) :
    (results Tryz.f10 tmps).run Tryz.prog w = .ok (.tuple #[.agg i.cells, v]) w := by
  have c0 := hi.cell 0
  have c1 := hi.cell 1
  have c2 := hi.cell 2
  have c3 := hi.cell 3
  have c4 := hi.cell 4
  simp [Ins.cells] at c0 c1 c2 c3 c4
  have h2' : tmps[2]?.getD undef = .pointer (some ⟨b, 0, none⟩) := by simpa using h2
  have h3' : tmps[3]?.getD undef = v := by simpa using h3
  have hl := run_loadVar_row (P := Tryz.prog) w b _ 32 i.cells _ _ hi Tryz.underlying32 rfl (by kernel_rfl)
  simp [results, Tryz.results10, asAddr, h2', h3', hl]
theorem ins_store5 {w : World} {b : Nat} {i : Ins} (h : InsAt w b i) (o p q r m : Int) :
    InsAt (((((w.setCell ⟨b, 0, none⟩ (.int .i64 o)).setCell ⟨b, 1, none⟩ (.int .i64 p)).setCell ⟨b, 2, none⟩ (.int .i64 q)).setCell ⟨b, 3, none⟩ (.int .i64 r)).setCell ⟨b, 4, none⟩ (.int .i32 m)) b ⟨o, p, q, r, m⟩ := by
  have g := heap_setCell_same _ b 4 _ _ (.int .i32 m) (heap_setCell_same _ b 3 _ _ (.int .i64 r) (heap_setCell_same _ b 2 _ _ (.int .i64 q) (heap_setCell_same _ b 1 _ _ (.int .i64 p) (heap_setCell_same w b 0 _ _ (.int .i64 o) h))))
  simpa [InsAt, Ins.cells] using g
theorem ends_ins {w : World} {tmps : Array Value} {b : Nat} {i : Ins} {v r : Value} {w0 : World} (h2 : tmps.getD 2 undef = .pointer (some ⟨b, 0, none⟩)) (h3 : tmps.getD 3 undef = v) (hi : InsAt w b i)
    (hr : Value.tuple #[.agg i.cells, v] = r) (ho : Only (fun _ => False) w0 w) : bodyPost Tryz.prog Tryz.f10 (OnlyR r w0) Exit.ret ⟨tmps, []⟩ w :=
  bodyPost_ret (results_ins tmps w b i v h2 h3 hi) rfl ⟨by rw [hr], ho⟩
theorem alloc3_new (w : World) (A B C : Obj) (n : Nat) : ((((w.alloc A).drewN n).alloc B).alloc C).heap[w.heap.size + 1 + 1]? = some C := by
  have := heap_alloc_new (((w.alloc A).drewN n).alloc B) C
  have e : (((w.alloc A).drewN n).alloc B).heap.size = w.heap.size + 1 + 1 := by simp
  rw [e] at this; exact this
theorem alloc3_old (w : World) (A B C : Obj) (n : Nat) : ((((w.alloc A).drewN n).alloc B).alloc C).heap[w.heap.size]? = some A :=
  heap_alloc_old' _ (heap_alloc_old' _ (show ((w.alloc A).drewN n).heap[w.heap.size]? = some A from heap_alloc_new w A))
theorem InsAt.drewN {w : World} {b : Nat} {i : Ins} (h : InsAt w b i) (n : Nat) : InsAt (w.drewN n) b i := h
theorem InsAt.new (w : World) : InsAt (w.alloc (.cells #[.int .i64 0, .int .i64 0, .int .i64 0, .int .i64 0, .int .i32 0] 32)) w.heap.size Ins.zero := heap_alloc_new _ _

set_option maxRecDepth 100000 in
set_option maxHeartbeats 400000 in
theorem rdec_55 (wd : Int) (h0 : 0 ≤ wd) (h1 : wd < 4294967296) (hop : fld wd 6 0 = 55) (w : World) :
    Calls Tryz.prog 10 #[.int .u32 wd] w (OnlyR (insP (some ⟨0, rdF wd, 0, 0, immU wd⟩)) w) := by
  obtain ⟨⟨a1, a2⟩, ⟨b1, b2⟩, ⟨c1, c2⟩, ⟨d1, d2⟩, ⟨e1, e2⟩, ⟨f1, f2⟩⟩ := fbd wd
  go_enter Tryz.func10, Tryz.ntmps10
  go_wp2_with (first | (go_at_call 22; refine (rbits_any _ _ _ h0 h1 (by decide) (by decide) (by decide) (by decide) _).mono ?_; rintro e w' ⟨rfl, n, rfl⟩) | (go_at_call_of 23 (Value.int IntKind.u32 (fld wd 31 20)); refine (rsigned_any _ _ (by decide) f1 (by simpa using f2) _).mono ?_; rintro e w' ⟨rfl, rfl⟩))
  refine ends_ins (b := w.heap.size) (i := ⟨0, fld wd 11 7, 0, 0, wrap32 (bits BinOp.andNot IntKind.u32 wd 4095)⟩) (v := .bool true) ?_ ?_ ?_ ?_ ?_
  · rfl
  · rfl
  · refine (ins_store5 (i := Ins.zero) ?_ _ _ _ _ _)
    exact (InsAt.new w).drewN _
  · rw [f_U wd h0 h1, f_rd]; rfl
  · repeat (first | with_reducible exact Only.refl _ _ | with_reducible refine Only.setW ?_ _ _ | with_reducible refine Only.setW1 ?_ _ _ _ | with_reducible refine Only.alloc ?_ _ | with_reducible refine Only.drewN ?_ _ | with_reducible refine Only.drew ?_)

set_option maxRecDepth 100000 in
set_option maxHeartbeats 400000 in
theorem rdec_23 (wd : Int) (h0 : 0 ≤ wd) (h1 : wd < 4294967296) (hop : fld wd 6 0 = 23) (w : World) :
    Calls Tryz.prog 10 #[.int .u32 wd] w (OnlyR (insP (some ⟨1, rdF wd, 0, 0, immU wd⟩)) w) := by
  obtain ⟨⟨a1, a2⟩, ⟨b1, b2⟩, ⟨c1, c2⟩, ⟨d1, d2⟩, ⟨e1, e2⟩, ⟨f1, f2⟩⟩ := fbd wd
  go_enter Tryz.func10, Tryz.ntmps10
  go_wp2_with (first | (go_at_call 22; refine (rbits_any _ _ _ h0 h1 (by decide) (by decide) (by decide) (by decide) _).mono ?_; rintro e w' ⟨rfl, n, rfl⟩) | (go_at_call_of 23 (Value.int IntKind.u32 (fld wd 31 20)); refine (rsigned_any _ _ (by decide) f1 (by simpa using f2) _).mono ?_; rintro e w' ⟨rfl, rfl⟩))
  refine ends_ins (b := w.heap.size) (i := ⟨1, fld wd 11 7, 0, 0, wrap32 (bits BinOp.andNot IntKind.u32 wd 4095)⟩) (v := .bool true) ?_ ?_ ?_ ?_ ?_
  · rfl
  · rfl
  · refine (ins_store5 (i := Ins.zero) ?_ _ _ _ _ _)
    exact (InsAt.new w).drewN _
  · rw [f_U wd h0 h1, f_rd]; rfl
  · repeat (first | with_reducible exact Only.refl _ _ | with_reducible refine Only.setW ?_ _ _ | with_reducible refine Only.setW1 ?_ _ _ _ | with_reducible refine Only.alloc ?_ _ | with_reducible refine Only.drewN ?_ _ | with_reducible refine Only.drew ?_)

set_option maxRecDepth 100000 in
set_option maxHeartbeats 400000 in
theorem rdec_103 (wd : Int) (h0 : 0 ≤ wd) (h1 : wd < 4294967296) (hop : fld wd 6 0 = 103) (w : World) :
    Calls Tryz.prog 10 #[.int .u32 wd] w (OnlyR (insP (oneO [3] (fld wd 14 12) ⟨0, fld wd 11 7, fld wd 19 15, 0, sgn (fld wd 31 20) 12⟩)) w) := by
  obtain ⟨⟨a1, a2⟩, ⟨b1, b2⟩, ⟨c1, c2⟩, ⟨d1, d2⟩, ⟨e1, e2⟩, ⟨f1, f2⟩⟩ := fbd wd
  go_enter Tryz.func10, Tryz.ntmps10
  go_wp2_with (first | (go_at_call 22; refine (rbits_any _ _ _ h0 h1 (by decide) (by decide) (by decide) (by decide) _).mono ?_; rintro e w' ⟨rfl, n, rfl⟩) | (go_at_call_of 23 (Value.int IntKind.u32 (fld wd 31 20)); refine (rsigned_any _ _ (by decide) f1 (by simpa using f2) _).mono ?_; rintro e w' ⟨rfl, rfl⟩))
  refine (rone_any _ [3] _ 1 ⟨0, fld wd 11 7, fld wd 19 15, 0, sgn (fld wd 31 20) 12⟩ b1 b2 (by decide) rfl _ 30 (0, 0) ?_).mono ?_
  · exact heap_alloc2_new _ _ _
  rintro e w1 ⟨rfl, ho1⟩
  have hi : InsAt w1 w.heap.size Ins.zero := ho1.heap (fun h => h) (heap_alloc2_old _ _ _)
  have HO : Only (fun _ => False) w w1 := ((((Only.refl _ w).alloc _).alloc _).drewN _).then ho1
  clear ho1
  obtain ⟨O, hO⟩ : ∃ O, O = oneO [3] (fld wd 14 12) ⟨0, fld wd 11 7, fld wd 19 15, 0, sgn (fld wd 31 20) 12⟩ := ⟨_, rfl⟩
  rw [← hO]
  have HQ := Lib.hid hO
  clear hO
  have hsz : w.heap.size < w1.heap.size := heap_lt hi
  have q0 : w1.cell? ⟨w.heap.size, 0, none⟩ = some (.int .i64 0) := hi.cell 0
  have q1 : w1.cell? ⟨w.heap.size, 1, none⟩ = some (.int .i64 0) := hi.cell 1
  have q2 : w1.cell? ⟨w.heap.size, 2, none⟩ = some (.int .i64 0) := hi.cell 2
  have q3 : w1.cell? ⟨w.heap.size, 3, none⟩ = some (.int .i64 0) := hi.cell 3
  have q4 : w1.cell? ⟨w.heap.size, 4, none⟩ = some (.int .i32 0) := hi.cell 4
  have r0 : w1.frozen? ⟨w.heap.size, 0, none⟩ = false := hi.free 0
  have r1 : w1.frozen? ⟨w.heap.size, 1, none⟩ = false := hi.free 1
  have r2 : w1.frozen? ⟨w.heap.size, 2, none⟩ = false := hi.free 2
  have r3 : w1.frozen? ⟨w.heap.size, 3, none⟩ = false := hi.free 3
  have r4 : w1.frozen? ⟨w.heap.size, 4, none⟩ = false := hi.free 4
  cases O with
  | none =>
    simp only [insP, Ins.cells, Ins.zero]
    go_wp2_with fail
    refine ends_ins (b := w.heap.size) (v := .bool false) ?_ ?_ (ins_store5 hi _ _ _ _ _) ?_ ?_
    · rfl
    · rfl
    · rw [← HQ.out]; rfl
    · repeat (first | with_reducible exact Only.refl _ _ | with_reducible exact HO | with_reducible refine Only.setW ?_ _ _ | with_reducible refine Only.setW1 ?_ _ _ _ | with_reducible refine Only.alloc ?_ _ | with_reducible refine Only.drewN ?_ _ | with_reducible refine Only.drew ?_)
  | some j =>
    simp only [insP, Ins.cells]
    go_wp2_with fail
    refine ends_ins (b := w.heap.size) (v := .bool true) ?_ ?_ (ins_store5 hi _ _ _ _ _) ?_ ?_
    · rfl
    · rfl
    · rw [← HQ.out]; rfl
    · repeat (first | with_reducible exact Only.refl _ _ | with_reducible exact HO | with_reducible refine Only.setW ?_ _ _ | with_reducible refine Only.setW1 ?_ _ _ _ | with_reducible refine Only.alloc ?_ _ | with_reducible refine Only.drewN ?_ _ | with_reducible refine Only.drew ?_)

set_option maxRecDepth 100000 in
set_option maxHeartbeats 400000 in
theorem rdec_3 (wd : Int) (h0 : 0 ≤ wd) (h1 : wd < 4294967296) (hop : fld wd 6 0 = 3) (w : World) :
    Calls Tryz.prog 10 #[.int .u32 wd] w (OnlyR (insP (oneO [10, 11, 12, 99, 13, 14] (fld wd 14 12) ⟨0, fld wd 11 7, fld wd 19 15, 0, sgn (fld wd 31 20) 12⟩)) w) := by
  obtain ⟨⟨a1, a2⟩, ⟨b1, b2⟩, ⟨c1, c2⟩, ⟨d1, d2⟩, ⟨e1, e2⟩, ⟨f1, f2⟩⟩ := fbd wd
  go_enter Tryz.func10, Tryz.ntmps10
  go_wp2_with (first | (go_at_call 22; refine (rbits_any _ _ _ h0 h1 (by decide) (by decide) (by decide) (by decide) _).mono ?_; rintro e w' ⟨rfl, n, rfl⟩) | (go_at_call_of 23 (Value.int IntKind.u32 (fld wd 31 20)); refine (rsigned_any _ _ (by decide) f1 (by simpa using f2) _).mono ?_; rintro e w' ⟨rfl, rfl⟩))
  refine (rone_any _ [10, 11, 12, 99, 13, 14] _ 6 ⟨0, fld wd 11 7, fld wd 19 15, 0, sgn (fld wd 31 20) 12⟩ b1 b2 (by decide) rfl _ 30 (0, 0) ?_).mono ?_
  · exact heap_alloc2_new _ _ _
  rintro e w1 ⟨rfl, ho1⟩
  have hi : InsAt w1 w.heap.size Ins.zero := ho1.heap (fun h => h) (heap_alloc2_old _ _ _)
  have HO : Only (fun _ => False) w w1 := ((((Only.refl _ w).alloc _).alloc _).drewN _).then ho1
  clear ho1
  obtain ⟨O, hO⟩ : ∃ O, O = oneO [10, 11, 12, 99, 13, 14] (fld wd 14 12) ⟨0, fld wd 11 7, fld wd 19 15, 0, sgn (fld wd 31 20) 12⟩ := ⟨_, rfl⟩
  rw [← hO]
  have HQ := Lib.hid hO
  clear hO
  have hsz : w.heap.size < w1.heap.size := heap_lt hi
  have q0 : w1.cell? ⟨w.heap.size, 0, none⟩ = some (.int .i64 0) := hi.cell 0
  have q1 : w1.cell? ⟨w.heap.size, 1, none⟩ = some (.int .i64 0) := hi.cell 1
  have q2 : w1.cell? ⟨w.heap.size, 2, none⟩ = some (.int .i64 0) := hi.cell 2
  have q3 : w1.cell? ⟨w.heap.size, 3, none⟩ = some (.int .i64 0) := hi.cell 3
  have q4 : w1.cell? ⟨w.heap.size, 4, none⟩ = some (.int .i32 0) := hi.cell 4
  have r0 : w1.frozen? ⟨w.heap.size, 0, none⟩ = false := hi.free 0
  have r1 : w1.frozen? ⟨w.heap.size, 1, none⟩ = false := hi.free 1
  have r2 : w1.frozen? ⟨w.heap.size, 2, none⟩ = false := hi.free 2
  have r3 : w1.frozen? ⟨w.heap.size, 3, none⟩ = false := hi.free 3
  have r4 : w1.frozen? ⟨w.heap.size, 4, none⟩ = false := hi.free 4
  cases O with
  | none =>
    simp only [insP, Ins.cells, Ins.zero]
    go_wp2_with fail
    refine ends_ins (b := w.heap.size) (v := .bool false) ?_ ?_ (ins_store5 hi _ _ _ _ _) ?_ ?_
    · rfl
    · rfl
    · rw [← HQ.out]; rfl
    · repeat (first | with_reducible exact Only.refl _ _ | with_reducible exact HO | with_reducible refine Only.setW ?_ _ _ | with_reducible refine Only.setW1 ?_ _ _ _ | with_reducible refine Only.alloc ?_ _ | with_reducible refine Only.drewN ?_ _ | with_reducible refine Only.drew ?_)
  | some j =>
    simp only [insP, Ins.cells]
    go_wp2_with fail
    refine ends_ins (b := w.heap.size) (v := .bool true) ?_ ?_ (ins_store5 hi _ _ _ _ _) ?_ ?_
    · rfl
    · rfl
    · rw [← HQ.out]; rfl
    · repeat (first | with_reducible exact Only.refl _ _ | with_reducible exact HO | with_reducible refine Only.setW ?_ _ _ | with_reducible refine Only.setW1 ?_ _ _ _ | with_reducible refine Only.alloc ?_ _ | with_reducible refine Only.drewN ?_ _ | with_reducible refine Only.drew ?_)

set_option maxRecDepth 100000 in
set_option maxHeartbeats 400000 in
theorem rdec_15 (wd : Int) (h0 : 0 ≤ wd) (h1 : wd < 4294967296) (hop : fld wd 6 0 = 15) (w : World) :
    Calls Tryz.prog 10 #[.int .u32 wd] w (OnlyR (insP (oneO [45, 45] (fld wd 14 12) ⟨0, 0, 0, 0, 0⟩)) w) := by
  obtain ⟨⟨a1, a2⟩, ⟨b1, b2⟩, ⟨c1, c2⟩, ⟨d1, d2⟩, ⟨e1, e2⟩, ⟨f1, f2⟩⟩ := fbd wd
  go_enter Tryz.func10, Tryz.ntmps10
  go_wp2_with (first | (go_at_call 22; refine (rbits_any _ _ _ h0 h1 (by decide) (by decide) (by decide) (by decide) _).mono ?_; rintro e w' ⟨rfl, n, rfl⟩) | (go_at_call_of 23 (Value.int IntKind.u32 (fld wd 31 20)); refine (rsigned_any _ _ (by decide) f1 (by simpa using f2) _).mono ?_; rintro e w' ⟨rfl, rfl⟩))
  refine (rone_any _ [45, 45] _ 2 ⟨0, 0, 0, 0, 0⟩ b1 b2 (by decide) rfl _ 30 (0, 0) ?_).mono ?_
  · exact heap_alloc2_new _ _ _
  rintro e w1 ⟨rfl, ho1⟩
  have hi : InsAt w1 w.heap.size Ins.zero := ho1.heap (fun h => h) (heap_alloc2_old _ _ _)
  have HO : Only (fun _ => False) w w1 := ((((Only.refl _ w).alloc _).alloc _).drewN _).then ho1
  clear ho1
  obtain ⟨O, hO⟩ : ∃ O, O = oneO [45, 45] (fld wd 14 12) ⟨0, 0, 0, 0, 0⟩ := ⟨_, rfl⟩
  rw [← hO]
  have HQ := Lib.hid hO
  clear hO
  have hsz : w.heap.size < w1.heap.size := heap_lt hi
  have q0 : w1.cell? ⟨w.heap.size, 0, none⟩ = some (.int .i64 0) := hi.cell 0
  have q1 : w1.cell? ⟨w.heap.size, 1, none⟩ = some (.int .i64 0) := hi.cell 1
  have q2 : w1.cell? ⟨w.heap.size, 2, none⟩ = some (.int .i64 0) := hi.cell 2
  have q3 : w1.cell? ⟨w.heap.size, 3, none⟩ = some (.int .i64 0) := hi.cell 3
  have q4 : w1.cell? ⟨w.heap.size, 4, none⟩ = some (.int .i32 0) := hi.cell 4
  have r0 : w1.frozen? ⟨w.heap.size, 0, none⟩ = false := hi.free 0
  have r1 : w1.frozen? ⟨w.heap.size, 1, none⟩ = false := hi.free 1
  have r2 : w1.frozen? ⟨w.heap.size, 2, none⟩ = false := hi.free 2
  have r3 : w1.frozen? ⟨w.heap.size, 3, none⟩ = false := hi.free 3
  have r4 : w1.frozen? ⟨w.heap.size, 4, none⟩ = false := hi.free 4
  cases O with
  | none =>
    simp only [insP, Ins.cells, Ins.zero]
    go_wp2_with fail
    refine ends_ins (b := w.heap.size) (v := .bool false) ?_ ?_ (ins_store5 hi _ _ _ _ _) ?_ ?_
    · rfl
    · rfl
    · rw [← HQ.out]; rfl
    · repeat (first | with_reducible exact Only.refl _ _ | with_reducible exact HO | with_reducible refine Only.setW ?_ _ _ | with_reducible refine Only.setW1 ?_ _ _ _ | with_reducible refine Only.alloc ?_ _ | with_reducible refine Only.drewN ?_ _ | with_reducible refine Only.drew ?_)
  | some j =>
    simp only [insP, Ins.cells]
    go_wp2_with fail
    refine ends_ins (b := w.heap.size) (v := .bool true) ?_ ?_ (ins_store5 hi _ _ _ _ _) ?_ ?_
    · rfl
    · rfl
    · rw [← HQ.out]; rfl
    · repeat (first | with_reducible exact Only.refl _ _ | with_reducible exact HO | with_reducible refine Only.setW ?_ _ _ | with_reducible refine Only.setW1 ?_ _ _ _ | with_reducible refine Only.alloc ?_ _ | with_reducible refine Only.drewN ?_ _ | with_reducible refine Only.drew ?_)

set_option maxRecDepth 100000 in
set_option maxHeartbeats 400000 in
theorem rdec_51_0 (wd : Int) (h0 : 0 ≤ wd) (h1 : wd < 4294967296) (hop : fld wd 6 0 = 51) (hf7 : fld wd 31 25 = 0) (w : World) :
    Calls Tryz.prog 10 #[.int .u32 wd] w (OnlyR (insP (oneO [27, 29, 30, 31, 32, 33, 35, 36] (fld wd 14 12) ⟨0, fld wd 11 7, fld wd 19 15, fld wd 24 20, 0⟩)) w) := by
  obtain ⟨⟨a1, a2⟩, ⟨b1, b2⟩, ⟨c1, c2⟩, ⟨d1, d2⟩, ⟨e1, e2⟩, ⟨f1, f2⟩⟩ := fbd wd
  go_enter Tryz.func10, Tryz.ntmps10
  go_wp2_with (first | (go_at_call 22; refine (rbits_any _ _ _ h0 h1 (by decide) (by decide) (by decide) (by decide) _).mono ?_; rintro e w' ⟨rfl, n, rfl⟩) | (go_at_call_of 23 (Value.int IntKind.u32 (fld wd 31 20)); refine (rsigned_any _ _ (by decide) f1 (by simpa using f2) _).mono ?_; rintro e w' ⟨rfl, rfl⟩))
  refine (rone_any _ [27, 29, 30, 31, 32, 33, 35, 36] _ 8 ⟨0, fld wd 11 7, fld wd 19 15, fld wd 24 20, 0⟩ b1 b2 (by decide) rfl _ 30 (0, 0) ?_).mono ?_
  · exact alloc3_new _ _ _ _ _
  rintro e w1 ⟨rfl, ho1⟩
  have hi : InsAt w1 w.heap.size Ins.zero := ho1.heap (fun h => h) (alloc3_old _ _ _ _ _)
  have HO : Only (fun _ => False) w w1 := (((((Only.refl _ w).alloc _).drewN _).alloc _).alloc _).then ho1
  clear ho1
  obtain ⟨O, hO⟩ : ∃ O, O = oneO [27, 29, 30, 31, 32, 33, 35, 36] (fld wd 14 12) ⟨0, fld wd 11 7, fld wd 19 15, fld wd 24 20, 0⟩ := ⟨_, rfl⟩
  rw [← hO]
  have HQ := Lib.hid hO
  clear hO
  have hsz : w.heap.size < w1.heap.size := heap_lt hi
  have q0 : w1.cell? ⟨w.heap.size, 0, none⟩ = some (.int .i64 0) := hi.cell 0
  have q1 : w1.cell? ⟨w.heap.size, 1, none⟩ = some (.int .i64 0) := hi.cell 1
  have q2 : w1.cell? ⟨w.heap.size, 2, none⟩ = some (.int .i64 0) := hi.cell 2
  have q3 : w1.cell? ⟨w.heap.size, 3, none⟩ = some (.int .i64 0) := hi.cell 3
  have q4 : w1.cell? ⟨w.heap.size, 4, none⟩ = some (.int .i32 0) := hi.cell 4
  have r0 : w1.frozen? ⟨w.heap.size, 0, none⟩ = false := hi.free 0
  have r1 : w1.frozen? ⟨w.heap.size, 1, none⟩ = false := hi.free 1
  have r2 : w1.frozen? ⟨w.heap.size, 2, none⟩ = false := hi.free 2
  have r3 : w1.frozen? ⟨w.heap.size, 3, none⟩ = false := hi.free 3
  have r4 : w1.frozen? ⟨w.heap.size, 4, none⟩ = false := hi.free 4
  cases O with
  | none =>
    simp only [insP, Ins.cells, Ins.zero]
    go_wp2_with fail
    refine ends_ins (b := w.heap.size) (v := .bool false) ?_ ?_ (ins_store5 hi _ _ _ _ _) ?_ ?_
    · rfl
    · rfl
    · rw [← HQ.out]; rfl
    · repeat (first | with_reducible exact Only.refl _ _ | with_reducible exact HO | with_reducible refine Only.setW ?_ _ _ | with_reducible refine Only.setW1 ?_ _ _ _ | with_reducible refine Only.alloc ?_ _ | with_reducible refine Only.drewN ?_ _ | with_reducible refine Only.drew ?_)
  | some j =>
    simp only [insP, Ins.cells]
    go_wp2_with fail
    refine ends_ins (b := w.heap.size) (v := .bool true) ?_ ?_ (ins_store5 hi _ _ _ _ _) ?_ ?_
    · rfl
    · rfl
    · rw [← HQ.out]; rfl
    · repeat (first | with_reducible exact Only.refl _ _ | with_reducible exact HO | with_reducible refine Only.setW ?_ _ _ | with_reducible refine Only.setW1 ?_ _ _ _ | with_reducible refine Only.alloc ?_ _ | with_reducible refine Only.drewN ?_ _ | with_reducible refine Only.drew ?_)

set_option maxRecDepth 100000 in
set_option maxHeartbeats 400000 in
theorem rdec_51_1 (wd : Int) (h0 : 0 ≤ wd) (h1 : wd < 4294967296) (hop : fld wd 6 0 = 51) (hf7 : fld wd 31 25 = 1) (w : World) :
    Calls Tryz.prog 10 #[.int .u32 wd] w (OnlyR (insP (oneO [37, 38, 39, 40, 41, 42, 43, 44] (fld wd 14 12) ⟨0, fld wd 11 7, fld wd 19 15, fld wd 24 20, 0⟩)) w) := by
  obtain ⟨⟨a1, a2⟩, ⟨b1, b2⟩, ⟨c1, c2⟩, ⟨d1, d2⟩, ⟨e1, e2⟩, ⟨f1, f2⟩⟩ := fbd wd
  go_enter Tryz.func10, Tryz.ntmps10
  go_wp2_with (first | (go_at_call 22; refine (rbits_any _ _ _ h0 h1 (by decide) (by decide) (by decide) (by decide) _).mono ?_; rintro e w' ⟨rfl, n, rfl⟩) | (go_at_call_of 23 (Value.int IntKind.u32 (fld wd 31 20)); refine (rsigned_any _ _ (by decide) f1 (by simpa using f2) _).mono ?_; rintro e w' ⟨rfl, rfl⟩))
  refine (rone_any _ [37, 38, 39, 40, 41, 42, 43, 44] _ 8 ⟨0, fld wd 11 7, fld wd 19 15, fld wd 24 20, 0⟩ b1 b2 (by decide) rfl _ 30 (0, 0) ?_).mono ?_
  · exact alloc3_new _ _ _ _ _
  rintro e w1 ⟨rfl, ho1⟩
  have hi : InsAt w1 w.heap.size Ins.zero := ho1.heap (fun h => h) (alloc3_old _ _ _ _ _)
  have HO : Only (fun _ => False) w w1 := (((((Only.refl _ w).alloc _).drewN _).alloc _).alloc _).then ho1
  clear ho1
  obtain ⟨O, hO⟩ : ∃ O, O = oneO [37, 38, 39, 40, 41, 42, 43, 44] (fld wd 14 12) ⟨0, fld wd 11 7, fld wd 19 15, fld wd 24 20, 0⟩ := ⟨_, rfl⟩
  rw [← hO]
  have HQ := Lib.hid hO
  clear hO
  have hsz : w.heap.size < w1.heap.size := heap_lt hi
  have q0 : w1.cell? ⟨w.heap.size, 0, none⟩ = some (.int .i64 0) := hi.cell 0
  have q1 : w1.cell? ⟨w.heap.size, 1, none⟩ = some (.int .i64 0) := hi.cell 1
  have q2 : w1.cell? ⟨w.heap.size, 2, none⟩ = some (.int .i64 0) := hi.cell 2
  have q3 : w1.cell? ⟨w.heap.size, 3, none⟩ = some (.int .i64 0) := hi.cell 3
  have q4 : w1.cell? ⟨w.heap.size, 4, none⟩ = some (.int .i32 0) := hi.cell 4
  have r0 : w1.frozen? ⟨w.heap.size, 0, none⟩ = false := hi.free 0
  have r1 : w1.frozen? ⟨w.heap.size, 1, none⟩ = false := hi.free 1
  have r2 : w1.frozen? ⟨w.heap.size, 2, none⟩ = false := hi.free 2
  have r3 : w1.frozen? ⟨w.heap.size, 3, none⟩ = false := hi.free 3
  have r4 : w1.frozen? ⟨w.heap.size, 4, none⟩ = false := hi.free 4
  cases O with
  | none =>
    simp only [insP, Ins.cells, Ins.zero]
    go_wp2_with fail
    refine ends_ins (b := w.heap.size) (v := .bool false) ?_ ?_ (ins_store5 hi _ _ _ _ _) ?_ ?_
    · rfl
    · rfl
    · rw [← HQ.out]; rfl
    · repeat (first | with_reducible exact Only.refl _ _ | with_reducible exact HO | with_reducible refine Only.setW ?_ _ _ | with_reducible refine Only.setW1 ?_ _ _ _ | with_reducible refine Only.alloc ?_ _ | with_reducible refine Only.drewN ?_ _ | with_reducible refine Only.drew ?_)
  | some j =>
    simp only [insP, Ins.cells]
    go_wp2_with fail
    refine ends_ins (b := w.heap.size) (v := .bool true) ?_ ?_ (ins_store5 hi _ _ _ _ _) ?_ ?_
    · rfl
    · rfl
    · rw [← HQ.out]; rfl
    · repeat (first | with_reducible exact Only.refl _ _ | with_reducible exact HO | with_reducible refine Only.setW ?_ _ _ | with_reducible refine Only.setW1 ?_ _ _ _ | with_reducible refine Only.alloc ?_ _ | with_reducible refine Only.drewN ?_ _ | with_reducible refine Only.drew ?_)

set_option maxRecDepth 100000 in
set_option maxHeartbeats 400000 in
theorem rdec_51_32 (wd : Int) (h0 : 0 ≤ wd) (h1 : wd < 4294967296) (hop : fld wd 6 0 = 51) (hf7 : fld wd 31 25 = 32) (w : World) :
    Calls Tryz.prog 10 #[.int .u32 wd] w (OnlyR (insP (oneO [28, 99, 99, 99, 99, 34] (fld wd 14 12) ⟨0, fld wd 11 7, fld wd 19 15, fld wd 24 20, 0⟩)) w) := by
  obtain ⟨⟨a1, a2⟩, ⟨b1, b2⟩, ⟨c1, c2⟩, ⟨d1, d2⟩, ⟨e1, e2⟩, ⟨f1, f2⟩⟩ := fbd wd
  go_enter Tryz.func10, Tryz.ntmps10
  go_wp2_with (first | (go_at_call 22; refine (rbits_any _ _ _ h0 h1 (by decide) (by decide) (by decide) (by decide) _).mono ?_; rintro e w' ⟨rfl, n, rfl⟩) | (go_at_call_of 23 (Value.int IntKind.u32 (fld wd 31 20)); refine (rsigned_any _ _ (by decide) f1 (by simpa using f2) _).mono ?_; rintro e w' ⟨rfl, rfl⟩))
  refine (rone_any _ [28, 99, 99, 99, 99, 34] _ 6 ⟨0, fld wd 11 7, fld wd 19 15, fld wd 24 20, 0⟩ b1 b2 (by decide) rfl _ 30 (0, 0) ?_).mono ?_
  · exact alloc3_new _ _ _ _ _
  rintro e w1 ⟨rfl, ho1⟩
  have hi : InsAt w1 w.heap.size Ins.zero := ho1.heap (fun h => h) (alloc3_old _ _ _ _ _)
  have HO : Only (fun _ => False) w w1 := (((((Only.refl _ w).alloc _).drewN _).alloc _).alloc _).then ho1
  clear ho1
  obtain ⟨O, hO⟩ : ∃ O, O = oneO [28, 99, 99, 99, 99, 34] (fld wd 14 12) ⟨0, fld wd 11 7, fld wd 19 15, fld wd 24 20, 0⟩ := ⟨_, rfl⟩
  rw [← hO]
  have HQ := Lib.hid hO
  clear hO
  have hsz : w.heap.size < w1.heap.size := heap_lt hi
  have q0 : w1.cell? ⟨w.heap.size, 0, none⟩ = some (.int .i64 0) := hi.cell 0
  have q1 : w1.cell? ⟨w.heap.size, 1, none⟩ = some (.int .i64 0) := hi.cell 1
  have q2 : w1.cell? ⟨w.heap.size, 2, none⟩ = some (.int .i64 0) := hi.cell 2
  have q3 : w1.cell? ⟨w.heap.size, 3, none⟩ = some (.int .i64 0) := hi.cell 3
  have q4 : w1.cell? ⟨w.heap.size, 4, none⟩ = some (.int .i32 0) := hi.cell 4
  have r0 : w1.frozen? ⟨w.heap.size, 0, none⟩ = false := hi.free 0
  have r1 : w1.frozen? ⟨w.heap.size, 1, none⟩ = false := hi.free 1
  have r2 : w1.frozen? ⟨w.heap.size, 2, none⟩ = false := hi.free 2
  have r3 : w1.frozen? ⟨w.heap.size, 3, none⟩ = false := hi.free 3
  have r4 : w1.frozen? ⟨w.heap.size, 4, none⟩ = false := hi.free 4
  cases O with
  | none =>
    simp only [insP, Ins.cells, Ins.zero]
    go_wp2_with fail
    refine ends_ins (b := w.heap.size) (v := .bool false) ?_ ?_ (ins_store5 hi _ _ _ _ _) ?_ ?_
    · rfl
    · rfl
    · rw [← HQ.out]; rfl
    · repeat (first | with_reducible exact Only.refl _ _ | with_reducible exact HO | with_reducible refine Only.setW ?_ _ _ | with_reducible refine Only.setW1 ?_ _ _ _ | with_reducible refine Only.alloc ?_ _ | with_reducible refine Only.drewN ?_ _ | with_reducible refine Only.drew ?_)
  | some j =>
    simp only [insP, Ins.cells]
    go_wp2_with fail
    refine ends_ins (b := w.heap.size) (v := .bool true) ?_ ?_ (ins_store5 hi _ _ _ _ _) ?_ ?_
    · rfl
    · rfl
    · rw [← HQ.out]; rfl
    · repeat (first | with_reducible exact Only.refl _ _ | with_reducible exact HO | with_reducible refine Only.setW ?_ _ _ | with_reducible refine Only.setW1 ?_ _ _ _ | with_reducible refine Only.alloc ?_ _ | with_reducible refine Only.drewN ?_ _ | with_reducible refine Only.drew ?_)

set_option maxRecDepth 100000 in
set_option maxHeartbeats 400000 in
theorem rdec_n (wd : Int) (h0 : 0 ≤ wd) (h1 : wd < 4294967296) (g0 : (fld wd 6 0 == 55) = false) (g1 : (fld wd 6 0 == 23) = false) (g2 : (fld wd 6 0 == 111) = false) (g3 : (fld wd 6 0 == 103) = false) (g4 : (fld wd 6 0 == 99) = false) (g5 : (fld wd 6 0 == 3) = false) (g6 : (fld wd 6 0 == 35) = false) (g7 : (fld wd 6 0 == 19) = false) (g8 : (fld wd 6 0 == 51) = false) (g9 : (fld wd 6 0 == 15) = false) (g10 : (fld wd 6 0 == 115) = false) (w : World) :
    Calls Tryz.prog 10 #[.int .u32 wd] w (OnlyR (insP (none)) w) := by
  obtain ⟨⟨a1, a2⟩, ⟨b1, b2⟩, ⟨c1, c2⟩, ⟨d1, d2⟩, ⟨e1, e2⟩, ⟨f1, f2⟩⟩ := fbd wd
  go_enter Tryz.func10, Tryz.ntmps10
  go_wp2_with (first | (go_at_call 22; refine (rbits_any _ _ _ h0 h1 (by decide) (by decide) (by decide) (by decide) _).mono ?_; rintro e w' ⟨rfl, n, rfl⟩) | (go_at_call_of 23 (Value.int IntKind.u32 (fld wd 31 20)); refine (rsigned_any _ _ (by decide) f1 (by simpa using f2) _).mono ?_; rintro e w' ⟨rfl, rfl⟩))
  refine ends_ins (b := w.heap.size) (i := Ins.zero) (v := .bool false) ?_ ?_ ?_ ?_ ?_
  · rfl
  · rfl
  · refine (ins_store5 (i := Ins.zero) ?_ _ _ _ _ _)
    exact (InsAt.new w).drewN _
  · skip; rfl
  · repeat (first | with_reducible exact Only.refl _ _ | with_reducible refine Only.setW ?_ _ _ | with_reducible refine Only.setW1 ?_ _ _ _ | with_reducible refine Only.alloc ?_ _ | with_reducible refine Only.drewN ?_ _ | with_reducible refine Only.drew ?_)

set_option maxRecDepth 100000 in
set_option maxHeartbeats 400000 in
theorem rdec_115_0 (wd : Int) (h0 : 0 ≤ wd) (h1 : wd < 4294967296) (hop : fld wd 6 0 = 115) (g0 : (wd == 115) = true) (w : World) :
    Calls Tryz.prog 10 #[.int .u32 wd] w (OnlyR (insP (some ⟨46, 0, 0, 0, 0⟩)) w) := by
  obtain ⟨⟨a1, a2⟩, ⟨b1, b2⟩, ⟨c1, c2⟩, ⟨d1, d2⟩, ⟨e1, e2⟩, ⟨f1, f2⟩⟩ := fbd wd
  go_enter Tryz.func10, Tryz.ntmps10
  go_wp2_with (first | (go_at_call 22; refine (rbits_any _ _ _ h0 h1 (by decide) (by decide) (by decide) (by decide) _).mono ?_; rintro e w' ⟨rfl, n, rfl⟩) | (go_at_call_of 23 (Value.int IntKind.u32 (fld wd 31 20)); refine (rsigned_any _ _ (by decide) f1 (by simpa using f2) _).mono ?_; rintro e w' ⟨rfl, rfl⟩))
  refine ends_ins (b := w.heap.size) (i := ⟨46, 0, 0, 0, 0⟩) (v := .bool true) ?_ ?_ ?_ ?_ ?_
  · rfl
  · rfl
  · refine (ins_store5 (i := Ins.zero) ?_ _ _ _ _ _)
    exact (InsAt.new w).drewN _
  · skip; rfl
  · repeat (first | with_reducible exact Only.refl _ _ | with_reducible refine Only.setW ?_ _ _ | with_reducible refine Only.setW1 ?_ _ _ _ | with_reducible refine Only.alloc ?_ _ | with_reducible refine Only.drewN ?_ _ | with_reducible refine Only.drew ?_)

set_option maxRecDepth 100000 in
set_option maxHeartbeats 400000 in
theorem rdec_115_1 (wd : Int) (h0 : 0 ≤ wd) (h1 : wd < 4294967296) (hop : fld wd 6 0 = 115) (g1 : (wd == 115) = false) (g0 : (wd == 1048691) = true) (w : World) :
    Calls Tryz.prog 10 #[.int .u32 wd] w (OnlyR (insP (some ⟨47, 0, 0, 0, 0⟩)) w) := by
  obtain ⟨⟨a1, a2⟩, ⟨b1, b2⟩, ⟨c1, c2⟩, ⟨d1, d2⟩, ⟨e1, e2⟩, ⟨f1, f2⟩⟩ := fbd wd
  go_enter Tryz.func10, Tryz.ntmps10
  go_wp2_with (first | (go_at_call 22; refine (rbits_any _ _ _ h0 h1 (by decide) (by decide) (by decide) (by decide) _).mono ?_; rintro e w' ⟨rfl, n, rfl⟩) | (go_at_call_of 23 (Value.int IntKind.u32 (fld wd 31 20)); refine (rsigned_any _ _ (by decide) f1 (by simpa using f2) _).mono ?_; rintro e w' ⟨rfl, rfl⟩))
  refine ends_ins (b := w.heap.size) (i := ⟨47, 0, 0, 0, 0⟩) (v := .bool true) ?_ ?_ ?_ ?_ ?_
  · rfl
  · rfl
  · refine (ins_store5 (i := Ins.zero) ?_ _ _ _ _ _)
    exact (InsAt.new w).drewN _
  · skip; rfl
  · repeat (first | with_reducible exact Only.refl _ _ | with_reducible refine Only.setW ?_ _ _ | with_reducible refine Only.setW1 ?_ _ _ _ | with_reducible refine Only.alloc ?_ _ | with_reducible refine Only.drewN ?_ _ | with_reducible refine Only.drew ?_)

set_option maxRecDepth 100000 in
set_option maxHeartbeats 400000 in
theorem rdec_115_n (wd : Int) (h0 : 0 ≤ wd) (h1 : wd < 4294967296) (hop : fld wd 6 0 = 115) (g1 : (wd == 115) = false) (g0 : (wd == 1048691) = false) (w : World) :
    Calls Tryz.prog 10 #[.int .u32 wd] w (OnlyR (insP (none)) w) := by
  obtain ⟨⟨a1, a2⟩, ⟨b1, b2⟩, ⟨c1, c2⟩, ⟨d1, d2⟩, ⟨e1, e2⟩, ⟨f1, f2⟩⟩ := fbd wd
  go_enter Tryz.func10, Tryz.ntmps10
  go_wp2_with (first | (go_at_call 22; refine (rbits_any _ _ _ h0 h1 (by decide) (by decide) (by decide) (by decide) _).mono ?_; rintro e w' ⟨rfl, n, rfl⟩) | (go_at_call_of 23 (Value.int IntKind.u32 (fld wd 31 20)); refine (rsigned_any _ _ (by decide) f1 (by simpa using f2) _).mono ?_; rintro e w' ⟨rfl, rfl⟩))
  refine ends_ins (b := w.heap.size) (i := Ins.zero) (v := .bool false) ?_ ?_ ?_ ?_ ?_
  · rfl
  · rfl
  · refine (ins_store5 (i := Ins.zero) ?_ _ _ _ _ _)
    exact (InsAt.new w).drewN _
  · skip; rfl
  · repeat (first | with_reducible exact Only.refl _ _ | with_reducible refine Only.setW ?_ _ _ | with_reducible refine Only.setW1 ?_ _ _ _ | with_reducible refine Only.alloc ?_ _ | with_reducible refine Only.drewN ?_ _ | with_reducible refine Only.drew ?_)

set_option maxRecDepth 100000 in
set_option maxHeartbeats 400000 in
theorem rdec_35 (wd : Int) (h0 : 0 ≤ wd) (h1 : wd < 4294967296) (hop : fld wd 6 0 = 35) (w : World) :
    Calls Tryz.prog 10 #[.int .u32 wd] w (OnlyR (insP (oneO [15, 16, 17] (fld wd 14 12) ⟨0, 0, fld wd 19 15, fld wd 24 20, sgn (fld wd 31 25 * 32 + fld wd 11 7) 12⟩)) w) := by
  obtain ⟨⟨a1, a2⟩, ⟨b1, b2⟩, ⟨c1, c2⟩, ⟨d1, d2⟩, ⟨e1, e2⟩, ⟨f1, f2⟩⟩ := fbd wd
  go_enter Tryz.func10, Tryz.ntmps10
  go_wp2_with (first | (go_at_call 22; refine (rbits_any _ _ _ h0 h1 (by decide) (by decide) (by decide) (by decide) _).mono ?_; rintro e w' ⟨rfl, n, rfl⟩) | (go_at_call_of 23 (Value.int IntKind.u32 (fld wd 31 20)); refine (rsigned_any _ _ (by decide) f1 (by simpa using f2) _).mono ?_; rintro e w' ⟨rfl, rfl⟩))
  rw [v_S _ _ ⟨e1, e2⟩ ⟨a1, a2⟩]
  refine (rsigned_any _ _ (by decide) (by omega) (by simp only [Int.reduceToNat, Int.reducePow]; omega) _).mono ?_
  rintro e w' ⟨rfl, rfl⟩
  go_wp2_with fail
  refine (rone_any _ [15, 16, 17] _ 3 ⟨0, 0, fld wd 19 15, fld wd 24 20, sgn (fld wd 31 25 * 32 + fld wd 11 7) 12⟩ b1 b2 (by decide) rfl _ 30 (0, 0) ?_).mono ?_
  · exact heap_alloc2_new _ _ _
  rintro e w1 ⟨rfl, ho1⟩
  have hi : InsAt w1 w.heap.size Ins.zero := ho1.heap (fun h => h) (heap_alloc2_old _ _ _)
  have HO : Only (fun _ => False) w w1 := ((((Only.refl _ w).alloc _).alloc _).drewN _).then ho1
  clear ho1
  obtain ⟨O, hO⟩ : ∃ O, O = oneO [15, 16, 17] (fld wd 14 12) ⟨0, 0, fld wd 19 15, fld wd 24 20, sgn (fld wd 31 25 * 32 + fld wd 11 7) 12⟩ := ⟨_, rfl⟩
  rw [← hO]
  have HQ := Lib.hid hO
  clear hO
  have hsz : w.heap.size < w1.heap.size := heap_lt hi
  have q0 : w1.cell? ⟨w.heap.size, 0, none⟩ = some (.int .i64 0) := hi.cell 0
  have q1 : w1.cell? ⟨w.heap.size, 1, none⟩ = some (.int .i64 0) := hi.cell 1
  have q2 : w1.cell? ⟨w.heap.size, 2, none⟩ = some (.int .i64 0) := hi.cell 2
  have q3 : w1.cell? ⟨w.heap.size, 3, none⟩ = some (.int .i64 0) := hi.cell 3
  have q4 : w1.cell? ⟨w.heap.size, 4, none⟩ = some (.int .i32 0) := hi.cell 4
  have r0 : w1.frozen? ⟨w.heap.size, 0, none⟩ = false := hi.free 0
  have r1 : w1.frozen? ⟨w.heap.size, 1, none⟩ = false := hi.free 1
  have r2 : w1.frozen? ⟨w.heap.size, 2, none⟩ = false := hi.free 2
  have r3 : w1.frozen? ⟨w.heap.size, 3, none⟩ = false := hi.free 3
  have r4 : w1.frozen? ⟨w.heap.size, 4, none⟩ = false := hi.free 4
  cases O with
  | none =>
    simp only [insP, Ins.cells, Ins.zero]
    go_wp2_with fail
    refine ends_ins (b := w.heap.size) (v := .bool false) ?_ ?_ (ins_store5 hi _ _ _ _ _) ?_ ?_
    · rfl
    · rfl
    · rw [← HQ.out]; rfl
    · repeat (first | with_reducible exact Only.refl _ _ | with_reducible exact HO | with_reducible refine Only.setW ?_ _ _ | with_reducible refine Only.setW1 ?_ _ _ _ | with_reducible refine Only.alloc ?_ _ | with_reducible refine Only.drewN ?_ _ | with_reducible refine Only.drew ?_)
  | some j =>
    simp only [insP, Ins.cells]
    go_wp2_with fail
    refine ends_ins (b := w.heap.size) (v := .bool true) ?_ ?_ (ins_store5 hi _ _ _ _ _) ?_ ?_
    · rfl
    · rfl
    · rw [← HQ.out]; rfl
    · repeat (first | with_reducible exact Only.refl _ _ | with_reducible exact HO | with_reducible refine Only.setW ?_ _ _ | with_reducible refine Only.setW1 ?_ _ _ _ | with_reducible refine Only.alloc ?_ _ | with_reducible refine Only.drewN ?_ _ | with_reducible refine Only.drew ?_)

set_option maxRecDepth 100000 in
set_option maxHeartbeats 400000 in
theorem rdec_99 (wd : Int) (h0 : 0 ≤ wd) (h1 : wd < 4294967296) (hop : fld wd 6 0 = 99) (w : World) :
    Calls Tryz.prog 10 #[.int .u32 wd] w (OnlyR (insP (oneO [4, 5, 99, 99, 6, 7, 8, 9] (fld wd 14 12) ⟨0, 0, fld wd 19 15, fld wd 24 20, sgn (fld wd 31 31 * 4096 + fld wd 7 7 * 2048 + fld wd 30 25 * 32 + fld wd 11 8 * 2) 13⟩)) w) := by
  obtain ⟨⟨a1, a2⟩, ⟨b1, b2⟩, ⟨c1, c2⟩, ⟨d1, d2⟩, ⟨e1, e2⟩, ⟨f1, f2⟩⟩ := fbd wd
  have x3131 := fld_bd wd 31 31
  simp only [Int.reduceSub, Int.reduceAdd, Int.reduceToNat, Int.reducePow] at x3131
  obtain ⟨y3131, z3131⟩ := x3131
  have x77 := fld_bd wd 7 7
  simp only [Int.reduceSub, Int.reduceAdd, Int.reduceToNat, Int.reducePow] at x77
  obtain ⟨y77, z77⟩ := x77
  have x3025 := fld_bd wd 30 25
  simp only [Int.reduceSub, Int.reduceAdd, Int.reduceToNat, Int.reducePow] at x3025
  obtain ⟨y3025, z3025⟩ := x3025
  have x118 := fld_bd wd 11 8
  simp only [Int.reduceSub, Int.reduceAdd, Int.reduceToNat, Int.reducePow] at x118
  obtain ⟨y118, z118⟩ := x118
  have x1912 := fld_bd wd 19 12
  simp only [Int.reduceSub, Int.reduceAdd, Int.reduceToNat, Int.reducePow] at x1912
  obtain ⟨y1912, z1912⟩ := x1912
  have x2020 := fld_bd wd 20 20
  simp only [Int.reduceSub, Int.reduceAdd, Int.reduceToNat, Int.reducePow] at x2020
  obtain ⟨y2020, z2020⟩ := x2020
  have x3021 := fld_bd wd 30 21
  simp only [Int.reduceSub, Int.reduceAdd, Int.reduceToNat, Int.reducePow] at x3021
  obtain ⟨y3021, z3021⟩ := x3021
  go_enter Tryz.func10, Tryz.ntmps10
  go_wp2_with (first | (go_at_call 22; refine (rbits_any _ _ _ h0 h1 (by decide) (by decide) (by decide) (by decide) _).mono ?_; rintro e w' ⟨rfl, n, rfl⟩) | (go_at_call_of 23 (Value.int IntKind.u32 (fld wd 31 20)); refine (rsigned_any _ _ (by decide) f1 (by simpa using f2) _).mono ?_; rintro e w' ⟨rfl, rfl⟩))
  rw [v_B _ _ _ _ ⟨y3131, z3131⟩ ⟨y77, z77⟩ ⟨y3025, z3025⟩ ⟨y118, z118⟩]
  refine (rsigned_any _ _ (by decide) (by omega) (by simp only [Int.reduceToNat, Int.reducePow]; omega) _).mono ?_
  rintro e w' ⟨rfl, rfl⟩
  go_wp2_with fail
  refine (rone_any _ [4, 5, 99, 99, 6, 7, 8, 9] _ 8 ⟨0, 0, fld wd 19 15, fld wd 24 20, sgn (fld wd 31 31 * 4096 + fld wd 7 7 * 2048 + fld wd 30 25 * 32 + fld wd 11 8 * 2) 13⟩ b1 b2 (by decide) rfl _ 30 (0, 0) ?_).mono ?_
  · exact heap_alloc2_new _ _ _
  rintro e w1 ⟨rfl, ho1⟩
  have hi : InsAt w1 w.heap.size Ins.zero := ho1.heap (fun h => h) (heap_alloc2_old _ _ _)
  have HO : Only (fun _ => False) w w1 := ((((Only.refl _ w).alloc _).alloc _).drewN _).then ho1
  clear ho1
  obtain ⟨O, hO⟩ : ∃ O, O = oneO [4, 5, 99, 99, 6, 7, 8, 9] (fld wd 14 12) ⟨0, 0, fld wd 19 15, fld wd 24 20, sgn (fld wd 31 31 * 4096 + fld wd 7 7 * 2048 + fld wd 30 25 * 32 + fld wd 11 8 * 2) 13⟩ := ⟨_, rfl⟩
  rw [← hO]
  have HQ := Lib.hid hO
  clear hO
  have hsz : w.heap.size < w1.heap.size := heap_lt hi
  have q0 : w1.cell? ⟨w.heap.size, 0, none⟩ = some (.int .i64 0) := hi.cell 0
  have q1 : w1.cell? ⟨w.heap.size, 1, none⟩ = some (.int .i64 0) := hi.cell 1
  have q2 : w1.cell? ⟨w.heap.size, 2, none⟩ = some (.int .i64 0) := hi.cell 2
  have q3 : w1.cell? ⟨w.heap.size, 3, none⟩ = some (.int .i64 0) := hi.cell 3
  have q4 : w1.cell? ⟨w.heap.size, 4, none⟩ = some (.int .i32 0) := hi.cell 4
  have r0 : w1.frozen? ⟨w.heap.size, 0, none⟩ = false := hi.free 0
  have r1 : w1.frozen? ⟨w.heap.size, 1, none⟩ = false := hi.free 1
  have r2 : w1.frozen? ⟨w.heap.size, 2, none⟩ = false := hi.free 2
  have r3 : w1.frozen? ⟨w.heap.size, 3, none⟩ = false := hi.free 3
  have r4 : w1.frozen? ⟨w.heap.size, 4, none⟩ = false := hi.free 4
  cases O with
  | none =>
    simp only [insP, Ins.cells, Ins.zero]
    go_wp2_with fail
    refine ends_ins (b := w.heap.size) (v := .bool false) ?_ ?_ (ins_store5 hi _ _ _ _ _) ?_ ?_
    · rfl
    · rfl
    · rw [← HQ.out]; rfl
    · repeat (first | with_reducible exact Only.refl _ _ | with_reducible exact HO | with_reducible refine Only.setW ?_ _ _ | with_reducible refine Only.setW1 ?_ _ _ _ | with_reducible refine Only.alloc ?_ _ | with_reducible refine Only.drewN ?_ _ | with_reducible refine Only.drew ?_)
  | some j =>
    simp only [insP, Ins.cells]
    go_wp2_with fail
    refine ends_ins (b := w.heap.size) (v := .bool true) ?_ ?_ (ins_store5 hi _ _ _ _ _) ?_ ?_
    · rfl
    · rfl
    · rw [← HQ.out]; rfl
    · repeat (first | with_reducible exact Only.refl _ _ | with_reducible exact HO | with_reducible refine Only.setW ?_ _ _ | with_reducible refine Only.setW1 ?_ _ _ _ | with_reducible refine Only.alloc ?_ _ | with_reducible refine Only.drewN ?_ _ | with_reducible refine Only.drew ?_)

set_option maxRecDepth 100000 in
set_option maxHeartbeats 400000 in
theorem rdec_111 (wd : Int) (h0 : 0 ≤ wd) (h1 : wd < 4294967296) (hop : fld wd 6 0 = 111) (w : World) :
    Calls Tryz.prog 10 #[.int .u32 wd] w (OnlyR (insP (some ⟨2, rdF wd, 0, 0, immJ wd⟩)) w) := by
  obtain ⟨⟨a1, a2⟩, ⟨b1, b2⟩, ⟨c1, c2⟩, ⟨d1, d2⟩, ⟨e1, e2⟩, ⟨f1, f2⟩⟩ := fbd wd
  have x3131 := fld_bd wd 31 31
  simp only [Int.reduceSub, Int.reduceAdd, Int.reduceToNat, Int.reducePow] at x3131
  obtain ⟨y3131, z3131⟩ := x3131
  have x77 := fld_bd wd 7 7
  simp only [Int.reduceSub, Int.reduceAdd, Int.reduceToNat, Int.reducePow] at x77
  obtain ⟨y77, z77⟩ := x77
  have x3025 := fld_bd wd 30 25
  simp only [Int.reduceSub, Int.reduceAdd, Int.reduceToNat, Int.reducePow] at x3025
  obtain ⟨y3025, z3025⟩ := x3025
  have x118 := fld_bd wd 11 8
  simp only [Int.reduceSub, Int.reduceAdd, Int.reduceToNat, Int.reducePow] at x118
  obtain ⟨y118, z118⟩ := x118
  have x1912 := fld_bd wd 19 12
  simp only [Int.reduceSub, Int.reduceAdd, Int.reduceToNat, Int.reducePow] at x1912
  obtain ⟨y1912, z1912⟩ := x1912
  have x2020 := fld_bd wd 20 20
  simp only [Int.reduceSub, Int.reduceAdd, Int.reduceToNat, Int.reducePow] at x2020
  obtain ⟨y2020, z2020⟩ := x2020
  have x3021 := fld_bd wd 30 21
  simp only [Int.reduceSub, Int.reduceAdd, Int.reduceToNat, Int.reducePow] at x3021
  obtain ⟨y3021, z3021⟩ := x3021
  go_enter Tryz.func10, Tryz.ntmps10
  go_wp2_with (first | (go_at_call 22; refine (rbits_any _ _ _ h0 h1 (by decide) (by decide) (by decide) (by decide) _).mono ?_; rintro e w' ⟨rfl, n, rfl⟩) | (go_at_call_of 23 (Value.int IntKind.u32 (fld wd 31 20)); refine (rsigned_any _ _ (by decide) f1 (by simpa using f2) _).mono ?_; rintro e w' ⟨rfl, rfl⟩))
  rw [v_J _ _ _ _ ⟨y3131, z3131⟩ ⟨y1912, z1912⟩ ⟨y2020, z2020⟩ ⟨y3021, z3021⟩]
  refine (rsigned_any _ _ (by decide) (by omega) (by simp only [Int.reduceToNat, Int.reducePow]; omega) _).mono ?_
  rintro e w' ⟨rfl, rfl⟩
  go_wp2_with fail
  refine ends_ins (b := w.heap.size) (i := ⟨2, fld wd 11 7, 0, 0, sgn (fld wd 31 31 * 1048576 + fld wd 19 12 * 4096 + fld wd 20 20 * 2048 + fld wd 30 21 * 2) 21⟩) (v := .bool true) ?_ ?_ ?_ ?_ ?_
  · rfl
  · rfl
  · refine (ins_store5 (i := Ins.zero) ?_ _ _ _ _ _)
    exact (InsAt.new w).drewN _
  · rw [f_J wd h0 h1, f_rd]; rfl
  · repeat (first | with_reducible exact Only.refl _ _ | with_reducible refine Only.setW ?_ _ _ | with_reducible refine Only.setW1 ?_ _ _ _ | with_reducible refine Only.alloc ?_ _ | with_reducible refine Only.drewN ?_ _ | with_reducible refine Only.drew ?_)

set_option maxRecDepth 100000 in
set_option maxHeartbeats 400000 in
theorem rdec_51_n (wd : Int) (h0 : 0 ≤ wd) (h1 : wd < 4294967296) (hop : fld wd 6 0 = 51) (g0 : (fld wd 31 25 == 0) = false) (g1 : (fld wd 31 25 == 1) = false) (g2 : (fld wd 31 25 == 32) = false) (w : World) :
    Calls Tryz.prog 10 #[.int .u32 wd] w (OnlyR (insP (none)) w) := by
  obtain ⟨⟨a1, a2⟩, ⟨b1, b2⟩, ⟨c1, c2⟩, ⟨d1, d2⟩, ⟨e1, e2⟩, ⟨f1, f2⟩⟩ := fbd wd
  go_enter Tryz.func10, Tryz.ntmps10
  go_wp2_with (first | (go_at_call 22; refine (rbits_any _ _ _ h0 h1 (by decide) (by decide) (by decide) (by decide) _).mono ?_; rintro e w' ⟨rfl, n, rfl⟩) | (go_at_call_of 23 (Value.int IntKind.u32 (fld wd 31 20)); refine (rsigned_any _ _ (by decide) f1 (by simpa using f2) _).mono ?_; rintro e w' ⟨rfl, rfl⟩))
  refine ends_ins (b := w.heap.size) (i := Ins.zero) (v := .bool false) ?_ ?_ ?_ ?_ ?_
  · rfl
  · rfl
  · refine heap_alloc_old' _ (ins_store5 (i := Ins.zero) ?_ _ _ _ _ _)
    exact (InsAt.new w).drewN _
  · skip; rfl
  · repeat (first | with_reducible exact Only.refl _ _ | with_reducible refine Only.setW ?_ _ _ | with_reducible refine Only.setW1 ?_ _ _ _ | with_reducible refine Only.alloc ?_ _ | with_reducible refine Only.drewN ?_ _ | with_reducible refine Only.drew ?_)

set_option maxRecDepth 100000 in
set_option maxHeartbeats 400000 in
theorem rdec_19_i (wd : Int) (h0 : 0 ≤ wd) (h1 : wd < 4294967296) (hop : fld wd 6 0 = 19) (g1 : (fld wd 14 12 == 1) = false) (g5 : (fld wd 14 12 == 5) = false) (w : World) :
    Calls Tryz.prog 10 #[.int .u32 wd] w (OnlyR (insP (oneO [18, 99, 19, 20, 21, 99, 22, 23] (fld wd 14 12) ⟨0, fld wd 11 7, fld wd 19 15, 0, sgn (fld wd 31 20) 12⟩)) w) := by
  obtain ⟨⟨a1, a2⟩, ⟨b1, b2⟩, ⟨c1, c2⟩, ⟨d1, d2⟩, ⟨e1, e2⟩, ⟨f1, f2⟩⟩ := fbd wd
  go_enter Tryz.func10, Tryz.ntmps10
  go_wp2_with (first | (go_at_call 22; refine (rbits_any _ _ _ h0 h1 (by decide) (by decide) (by decide) (by decide) _).mono ?_; rintro e w' ⟨rfl, n, rfl⟩) | (go_at_call_of 23 (Value.int IntKind.u32 (fld wd 31 20)); refine (rsigned_any _ _ (by decide) f1 (by simpa using f2) _).mono ?_; rintro e w' ⟨rfl, rfl⟩))
  refine (rone_any _ [18, 99, 19, 20, 21, 99, 22, 23] _ 8 ⟨0, fld wd 11 7, fld wd 19 15, 0, sgn (fld wd 31 20) 12⟩ b1 b2 (by decide) rfl _ 30 (0, 0) ?_).mono ?_
  · exact heap_alloc2_new _ _ _
  rintro e w1 ⟨rfl, ho1⟩
  have hi : InsAt w1 w.heap.size Ins.zero := ho1.heap (fun h => h) (heap_alloc2_old _ _ _)
  have HO : Only (fun _ => False) w w1 := ((((Only.refl _ w).alloc _).alloc _).drewN _).then ho1
  clear ho1
  obtain ⟨O, hO⟩ : ∃ O, O = oneO [18, 99, 19, 20, 21, 99, 22, 23] (fld wd 14 12) ⟨0, fld wd 11 7, fld wd 19 15, 0, sgn (fld wd 31 20) 12⟩ := ⟨_, rfl⟩
  rw [← hO]
  have HQ := Lib.hid hO
  clear hO
  have hsz : w.heap.size < w1.heap.size := heap_lt hi
  have q0 : w1.cell? ⟨w.heap.size, 0, none⟩ = some (.int .i64 0) := hi.cell 0
  have q1 : w1.cell? ⟨w.heap.size, 1, none⟩ = some (.int .i64 0) := hi.cell 1
  have q2 : w1.cell? ⟨w.heap.size, 2, none⟩ = some (.int .i64 0) := hi.cell 2
  have q3 : w1.cell? ⟨w.heap.size, 3, none⟩ = some (.int .i64 0) := hi.cell 3
  have q4 : w1.cell? ⟨w.heap.size, 4, none⟩ = some (.int .i32 0) := hi.cell 4
  have r0 : w1.frozen? ⟨w.heap.size, 0, none⟩ = false := hi.free 0
  have r1 : w1.frozen? ⟨w.heap.size, 1, none⟩ = false := hi.free 1
  have r2 : w1.frozen? ⟨w.heap.size, 2, none⟩ = false := hi.free 2
  have r3 : w1.frozen? ⟨w.heap.size, 3, none⟩ = false := hi.free 3
  have r4 : w1.frozen? ⟨w.heap.size, 4, none⟩ = false := hi.free 4
  cases O with
  | none =>
    simp only [insP, Ins.cells, Ins.zero]
    go_wp2_with fail
    refine ends_ins (b := w.heap.size) (v := .bool false) ?_ ?_ (ins_store5 hi _ _ _ _ _) ?_ ?_
    · rfl
    · rfl
    · rw [← HQ.out]; rfl
    · repeat (first | with_reducible exact Only.refl _ _ | with_reducible exact HO | with_reducible refine Only.setW ?_ _ _ | with_reducible refine Only.setW1 ?_ _ _ _ | with_reducible refine Only.alloc ?_ _ | with_reducible refine Only.drewN ?_ _ | with_reducible refine Only.drew ?_)
  | some j =>
    simp only [insP, Ins.cells]
    go_wp2_with fail
    refine ends_ins (b := w.heap.size) (v := .bool true) ?_ ?_ (ins_store5 hi _ _ _ _ _) ?_ ?_
    · rfl
    · rfl
    · rw [← HQ.out]; rfl
    · repeat (first | with_reducible exact Only.refl _ _ | with_reducible exact HO | with_reducible refine Only.setW ?_ _ _ | with_reducible refine Only.setW1 ?_ _ _ _ | with_reducible refine Only.alloc ?_ _ | with_reducible refine Only.drewN ?_ _ | with_reducible refine Only.drew ?_)

set_option maxRecDepth 100000 in
set_option maxHeartbeats 400000 in
theorem rdec_19_1 (wd : Int) (h0 : 0 ≤ wd) (h1 : wd < 4294967296) (hop : fld wd 6 0 = 19) (hf3 : fld wd 14 12 = 1) (hf7 : fld wd 31 25 = 0) (w : World) :
    Calls Tryz.prog 10 #[.int .u32 wd] w (OnlyR (insP (oneO [99, 24, 99, 99, 99, 25, 26] 1 ⟨0, fld wd 11 7, fld wd 19 15, 0, fld wd 24 20⟩)) w) := by
  obtain ⟨⟨a1, a2⟩, ⟨b1, b2⟩, ⟨c1, c2⟩, ⟨d1, d2⟩, ⟨e1, e2⟩, ⟨f1, f2⟩⟩ := fbd wd
  go_enter Tryz.func10, Tryz.ntmps10
  go_wp2_with (first | (go_at_call 22; refine (rbits_any _ _ _ h0 h1 (by decide) (by decide) (by decide) (by decide) _).mono ?_; rintro e w' ⟨rfl, n, rfl⟩) | (go_at_call_of 23 (Value.int IntKind.u32 (fld wd 31 20)); refine (rsigned_any _ _ (by decide) f1 (by simpa using f2) _).mono ?_; rintro e w' ⟨rfl, rfl⟩))
  refine (rone_any _ [99, 24, 99, 99, 99, 25, 26] _ 7 ⟨0, fld wd 11 7, fld wd 19 15, 0, fld wd 24 20⟩ (by decide) (by decide) (by decide) rfl _ 30 (0, 0) ?_).mono ?_
  · exact heap_alloc2_new _ _ _
  rintro e w1 ⟨rfl, ho1⟩
  have hi : InsAt w1 w.heap.size Ins.zero := ho1.heap (fun h => h) (heap_alloc2_old _ _ _)
  have HO : Only (fun _ => False) w w1 := ((((Only.refl _ w).alloc _).alloc _).drewN _).then ho1
  clear ho1
  obtain ⟨O, hO⟩ : ∃ O, O = oneO [99, 24, 99, 99, 99, 25, 26] 1 ⟨0, fld wd 11 7, fld wd 19 15, 0, fld wd 24 20⟩ := ⟨_, rfl⟩
  rw [← hO]
  have HQ := Lib.hid hO
  clear hO
  have hsz : w.heap.size < w1.heap.size := heap_lt hi
  have q0 : w1.cell? ⟨w.heap.size, 0, none⟩ = some (.int .i64 0) := hi.cell 0
  have q1 : w1.cell? ⟨w.heap.size, 1, none⟩ = some (.int .i64 0) := hi.cell 1
  have q2 : w1.cell? ⟨w.heap.size, 2, none⟩ = some (.int .i64 0) := hi.cell 2
  have q3 : w1.cell? ⟨w.heap.size, 3, none⟩ = some (.int .i64 0) := hi.cell 3
  have q4 : w1.cell? ⟨w.heap.size, 4, none⟩ = some (.int .i32 0) := hi.cell 4
  have r0 : w1.frozen? ⟨w.heap.size, 0, none⟩ = false := hi.free 0
  have r1 : w1.frozen? ⟨w.heap.size, 1, none⟩ = false := hi.free 1
  have r2 : w1.frozen? ⟨w.heap.size, 2, none⟩ = false := hi.free 2
  have r3 : w1.frozen? ⟨w.heap.size, 3, none⟩ = false := hi.free 3
  have r4 : w1.frozen? ⟨w.heap.size, 4, none⟩ = false := hi.free 4
  cases O with
  | none =>
    simp only [insP, Ins.cells, Ins.zero]
    go_wp2_with fail
    refine ends_ins (b := w.heap.size) (v := .bool false) ?_ ?_ (ins_store5 hi _ _ _ _ _) ?_ ?_
    · rfl
    · rfl
    · rw [← HQ.out]; rfl
    · repeat (first | with_reducible exact Only.refl _ _ | with_reducible exact HO | with_reducible refine Only.setW ?_ _ _ | with_reducible refine Only.setW1 ?_ _ _ _ | with_reducible refine Only.alloc ?_ _ | with_reducible refine Only.drewN ?_ _ | with_reducible refine Only.drew ?_)
  | some j =>
    simp only [insP, Ins.cells]
    go_wp2_with fail
    refine ends_ins (b := w.heap.size) (v := .bool true) ?_ ?_ (ins_store5 hi _ _ _ _ _) ?_ ?_
    · rfl
    · rfl
    · rw [← HQ.out]; rfl
    · repeat (first | with_reducible exact Only.refl _ _ | with_reducible exact HO | with_reducible refine Only.setW ?_ _ _ | with_reducible refine Only.setW1 ?_ _ _ _ | with_reducible refine Only.alloc ?_ _ | with_reducible refine Only.drewN ?_ _ | with_reducible refine Only.drew ?_)

set_option maxRecDepth 100000 in
set_option maxHeartbeats 400000 in
theorem rdec_19_5 (wd : Int) (h0 : 0 ≤ wd) (h1 : wd < 4294967296) (hop : fld wd 6 0 = 19) (hf3 : fld wd 14 12 = 5) (hf7 : fld wd 31 25 = 0) (w : World) :
    Calls Tryz.prog 10 #[.int .u32 wd] w (OnlyR (insP (oneO [99, 24, 99, 99, 99, 25, 26] 5 ⟨0, fld wd 11 7, fld wd 19 15, 0, fld wd 24 20⟩)) w) := by
  obtain ⟨⟨a1, a2⟩, ⟨b1, b2⟩, ⟨c1, c2⟩, ⟨d1, d2⟩, ⟨e1, e2⟩, ⟨f1, f2⟩⟩ := fbd wd
  go_enter Tryz.func10, Tryz.ntmps10
  go_wp2_with (first | (go_at_call 22; refine (rbits_any _ _ _ h0 h1 (by decide) (by decide) (by decide) (by decide) _).mono ?_; rintro e w' ⟨rfl, n, rfl⟩) | (go_at_call_of 23 (Value.int IntKind.u32 (fld wd 31 20)); refine (rsigned_any _ _ (by decide) f1 (by simpa using f2) _).mono ?_; rintro e w' ⟨rfl, rfl⟩))
  refine (rone_any _ [99, 24, 99, 99, 99, 25, 26] _ 7 ⟨0, fld wd 11 7, fld wd 19 15, 0, fld wd 24 20⟩ (by decide) (by decide) (by decide) rfl _ 30 (0, 0) ?_).mono ?_
  · exact heap_alloc2_new _ _ _
  rintro e w1 ⟨rfl, ho1⟩
  have hi : InsAt w1 w.heap.size Ins.zero := ho1.heap (fun h => h) (heap_alloc2_old _ _ _)
  have HO : Only (fun _ => False) w w1 := ((((Only.refl _ w).alloc _).alloc _).drewN _).then ho1
  clear ho1
  obtain ⟨O, hO⟩ : ∃ O, O = oneO [99, 24, 99, 99, 99, 25, 26] 5 ⟨0, fld wd 11 7, fld wd 19 15, 0, fld wd 24 20⟩ := ⟨_, rfl⟩
  rw [← hO]
  have HQ := Lib.hid hO
  clear hO
  have hsz : w.heap.size < w1.heap.size := heap_lt hi
  have q0 : w1.cell? ⟨w.heap.size, 0, none⟩ = some (.int .i64 0) := hi.cell 0
  have q1 : w1.cell? ⟨w.heap.size, 1, none⟩ = some (.int .i64 0) := hi.cell 1
  have q2 : w1.cell? ⟨w.heap.size, 2, none⟩ = some (.int .i64 0) := hi.cell 2
  have q3 : w1.cell? ⟨w.heap.size, 3, none⟩ = some (.int .i64 0) := hi.cell 3
  have q4 : w1.cell? ⟨w.heap.size, 4, none⟩ = some (.int .i32 0) := hi.cell 4
  have r0 : w1.frozen? ⟨w.heap.size, 0, none⟩ = false := hi.free 0
  have r1 : w1.frozen? ⟨w.heap.size, 1, none⟩ = false := hi.free 1
  have r2 : w1.frozen? ⟨w.heap.size, 2, none⟩ = false := hi.free 2
  have r3 : w1.frozen? ⟨w.heap.size, 3, none⟩ = false := hi.free 3
  have r4 : w1.frozen? ⟨w.heap.size, 4, none⟩ = false := hi.free 4
  cases O with
  | none =>
    simp only [insP, Ins.cells, Ins.zero]
    go_wp2_with fail
    refine ends_ins (b := w.heap.size) (v := .bool false) ?_ ?_ (ins_store5 hi _ _ _ _ _) ?_ ?_
    · rfl
    · rfl
    · rw [← HQ.out]; rfl
    · repeat (first | with_reducible exact Only.refl _ _ | with_reducible exact HO | with_reducible refine Only.setW ?_ _ _ | with_reducible refine Only.setW1 ?_ _ _ _ | with_reducible refine Only.alloc ?_ _ | with_reducible refine Only.drewN ?_ _ | with_reducible refine Only.drew ?_)
  | some j =>
    simp only [insP, Ins.cells]
    go_wp2_with fail
    refine ends_ins (b := w.heap.size) (v := .bool true) ?_ ?_ (ins_store5 hi _ _ _ _ _) ?_ ?_
    · rfl
    · rfl
    · rw [← HQ.out]; rfl
    · repeat (first | with_reducible exact Only.refl _ _ | with_reducible exact HO | with_reducible refine Only.setW ?_ _ _ | with_reducible refine Only.setW1 ?_ _ _ _ | with_reducible refine Only.alloc ?_ _ | with_reducible refine Only.drewN ?_ _ | with_reducible refine Only.drew ?_)

set_option maxRecDepth 100000 in
set_option maxHeartbeats 400000 in
theorem rdec_19_6 (wd : Int) (h0 : 0 ≤ wd) (h1 : wd < 4294967296) (hop : fld wd 6 0 = 19) (hf3 : fld wd 14 12 = 5) (hf7 : fld wd 31 25 = 32) (w : World) :
    Calls Tryz.prog 10 #[.int .u32 wd] w (OnlyR (insP (oneO [99, 24, 99, 99, 99, 25, 26] 6 ⟨0, fld wd 11 7, fld wd 19 15, 0, fld wd 24 20⟩)) w) := by
  obtain ⟨⟨a1, a2⟩, ⟨b1, b2⟩, ⟨c1, c2⟩, ⟨d1, d2⟩, ⟨e1, e2⟩, ⟨f1, f2⟩⟩ := fbd wd
  go_enter Tryz.func10, Tryz.ntmps10
  go_wp2_with (first | (go_at_call 22; refine (rbits_any _ _ _ h0 h1 (by decide) (by decide) (by decide) (by decide) _).mono ?_; rintro e w' ⟨rfl, n, rfl⟩) | (go_at_call_of 23 (Value.int IntKind.u32 (fld wd 31 20)); refine (rsigned_any _ _ (by decide) f1 (by simpa using f2) _).mono ?_; rintro e w' ⟨rfl, rfl⟩))
  refine (rone_any _ [99, 24, 99, 99, 99, 25, 26] _ 7 ⟨0, fld wd 11 7, fld wd 19 15, 0, fld wd 24 20⟩ (by decide) (by decide) (by decide) rfl _ 30 (0, 0) ?_).mono ?_
  · exact heap_alloc2_new _ _ _
  rintro e w1 ⟨rfl, ho1⟩
  have hi : InsAt w1 w.heap.size Ins.zero := ho1.heap (fun h => h) (heap_alloc2_old _ _ _)
  have HO : Only (fun _ => False) w w1 := ((((Only.refl _ w).alloc _).alloc _).drewN _).then ho1
  clear ho1
  obtain ⟨O, hO⟩ : ∃ O, O = oneO [99, 24, 99, 99, 99, 25, 26] 6 ⟨0, fld wd 11 7, fld wd 19 15, 0, fld wd 24 20⟩ := ⟨_, rfl⟩
  rw [← hO]
  have HQ := Lib.hid hO
  clear hO
  have hsz : w.heap.size < w1.heap.size := heap_lt hi
  have q0 : w1.cell? ⟨w.heap.size, 0, none⟩ = some (.int .i64 0) := hi.cell 0
  have q1 : w1.cell? ⟨w.heap.size, 1, none⟩ = some (.int .i64 0) := hi.cell 1
  have q2 : w1.cell? ⟨w.heap.size, 2, none⟩ = some (.int .i64 0) := hi.cell 2
  have q3 : w1.cell? ⟨w.heap.size, 3, none⟩ = some (.int .i64 0) := hi.cell 3
  have q4 : w1.cell? ⟨w.heap.size, 4, none⟩ = some (.int .i32 0) := hi.cell 4
  have r0 : w1.frozen? ⟨w.heap.size, 0, none⟩ = false := hi.free 0
  have r1 : w1.frozen? ⟨w.heap.size, 1, none⟩ = false := hi.free 1
  have r2 : w1.frozen? ⟨w.heap.size, 2, none⟩ = false := hi.free 2
  have r3 : w1.frozen? ⟨w.heap.size, 3, none⟩ = false := hi.free 3
  have r4 : w1.frozen? ⟨w.heap.size, 4, none⟩ = false := hi.free 4
  cases O with
  | none =>
    simp only [insP, Ins.cells, Ins.zero]
    go_wp2_with fail
    refine ends_ins (b := w.heap.size) (v := .bool false) ?_ ?_ (ins_store5 hi _ _ _ _ _) ?_ ?_
    · rfl
    · rfl
    · rw [← HQ.out]; rfl
    · repeat (first | with_reducible exact Only.refl _ _ | with_reducible exact HO | with_reducible refine Only.setW ?_ _ _ | with_reducible refine Only.setW1 ?_ _ _ _ | with_reducible refine Only.alloc ?_ _ | with_reducible refine Only.drewN ?_ _ | with_reducible refine Only.drew ?_)
  | some j =>
    simp only [insP, Ins.cells]
    go_wp2_with fail
    refine ends_ins (b := w.heap.size) (v := .bool true) ?_ ?_ (ins_store5 hi _ _ _ _ _) ?_ ?_
    · rfl
    · rfl
    · rw [← HQ.out]; rfl
    · repeat (first | with_reducible exact Only.refl _ _ | with_reducible exact HO | with_reducible refine Only.setW ?_ _ _ | with_reducible refine Only.setW1 ?_ _ _ _ | with_reducible refine Only.alloc ?_ _ | with_reducible refine Only.drewN ?_ _ | with_reducible refine Only.drew ?_)

set_option maxRecDepth 100000 in
set_option maxHeartbeats 400000 in
theorem rdec_19_1n (wd : Int) (h0 : 0 ≤ wd) (h1 : wd < 4294967296) (hop : fld wd 6 0 = 19) (hf3 : fld wd 14 12 = 1) (g0 : (fld wd 31 25 == 0) = false) (w : World) :
    Calls Tryz.prog 10 #[.int .u32 wd] w (OnlyR (insP (none)) w) := by
  obtain ⟨⟨a1, a2⟩, ⟨b1, b2⟩, ⟨c1, c2⟩, ⟨d1, d2⟩, ⟨e1, e2⟩, ⟨f1, f2⟩⟩ := fbd wd
  go_enter Tryz.func10, Tryz.ntmps10
  go_wp2_with (first | (go_at_call 22; refine (rbits_any _ _ _ h0 h1 (by decide) (by decide) (by decide) (by decide) _).mono ?_; rintro e w' ⟨rfl, n, rfl⟩) | (go_at_call_of 23 (Value.int IntKind.u32 (fld wd 31 20)); refine (rsigned_any _ _ (by decide) f1 (by simpa using f2) _).mono ?_; rintro e w' ⟨rfl, rfl⟩))
  refine ends_ins (b := w.heap.size) (i := Ins.zero) (v := .bool false) ?_ ?_ ?_ ?_ ?_
  · rfl
  · rfl
  · refine (ins_store5 (i := Ins.zero) ?_ _ _ _ _ _)
    exact (InsAt.new w).drewN _
  · skip; rfl
  · repeat (first | with_reducible exact Only.refl _ _ | with_reducible refine Only.setW ?_ _ _ | with_reducible refine Only.setW1 ?_ _ _ _ | with_reducible refine Only.alloc ?_ _ | with_reducible refine Only.drewN ?_ _ | with_reducible refine Only.drew ?_)

set_option maxRecDepth 100000 in
set_option maxHeartbeats 400000 in
theorem rdec_19_5n (wd : Int) (h0 : 0 ≤ wd) (h1 : wd < 4294967296) (hop : fld wd 6 0 = 19) (hf3 : fld wd 14 12 = 5) (g0 : (fld wd 31 25 == 0) = false) (g2 : (fld wd 31 25 == 32) = false) (w : World) :
    Calls Tryz.prog 10 #[.int .u32 wd] w (OnlyR (insP (none)) w) := by
  obtain ⟨⟨a1, a2⟩, ⟨b1, b2⟩, ⟨c1, c2⟩, ⟨d1, d2⟩, ⟨e1, e2⟩, ⟨f1, f2⟩⟩ := fbd wd
  go_enter Tryz.func10, Tryz.ntmps10
  go_wp2_with (first | (go_at_call 22; refine (rbits_any _ _ _ h0 h1 (by decide) (by decide) (by decide) (by decide) _).mono ?_; rintro e w' ⟨rfl, n, rfl⟩) | (go_at_call_of 23 (Value.int IntKind.u32 (fld wd 31 20)); refine (rsigned_any _ _ (by decide) f1 (by simpa using f2) _).mono ?_; rintro e w' ⟨rfl, rfl⟩))
  refine ends_ins (b := w.heap.size) (i := Ins.zero) (v := .bool false) ?_ ?_ ?_ ?_ ?_
  · rfl
  · rfl
  · refine (ins_store5 (i := Ins.zero) ?_ _ _ _ _ _)
    exact (InsAt.new w).drewN _
  · skip; rfl
  · repeat (first | with_reducible exact Only.refl _ _ | with_reducible refine Only.setW ?_ _ _ | with_reducible refine Only.setW1 ?_ _ _ _ | with_reducible refine Only.alloc ?_ _ | with_reducible refine Only.drewN ?_ _ | with_reducible refine Only.drew ?_)
end Go.Proofs.YtanccjaikocefaaGreatDoor
