/-
  The contract of 'At': the instruction at an address, or how the run ends there. Conditions: the machine lies in memory; its numbers are in their ranges; the table lies ('Tab').
-/
import Derived.Test.YtanccjaikocefaaDoorDo
import Derived.Test.YtanccjaikocefaaDoorDecBoth
import Derived.Test.YtanccjaikocefaaDoorWord
namespace Go.Proofs.YtanccjaikocefaaDoor
open Go.ChangeShapes Go.WideShapes Go.ChangeAt Go.RowKit
set_option linter.unusedVariables false

/-- What 'At' comes to. -/
def AtP (w : World) (e : Ending) (w' : World) : Int ⊕ Ins → Prop
  | .inl o => e = trapE o ∧ Only (fun _ => False) w w'
  | .inr i => e = .returned (.agg i.cells) ∧ Only (fun _ => False) w w'
theorem results_one {fn : Func} {p : Tmp} (hres : fn.results = #[.cell p 25]) (tmps : Array Value) (w : World) (b : Nat) (i : Ins) (h2 : tmps.getD p undef = .pointer (some ⟨b, 0, none⟩)) (hi : InsAt w b i) :
    (results fn tmps).run Tryd.prog w = .ok (.agg i.cells) w := by
  have h2' : tmps[p]?.getD undef = .pointer (some ⟨b, 0, none⟩) := by simpa using h2
  have hl := run_loadVar_row (P := Tryd.prog) w b _ 25 i.cells _ _ hi Tryd.underlying25 rfl (by kernel_rfl)
  simp [results, hres, asAddr, h2', hl]
set_option maxRecDepth 100000 in
set_option maxHeartbeats 400000 in
theorem at_align (b : Nat) (s : St) (hs : s.Ok) (x : Raw) (w : World) (h : Mach w b s x) (ht : Tab w) (ha : (s.pc % 4 != 0) = true) :
    Calls Tryd.prog 35 #[.pointer (some ⟨b, 0, none⟩), .int .u32 s.pc] w fun e w' => AtP w e w' (fetch s) := by
  have he : fetch s = .inl 3 := by unfold fetch; rw [if_pos (by simpa using ha)]
  rw [he]
  obtain ⟨pc0, pc1⟩ := hs.pc
  have H := h
  clear h he
  go_enter Tryd.func35, Tryd.ntmps35
  go_wp2_with fail
  refine (trap_any _ _ _).mono ?_
  rintro e w' ⟨rfl, rfl⟩
  exact ⟨rfl, rfl, by repeat (first | with_reducible exact Only.refl _ _ | with_reducible refine Only.alloc ?_ _)⟩
set_option maxRecDepth 100000 in
set_option maxHeartbeats 400000 in
theorem at_fault (b : Nat) (s : St) (hs : s.Ok) (x : Raw) (w : World) (h : Mach w b s x) (ht : Tab w) (ha : (s.pc % 4 != 0) = false) (hl : lies s s.pc 4 = false) :
    Calls Tryd.prog 35 #[.pointer (some ⟨b, 0, none⟩), .int .u32 s.pc] w fun e w' => AtP w e w' (fetch s) := by
  have he : fetch s = .inl 4 := by unfold fetch; rw [if_neg (by simpa using ha), hl]; rfl
  rw [he]
  obtain ⟨pc0, pc1⟩ := hs.pc
  have H := h
  have HL := Lib.hid hl
  clear h he hl
  go_enter Tryd.func35, Tryd.ntmps35
  go_wp2_with fail
  refine (lies_any b _ _ s x _ (H.mac.alloc _) pc0 pc1 (by omega) (by omega) hs.len).mono ?_
  rintro e w1 ⟨rfl, rfl⟩
  rw [HL.out]
  go_wp2_with fail
  refine (trap_any _ _ _).mono ?_
  rintro e w' ⟨rfl, rfl⟩
  exact ⟨rfl, rfl, by repeat (first | with_reducible exact Only.refl _ _ | with_reducible refine Only.alloc ?_ _)⟩
set_option maxRecDepth 100000 in
set_option maxHeartbeats 400000 in
theorem at_in (b : Nat) (s : St) (hs : s.Ok) (x : Raw) (w : World) (h : Mach w b s x) (ht : Tab w) (ha : (s.pc % 4 != 0) = false) (hl : lies s s.pc 4 = true) :
    Calls Tryd.prog 35 #[.pointer (some ⟨b, 0, none⟩), .int .u32 s.pc] w fun e w' => AtP w e w' (fetch s) := by
  have hw := wordAt_ok hs s.pc
  have he : fetch s = (match decO (wordAt s.mem s.pc) with | some i => .inr i | none => .inl 2) := by unfold fetch; rw [if_neg (by simpa using ha), if_pos hl]; cases decO (wordAt s.mem s.pc) <;> rfl
  have hl2 : s.pc + 4 ≤ (s.mem.length : Int) := by unfold lies at hl; simpa using hl
  obtain ⟨pc0, pc1⟩ := hs.pc
  have H := h
  have HL := Lib.hid hl
  have HE := Lib.hid he
  have HI := Lib.hid hl2
  clear h he hl hl2
  go_enter Tryd.func35, Tryd.ntmps35
  go_wp2_with fail
  have hO0 : Only (fun _ => False) w (w.alloc (.cells #[.int .i64 0, .int .i64 0, .int .i64 0, .int .i64 0, .int .i32 0] 25)) := (Only.refl _ w).alloc _
  have hM0 := H.no hO0
  refine (lies_any b _ _ s x _ hM0.mac pc0 pc1 (by omega) (by omega) hs.len).mono ?_
  rintro e w1 ⟨rfl, rfl⟩
  rw [HL.out]
  go_wp2_with fail
  refine (word_any b s hs x s.pc pc0 HI.out _ hM0).mono ?_
  rintro e w1 ⟨rfl, rfl⟩
  go_wp2_with fail
  refine (decode_any _ hw.1 hw.2 _ (ht.alloc _)).mono ?_
  rintro e w1 ⟨rfl, ho⟩
  rw [decP_form]
  have hi : InsAt w1 w.heap.size Ins.zero := ho.heap (fun h => h) (heap_alloc_new _ _)
  have HO : Only (fun _ => False) w w1 := ((Only.refl _ w).alloc _).then ho
  clear ho
  have hsz : w.heap.size < w1.heap.size := heap_lt hi
  have hd : decO (wordAt s.mem s.pc) = if decB (wordAt s.mem s.pc) then some (decI (wordAt s.mem s.pc)) else none := by
    unfold decB decI
    cases decO (wordAt s.mem s.pc) <;> rfl
  have HD := Lib.hid hd
  clear hd
  generalize decI (wordAt s.mem s.pc) = I at *
  generalize decB (wordAt s.mem s.pc) = B at *
  cases B with
  | false =>
    go_wp2_with fail
    refine (trap_any _ _ _).mono ?_
    rintro e w' ⟨rfl, rfl⟩
    have hh : fetch s = .inl 2 := by rw [HE.out, HD.out]; rfl
    refine ⟨rfl, ?_⟩
    show AtP w _ _ (fetch s)
    rw [hh]
    exact ⟨rfl, by repeat (first | with_reducible exact HO | with_reducible refine Only.alloc ?_ _)⟩
  | true =>
    have q0 : w1.cell? ⟨w.heap.size, 0, none⟩ = some (.int .i64 0) := hi.cell 0
    have q1 : w1.cell? ⟨w.heap.size, 1, none⟩ = some (.int .i64 0) := hi.cell 1
    have q2 : w1.cell? ⟨w.heap.size, 2, none⟩ = some (.int .i64 0) := hi.cell 2
    have q3 : w1.cell? ⟨w.heap.size, 3, none⟩ = some (.int .i64 0) := hi.cell 3
    have q4 : w1.cell? ⟨w.heap.size, 4, none⟩ = some (.int .i32 0) := hi.cell 4
    have r0 : w1.frozen? ⟨w.heap.size, 0, none⟩ = false := hi.free 0
    have r1 : w1.frozen? ⟨w.heap.size, 1, none⟩ = false := hi.free 1
    have r2 : w1.frozen? ⟨w.heap.size, 2, none⟩ = false := hi.free 2
    have r3 : w1.frozen? ⟨w.heap.size, 3, none⟩ = false := hi.free 3
    have r4 : w1.frozen? ⟨w.heap.size, 4, none⟩ = false := hi.free 4
    go_wp2_with fail
    have hh : fetch s = .inr I := by rw [HE.out, HD.out]; rfl
    refine bodyPost_ret (results_one Tryd.results35 _ _ w.heap.size I ?_ ?_) rfl ?_
    · rfl
    · exact heap_alloc_old' _ (ins_store5 hi _ _ _ _ _)
    · show AtP w _ _ (fetch s)
      rw [hh]
      exact ⟨rfl, by repeat (first | with_reducible exact HO | with_reducible refine Only.alloc ?_ _ | with_reducible refine Only.setW ?_ _ _)⟩
theorem at_any (b : Nat) (s : St) (hs : s.Ok) (x : Raw) (w : World) (h : Mach w b s x) (ht : Tab w) :
    Calls Tryd.prog 35 #[.pointer (some ⟨b, 0, none⟩), .int .u32 s.pc] w fun e w' => AtP w e w' (fetch s) := by
  cases ha : s.pc % 4 != 0
  · cases hl : lies s s.pc 4
    · exact at_fault b s hs x w h ht ha hl
    · exact at_in b s hs x w h ht ha hl
  · exact at_align b s hs x w h ht ha
end Go.Proofs.YtanccjaikocefaaDoor
