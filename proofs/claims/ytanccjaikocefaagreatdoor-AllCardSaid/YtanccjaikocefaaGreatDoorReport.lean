/-
  The contract of Report: what has come of a run, as a value. Conditions: the machine lies in memory; its numbers are in their ranges.
-/
import Derived.Test.YtanccjaikocefaaGreatDoorCall2
import Derived.Deep.RegionHeld3
import Derived.Deep.MidRow
namespace Go.Proofs.YtanccjaikocefaaGreatDoor
open Go.ChangeShapes Go.WideShapes Go.ChangeAt Go.RowKit
set_option linter.unusedVariables false

def regs32 (s : St) : List Value := [.int .u32 (s.regs 0), .int .u32 (s.regs 1), .int .u32 (s.regs 2), .int .u32 (s.regs 3), .int .u32 (s.regs 4), .int .u32 (s.regs 5), .int .u32 (s.regs 6), .int .u32 (s.regs 7), .int .u32 (s.regs 8), .int .u32 (s.regs 9), .int .u32 (s.regs 10), .int .u32 (s.regs 11), .int .u32 (s.regs 12), .int .u32 (s.regs 13), .int .u32 (s.regs 14), .int .u32 (s.regs 15), .int .u32 (s.regs 16), .int .u32 (s.regs 17), .int .u32 (s.regs 18), .int .u32 (s.regs 19), .int .u32 (s.regs 20), .int .u32 (s.regs 21), .int .u32 (s.regs 22), .int .u32 (s.regs 23), .int .u32 (s.regs 24), .int .u32 (s.regs 25), .int .u32 (s.regs 26), .int .u32 (s.regs 27), .int .u32 (s.regs 28), .int .u32 (s.regs 29), .int .u32 (s.regs 30), .int .u32 (s.regs 31)]
theorem regs32_eq (s : St) : (List.range 32).map (fun j => Value.int .u32 (s.regs j)) = regs32 s := rfl
/-- A report as a value. -/
def repCells (o : Int) (s : St) (evs : Value) (built : Int) : Array Value := #[.int .i64 o, .int .u32 s.pc, .int .u32 (s.regs 0), .int .u32 (s.regs 1), .int .u32 (s.regs 2), .int .u32 (s.regs 3), .int .u32 (s.regs 4), .int .u32 (s.regs 5), .int .u32 (s.regs 6), .int .u32 (s.regs 7), .int .u32 (s.regs 8), .int .u32 (s.regs 9), .int .u32 (s.regs 10), .int .u32 (s.regs 11), .int .u32 (s.regs 12), .int .u32 (s.regs 13), .int .u32 (s.regs 14), .int .u32 (s.regs 15), .int .u32 (s.regs 16), .int .u32 (s.regs 17), .int .u32 (s.regs 18), .int .u32 (s.regs 19), .int .u32 (s.regs 20), .int .u32 (s.regs 21), .int .u32 (s.regs 22), .int .u32 (s.regs 23), .int .u32 (s.regs 24), .int .u32 (s.regs 25), .int .u32 (s.regs 26), .int .u32 (s.regs 27), .int .u32 (s.regs 28), .int .u32 (s.regs 29), .int .u32 (s.regs 30), .int .u32 (s.regs 31), .int .u32 s.brk, .string (strOfNums s.mem), evs, .int .i64 s.steps, .int .i64 built]
def zeroRep : Array Value := #[.int .i64 0, .int .u32 0, .int .u32 0, .int .u32 0, .int .u32 0, .int .u32 0, .int .u32 0, .int .u32 0, .int .u32 0, .int .u32 0, .int .u32 0, .int .u32 0, .int .u32 0, .int .u32 0, .int .u32 0, .int .u32 0, .int .u32 0, .int .u32 0, .int .u32 0, .int .u32 0, .int .u32 0, .int .u32 0, .int .u32 0, .int .u32 0, .int .u32 0, .int .u32 0, .int .u32 0, .int .u32 0, .int .u32 0, .int .u32 0, .int .u32 0, .int .u32 0, .int .u32 0, .int .u32 0, .int .u32 0, .string ⟨#[]⟩, .slice none 0 0, .int .i64 0, .int .i64 0]
/-- The cells that a report is made of. -/
theorem MacAt.range {w : World} {b : Nat} {s : St} {x : Raw} (h : MacAt w b s x) : w.rangeAt b 0 (regs32 s) := by
  intro j v hj
  rw [Nat.zero_add, h.cell]
  unfold mCells
  rw [regs32_eq, List.getElem?_append_left]
  · exact hj
  · exact (List.getElem?_eq_some_iff.1 hj).1
theorem conv_mem (w : World) (mb : Nat) (l : List Int) (h : w.heap[mb]? = some (.cells (l.map (Value.int .u8)).toArray 5 (0, 0))) (hn : l.length ≤ 512) (c : Nat) :
    (convert 67 9 (.slice (some ⟨mb, 0, none⟩) l.length c)).run Tryz.prog w = .ok (.string (strOfNums l)) w := by
  refine run_convert_bytes_arg (P := Tryz.prog) w 67 5 Tryz.underlying67 Tryz.underlying5 mb 0 l.length c l rfl (fun j hj => ?_) 9 Tryz.underlying9
  rw [Nat.zero_add, cell_of_row w mb _ _ _ _ h]
  simp [List.getD_eq_getElem?_getD, List.getElem?_eq_getElem hj]
theorem rep_one (o : Int) (s : St) (a : Option Addr) (n c : Nat) (bu : Int) : ∀ v ∈ repCells o s (.slice a n c) bu, v.oneCell' = true := by
  intro v hv
  have : (repCells o s (.slice a n c) bu).all (·.oneCell') = true := by simp [repCells, Value.oneCell']
  exact (Array.all_eq_true_iff_forall_mem.1 this) v hv
def ReportP (o : Int) (s : St) (evs : Value) (w : World) (e : Ending) (w' : World) : Prop := e = .returned (.agg (repCells o s evs 0)) ∧ Only (fun _ => False) w w'
theorem wpList_store_ex {P : Program} {ops : Array Oper} {rest : List Oper} {o : Oper} {a : Act} {w : World} {Q : Exit → Act → World → Prop} (hgd : o.guard = none) (t : TypeId) (x y : Operand) (ho : o.op = .store t x y)
    (v1 v2 : Value) (hx : a.eval x = v1) (hy : a.eval y = v2) {R : World → Prop} (hr : ∃ w', (Instr.storeAt t v1 v2).run P w = .ok () w' ∧ R w') (h : ∀ w', R w' → wpList P ops Q rest (a.put o.dst undef) w') :
    wpList P ops Q (o :: rest) a w := by
  obtain ⟨w', hr, hR⟩ := hr
  refine wpList_plain hgd fun K hK => ?_
  unfold Oper.wp execOp
  simp only [ho, hx, hy, Sem.run_bind, Sem.run_pure, Result.andThen_ok, hr]
  exact hK _ _ (h w' hR)
theorem wpStill_load {P : Program} {ops : Array Oper} {w : World} {Q : Act → Prop} {a : Act} {o : Oper} {rest : List Oper} (hgd : o.guard = none) (t : TypeId) (x : Operand) (ho : o.op = .load t x) (va v : Value) (hx : a.eval x = va)
    (hr : (Instr.loadAt t va).run P w = .ok v w) (h : wpStill P ops w Q rest (a.put o.dst v)) : wpStill P ops w Q (o :: rest) a := by
  refine wpStill_step (fun K hK => ?_)
  have hw : Region.wanted o (yielded ops a.tmps) = true := by simp [Region.wanted, hgd]
  rw [if_pos hw]
  unfold Oper.still execOp
  simp only [ho, hx, Sem.run_bind, Sem.run_pure, Result.andThen_ok, hr, Oper.stillUpon_value]
  exact hK _ h
theorem wpStill_build {P : Program} {ops : Array Oper} {w : World} {Q : Act → Prop} {a : Act} {o : Oper} {rest : List Oper} (hgd : o.guard = none) (t : TypeId) (parts : Array (Nat × Operand)) (ho : o.op = .build t parts)
    {vals : Array (Nat × Value)} (hv : (parts.map fun (i, x) => (i, a.eval x)) = vals) {v : Value}
    (hr : (Instr.build t vals).run P w = .ok v w) (h : wpStill P ops w Q rest (a.put o.dst v)) : wpStill P ops w Q (o :: rest) a := by
  refine wpStill_step (fun K hK => ?_)
  have hw : Region.wanted o (yielded ops a.tmps) = true := by simp [Region.wanted, hgd]
  rw [if_pos hw]
  unfold Oper.still execOp
  simp only [ho]
  rw [hv]
  simp only [Sem.run_bind, Sem.run_pure, Result.andThen_ok, hr, Oper.stillUpon_value]
  exact hK _ h
/-- A block is written anew, whole. -/
def Whole (g : Nat) (cells : Array Value) (T : TypeId) (w w' : World) : Prop := Only (· = g) w w' ∧ w'.heap[g]? = some (.cells cells T (0, 0))
theorem store_whole (w : World) (g : Nat) (ty T : TypeId) (old cells : Array Value) (h : w.heap[g]? = some (.cells old T (0, 0))) (hs : old.size = cells.size) (hi : (Tryz.prog.info? ty).map (·.size) = some cells.size) (h1 : ∀ v ∈ cells, v.oneCell' = true) :
    ∃ w', (Instr.storeAt ty (.pointer (some ⟨g, 0, none⟩)) (.agg cells)).run Tryz.prog w = .ok () w' ∧ Whole g cells T w w' := by
  have hst := run_storeCells_at Tryz.prog g 0 T cells.toList 0 old w h (by simp [hs]) (fun v hv => h1 v (by simpa using hv))
  cases hq : Tryz.prog.info? ty with
  | none => simp [hq] at hi
  | some i =>
    have hsz : cells.size = i.size := by simp [hq] at hi; omega
    have hfin : (old.toList.take (0 + 0) ++ cells.toList ++ old.toList.drop (0 + 0 + cells.toList.length)).toArray = cells := by
      apply Array.ext'
      simp [List.drop_eq_nil_of_le, hs]
    rw [hfin] at hst
    refine ⟨w.setRow g cells, ?_, ⟨rfl, rfl, rfl, by simp [World.setRow], fun k hk hne => setRow_other w g k _ hne⟩, setRow_heap w g _ _ _ _ h⟩
    simp [Instr.storeAt, Instr.sureAddr, storeVar, sizeOf, typeInfo, hq, Value.cells, hsz, hst]
theorem build_rep (o : Int) (s : St) (a : Option Addr) (n c : Nat) (w : World) :
    (Instr.build 41 #[(0, .int .i64 o), (1, .int .u32 s.pc), (2, .agg (regs32 s).toArray), (3, .int .u32 s.brk), (4, .string (strOfNums s.mem)), (5, .slice a n c), (6, .int .i64 s.steps)]).run Tryz.prog w
      = .ok (.agg (repCells o s (.slice a n c) 0)) w := by kernel_rfl
theorem results_rep {fn : Func} {p : Tmp} (hres : fn.results = #[.cell p 41]) (tmps : Array Value) (w : World) (g : Nat) (cells : Array Value) (h2 : tmps.getD p undef = .pointer (some ⟨g, 0, none⟩)) (hi : w.heap[g]? = some (.cells cells 41 (0, 0))) (hs : cells.size = 39) :
    (results fn tmps).run Tryz.prog w = .ok (.agg cells) w := by
  have h2' : tmps[p]?.getD undef = .pointer (some ⟨g, 0, none⟩) := by simpa using h2
  have e : cells = cells.toList.toArray := by simp
  have hz : (Tryz.prog.info? 41).map (·.size) = some 39 := by kernel_rfl
  have hl := run_loadVar_row (P := Tryz.prog) w g _ 41 cells _ _ hi Tryz.underlying41 rfl (by rw [hz, hs])
  simp [results, hres, asAddr, h2', hl]
set_option maxRecDepth 100000 in
set_option maxHeartbeats 4000000 in
theorem report_any (b : Nat) (o : Int) (s : St) (hs : s.Ok) (x : Raw) (w : World) (h : Mach w b s x) :
    Calls Tryz.prog 34 #[.pointer (some ⟨b, 0, none⟩), .int .i64 o] w (ReportP o s x.evs w) := by
  have hmN := hs.len
  have hu := Tryz.underlying38
  have hi : (Tryz.prog.info? 38).map (·.size) = some (regs32 s).length := by kernel_rfl
  have hl : (regs32 s).length = 32 := rfl
  have h1 : ∀ v ∈ regs32 s, v.oneCell' = true := by intro v hv; simp only [regs32, List.mem_cons, List.not_mem_nil, or_false] at hv; rcases hv with rfl | rfl | rfl | rfl | rfl | rfl | rfl | rfl | rfl | rfl | rfl | rfl | rfl | rfl | rfl | rfl | rfl | rfl | rfl | rfl | rfl | rfl | rfl | rfl | rfl | rfl | rfl | rfl | rfl | rfl | rfl | rfl <;> rfl
  obtain ⟨ea, en, ec, hev⟩ : ∃ a n c, x.evs = .slice a n c := by
    rcases h.evs.2 with ⟨e, _⟩ | ⟨g, cap, _, e, _⟩
    · exact ⟨_, _, _, e⟩
    · exact ⟨_, _, _, e⟩
  rw [hev]
  have H := Lib.hid h
  have HEV := Lib.hid hev
  clear h hev
  go_enter Tryz.func34, Tryz.ntmps34
  go_wp2_with fail
  obtain ⟨W0, hW0⟩ : ∃ W0, W0 = w.alloc (.cells zeroRep 41) := ⟨_, rfl⟩
  have hO0 : Only (fun _ => False) w W0 := by rw [hW0]; exact (Only.refl _ w).alloc _
  have hg : W0.heap[w.heap.size]? = some (.cells zeroRep 41 (0, 0)) := by rw [hW0]; exact heap_alloc_new w _
  unfold zeroRep at hW0
  rw [← hW0]
  clear hW0
  have hM := H.out.no hO0
  have c32 := hM.mac.pc
  have c33 := hM.mac.mem
  have c34 := hM.mac.steps
  have c38 := hM.mac.brk
  have c40 := hM.mac.evs
  rw [HEV.out] at c40
  have hcv := conv_mem W0.drew x.mb s.mem hM.mem hmN s.mem.length
  have hld := run_loadAt_mid (P := Tryz.prog) W0.drew b 0 38 (regs32 s) _ ((World.rangeAt_drew W0 b 0 _).2 hM.mac.range) hu rfl hi
  have HLD := Lib.hid hld
  have HO := Lib.hid hO0
  have HG := Lib.hid hg
  clear hO0 hg hM hld hu hi hl h1
  refine wp_region_still_tail 27 (by kernel_rfl) (by kernel_rfl) ?_
  simp only [List.take_succ_cons, List.take_zero, List.drop_succ_cons, List.drop_zero]
  change wpStill _ _ (World.drew _) _ _ _
  iterate 8 still_step
  refine wpStill_load rfl 38 (.tmp 12) rfl _ _ rfl HLD.out ?_
  simp only [Act.put, List.setIfInBounds_toArray, List.set_cons_zero, List.set_cons_succ]
  iterate 17 still_step
  refine wpStill_build rfl 41 _ rfl (vals := #[(0, .int .i64 o), (1, .int .u32 s.pc), (2, .agg (regs32 s).toArray), (3, .int .u32 s.brk), (4, .string (strOfNums s.mem)), (5, .slice ea en ec), (6, .int .i64 s.steps)]) (by simp [Act.eval]) (build_rep o s ea en ec _) ?_
  refine wpStill_nil ?_
  change wpList _ _ _ _ _ (World.drew _)
  refine wpList_store_ex rfl 41 (.tmp 4) (.tmp 31) rfl _ _ rfl rfl (store_whole W0.drew w.heap.size 41 41 zeroRep (repCells o s (.slice ea en ec) 0) HG.out rfl (by kernel_rfl) (rep_one _ _ _ _ _ _)) ?_
  rintro w2 ⟨ho2, hg2⟩
  have hO2 : Only (fun _ => False) w w2 := by
    have hO := HO.out
    refine ⟨ho2.os.trans hO.os, ho2.tape.trans hO.tape, ho2.output.trans hO.output, Nat.le_trans hO.size ho2.size, fun k hk _ => ?_⟩
    rw [ho2.block k (Nat.lt_of_lt_of_le hk hO.size) (by omega)]
    exact hO.block k hk (fun h => h)
  have HG2 := Lib.hid hg2
  clear hg2
  go_wp2_with fail
  exact bodyPost_ret (results_rep Tryz.results34 _ _ w.heap.size _ (by rfl) HG2.out rfl) rfl ⟨rfl, hO2⟩
end Go.Proofs.YtanccjaikocefaaGreatDoor
