/-
  The contract of machine.New: what is wrong with a setup, or the machine at its beginning. Conditions: the setup's numbers are in their ranges.
-/
import Derived.Test.YtanccjaikocefaaGreatDoorKept
import Derived.Test.YtanccjaikocefaaGreatDoorCall2
import Derived.Lib.BufferWrite
import Derived.Lib.SlBuf
import Derived.Deep.CutRange
import Derived.Deep.DeepCutAuto
import Derived.Laws.MakeOwn
namespace Go.Proofs.YtanccjaikocefaaGreatDoor
open Go.ChangeShapes Go.WideShapes Go.ChangeAt Go.RowKit
set_option linter.unusedVariables false

def NewNo (k : Int) (w : World) (e : Ending) (w' : World) : Prop := e = .returned (.tuple #[.pointer none, .int .i64 k]) ∧ Only (fun _ => False) w w'
set_option maxRecDepth 100000 in
theorem new_badP (p : Setup) (hp : p.Ok) (av : Value) (w : World) (hb : p.badP = true) :
    Calls Tryz.prog 28 #[.agg (p.cells av)] w (NewNo 1 w) := by
  unfold Setup.cells
  obtain ⟨g0, g1⟩ := hp.pages
  unfold Setup.badP at hb
  by_cases h1 : p.pages < 1
  · clear hb
    go_enter Tryz.func28, Tryz.ntmps28
    go_wp2_with fail
    go_ret2
    exact ⟨rfl, (Only.refl _ w).alloc _⟩
  · have h8 : 8 < p.pages := by simpa [h1] using hb
    clear hb
    go_enter Tryz.func28, Tryz.ntmps28
    go_wp2_with fail
    go_ret2
    exact ⟨rfl, (Only.refl _ w).alloc _⟩
set_option maxRecDepth 100000 in
theorem new_badI (p : Setup) (hp : p.Ok) (av : Value) (w : World) (ha : p.badP = false) (hb : p.badI = true) :
    Calls Tryz.prog 28 #[.agg (p.cells av)] w (NewNo 2 w) := by
  unfold Setup.cells
  unfold Setup.badP at ha
  obtain ⟨p0, p8⟩ : ¬ p.pages < 1 ∧ ¬ 8 < p.pages := by simpa using ha
  have hb' : p.pages * 64 < p.base + p.image.size := by simpa [Setup.badI] using hb
  obtain ⟨b0, b1⟩ := hp.base
  have hi := hp.image
  clear ha hb
  go_enter Tryz.func28, Tryz.ntmps28
  go_wp2_with fail
  go_ret2
  exact ⟨rfl, (Only.refl _ w).alloc _⟩
set_option maxRecDepth 100000 in
theorem new_badF (p : Setup) (hp : p.Ok) (av : Value) (w : World) (ha : p.badP = false) (hb : p.badI = false) (hc : p.badF = true) :
    Calls Tryz.prog 28 #[.agg (p.cells av)] w (NewNo 3 w) := by
  unfold Setup.cells
  unfold Setup.badP at ha
  obtain ⟨p0, p8⟩ : ¬ p.pages < 1 ∧ ¬ 8 < p.pages := by simpa using ha
  have hb' : ¬ p.pages * 64 < p.base + p.image.size := by simpa [Setup.badI] using hb
  obtain ⟨b0, b1⟩ := hp.base
  have hi := hp.image
  unfold Setup.badF at hc
  clear ha hb
  by_cases h1 : p.fuel < 0
  · clear hc
    go_enter Tryz.func28, Tryz.ntmps28
    go_wp2_with fail
    go_ret2
    exact ⟨rfl, (Only.refl _ w).alloc _⟩
  · have h8 : 2000 < p.fuel := by simpa [h1] using hc
    clear hc
    go_enter Tryz.func28, Tryz.ntmps28
    go_wp2_with fail
    go_ret2
    exact ⟨rfl, (Only.refl _ w).alloc _⟩
def cloN : Value := .func (.func 44) #[] #[]
def Setup.st0 (p : Setup) : St := { regs := fun _ => 0, pc := p.entry, mem := List.replicate (p.pages * 64).toNat 0, low := 0, brk := 0, ans := p.ans, evs := [], steps := 0 }
def raw0 (mb ab : Nat) (av : Value) : Raw := { mb := mb, ab := ab, next := 0, wrote := cloN, ans := av, evs := .slice none 0 0 }
/-- Behind the machine's making. -/
def NewR (p : Setup) (w : World) (v : Value) (wx : World) : Prop :=
  ∃ b mb ab av, v = .pointer (some ⟨b, 0, none⟩) ∧ MacAt wx b p.st0 (raw0 mb ab av) ∧ wx.heap[mb]? = some (.cells (p.st0.mem.map (Value.int .u8)).toArray 5 (0, 0)) ∧ TextsAt wx ab av p.ans ∧ ab < wx.heap.size ∧ b ≠ mb ∧ ab ≠ b ∧ ab ≠ mb ∧ w.heap.size ≤ b ∧ w.heap.size ≤ mb ∧ Only (fun _ => False) w wx
/-- What New comes to. -/
def NewYes (p : Setup) (w : World) (e : Ending) (w' : World) : Prop :=
  ∃ b x, e = .returned (.tuple #[.pointer (some ⟨b, 0, none⟩), .int .i64 0]) ∧ Mach w' b p.st x ∧ x.wrote = cloN ∧ x.evs = .slice none 0 0 ∧ w.heap.size ≤ b ∧ w.heap.size ≤ x.mb ∧ Only (fun _ => False) w w'
theorem made_zero (n : Nat) : madeCells (Value.int .u8 0).cells (n * 1) = ((List.replicate n (0 : Int)).map (Value.int .u8)).toArray := by
  apply Array.ext'
  simp only [madeCells, Value.cells, Array.toList_map, Array.toList_range, Nat.mul_one, List.map_replicate]
  apply List.ext_getElem?
  intro j
  by_cases h : j < n
  · simp [h, Nat.mod_one]
  · simp [h]
theorem info_u8 : (Tryz.prog.info? 5).map (fun i => (i.zero, i.size, i.bytes)) = some (some (.int .u8 0), 1, 1) := by kernel_rfl
theorem info_str : (Tryz.prog.info? 9).map (fun i => (i.zero, i.size, i.bytes)) = some (some (.string ⟨#[]⟩), 1, 16) := by kernel_rfl
theorem make_u8 (c : Int) (h0 : 0 ≤ c) (h1 : c ≤ 512) (w : World) : (Instr.makeSlice 67 (.int .i64 c) (.int .i64 c)).run Tryz.prog w = .ok (.slice (some ⟨w.heap.size, 0, none⟩) c.toNat c.toNat) (w.alloc (.cells (Array.replicate c.toNat (Value.int .u8 0)) 5)) := by
  obtain ⟨i0, hi, hz0, hz1, hz2⟩ := info_parts info_u8
  have h := run_make (P := Tryz.prog) w 67 5 i0 _ Tryz.underlying67 hi hz0 .i64 .i64 c c h0 (Int.le_refl _) (by rw [hz2]; omega) (by omega)
  rw [h, hz1, made_zero]
  simp
theorem step_append_run {P : Program} {ops : Array Oper} {o : Oper} {a : Act} {w : World} {K : Act → World → Prop} {Q : Exit → Act → World → Prop} {E : Prop} (hgd : o.guard = none) (s x : Operand) (t t' : TypeId)
    (ho : o.op = .call { callee := .builtin .append, args := #[s, x], argTypes := #[t, t'] }) (v u : Value) (hd : a.eval s = v) (hs : a.eval x = u) {v' : Value} {w' : World}
    (hr : (Builtin.append_ #[t, t'] o.type #[v, u]).run P w = .ok v' w') (h : K (a.put o.dst v') w') :
    if Region.wanted o (yielded ops a.tmps) = true then Oper.wp P o a w K Q else E := by
  have hw : Region.wanted o (yielded ops a.tmps) = true := by simp [Region.wanted, hgd]
  rw [if_pos hw]
  unfold Oper.wp execOp
  simp only [ho, resolve, invoke, builtin, Sem.run_bind, Sem.run_pure, Result.andThen_ok, List.map_toArray, List.map_cons, List.map_nil, hd, hs, hr]
  exact h
theorem append_none (w : World) (ty : TypeId) (a : Option Addr) (c : Nat) : (Builtin.append_ #[23, 23] ty #[.slice none 0 0, .slice a 0 c]).run Tryz.prog w = .ok (.slice none 0 0) w := by
  obtain ⟨i0, hi, hz0, hz1, hz2⟩ := info_parts info_str
  cases a <;> simp [Builtin.append_, run_underlying Tryz.underlying23, sizeOf, typeInfo, hi, Builtin.lenOf, Builtin.firstCells, loadCells, loadCellsFrom]
/-- What 'append' of texts onto nothing comes to. -/
def AppR (ab : Nat) (l : List ByteArray) (W : World) (v : Value) (w' : World) : Prop :=
  ∃ ab2 a c, v = .slice a l.length c ∧ TextsAt w' ab2 (.slice a l.length c) l ∧ ab2 < w'.heap.size ∧ (ab2 = ab ∨ W.heap.size ≤ ab2) ∧ Only (fun _ => False) W w'
theorem app_texts (W : World) (ty : TypeId) (ab : Nat) (av : Value) (l : List ByteArray) (hl : l.length ≤ 4096) (hab : ab < W.heap.size) (h : TextsAt W ab av l) :
    ∃ v w', (Builtin.append_ #[23, 23] ty #[.slice none 0 0, av]).run Tryz.prog W = .ok v w' ∧ AppR ab l W v w' := by
  obtain ⟨a, c, rfl, h1, h2, h3⟩ := h
  cases l with
  | nil => exact ⟨_, _, append_none W ty a c, ab, none, 0, rfl, ⟨none, 0, rfl, Nat.le_refl _, by omega, fun h => absurd rfl h⟩, hab, .inl rfl, Only.refl _ _⟩
  | cons t ts =>
    obtain ⟨off, rfl, ht⟩ := h3 (by simp)
    obtain ⟨i0, hi, hz0, hz1, hz2⟩ := info_parts info_str
    have hnews : ∀ j u, ((t :: ts).map Value.string)[j]? = some u → W.cell? ((⟨ab, off, none⟩ : Addr).add j) = some u := by
      intro j u hj
      rw [List.getElem?_map] at hj
      cases hq : (t :: ts)[j]? with
      | none => rw [hq] at hj; cases hj
      | some v =>
        rw [hq] at hj
        cases hj
        rw [Addr.add_mid]
        exact (ht j v hq).2
    obtain ⟨g, cap, w', hr, hown, hg, hat, hlt⟩ := run_append_lies (P := Tryz.prog) W 23 ty 0 9 i0 _ 1 16 Tryz.underlying23 hi hz0 hz1 hz2 (by rfl) (by omega) (.slice none 0 0) 0 [] (World.ownsRow_nil _ _ _ _) ⟨ab, off, none⟩ (t :: ts).length c ((t :: ts).map Value.string) (by simp) hnews (by simp [Value.oneCell']) (by simp) (by unfold maxLen; omega) (by omega) (Nat.zero_le _) W.heap.size rfl
    have hO : Only (fun _ => False) W w' := ⟨hg.os, hg.tape, hg.output, hg.size, fun k hk _ => hg.block k hk (fun e => by simp [Value.ownBlock] at e)⟩
    have hgW : g = W.heap.size := by
      rcases hat with h | h
      · simp [Value.ownBlock] at h
      · exact h
    have hcap : (t :: ts).length ≤ cap ∧ cap ≤ maxLen := by
      rcases hown.2 with ⟨h, _⟩ | ⟨g', cap', cur, hv, _, _, hn, hm, _, _⟩
      · simp at h
      · simp at hv
        obtain ⟨_, rfl⟩ := hv
        exact ⟨by simpa using hn, hm⟩
    refine ⟨_, w', hr, g, some ⟨g, 0, none⟩, cap, by simp, ⟨_, _, rfl, hcap.1, by have := hcap.2; unfold maxLen at this; omega, fun _ => ⟨0, rfl, fun j u hj => ⟨(ht j u hj).1, ?_⟩⟩⟩, hlt, .inr (by omega), hO⟩
    have := hown.cells (g := g) rfl j (.string u) (by rw [List.nil_append, List.getElem?_map, hj]; rfl)
    rw [Addr.add_mid] at this
    exact this
theorem st0_cells (p : Setup) (mb ab : Nat) (av : Value) : (mCells p.st0 (raw0 mb ab av)).toArray = #[Value.int IntKind.u32 0, Value.int IntKind.u32 0, Value.int IntKind.u32 0, Value.int IntKind.u32 0, Value.int IntKind.u32 0, Value.int IntKind.u32 0, Value.int IntKind.u32 0, Value.int IntKind.u32 0, Value.int IntKind.u32 0, Value.int IntKind.u32 0, Value.int IntKind.u32 0, Value.int IntKind.u32 0, Value.int IntKind.u32 0, Value.int IntKind.u32 0, Value.int IntKind.u32 0, Value.int IntKind.u32 0, Value.int IntKind.u32 0, Value.int IntKind.u32 0, Value.int IntKind.u32 0, Value.int IntKind.u32 0, Value.int IntKind.u32 0, Value.int IntKind.u32 0, Value.int IntKind.u32 0, Value.int IntKind.u32 0, Value.int IntKind.u32 0, Value.int IntKind.u32 0, Value.int IntKind.u32 0, Value.int IntKind.u32 0, Value.int IntKind.u32 0, Value.int IntKind.u32 0, Value.int IntKind.u32 0, Value.int IntKind.u32 0, .int .u32 p.entry, .slice (some ⟨mb, 0, none⟩) (p.pages * 64).toNat (p.pages * 64).toNat, .int .i64 0, .int .u32 0, .func (.func 44) #[] #[], .int .u32 0, .int .u32 0, av, .slice none 0 0] := by
  have e : p.st0.mem.length = (p.pages * 64).toNat := by simp [Setup.st0]
  unfold mCells
  rw [e]
  rfl
theorem mem0_cells (p : Setup) : (p.st0.mem.map (Value.int .u8)).toArray = Array.replicate (p.pages * 64).toNat (Value.int .u8 0) := by
  simp [Setup.st0]
theorem byteCells_of (s : ByteArray) : Lib.byteCells s.data.toList = (bytesOf s).map (Value.int .u8) := by
  simp [Lib.byteCells, bytesOf, List.map_map]
theorem copy_image (W : World) (ty : TypeId) (mb base N dLen dCap : Nat) (d : Option Addr) (img : ByteArray) (h : W.heap[mb]? = some (.cells (Array.replicate N (Value.int .u8 0)) 5 (0, 0))) (hd : d = some ⟨mb, base, none⟩ ∨ img.size = 0) (hfit : base + img.size ≤ N) (hle : img.size ≤ dLen) :
    ∃ w2, (Builtin.copy_ #[67, 9] ty #[.slice d dLen dCap, .string img]).run Tryz.prog W = .ok (goInt img.size) w2 ∧ Only (· = mb) W w2 ∧ w2.heap[mb]? = some (.cells ((putAt (List.replicate N 0) base (bytesOf img)).map (Value.int .u8)).toArray 5 (0, 0)) := by
  have hs1 : (Tryz.prog.info? 5).map (·.size) = some 1 := by kernel_rfl
  have e : (Array.replicate N (Value.int .u8 0)) = ((List.replicate N (0 : Int)).map (Value.int .u8)).toArray := by simp
  by_cases h0 : img.size = 0
  · refine ⟨W, ?_, Only.refl _ _, ?_⟩
    · rw [Lib.run_copy_empty_string W 67 9 ty 5 d dLen dCap img Tryz.underlying67 (by rw [hs1]; rfl) h0, h0]
      rfl
    · have hb : bytesOf img = [] := by
        apply List.eq_nil_of_length_eq_zero
        simpa [bytesOf] using h0
      rw [hb, h, e]
      have : putAt (List.replicate N 0) (base : Int) [] = List.replicate N 0 := by simp [putAt]; omega
      rw [this]
  · rcases hd with rfl | hd
    · have hr := Lib.run_copy_row_string (P := Tryz.prog) W 67 9 ty 5 mb base dLen dCap img _ _ Tryz.underlying67 hs1 h hle (by simpa using hfit)
      refine ⟨_, hr, ⟨rfl, rfl, rfl, by simp [World.setRow], fun k hk hne => setRow_other W mb k _ hne⟩, ?_⟩
      rw [setRow_heap W mb _ _ _ _ h, putAt_map, byteCells_of]
      have : (bytesOf img).length = img.size := by simp [bytesOf]
      simp [this]
    · exact absurd hd h0
theorem new_end {p : Setup} (hp : p.Ok) (hg : p.Good) {w wc w2 : World} {b mb ab2 N : Nat} {av2 : Value} (hM : MacAt wc b p.st0 (raw0 mb ab2 av2)) (hN : N = p.st0.mem.length) (ho2 : Only (· = mb) wc w2)
    (hm2 : w2.heap[mb]? = some (.cells ((putAt (List.replicate N 0) (p.base.toNat : Int) (bytesOf p.image)).map (Value.int .u8)).toArray 5 (0, 0)))
    (hans : TextsAt wc ab2 av2 p.ans) (hab2 : ab2 < wc.heap.size) (n1 : b ≠ mb) (n2 : ab2 ≠ b) (n3 : ab2 ≠ mb) (n4 : w.heap.size ≤ b) (n5 : w.heap.size ≤ mb) (hO : Only (fun _ => False) w wc) :
    NewYes p w (.returned (.tuple #[.pointer (some ⟨b, 0, none⟩), .int .i64 0])) ((w2.setCell ⟨b, 37, none⟩ (.int .u32 (p.base + p.image.size))).setCell ⟨b, 38, none⟩ (.int .u32 (p.base + p.image.size))) := by
  have hN0 : p.st0.mem.length = (p.pages * 64).toNat := by simp [Setup.st0]
  have hml := Setup.mem_len hg hp.base.1
  have hb0 : (p.base.toNat : Int) = p.base := by have := hp.base.1; omega
  have hmem : putAt (List.replicate N 0) (p.base.toNat : Int) (bytesOf p.image) = p.mem0 := by rw [hN, hN0, hb0]; rfl
  rw [hmem] at hm2
  have h1 : MacAt w2 b p.st0 (raw0 mb ab2 av2) := ho2.heap n1 hM
  have h2 := (h1.putLow (p.base + p.image.size)).putBrk (p.base + p.image.size)
  have h3 : MacAt ((w2.setCell ⟨b, 37, none⟩ (.int .u32 (p.base + p.image.size))).setCell ⟨b, 38, none⟩ (.int .u32 (p.base + p.image.size))) b p.st (raw0 mb ab2 av2) := by
    unfold MacAt at h2 ⊢
    rw [h2]
    congr 3
    unfold mCells
    have e : p.st.mem.length = p.st0.mem.length := by rw [hN0]; exact hml
    rw [e]
    rfl
  have hs2 : Only (· = b) w2 ((w2.setCell ⟨b, 37, none⟩ (.int .u32 (p.base + p.image.size))).setCell ⟨b, 38, none⟩ (.int .u32 (p.base + p.image.size))) := ((Only.refl _ w2).set1 _ _).set1 _ _
  refine ⟨b, raw0 mb ab2 av2, rfl, ⟨h3, hs2.heap (Ne.symm n1) hm2, n1, (hans.only ho2 n3).only hs2 n2, Nat.lt_of_lt_of_le hab2 (Nat.le_trans ho2.size hs2.size), ⟨n2, n3⟩, World.ownsRow_nil _ _ _ _, ?_⟩, rfl, rfl, n4, n5, ?_⟩
  · intro g hg'
    simp [raw0, Value.ownBlock] at hg'
  · refine ⟨hs2.os.trans (ho2.os.trans hO.os), hs2.tape.trans (ho2.tape.trans hO.tape), hs2.output.trans (ho2.output.trans hO.output), Nat.le_trans hO.size (Nat.le_trans ho2.size hs2.size), fun k hk _ => ?_⟩
    rw [hs2.block k (Nat.lt_of_lt_of_le hk (Nat.le_trans hO.size ho2.size)) (by omega), ho2.block k (Nat.lt_of_lt_of_le hk hO.size) (by omega)]
    exact hO.block k hk (fun h => h)
theorem step_append_ex {P : Program} {ops : Array Oper} {o : Oper} {a : Act} {w : World} {K : Act → World → Prop} {Q : Exit → Act → World → Prop} {E : Prop} (hgd : o.guard = none) (s x : Operand) (t t' : TypeId)
    (ho : o.op = .call { callee := .builtin .append, args := #[s, x], argTypes := #[t, t'] }) (v u : Value) (hd : a.eval s = v) (hs : a.eval x = u) {R : Value → World → Prop}
    (hr : ∃ v' w', (Builtin.append_ #[t, t'] o.type #[v, u]).run P w = .ok v' w' ∧ R v' w') (h : ∀ v' w', R v' w' → K (a.put o.dst v') w') :
    if Region.wanted o (yielded ops a.tmps) = true then Oper.wp P o a w K Q else E := by
  obtain ⟨v', w', hr, hR⟩ := hr
  exact step_append_run hgd s x t t' ho v u hd hs hr (h v' w' hR)
set_option maxRecDepth 100000 in
set_option maxHeartbeats 800000 in
theorem new_good (p : Setup) (hp : p.Ok) (hg : p.Good) (ab : Nat) (av : Value) (w : World) (ha : TextsAt w ab av p.ans) (hab : ab < w.heap.size) :
    Calls Tryz.prog 28 #[.agg (p.cells av)] w (NewYes p w) := by
  unfold Setup.cells
  have HG := Lib.hid hg
  obtain ⟨p0, p8, himg, f0, f1⟩ := hg
  obtain ⟨b0, b1⟩ := hp.base
  obtain ⟨e0, e1⟩ := hp.entry
  have hi := hp.image
  have hmk := make_u8 (p.pages * 64) (by omega) (by omega)
  go_enter Tryz.func28, Tryz.ntmps28
  go_wp2_with fail
  obtain ⟨W0, hW0⟩ : ∃ W0, W0 = w.alloc (.cells #[.int .i64 p.pages, .string p.image, .int .u32 p.base, .int .u32 p.entry, av, .int .i64 p.fuel, .int .i64 p.slots, .int .i64 p.arena] 25) := ⟨_, rfl⟩
  rw [← hW0]
  have hbx : W0.heap[w.heap.size]? = some (.cells #[.int .i64 p.pages, .string p.image, .int .u32 p.base, .int .u32 p.entry, av, .int .i64 p.fuel, .int .i64 p.slots, .int .i64 p.arena] 25 (0, 0)) := by rw [hW0]; exact heap_alloc_new w _
  have hO0 : Only (fun _ => False) w W0 := by rw [hW0]; exact (Only.refl _ w).alloc _
  have c1 : W0.cell? ⟨w.heap.size, 1, none⟩ = some (.string p.image) := cell_of_row W0 _ 1 _ _ _ hbx
  have c2 : W0.cell? ⟨w.heap.size, 2, none⟩ = some (.int .u32 p.base) := cell_of_row W0 _ 2 _ _ _ hbx
  have c3 : W0.cell? ⟨w.heap.size, 3, none⟩ = some (.int .u32 p.entry) := cell_of_row W0 _ 3 _ _ _ hbx
  have c4 : W0.cell? ⟨w.heap.size, 4, none⟩ = some av := cell_of_row W0 _ 4 _ _ _ hbx
  have habW : ab < W0.heap.size := Nat.lt_of_lt_of_le hab hO0.size
  have HB := Lib.hid hbx
  have HO := Lib.hid hO0
  have HA := Lib.hid (ha.only hO0 (fun h => h))
  clear hbx hO0 hW0 ha
  go_cut [5] (fun v wx => NewR p W0 v wx)
  case first =>
    go_region_held3 (fun w' => w'.cell? ⟨w.heap.size, 3, none⟩ = some (.int .u32 p.entry) ∧ w'.cell? ⟨w.heap.size, 4, none⟩ = some av) (first | go_keep | (with_reducible exact ⟨k3, k4⟩)) (first | (refine step_append_ex ?_ (.const (.slice none 0 0)) (.tmp 44) 23 23 ?_ (.slice none 0 0) av ?_ ?_ (app_texts _ _ ab av p.ans hp.nans ?_ (HA.out.only (S := fun _ => False) ?_ (fun h => h))) ?_; (focus rfl); (focus rfl); (focus rfl); (focus rfl); (focus (first | exact habW | exact Nat.lt_of_lt_of_le habW (Nat.le_of_lt (by simp)))); (focus (repeat (first | with_reducible exact Only.refl _ _ | with_reducible refine Only.alloc ?_ _ | with_reducible refine Only.drewN ?_ _ | with_reducible refine Only.drew ?_))); rintro v1 w1 ⟨ab2, a1, c1, rfl, ht1, hlt1, hor1, ho1⟩; have k3 : w1.cell? ⟨w.heap.size, 3, none⟩ = some (.int .u32 p.entry) := ho1.cell (fun h => h) (by simp [*]); have k4 : w1.cell? ⟨w.heap.size, 4, none⟩ = some av := ho1.cell (fun h => h) (by simp [*])))
    all_goals go_wp2_with fail
    all_goals go_meet
    · have s1 : W0.heap.size + 1 ≤ w1.heap.size := by have := ho1.size; simpa using this
      have hne : ab2 ≠ W0.heap.size := by
        rcases hor1 with h | h
        · omega
        · have h' : W0.heap.size + 1 ≤ ab2 := by simpa using h
          omega
      refine ⟨w1.heap.size, W0.heap.size, ab2, .slice a1 p.ans.length c1, rfl, ?_, ?_, ht1.only ((Only.refl (fun _ => False) w1).alloc _) (fun h => h), ?_, by omega, by omega, hne, by omega, Nat.le_refl _, ?_⟩
      · unfold MacAt
        rw [st0_cells]
        exact heap_alloc_new w1 _
      · rw [mem0_cells]
        exact heap_alloc_old' _ (ho1.heap (fun h => h) (heap_alloc_new W0 _))
      · exact Nat.lt_of_lt_of_le hlt1 ((Only.refl (fun _ => False) w1).alloc _).size
      · exact ((((Only.refl _ W0).alloc _).drew).then ho1).alloc _
    · have s1 : W0.heap.size ≤ w1.heap.size := ho1.size
      refine ⟨w1.heap.size + 1, w1.heap.size, ab2, .slice a1 p.ans.length c1, rfl, ?_, ?_, ht1.only (((Only.refl (fun _ => False) w1).alloc _).alloc _) (fun h => h), ?_, by omega, by omega, by omega, by omega, s1, ?_⟩
      · unfold MacAt
        rw [st0_cells]
        have := heap_alloc_new (w1.alloc (.cells (Array.replicate (p.pages * 64).toNat (Value.int .u8 0)) 5))
        simp only [World.size_alloc] at this
        exact this _
      · rw [mem0_cells]
        exact heap_alloc_old' _ (heap_alloc_new w1 _)
      · exact Nat.lt_of_lt_of_le hlt1 (((Only.refl (fun _ => False) w1).alloc _).alloc _).size
      · exact ((((Only.refl _ W0).drew).then ho1).alloc _).alloc _
  case rest =>
    obtain ⟨b, mb, ab2, av2, rfl, hmac, hmem, hans, hab2, n1, n2, n3, n4, n5, hO1⟩ := hcut
    have k1 : wc.cell? ⟨w.heap.size, 1, none⟩ = some (.string p.image) := hO1.cell (fun h => h) c1
    have k2 : wc.cell? ⟨w.heap.size, 2, none⟩ = some (.int .u32 p.base) := hO1.cell (fun h => h) c2
    have m33 := hmac.mem
    clear c1 c2 c3 c4 hmk
    have f37 := hmac.free 37
    have f38 := hmac.free 38
    have k37 : wc.cell? ⟨b, 37, none⟩ = some (.int .u32 0) := hmac.low
    have k38 : wc.cell? ⟨b, 38, none⟩ = some (.int .u32 0) := hmac.brk
    have hsz := hmac.lt
    have HM := Lib.hid hmac
    have HE := Lib.hid hmem
    obtain ⟨N, hN⟩ : ∃ N : Nat, N = p.st0.mem.length := ⟨_, rfl⟩
    have hNp : (N : Int) = p.pages * 64 := by rw [hN]; simp [Setup.st0]; omega
    change wc.cell? ⟨b, 33, none⟩ = some (.slice (some ⟨mb, 0, none⟩) p.st0.mem.length p.st0.mem.length) at m33
    rw [← hN] at m33
    have hleI : p.base ≤ (N : Int) := by omega
    have hfit : p.base.toNat + p.image.size ≤ N := by omega
    have hN2 : N ≤ 512 := by omega
    have HN := Lib.hid hN
    clear hmac hmem hN hNp
    rcases Nat.lt_or_ge p.base.toNat N with hlt | hge
    · have hne : ¬ N = p.base.toNat := by omega
      go_wp2_with fail
      refine wp_region_still_tail 9 (by kernel_rfl) (by kernel_rfl) ?_
      simp only [List.take_succ_cons, List.take_zero, List.drop_succ_cons, List.drop_zero]
      change wpStill _ _ (World.drew _) _ _ _
      repeat still_step
      refine wpStill_nil ?_
      change wpList _ _ _ _ _ (World.drew _)
      have hmN : wc.drew.heap[mb]? = some (.cells (Array.replicate N (Value.int .u8 0)) 5 (0, 0)) := by
        have := HE.out
        rw [mem0_cells] at this
        have e : N = (p.pages * 64).toNat := by rw [HN.out]; simp [Setup.st0]
        rw [e]; exact this
      obtain ⟨w2, hr, ho2, hm2⟩ := copy_image wc.drew 3 mb p.base.toNat N (N - p.base.toNat) (N - p.base.toNat) (some ⟨mb, p.base.toNat, none⟩) p.image hmN (.inl rfl) hfit (by omega)
      ((with_reducible refine Lib.wpList_copy_run _ rfl (.tmp 54) (.tmp 56) 67 9 ?_ (.slice (some ⟨mb, p.base.toNat, none⟩) (N - p.base.toNat) (N - p.base.toNat)) (.string p.image) ?_ ?_ hr ?_); (focus rfl); (focus rfl); (focus rfl))
      have hnb : ¬ b = mb := n1
      have hnw : ¬ w.heap.size = mb := by have := HO.out.size; have := heap_lt HB.out; omega
      have j1 : w2.cell? ⟨w.heap.size, 1, none⟩ = some (.string p.image) := ho2.cell hnw k1
      have j2 : w2.cell? ⟨w.heap.size, 2, none⟩ = some (.int .u32 p.base) := ho2.cell hnw k2
      have j37 : w2.cell? ⟨b, 37, none⟩ = some (.int .u32 0) := ho2.cell hnb k37
      have j38 : w2.cell? ⟨b, 38, none⟩ = some (.int .u32 0) := ho2.cell hnb k38
      have z37 : w2.frozen? ⟨b, 37, none⟩ = false := ho2.free hnb hsz f37
      have z38 : w2.frozen? ⟨b, 38, none⟩ = false := ho2.free hnb hsz f38
      have hsz2 : b < w2.heap.size := Nat.lt_of_lt_of_le hsz ho2.size
      have hbne : ¬ b = w.heap.size := by have := HO.out.size; have := heap_lt HB.out; omega
      have HO2 := Lib.hid ho2
      have HM2 := Lib.hid hm2
      clear k1 k2 m33 k37 k38 f37 f38 hr hmN ho2 hm2
      go_wp2_with fail
      go_ret2
      exact new_end hp HG.out HM.out HN.out (Only.then ((Only.refl _ wc).drew) HO2.out) HM2.out hans hab2 n1 n2 n3 (Nat.le_trans HO.out.size n4) (Nat.le_trans HO.out.size n5) (HO.out.then hO1)
    · have h0 : p.image.size = 0 := by omega
      obtain rfl : N = p.base.toNat := by omega
      have hmx : p.base ≤ max p.base 0 := by omega
      have HZ := Lib.hid h0
      clear h0
      go_wp2_with fail
      refine wp_region_still_tail 9 (by kernel_rfl) (by kernel_rfl) ?_
      simp only [List.take_succ_cons, List.take_zero, List.drop_succ_cons, List.drop_zero]
      change wpStill _ _ (World.drew _) _ _ _
      repeat still_step
      refine wpStill_nil ?_
      change wpList _ _ _ _ _ (World.drew _)
      have hmN : wc.drew.heap[mb]? = some (.cells (Array.replicate p.base.toNat (Value.int .u8 0)) 5 (0, 0)) := by
        have := HE.out
        rw [mem0_cells] at this
        have e : p.base.toNat = (p.pages * 64).toNat := by rw [HN.out]; simp [Setup.st0]
        rw [e]; exact this
      obtain ⟨w2, hr, ho2, hm2⟩ := copy_image wc.drew 3 mb p.base.toNat p.base.toNat 0 0 (some ⟨mb, 0, none⟩) p.image hmN (.inr HZ.out) hfit (by omega)
      ((with_reducible refine Lib.wpList_copy_run _ rfl (.tmp 54) (.tmp 56) 67 9 ?_ (.slice (some ⟨mb, 0, none⟩) 0 0) (.string p.image) ?_ ?_ hr ?_); (focus rfl); (focus rfl); (focus rfl))
      have hnb : ¬ b = mb := n1
      have hnw : ¬ w.heap.size = mb := by have := HO.out.size; have := heap_lt HB.out; omega
      have j1 : w2.cell? ⟨w.heap.size, 1, none⟩ = some (.string p.image) := ho2.cell hnw k1
      have j2 : w2.cell? ⟨w.heap.size, 2, none⟩ = some (.int .u32 p.base) := ho2.cell hnw k2
      have j37 : w2.cell? ⟨b, 37, none⟩ = some (.int .u32 0) := ho2.cell hnb k37
      have j38 : w2.cell? ⟨b, 38, none⟩ = some (.int .u32 0) := ho2.cell hnb k38
      have z37 : w2.frozen? ⟨b, 37, none⟩ = false := ho2.free hnb hsz f37
      have z38 : w2.frozen? ⟨b, 38, none⟩ = false := ho2.free hnb hsz f38
      have hsz2 : b < w2.heap.size := Nat.lt_of_lt_of_le hsz ho2.size
      have hbne : ¬ b = w.heap.size := by have := HO.out.size; have := heap_lt HB.out; omega
      have HO2 := Lib.hid ho2
      have HM2 := Lib.hid hm2
      clear k1 k2 m33 k37 k38 f37 f38 hr hmN ho2 hm2
      go_wp2_with fail
      go_ret2
      exact new_end hp HG.out HM.out HN.out (Only.then ((Only.refl _ wc).drew) HO2.out) HM2.out hans hab2 n1 n2 n3 (Nat.le_trans HO.out.size n4) (Nat.le_trans HO.out.size n5) (HO.out.then hO1)
end Go.Proofs.YtanccjaikocefaaGreatDoor
