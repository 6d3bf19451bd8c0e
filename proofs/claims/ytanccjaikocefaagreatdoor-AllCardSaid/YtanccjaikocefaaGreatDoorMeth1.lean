/-
  The contracts of the machine's small methods: each does what the plain machine does. Conditions: the machine lies in memory; numbers and fields are in their ranges.
-/
import Derived.Test.YtanccjaikocefaaGreatDoorMach
import Derived.WalkLawsBesides
import Derived.StillTailTactics
import Derived.Deep.RegionHeld3
import Derived.Deep.DrawnRows
import Derived.Lib.Hide
namespace Go.Proofs.YtanccjaikocefaaGreatDoor
open Go.ChangeShapes Go.WideShapes Go.ChangeAt Go.RowKit
set_option linter.unusedVariables false

/-- A trap: how a method ends that ends the run. -/
abbrev trapE (o : Int) : Ending := .panicked [{ v := .iface 103 (.agg #[.int .i64 o]), recovered := false }]
theorem trap_any (b : Nat) (o : Int) (w : World) :
    Calls Tryz.prog 46 #[.pointer (some ⟨b, 0, none⟩), .int .i64 o] w fun e w' => e = trapE o ∧ w = w' := by
  go_enter Tryz.func46, Tryz.ntmps46
  go_wp2
  exact ⟨rfl, rfl, rfl⟩
theorem lies_any (b : Nat) (at_ n : Int) (s : St) (x : Raw) (w : World) (h : MacAt w b s x) (h0 : 0 ≤ at_) (h1 : at_ < 4294967296) (g0 : 0 ≤ n) (g1 : n < 4294967296) (hl : s.mem.length ≤ 512) :
    Calls Tryz.prog 47 #[.pointer (some ⟨b, 0, none⟩), .int .u32 at_, .int .u32 n] w fun e w' => e = .returned (.bool (lies s at_ n)) ∧ w = w' := by
  have hm := h.mem
  go_enter Tryz.func47, Tryz.ntmps47
  go_wp2
  go_ret
  exact ⟨rfl, rfl⟩
theorem on_no (b : Nat) (to : Int) (w : World) (h0 : 0 ≤ to) (ht : (to % 4 != 0) = true) :
    Calls Tryz.prog 70 #[.pointer (some ⟨b, 0, none⟩), .int .u32 to] w fun e w' => e = trapE 3 ∧ w = w' := by
  go_enter Tryz.func70, Tryz.ntmps70
  go_wp2_with (go_at_call 46; refine (trap_any _ _ _).mono ?_; rintro e w' ⟨rfl, rfl⟩)
  exact ⟨rfl, rfl, rfl⟩
theorem on_yes (b : Nat) (to : Int) (s : St) (x : Raw) (w : World) (h : MacAt w b s x) (h0 : 0 ≤ to) (ht : (to % 4 != 0) = false) :
    Calls Tryz.prog 70 #[.pointer (some ⟨b, 0, none⟩), .int .u32 to] w fun e w' => e = .returned (.tuple #[]) ∧ w' = w.setCell ⟨b, 35, none⟩ (.int .u32 to) := by
  have hn := h.next
  have hf := h.free 35
  go_enter Tryz.func70, Tryz.ntmps70
  go_wp2
  go_end0
  exact ⟨rfl, rfl⟩
theorem MacAt.alloc {w : World} {b : Nat} {s : St} {x : Raw} (h : MacAt w b s x) (o : Obj) : MacAt (w.alloc o) b s x := heap_alloc_old' _ h
theorem MacAt.drew {w : World} {b : Nat} {s : St} {x : Raw} (h : MacAt w b s x) : MacAt w.drew b s x := h
theorem MacAt.drewN {w : World} {b : Nat} {s : St} {x : Raw} (h : MacAt w b s x) (n : Nat) : MacAt (w.drewN n) b s x := h
def St.clr (s : St) : St := { s with regs := fun j => if j = 0 then 0 else s.regs j }
theorem clr_rset (s : St) (d v : Int) (h0 : s.regs 0 = 0) : ({ s with regs := rset s.regs d.toNat v } : St).clr = s.set d v := by
  unfold St.clr St.set
  congr 1
  funext j
  unfold rset setR
  by_cases h : j = 0
  · subst h; simp [h0]
  · simp [h]
theorem clr_self (s : St) (h0 : s.regs 0 = 0) : s.clr = s := by
  unfold St.clr
  cases s
  congr 1
  funext j
  by_cases h : j = 0
  · subst h; simpa using h0.symm
  · simp [h]
/-- What a method may turn of the raw parts. -/
def Keep (w : World) (x y : Raw) : Prop := y.mb = x.mb ∧ y.ab = x.ab ∧ y.wrote = x.wrote ∧ (y.evs.ownBlock = x.evs.ownBlock ∨ ∃ g, y.evs.ownBlock = some g ∧ w.heap.size ≤ g)
theorem Keep.refl (w : World) (x : Raw) : Keep w x x := ⟨rfl, rfl, rfl, .inl rfl⟩
/-- What became of the rest of memory: bytes written are told to 'Wrote', which has an effect of its own ('eff'). -/
def Eff (eff : Int → Int → World → World → Prop) (b : Nat) (x : Raw) : Option (Int × Int) → World → World → Prop
  | none, w, w' => Only (Mb b x) w w'
  | some (f, l), w, w' => ∃ w1 w2, Only (Mb b x) w w1 ∧ eff f l w1 w2 ∧ Only (Mb b x) w2 w'
/-- The contract of a method that does an instruction. -/
def DoesP (eff : Int → Int → World → World → Prop) (b : Nat) (x : Raw) (w : World) (e : Ending) (w' : World) : Out → Prop
  | .go s' next wr => e = .returned (.tuple #[]) ∧ ∃ s2 x2, Mach w' b s2 x2 ∧ s2.clr = s' ∧ x2.next = next ∧ Keep w x x2 ∧ Eff eff b x wr w w'
  | .trap s' o => e = trapE o ∧ ∃ x2, Mach w' b s' x2 ∧ Keep w x x2 ∧ Only (Mb b x) w w'
def DoesQ (eff : Int → Int → World → World → Prop) (b : Nat) (s : St) (x : Raw) (i : Ins) (w : World) (e : Ending) (w' : World) : Prop := DoesP eff b x w e w' (exec s i)
theorem Only.mb {b : Nat} {x : Raw} {w w' : World} (h : Only (· = b) w w') : Only (Mb b x) w w' := h.mono (fun _ _ k => .inl k)
/-- An instruction that sets a register alone. -/
theorem does_set {eff : Int → Int → World → World → Prop} {b : Nat} {s : St} {x : Raw} {i : Ins} {w w' : World} {d v : Int} {next : Int} (h : Mach w b s x) (hz : s.regs 0 = 0) (he : exec s i = .go (s.set d v) next none) (hn : x.next = next)
    (hc : MacAt w' b { s with regs := rset s.regs d.toNat v } x) (ho : Only (· = b) w w') : DoesQ eff b s x i w (.returned (.tuple #[])) w' := by
  unfold DoesQ
  rw [he]
  exact ⟨rfl, _, x, h.struct ho hc rfl rfl rfl rfl rfl rfl rfl, clr_rset s d v hz, hn, Keep.refl _ _, ho.mb⟩
theorem does_trap {eff : Int → Int → World → World → Prop} {b : Nat} {s : St} {x x' : Raw} {i : Ins} {w w' : World} {o : Int} (h : Mach w b s x) (he : exec s i = .trap s o)
    (hc : MacAt w' b s x') (hx : x' = { x with next := x'.next }) (ho : Only (· = b) w w') : DoesQ eff b s x i w (trapE o) w' := by
  unfold DoesQ
  rw [he]
  rw [hx] at hc
  exact ⟨rfl, _, h.struct ho hc rfl rfl rfl rfl rfl rfl rfl, ⟨rfl, rfl, rfl, .inl rfl⟩, ho.mb⟩
set_option maxRecDepth 100000 in
set_option maxRecDepth 100000 in
set_option maxRecDepth 100000 in
set_option maxRecDepth 100000 in
set_option maxRecDepth 100000 in
set_option maxRecDepth 100000 in
theorem u32w (x : Int) : IntKind.u32.wrap x = u32 x := by simp [IntKind.wrap, IntKind.signed, IntKind.bits, u32]
theorem u32_bd (x : Int) : 0 ≤ u32 x ∧ u32 x < 4294967296 := by unfold u32; omega
theorem upper_0 (eff : Int → Int → World → World → Prop) (b : Nat) (i : Ins) (hi : i.Ok) (s : St) (hs : s.Ok) (x : Raw) (w : World) (h : Mach w b s x) (ho : i.op = 0) (hn : x.next = u32 (s.pc + 4)) :
    Calls Tryz.prog 49 #[.pointer (some ⟨b, 0, none⟩), .agg i.cells] w (DoesQ eff b s x i w) := by
  have he : exec s i = .go (s.set i.rd (u32 i.imm)) (u32 (s.pc + 4)) none := by simp [exec, ho]
  unfold Ins.cells
  obtain ⟨d0, d1⟩ := hi.rd
  obtain ⟨a0, a1⟩ := hi.rs1
  obtain ⟨c0, c1⟩ := hi.rs2
  obtain ⟨m0, m1⟩ := hi.imm
  obtain ⟨v0, v1⟩ := hs.regs i.rs1.toNat
  obtain ⟨y0, y1⟩ := hs.regs i.rs2.toNat
  obtain ⟨p0, p1⟩ := hs.pc
  have hr := h.mac.reg i.rd.toNat (by omega)
  have hr1 := h.mac.reg i.rs1.toNat (by omega)
  have hr2 := h.mac.reg i.rs2.toNat (by omega)
  have hf := h.mac.free i.rd.toNat
  have hp := h.mac.pc
  have hsz := h.mac.lt
  have HN := Lib.hid hn
  have HE := Lib.hid he
  clear hn he
  go_enter Tryz.func49, Tryz.ntmps49
  go_wp2
  go_region
  go_end0
  refine does_set h hs.zero HE.out HN.out ?_ ?_
  · repeat (first | with_reducible refine MacAt.drew ?_ | with_reducible refine MacAt.drewN ?_ _ | with_reducible refine MacAt.alloc ?_ _)
    exact h.mac.putReg i.rd.toNat _ (by omega)
  · repeat (first | with_reducible exact Only.refl _ _ | with_reducible refine Only.set1 ?_ _ _ | with_reducible refine Only.alloc ?_ _ | with_reducible refine Only.drewN ?_ _ | with_reducible refine Only.drew ?_)
set_option maxRecDepth 100000 in
theorem upper_1 (eff : Int → Int → World → World → Prop) (b : Nat) (i : Ins) (hi : i.Ok) (s : St) (hs : s.Ok) (x : Raw) (w : World) (h : Mach w b s x) (ho : i.op = 1) (hn : x.next = u32 (s.pc + 4)) :
    Calls Tryz.prog 49 #[.pointer (some ⟨b, 0, none⟩), .agg i.cells] w (DoesQ eff b s x i w) := by
  have he : exec s i = .go (s.set i.rd (u32 (s.pc + i.imm))) (u32 (s.pc + 4)) none := by simp [exec, ho]
  unfold Ins.cells
  obtain ⟨d0, d1⟩ := hi.rd
  obtain ⟨a0, a1⟩ := hi.rs1
  obtain ⟨c0, c1⟩ := hi.rs2
  obtain ⟨m0, m1⟩ := hi.imm
  obtain ⟨v0, v1⟩ := hs.regs i.rs1.toNat
  obtain ⟨y0, y1⟩ := hs.regs i.rs2.toNat
  obtain ⟨p0, p1⟩ := hs.pc
  have hr := h.mac.reg i.rd.toNat (by omega)
  have hr1 := h.mac.reg i.rs1.toNat (by omega)
  have hr2 := h.mac.reg i.rs2.toNat (by omega)
  have hf := h.mac.free i.rd.toNat
  have hp := h.mac.pc
  have hsz := h.mac.lt
  have HN := Lib.hid hn
  have HE := Lib.hid he
  clear hn he
  go_enter Tryz.func49, Tryz.ntmps49
  go_wp2
  go_region
  go_end0
  rw [show (i.imm + s.pc) % 4294967296 = u32 (s.pc + i.imm) by unfold u32; omega]
  refine does_set h hs.zero HE.out HN.out ?_ ?_
  · repeat (first | with_reducible refine MacAt.drew ?_ | with_reducible refine MacAt.drewN ?_ _ | with_reducible refine MacAt.alloc ?_ _)
    exact h.mac.putReg i.rd.toNat _ (by omega)
  · repeat (first | with_reducible exact Only.refl _ _ | with_reducible refine Only.set1 ?_ _ _ | with_reducible refine Only.alloc ?_ _ | with_reducible refine Only.drewN ?_ _ | with_reducible refine Only.drew ?_)
set_option maxRecDepth 100000 in
theorem number_any (eff : Int → Int → World → World → Prop) (b : Nat) (i : Ins) (hi : i.Ok) (s : St) (hs : s.Ok) (x : Raw) (w : World) (h : Mach w b s x) (h18 : 18 ≤ i.op) (h26 : i.op ≤ 26) (hn : x.next = u32 (s.pc + 4)) :
    Calls Tryz.prog 54 #[.pointer (some ⟨b, 0, none⟩), .agg i.cells] w (DoesQ eff b s x i w) := by
  have he : exec s i = .go (s.set i.rd (cmpI i.op (s.regs i.rs1.toNat) (u32 i.imm))) (u32 (s.pc + 4)) none := by unfold exec; dsimp only; repeat (first | rw [if_pos (by simp; omega)] | rw [if_neg (by simp; omega)])
  unfold Ins.cells
  obtain ⟨d0, d1⟩ := hi.rd
  obtain ⟨a0, a1⟩ := hi.rs1
  obtain ⟨c0, c1⟩ := hi.rs2
  obtain ⟨m0, m1⟩ := hi.imm
  obtain ⟨v0, v1⟩ := hs.regs i.rs1.toNat
  obtain ⟨y0, y1⟩ := hs.regs i.rs2.toNat
  obtain ⟨p0, p1⟩ := hs.pc
  have hr := h.mac.reg i.rd.toNat (by omega)
  have hr1 := h.mac.reg i.rs1.toNat (by omega)
  have hr2 := h.mac.reg i.rs2.toNat (by omega)
  have hf := h.mac.free i.rd.toNat
  have hp := h.mac.pc
  have hsz := h.mac.lt
  have HN := Lib.hid hn
  have HE := Lib.hid he
  clear hn he
  go_enter Tryz.func54, Tryz.ntmps54
  go_wp2_with fail
  refine wp_region_still_tail 19 (by kernel_rfl) (by kernel_rfl) ?_
  simp only [List.take_succ_cons, List.take_zero, List.drop_succ_cons, List.drop_zero]
  change wpStill _ _ (World.drew _) _ _ _
  repeat still_step
  still_call ((comp_any _ _ _ v0 v1 (by rw [u32w]; exact (u32_bd _).1) (by rw [u32w]; exact (u32_bd _).2) _).mono (fun _ _ h => ⟨h.1, h.2.symm⟩))
  repeat still_step
  refine wpStill_nil ?_
  change wpList _ _ _ _ _ (World.drew _)
  go_wp2_with fail
  go_end0
  refine does_set h hs.zero HE.out HN.out ?_ ?_
  · repeat (first | with_reducible refine MacAt.drew ?_ | with_reducible refine MacAt.drewN ?_ _ | with_reducible refine MacAt.alloc ?_ _)
    exact h.mac.putReg i.rd.toNat _ (by omega)
  · repeat (first | with_reducible exact Only.refl _ _ | with_reducible refine Only.set1 ?_ _ _ | with_reducible refine Only.alloc ?_ _ | with_reducible refine Only.drewN ?_ _ | with_reducible refine Only.drew ?_)
set_option maxRecDepth 100000 in
theorem registers_any (eff : Int → Int → World → World → Prop) (b : Nat) (i : Ins) (hi : i.Ok) (s : St) (hs : s.Ok) (x : Raw) (w : World) (h : Mach w b s x) (h18 : 27 ≤ i.op) (h26 : i.op ≤ 44) (hn : x.next = u32 (s.pc + 4)) :
    Calls Tryz.prog 55 #[.pointer (some ⟨b, 0, none⟩), .agg i.cells] w (DoesQ eff b s x i w) := by
  have he : exec s i = .go (s.set i.rd (cmpI i.op (s.regs i.rs1.toNat) (s.regs i.rs2.toNat))) (u32 (s.pc + 4)) none := by unfold exec; dsimp only; repeat (first | rw [if_pos (by simp; omega)] | rw [if_neg (by simp; omega)])
  unfold Ins.cells
  obtain ⟨d0, d1⟩ := hi.rd
  obtain ⟨a0, a1⟩ := hi.rs1
  obtain ⟨c0, c1⟩ := hi.rs2
  obtain ⟨m0, m1⟩ := hi.imm
  obtain ⟨v0, v1⟩ := hs.regs i.rs1.toNat
  obtain ⟨y0, y1⟩ := hs.regs i.rs2.toNat
  obtain ⟨p0, p1⟩ := hs.pc
  have hr := h.mac.reg i.rd.toNat (by omega)
  have hr1 := h.mac.reg i.rs1.toNat (by omega)
  have hr2 := h.mac.reg i.rs2.toNat (by omega)
  have hf := h.mac.free i.rd.toNat
  have hp := h.mac.pc
  have hsz := h.mac.lt
  have HN := Lib.hid hn
  have HE := Lib.hid he
  clear hn he
  go_enter Tryz.func55, Tryz.ntmps55
  go_wp2_with fail
  refine wp_region_still_tail 22 (by kernel_rfl) (by kernel_rfl) ?_
  simp only [List.take_succ_cons, List.take_zero, List.drop_succ_cons, List.drop_zero]
  change wpStill _ _ (World.drew _) _ _ _
  repeat still_step
  still_call ((comp_any _ _ _ v0 v1 y0 y1 _).mono (fun _ _ h => ⟨h.1, h.2.symm⟩))
  repeat still_step
  refine wpStill_nil ?_
  change wpList _ _ _ _ _ (World.drew _)
  go_wp2_with fail
  go_end0
  refine does_set h hs.zero HE.out HN.out ?_ ?_
  · repeat (first | with_reducible refine MacAt.drew ?_ | with_reducible refine MacAt.drewN ?_ _ | with_reducible refine MacAt.alloc ?_ _)
    exact h.mac.putReg i.rd.toNat _ (by omega)
  · repeat (first | with_reducible exact Only.refl _ _ | with_reducible refine Only.set1 ?_ _ _ | with_reducible refine Only.alloc ?_ _ | with_reducible refine Only.drewN ?_ _ | with_reducible refine Only.drew ?_)
theorem does_go {eff : Int → Int → World → World → Prop} {b : Nat} {s s2 s' : St} {x : Raw} {i : Ins} {w w' : World} {next : Int} (h : Mach w b s x) (he : exec s i = .go s' next none)
    (hc : MacAt w' b s2 { x with next := next }) (hs : s2.clr = s') (e1 : s2.mem = s.mem) (e2 : s2.ans = s.ans) (e3 : s2.evs = s.evs) (ho : Only (· = b) w w') : DoesQ eff b s x i w (.returned (.tuple #[])) w' := by
  unfold DoesQ
  rw [he]
  exact ⟨rfl, _, _, h.struct ho hc rfl rfl rfl rfl e1 e2 e3, hs, rfl, ⟨rfl, rfl, rfl, .inl rfl⟩, ho.mb⟩
theorem andNot_1 (x : Int) (h0 : 0 ≤ x) (h1 : x < 4294967296) : bits BinOp.andNot IntKind.u32 x 1 = x / 2 * 2 := by
  rw [u32_andNot x 1 h0 h1 (by decide) (by decide)]
  have := and_field x 4294967294 31 1 h0 h1 (by decide) (by decide)
  rw [u32_and x 4294967294 h0 h1 (by decide) (by decide)] at this
  have e : (4294967295 - (1 : Int).toNat) = (4294967294 : Int).toNat := by decide
  rw [e, this]; omega
set_option maxRecDepth 100000 in
theorem jump_2 (eff : Int → Int → World → World → Prop) (b : Nat) (i : Ins) (hi : i.Ok) (s : St) (hs : s.Ok) (x : Raw) (w : World) (h : Mach w b s x) (ho : i.op = 2) (ht : u32 (s.pc + i.imm) % 4 = 0) (hn : x.next = u32 (s.pc + 4)) :
    Calls Tryz.prog 50 #[.pointer (some ⟨b, 0, none⟩), .agg i.cells] w (DoesQ eff b s x i w) := by
  have he : exec s i = .go (s.set i.rd (u32 (s.pc + 4))) (u32 (s.pc + i.imm)) none := by simp [exec, ho, ht]
  unfold Ins.cells
  obtain ⟨d0, d1⟩ := hi.rd
  obtain ⟨a0, a1⟩ := hi.rs1
  obtain ⟨c0, c1⟩ := hi.rs2
  obtain ⟨m0, m1⟩ := hi.imm
  obtain ⟨v0, v1⟩ := hs.regs i.rs1.toNat
  obtain ⟨y0, y1⟩ := hs.regs i.rs2.toNat
  obtain ⟨p0, p1⟩ := hs.pc
  have hr := h.mac.reg i.rd.toNat (by omega)
  have hr1 := h.mac.reg i.rs1.toNat (by omega)
  have hr2 := h.mac.reg i.rs2.toNat (by omega)
  have hf := h.mac.free i.rd.toNat
  have hp := h.mac.pc
  have hsz := h.mac.lt
  have ht' : ((s.pc + i.imm) % 4294967296 % 4 != 0) = false := by rw [show (s.pc + i.imm) % 4294967296 = u32 (s.pc + i.imm) from rfl, ht]; rfl
  have HT := Lib.hid ht'
  clear ht ht'
  have HN := Lib.hid hn
  have HE := Lib.hid he
  clear hn he
  go_enter Tryz.func50, Tryz.ntmps50
  go_wp2_with fail
  refine (on_yes _ _ s x _ ?_ (by omega) HT.out).mono ?_
  · repeat (first | with_reducible refine MacAt.drew ?_ | with_reducible refine MacAt.drewN ?_ _ | with_reducible refine MacAt.alloc ?_ _)
    exact h.mac
  rintro e w' ⟨rfl, rfl⟩
  go_wp2_with fail
  go_region
  go_end0
  refine does_go (s2 := { s with regs := rset s.regs i.rd.toNat (u32 (s.pc + 4)) }) h HE.out ?_ ?_ rfl rfl rfl ?_
  · repeat (first | with_reducible refine MacAt.drew ?_ | with_reducible refine MacAt.drewN ?_ _ | with_reducible refine MacAt.alloc ?_ _)
    refine MacAt.putReg ?_ i.rd.toNat _ (by omega)
    repeat (first | with_reducible refine MacAt.drew ?_ | with_reducible refine MacAt.drewN ?_ _ | with_reducible refine MacAt.alloc ?_ _)
    refine MacAt.putNext ?_ _
    repeat (first | with_reducible refine MacAt.drew ?_ | with_reducible refine MacAt.drewN ?_ _ | with_reducible refine MacAt.alloc ?_ _)
    exact h.mac
  · exact clr_rset s i.rd _ hs.zero
  · repeat (first | with_reducible exact Only.refl _ _ | with_reducible refine Only.set1 ?_ _ _ | with_reducible refine Only.alloc ?_ _ | with_reducible refine Only.drewN ?_ _ | with_reducible refine Only.drew ?_)
set_option maxRecDepth 100000 in
theorem jump_2n (eff : Int → Int → World → World → Prop) (b : Nat) (i : Ins) (hi : i.Ok) (s : St) (hs : s.Ok) (x : Raw) (w : World) (h : Mach w b s x) (ho : i.op = 2) (ht : ¬ u32 (s.pc + i.imm) % 4 = 0) (hn : x.next = u32 (s.pc + 4)) :
    Calls Tryz.prog 50 #[.pointer (some ⟨b, 0, none⟩), .agg i.cells] w (DoesQ eff b s x i w) := by
  have he : exec s i = .trap s 3 := by simp [exec, ho, ht]
  unfold Ins.cells
  obtain ⟨d0, d1⟩ := hi.rd
  obtain ⟨a0, a1⟩ := hi.rs1
  obtain ⟨c0, c1⟩ := hi.rs2
  obtain ⟨m0, m1⟩ := hi.imm
  obtain ⟨v0, v1⟩ := hs.regs i.rs1.toNat
  obtain ⟨y0, y1⟩ := hs.regs i.rs2.toNat
  obtain ⟨p0, p1⟩ := hs.pc
  have hr := h.mac.reg i.rd.toNat (by omega)
  have hr1 := h.mac.reg i.rs1.toNat (by omega)
  have hr2 := h.mac.reg i.rs2.toNat (by omega)
  have hf := h.mac.free i.rd.toNat
  have hp := h.mac.pc
  have hsz := h.mac.lt
  have ht' : ((s.pc + i.imm) % 4294967296 % 4 != 0) = true := by rw [bne_iff_ne]; exact ht
  have HT := Lib.hid ht'
  clear ht ht'
  have HN := Lib.hid hn
  have HE := Lib.hid he
  clear hn he
  go_enter Tryz.func50, Tryz.ntmps50
  go_wp2_with fail
  refine (on_no _ _ _ (by omega) HT.out).mono ?_
  rintro e w' ⟨rfl, rfl⟩
  go_wp2_with fail
  refine ⟨rfl, does_trap (x' := x) h HE.out ?_ rfl ?_⟩
  · repeat (first | with_reducible refine MacAt.drew ?_ | with_reducible refine MacAt.drewN ?_ _ | with_reducible refine MacAt.alloc ?_ _)
    exact h.mac
  · repeat (first | with_reducible exact Only.refl _ _ | with_reducible refine Only.set1 ?_ _ _ | with_reducible refine Only.alloc ?_ _ | with_reducible refine Only.drewN ?_ _ | with_reducible refine Only.drew ?_)
set_option maxRecDepth 100000 in
theorem jump_3 (eff : Int → Int → World → World → Prop) (b : Nat) (i : Ins) (hi : i.Ok) (s : St) (hs : s.Ok) (x : Raw) (w : World) (h : Mach w b s x) (ho : i.op = 3) (ht : u32 (s.regs i.rs1.toNat + i.imm) / 2 * 2 % 4 = 0) (hn : x.next = u32 (s.pc + 4)) :
    Calls Tryz.prog 50 #[.pointer (some ⟨b, 0, none⟩), .agg i.cells] w (DoesQ eff b s x i w) := by
  have he : exec s i = .go (s.set i.rd (u32 (s.pc + 4))) (u32 (s.regs i.rs1.toNat + i.imm) / 2 * 2) none := by simp [exec, ho, ht]
  unfold Ins.cells
  obtain ⟨d0, d1⟩ := hi.rd
  obtain ⟨a0, a1⟩ := hi.rs1
  obtain ⟨c0, c1⟩ := hi.rs2
  obtain ⟨m0, m1⟩ := hi.imm
  obtain ⟨v0, v1⟩ := hs.regs i.rs1.toNat
  obtain ⟨y0, y1⟩ := hs.regs i.rs2.toNat
  obtain ⟨p0, p1⟩ := hs.pc
  have hr := h.mac.reg i.rd.toNat (by omega)
  have hr1 := h.mac.reg i.rs1.toNat (by omega)
  have hr2 := h.mac.reg i.rs2.toNat (by omega)
  have hf := h.mac.free i.rd.toNat
  have hp := h.mac.pc
  have hsz := h.mac.lt
  have hsp := andNot_1 (u32 (s.regs i.rs1.toNat + i.imm)) (u32_bd _).1 (u32_bd _).2
  unfold u32 at hsp
  have ht' : ((s.regs i.rs1.toNat + i.imm) % 4294967296 / 2 * 2 % 4 != 0) = false := by rw [show (s.regs i.rs1.toNat + i.imm) % 4294967296 = u32 (s.regs i.rs1.toNat + i.imm) from rfl, ht]; rfl
  have HT := Lib.hid ht'
  clear ht ht'
  have HN := Lib.hid hn
  have HE := Lib.hid he
  clear hn he
  go_enter Tryz.func50, Tryz.ntmps50
  go_wp2_with fail
  go_region
  go_wp2_with fail
  refine (on_yes _ _ s x _ ?_ (by omega) HT.out).mono ?_
  · repeat (first | with_reducible refine MacAt.drew ?_ | with_reducible refine MacAt.drewN ?_ _ | with_reducible refine MacAt.alloc ?_ _)
    exact h.mac
  rintro e w' ⟨rfl, rfl⟩
  go_wp2_with fail
  go_region
  go_end0
  refine does_go (s2 := { s with regs := rset s.regs i.rd.toNat (u32 (s.pc + 4)) }) h HE.out ?_ ?_ rfl rfl rfl ?_
  · repeat (first | with_reducible refine MacAt.drew ?_ | with_reducible refine MacAt.drewN ?_ _ | with_reducible refine MacAt.alloc ?_ _)
    refine MacAt.putReg ?_ i.rd.toNat _ (by omega)
    repeat (first | with_reducible refine MacAt.drew ?_ | with_reducible refine MacAt.drewN ?_ _ | with_reducible refine MacAt.alloc ?_ _)
    refine MacAt.putNext ?_ _
    repeat (first | with_reducible refine MacAt.drew ?_ | with_reducible refine MacAt.drewN ?_ _ | with_reducible refine MacAt.alloc ?_ _)
    exact h.mac
  · exact clr_rset s i.rd _ hs.zero
  · repeat (first | with_reducible exact Only.refl _ _ | with_reducible refine Only.set1 ?_ _ _ | with_reducible refine Only.alloc ?_ _ | with_reducible refine Only.drewN ?_ _ | with_reducible refine Only.drew ?_)
set_option maxRecDepth 100000 in
theorem jump_3n (eff : Int → Int → World → World → Prop) (b : Nat) (i : Ins) (hi : i.Ok) (s : St) (hs : s.Ok) (x : Raw) (w : World) (h : Mach w b s x) (ho : i.op = 3) (ht : ¬ u32 (s.regs i.rs1.toNat + i.imm) / 2 * 2 % 4 = 0) (hn : x.next = u32 (s.pc + 4)) :
    Calls Tryz.prog 50 #[.pointer (some ⟨b, 0, none⟩), .agg i.cells] w (DoesQ eff b s x i w) := by
  have he : exec s i = .trap s 3 := by simp [exec, ho, ht]
  unfold Ins.cells
  obtain ⟨d0, d1⟩ := hi.rd
  obtain ⟨a0, a1⟩ := hi.rs1
  obtain ⟨c0, c1⟩ := hi.rs2
  obtain ⟨m0, m1⟩ := hi.imm
  obtain ⟨v0, v1⟩ := hs.regs i.rs1.toNat
  obtain ⟨y0, y1⟩ := hs.regs i.rs2.toNat
  obtain ⟨p0, p1⟩ := hs.pc
  have hr := h.mac.reg i.rd.toNat (by omega)
  have hr1 := h.mac.reg i.rs1.toNat (by omega)
  have hr2 := h.mac.reg i.rs2.toNat (by omega)
  have hf := h.mac.free i.rd.toNat
  have hp := h.mac.pc
  have hsz := h.mac.lt
  have hsp := andNot_1 (u32 (s.regs i.rs1.toNat + i.imm)) (u32_bd _).1 (u32_bd _).2
  unfold u32 at hsp
  have ht' : ((s.regs i.rs1.toNat + i.imm) % 4294967296 / 2 * 2 % 4 != 0) = true := by rw [bne_iff_ne]; exact ht
  have HT := Lib.hid ht'
  clear ht ht'
  have HN := Lib.hid hn
  have HE := Lib.hid he
  clear hn he
  go_enter Tryz.func50, Tryz.ntmps50
  go_wp2_with fail
  go_region
  go_wp2_with fail
  refine (on_no _ _ _ (by omega) HT.out).mono ?_
  rintro e w' ⟨rfl, rfl⟩
  go_wp2_with fail
  refine ⟨rfl, does_trap (x' := x) h HE.out ?_ rfl ?_⟩
  · repeat (first | with_reducible refine MacAt.drew ?_ | with_reducible refine MacAt.drewN ?_ _ | with_reducible refine MacAt.alloc ?_ _)
    exact h.mac
  · repeat (first | with_reducible exact Only.refl _ _ | with_reducible refine Only.set1 ?_ _ _ | with_reducible refine Only.alloc ?_ _ | with_reducible refine Only.drewN ?_ _ | with_reducible refine Only.drew ?_)
end Go.Proofs.YtanccjaikocefaaGreatDoor
