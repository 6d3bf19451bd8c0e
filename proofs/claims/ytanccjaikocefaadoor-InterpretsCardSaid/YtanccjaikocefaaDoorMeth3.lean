/-
  The contracts of 'reach', 'tell', 'Word', 'nothing', 'stop': as the plain machine has them. Conditions: the machine lies in memory; numbers and fields are in their ranges.
-/
import Derived.Test.YtanccjaikocefaaDoorMeth1
namespace Go.Proofs.YtanccjaikocefaaDoor
open Go.ChangeShapes Go.WideShapes Go.ChangeAt Go.RowKit
set_option linter.unusedVariables false

set_option maxRecDepth 100000 in
theorem reach_ok (b : Nat) (i : Ins) (hi : i.Ok) (s : St) (hs : s.Ok) (x : Raw) (w : World) (h : MacAt w b s x) (p n oa of_ : Int) (n0 : 1 ≤ n) (n1 : n ≤ 4) (ha : u32 (s.regs i.rs1.toNat + i.imm) % n = 0) (hl : lies s (u32 (s.regs i.rs1.toNat + i.imm)) n = true) :
    Calls Tryd.prog 76 #[.pointer (some ⟨b, 0, none⟩), .agg #[.int .i64 p, .int .i64 i.rd, .int .i64 i.rs1, .int .i64 i.rs2, .int .i32 i.imm], .int .u32 n, .int .i64 oa, .int .i64 of_] w (fun e w' => e = .returned (.int .u32 (u32 (s.regs i.rs1.toNat + i.imm))) ∧ Only (fun _ => False) w w') := by
  obtain ⟨a0, a1⟩ := hi.rs1
  obtain ⟨m0, m1⟩ := hi.imm
  obtain ⟨v0, v1⟩ := hs.regs i.rs1.toNat
  have hr1 := h.reg i.rs1.toNat (by omega)
  have hsz := h.lt
  have ha' : ((s.regs i.rs1.toNat + i.imm) % 4294967296 % n != 0) = false := by show (u32 (s.regs i.rs1.toNat + i.imm) % n != 0) = false; rw [ha]; rfl
  have hl' : lies s ((s.regs i.rs1.toNat + i.imm) % 4294967296) n = true := hl
  have HL := Lib.hid hl'
  clear ha hl hl'
  go_enter Tryd.func76, Tryd.ntmps76
  go_wp2_with fail
  go_quiet (fail)
  go_wp2_with fail
  refine (lies_any b _ _ s x _ ?_ (by omega) (by omega) (by omega) (by omega) hs.len).mono ?_
  · repeat (first | with_reducible refine MacAt.drew ?_ | with_reducible refine MacAt.drewN ?_ _ | with_reducible refine MacAt.alloc ?_ _)
    exact h
  rintro e w' ⟨rfl, rfl⟩
  rw [HL.out]
  go_wp2_with fail
  go_ret
  refine ⟨rfl, ?_⟩
  repeat (first | with_reducible exact Only.refl _ _ | with_reducible refine Only.alloc ?_ _ | with_reducible refine Only.drewN ?_ _ | with_reducible refine Only.drew ?_)

set_option maxRecDepth 100000 in
theorem reach_align (b : Nat) (i : Ins) (hi : i.Ok) (s : St) (hs : s.Ok) (x : Raw) (w : World) (h : MacAt w b s x) (p n oa of_ : Int) (n0 : 1 ≤ n) (n1 : n ≤ 4) (ha : ¬ u32 (s.regs i.rs1.toNat + i.imm) % n = 0) :
    Calls Tryd.prog 76 #[.pointer (some ⟨b, 0, none⟩), .agg #[.int .i64 p, .int .i64 i.rd, .int .i64 i.rs1, .int .i64 i.rs2, .int .i32 i.imm], .int .u32 n, .int .i64 oa, .int .i64 of_] w (fun e w' => e = trapE oa ∧ Only (fun _ => False) w w') := by
  obtain ⟨a0, a1⟩ := hi.rs1
  obtain ⟨m0, m1⟩ := hi.imm
  obtain ⟨v0, v1⟩ := hs.regs i.rs1.toNat
  have hr1 := h.reg i.rs1.toNat (by omega)
  have hsz := h.lt
  have ha' : ((s.regs i.rs1.toNat + i.imm) % 4294967296 % n != 0) = true := by rw [bne_iff_ne]; exact ha
  clear ha
  go_enter Tryd.func76, Tryd.ntmps76
  go_wp2_with fail
  go_quiet (fail)
  go_wp2_with fail
  refine (trap_any _ _ _).mono ?_
  rintro e w' ⟨rfl, rfl⟩
  go_wp2_with fail
  refine ⟨rfl, rfl, ?_⟩
  repeat (first | with_reducible exact Only.refl _ _ | with_reducible refine Only.alloc ?_ _ | with_reducible refine Only.drewN ?_ _ | with_reducible refine Only.drew ?_)

set_option maxRecDepth 100000 in
theorem reach_fault (b : Nat) (i : Ins) (hi : i.Ok) (s : St) (hs : s.Ok) (x : Raw) (w : World) (h : MacAt w b s x) (p n oa of_ : Int) (n0 : 1 ≤ n) (n1 : n ≤ 4) (ha : u32 (s.regs i.rs1.toNat + i.imm) % n = 0) (hl : lies s (u32 (s.regs i.rs1.toNat + i.imm)) n = false) :
    Calls Tryd.prog 76 #[.pointer (some ⟨b, 0, none⟩), .agg #[.int .i64 p, .int .i64 i.rd, .int .i64 i.rs1, .int .i64 i.rs2, .int .i32 i.imm], .int .u32 n, .int .i64 oa, .int .i64 of_] w (fun e w' => e = trapE of_ ∧ Only (fun _ => False) w w') := by
  obtain ⟨a0, a1⟩ := hi.rs1
  obtain ⟨m0, m1⟩ := hi.imm
  obtain ⟨v0, v1⟩ := hs.regs i.rs1.toNat
  have hr1 := h.reg i.rs1.toNat (by omega)
  have hsz := h.lt
  have ha' : ((s.regs i.rs1.toNat + i.imm) % 4294967296 % n != 0) = false := by show (u32 (s.regs i.rs1.toNat + i.imm) % n != 0) = false; rw [ha]; rfl
  have hl' : lies s ((s.regs i.rs1.toNat + i.imm) % 4294967296) n = false := hl
  have HL := Lib.hid hl'
  clear ha hl hl'
  go_enter Tryd.func76, Tryd.ntmps76
  go_wp2_with fail
  go_quiet (fail)
  go_wp2_with fail
  refine (lies_any b _ _ s x _ ?_ (by omega) (by omega) (by omega) (by omega) hs.len).mono ?_
  · repeat (first | with_reducible refine MacAt.drew ?_ | with_reducible refine MacAt.drewN ?_ _ | with_reducible refine MacAt.alloc ?_ _)
    exact h
  rintro e w' ⟨rfl, rfl⟩
  rw [HL.out]
  go_wp2_with fail
  refine (trap_any _ _ _).mono ?_
  rintro e w' ⟨rfl, rfl⟩
  go_wp2_with fail
  refine ⟨rfl, rfl, ?_⟩
  repeat (first | with_reducible exact Only.refl _ _ | with_reducible refine Only.alloc ?_ _ | with_reducible refine Only.drewN ?_ _ | with_reducible refine Only.drew ?_)

theorem nothing_any (eff : Int → Int → World → World → Prop) (b : Nat) (i : Ins) (s : St) (hs : s.Ok) (x : Raw) (w : World) (h : Mach w b s x) (ho : i.op = 45) (hn : x.next = u32 (s.pc + 4)) :
    Calls Tryd.prog 59 #[.pointer (some ⟨b, 0, none⟩), .agg i.cells] w (DoesQ eff b s x i w) := by
  have he : exec s i = .go s (u32 (s.pc + 4)) none := by simp [exec, ho]
  have HN := Lib.hid hn
  have HE := Lib.hid he
  clear hn he
  unfold Ins.cells
  go_enter Tryd.func59, Tryd.ntmps59
  go_wp2
  go_end0
  refine does_go (s2 := s) h HE.out ?_ (clr_self s hs.zero) rfl rfl rfl ?_
  · repeat (first | with_reducible refine MacAt.drew ?_ | with_reducible refine MacAt.drewN ?_ _ | with_reducible refine MacAt.alloc ?_ _)
    have : x = { x with next := u32 (s.pc + 4) } := by rw [← HN.out]
    rw [← this]
    exact h.mac
  · repeat (first | with_reducible exact Only.refl _ _ | with_reducible refine Only.set1 ?_ _ _ | with_reducible refine Only.alloc ?_ _ | with_reducible refine Only.drewN ?_ _ | with_reducible refine Only.drew ?_)
theorem stop_any (eff : Int → Int → World → World → Prop) (b : Nat) (i : Ins) (s : St) (x : Raw) (w : World) (h : Mach w b s x) (ho : i.op = 47) :
    Calls Tryd.prog 58 #[.pointer (some ⟨b, 0, none⟩), .agg i.cells] w (DoesQ eff b s x i w) := by
  have he : exec s i = .trap s 9 := by simp [exec, ho]
  have HE := Lib.hid he
  clear he
  unfold Ins.cells
  go_enter Tryd.func58, Tryd.ntmps58
  go_wp2_with fail
  refine (trap_any _ _ _).mono ?_
  rintro e w' ⟨rfl, rfl⟩
  go_wp2_with fail
  refine ⟨rfl, does_trap (x' := x) h HE.out ?_ rfl ?_⟩
  · repeat (first | with_reducible refine MacAt.drew ?_ | with_reducible refine MacAt.drewN ?_ _ | with_reducible refine MacAt.alloc ?_ _)
    exact h.mac
  · repeat (first | with_reducible exact Only.refl _ _ | with_reducible refine Only.set1 ?_ _ _ | with_reducible refine Only.alloc ?_ _ | with_reducible refine Only.drewN ?_ _ | with_reducible refine Only.drew ?_)
end Go.Proofs.YtanccjaikocefaaDoor
