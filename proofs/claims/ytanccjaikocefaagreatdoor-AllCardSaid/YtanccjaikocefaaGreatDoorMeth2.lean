/-
 trial -/
import Derived.Test.YtanccjaikocefaaGreatDoorMeth1
namespace Go.Proofs.YtanccjaikocefaaGreatDoor
open Go.ChangeShapes Go.WideShapes Go.ChangeAt Go.RowKit
set_option linter.unusedVariables false
theorem beq_f {a b : Int} (h : (a == b) = false) : (a != b) = true := by simpa [bne] using h
theorem beq_t {a b : Int} (h : (a == b) = true) : (a != b) = false := by simpa [bne] using h
set_option maxRecDepth 100000 in
theorem branch_4_t (eff : Int → Int → World → World → Prop) (b : Nat) (i : Ins) (hi : i.Ok) (s : St) (hs : s.Ok) (x : Raw) (w : World) (h : Mach w b s x) (ho : i.op = 4) (hy : (s.regs i.rs1.toNat == s.regs i.rs2.toNat) = true) (ht : u32 (s.pc + i.imm) % 4 = 0) (hn : x.next = u32 (s.pc + 4)) :
    Calls Tryz.prog 51 #[.pointer (some ⟨b, 0, none⟩), .agg i.cells] w (DoesQ eff b s x i w) := by
  have he : exec s i = .go s (u32 (s.pc + i.imm)) none := by 
    have hb : brT i.op (s.regs i.rs1.toNat) (s.regs i.rs2.toNat) = true := by (rw [ho]; simp only [brT]; simp at hy ⊢; first | exact hy | omega)
    unfold exec
    dsimp only
    repeat (first | rw [if_pos (by simp; omega)] | rw [if_neg (by simp; omega)])
    try rw [hb]
    simp [goesTo, ht]
  unfold Ins.cells
  obtain ⟨d0, d1⟩ := hi.rd
  obtain ⟨a0, a1⟩ := hi.rs1
  obtain ⟨c0, c1⟩ := hi.rs2
  obtain ⟨m0, m1⟩ := hi.imm
  obtain ⟨v0, v1⟩ := hs.regs i.rs1.toNat
  obtain ⟨y0, y1⟩ := hs.regs i.rs2.toNat
  obtain ⟨p0, p1⟩ := hs.pc
  have hr := h.mac.reg i.rd.toNat (by omega)
  have hr1 := h.mac.reg i.rs1.toNat (by omega)
  have hr2 := h.mac.reg i.rs2.toNat (by omega)
  have hf := h.mac.free i.rd.toNat
  have hp := h.mac.pc
  have hsz := h.mac.lt
  have ht' : ((s.pc + i.imm) % 4294967296 % 4 != 0) = false := by rw [show (s.pc + i.imm) % 4294967296 = u32 (s.pc + i.imm) from rfl, ht]; rfl
  have HT := Lib.hid ht'
  clear ht ht'
  have HN := Lib.hid hn
  have HE := Lib.hid he
  clear hn he
  go_enter Tryz.func51, Tryz.ntmps51
  go_wp2_with fail
  go_quiet (fail)
  go_wp2_with fail
  refine wp_region_still_tail 9 (by kernel_rfl) (by kernel_rfl) ?_
  simp only [List.take_succ_cons, List.take_zero, List.drop_succ_cons, List.drop_zero]
  change wpStill _ _ (World.drew _) _ _ _
  repeat still_step
  refine wpStill_nil ?_
  change wpList _ _ _ _ _ (World.drew _)
  go_wp2_with fail
  rw [show (s.pc + i.imm % 4294967296) % 4294967296 = (s.pc + i.imm) % 4294967296 by omega]
  refine (on_yes _ _ s x _ ?_ (by omega) HT.out).mono ?_
  · repeat (first | with_reducible refine MacAt.drew ?_ | with_reducible refine MacAt.drewN ?_ _ | with_reducible refine MacAt.alloc ?_ _)
    exact h.mac
  rintro e w' ⟨rfl, rfl⟩
  go_wp2_with fail
  go_end0
  refine does_go (s2 := s) h HE.out ?_ (clr_self s hs.zero) rfl rfl rfl ?_
  · repeat (first | with_reducible refine MacAt.drew ?_ | with_reducible refine MacAt.drewN ?_ _ | with_reducible refine MacAt.alloc ?_ _)
    refine MacAt.putNext ?_ _
    repeat (first | with_reducible refine MacAt.drew ?_ | with_reducible refine MacAt.drewN ?_ _ | with_reducible refine MacAt.alloc ?_ _)
    exact h.mac
  · repeat (first | with_reducible exact Only.refl _ _ | with_reducible refine Only.set1 ?_ _ _ | with_reducible refine Only.alloc ?_ _ | with_reducible refine Only.drewN ?_ _ | with_reducible refine Only.drew ?_)
set_option maxRecDepth 100000 in
theorem branch_4_n (eff : Int → Int → World → World → Prop) (b : Nat) (i : Ins) (hi : i.Ok) (s : St) (hs : s.Ok) (x : Raw) (w : World) (h : Mach w b s x) (ho : i.op = 4) (hy : (s.regs i.rs1.toNat == s.regs i.rs2.toNat) = false) (hn : x.next = u32 (s.pc + 4)) :
    Calls Tryz.prog 51 #[.pointer (some ⟨b, 0, none⟩), .agg i.cells] w (DoesQ eff b s x i w) := by
  have he : exec s i = .go s (u32 (s.pc + 4)) none := by 
    have hb : brT i.op (s.regs i.rs1.toNat) (s.regs i.rs2.toNat) = false := by (rw [ho]; simp only [brT]; simp at hy ⊢; first | exact hy | omega)
    unfold exec
    dsimp only
    repeat (first | rw [if_pos (by simp; omega)] | rw [if_neg (by simp; omega)])
    try rw [hb]
    try rfl
  unfold Ins.cells
  obtain ⟨d0, d1⟩ := hi.rd
  obtain ⟨a0, a1⟩ := hi.rs1
  obtain ⟨c0, c1⟩ := hi.rs2
  obtain ⟨m0, m1⟩ := hi.imm
  obtain ⟨v0, v1⟩ := hs.regs i.rs1.toNat
  obtain ⟨y0, y1⟩ := hs.regs i.rs2.toNat
  obtain ⟨p0, p1⟩ := hs.pc
  have hr := h.mac.reg i.rd.toNat (by omega)
  have hr1 := h.mac.reg i.rs1.toNat (by omega)
  have hr2 := h.mac.reg i.rs2.toNat (by omega)
  have hf := h.mac.free i.rd.toNat
  have hp := h.mac.pc
  have hsz := h.mac.lt
  have HN := Lib.hid hn
  have HE := Lib.hid he
  clear hn he
  go_enter Tryz.func51, Tryz.ntmps51
  go_wp2_with fail
  go_quiet (fail)
  go_wp2_with fail
  go_end0
  refine does_go (s2 := s) h HE.out ?_ (clr_self s hs.zero) rfl rfl rfl ?_
  · repeat (first | with_reducible refine MacAt.drew ?_ | with_reducible refine MacAt.drewN ?_ _ | with_reducible refine MacAt.alloc ?_ _)
    have : x = { x with next := u32 (s.pc + 4) } := by rw [← HN.out]
    rw [← this]
    exact h.mac
  · repeat (first | with_reducible exact Only.refl _ _ | with_reducible refine Only.set1 ?_ _ _ | with_reducible refine Only.alloc ?_ _ | with_reducible refine Only.drewN ?_ _ | with_reducible refine Only.drew ?_)
set_option maxRecDepth 100000 in
theorem branch_4_x (eff : Int → Int → World → World → Prop) (b : Nat) (i : Ins) (hi : i.Ok) (s : St) (hs : s.Ok) (x : Raw) (w : World) (h : Mach w b s x) (ho : i.op = 4) (hy : (s.regs i.rs1.toNat == s.regs i.rs2.toNat) = true) (ht : ¬ u32 (s.pc + i.imm) % 4 = 0) (hn : x.next = u32 (s.pc + 4)) :
    Calls Tryz.prog 51 #[.pointer (some ⟨b, 0, none⟩), .agg i.cells] w (DoesQ eff b s x i w) := by
  have he : exec s i = .trap s 3 := by 
    have hb : brT i.op (s.regs i.rs1.toNat) (s.regs i.rs2.toNat) = true := by (rw [ho]; simp only [brT]; simp at hy ⊢; first | exact hy | omega)
    unfold exec
    dsimp only
    repeat (first | rw [if_pos (by simp; omega)] | rw [if_neg (by simp; omega)])
    try rw [hb]
    simp [goesTo, ht]
  unfold Ins.cells
  obtain ⟨d0, d1⟩ := hi.rd
  obtain ⟨a0, a1⟩ := hi.rs1
  obtain ⟨c0, c1⟩ := hi.rs2
  obtain ⟨m0, m1⟩ := hi.imm
  obtain ⟨v0, v1⟩ := hs.regs i.rs1.toNat
  obtain ⟨y0, y1⟩ := hs.regs i.rs2.toNat
  obtain ⟨p0, p1⟩ := hs.pc
  have hr := h.mac.reg i.rd.toNat (by omega)
  have hr1 := h.mac.reg i.rs1.toNat (by omega)
  have hr2 := h.mac.reg i.rs2.toNat (by omega)
  have hf := h.mac.free i.rd.toNat
  have hp := h.mac.pc
  have hsz := h.mac.lt
  have ht' : ((s.pc + i.imm) % 4294967296 % 4 != 0) = true := by rw [bne_iff_ne]; exact ht
  have HT := Lib.hid ht'
  clear ht ht'
  have HN := Lib.hid hn
  have HE := Lib.hid he
  clear hn he
  go_enter Tryz.func51, Tryz.ntmps51
  go_wp2_with fail
  go_quiet (fail)
  go_wp2_with fail
  refine wp_region_still_tail 9 (by kernel_rfl) (by kernel_rfl) ?_
  simp only [List.take_succ_cons, List.take_zero, List.drop_succ_cons, List.drop_zero]
  change wpStill _ _ (World.drew _) _ _ _
  repeat still_step
  refine wpStill_nil ?_
  change wpList _ _ _ _ _ (World.drew _)
  go_wp2_with fail
  rw [show (s.pc + i.imm % 4294967296) % 4294967296 = (s.pc + i.imm) % 4294967296 by omega]
  refine (on_no _ _ _ (by omega) HT.out).mono ?_
  rintro e w' ⟨rfl, rfl⟩
  go_wp2_with fail
  refine ⟨rfl, does_trap (x' := x) h HE.out ?_ rfl ?_⟩
  · repeat (first | with_reducible refine MacAt.drew ?_ | with_reducible refine MacAt.drewN ?_ _ | with_reducible refine MacAt.alloc ?_ _)
    exact h.mac
  · repeat (first | with_reducible exact Only.refl _ _ | with_reducible refine Only.set1 ?_ _ _ | with_reducible refine Only.alloc ?_ _ | with_reducible refine Only.drewN ?_ _ | with_reducible refine Only.drew ?_)
set_option maxRecDepth 100000 in
theorem branch_5_t (eff : Int → Int → World → World → Prop) (b : Nat) (i : Ins) (hi : i.Ok) (s : St) (hs : s.Ok) (x : Raw) (w : World) (h : Mach w b s x) (ho : i.op = 5) (hy : (s.regs i.rs1.toNat == s.regs i.rs2.toNat) = false) (ht : u32 (s.pc + i.imm) % 4 = 0) (hn : x.next = u32 (s.pc + 4)) :
    Calls Tryz.prog 51 #[.pointer (some ⟨b, 0, none⟩), .agg i.cells] w (DoesQ eff b s x i w) := by
  have he : exec s i = .go s (u32 (s.pc + i.imm)) none := by 
    have hb : brT i.op (s.regs i.rs1.toNat) (s.regs i.rs2.toNat) = true := by (rw [ho]; simp only [brT]; simp at hy ⊢; first | exact hy | omega)
    unfold exec
    dsimp only
    repeat (first | rw [if_pos (by simp; omega)] | rw [if_neg (by simp; omega)])
    try rw [hb]
    simp [goesTo, ht]
  unfold Ins.cells
  obtain ⟨d0, d1⟩ := hi.rd
  obtain ⟨a0, a1⟩ := hi.rs1
  obtain ⟨c0, c1⟩ := hi.rs2
  obtain ⟨m0, m1⟩ := hi.imm
  obtain ⟨v0, v1⟩ := hs.regs i.rs1.toNat
  obtain ⟨y0, y1⟩ := hs.regs i.rs2.toNat
  obtain ⟨p0, p1⟩ := hs.pc
  have hr := h.mac.reg i.rd.toNat (by omega)
  have hr1 := h.mac.reg i.rs1.toNat (by omega)
  have hr2 := h.mac.reg i.rs2.toNat (by omega)
  have hf := h.mac.free i.rd.toNat
  have hp := h.mac.pc
  have hsz := h.mac.lt
  have ht' : ((s.pc + i.imm) % 4294967296 % 4 != 0) = false := by rw [show (s.pc + i.imm) % 4294967296 = u32 (s.pc + i.imm) from rfl, ht]; rfl
  have HT := Lib.hid ht'
  clear ht ht'
  have HN := Lib.hid hn
  have HE := Lib.hid he
  clear hn he
  go_enter Tryz.func51, Tryz.ntmps51
  go_wp2_with fail
  go_quiet (fail)
  go_wp2_with fail
  refine wp_region_still_tail 9 (by kernel_rfl) (by kernel_rfl) ?_
  simp only [List.take_succ_cons, List.take_zero, List.drop_succ_cons, List.drop_zero]
  change wpStill _ _ (World.drew _) _ _ _
  repeat still_step
  refine wpStill_nil ?_
  change wpList _ _ _ _ _ (World.drew _)
  go_wp2_with fail
  rw [show (s.pc + i.imm % 4294967296) % 4294967296 = (s.pc + i.imm) % 4294967296 by omega]
  refine (on_yes _ _ s x _ ?_ (by omega) HT.out).mono ?_
  · repeat (first | with_reducible refine MacAt.drew ?_ | with_reducible refine MacAt.drewN ?_ _ | with_reducible refine MacAt.alloc ?_ _)
    exact h.mac
  rintro e w' ⟨rfl, rfl⟩
  go_wp2_with fail
  go_end0
  refine does_go (s2 := s) h HE.out ?_ (clr_self s hs.zero) rfl rfl rfl ?_
  · repeat (first | with_reducible refine MacAt.drew ?_ | with_reducible refine MacAt.drewN ?_ _ | with_reducible refine MacAt.alloc ?_ _)
    refine MacAt.putNext ?_ _
    repeat (first | with_reducible refine MacAt.drew ?_ | with_reducible refine MacAt.drewN ?_ _ | with_reducible refine MacAt.alloc ?_ _)
    exact h.mac
  · repeat (first | with_reducible exact Only.refl _ _ | with_reducible refine Only.set1 ?_ _ _ | with_reducible refine Only.alloc ?_ _ | with_reducible refine Only.drewN ?_ _ | with_reducible refine Only.drew ?_)
set_option maxRecDepth 100000 in
theorem branch_5_n (eff : Int → Int → World → World → Prop) (b : Nat) (i : Ins) (hi : i.Ok) (s : St) (hs : s.Ok) (x : Raw) (w : World) (h : Mach w b s x) (ho : i.op = 5) (hy : (s.regs i.rs1.toNat == s.regs i.rs2.toNat) = true) (hn : x.next = u32 (s.pc + 4)) :
    Calls Tryz.prog 51 #[.pointer (some ⟨b, 0, none⟩), .agg i.cells] w (DoesQ eff b s x i w) := by
  have he : exec s i = .go s (u32 (s.pc + 4)) none := by 
    have hb : brT i.op (s.regs i.rs1.toNat) (s.regs i.rs2.toNat) = false := by (rw [ho]; simp only [brT]; simp at hy ⊢; first | exact hy | omega)
    unfold exec
    dsimp only
    repeat (first | rw [if_pos (by simp; omega)] | rw [if_neg (by simp; omega)])
    try rw [hb]
    try rfl
  unfold Ins.cells
  obtain ⟨d0, d1⟩ := hi.rd
  obtain ⟨a0, a1⟩ := hi.rs1
  obtain ⟨c0, c1⟩ := hi.rs2
  obtain ⟨m0, m1⟩ := hi.imm
  obtain ⟨v0, v1⟩ := hs.regs i.rs1.toNat
  obtain ⟨y0, y1⟩ := hs.regs i.rs2.toNat
  obtain ⟨p0, p1⟩ := hs.pc
  have hr := h.mac.reg i.rd.toNat (by omega)
  have hr1 := h.mac.reg i.rs1.toNat (by omega)
  have hr2 := h.mac.reg i.rs2.toNat (by omega)
  have hf := h.mac.free i.rd.toNat
  have hp := h.mac.pc
  have hsz := h.mac.lt
  have HN := Lib.hid hn
  have HE := Lib.hid he
  clear hn he
  go_enter Tryz.func51, Tryz.ntmps51
  go_wp2_with fail
  go_quiet (fail)
  go_wp2_with fail
  go_end0
  refine does_go (s2 := s) h HE.out ?_ (clr_self s hs.zero) rfl rfl rfl ?_
  · repeat (first | with_reducible refine MacAt.drew ?_ | with_reducible refine MacAt.drewN ?_ _ | with_reducible refine MacAt.alloc ?_ _)
    have : x = { x with next := u32 (s.pc + 4) } := by rw [← HN.out]
    rw [← this]
    exact h.mac
  · repeat (first | with_reducible exact Only.refl _ _ | with_reducible refine Only.set1 ?_ _ _ | with_reducible refine Only.alloc ?_ _ | with_reducible refine Only.drewN ?_ _ | with_reducible refine Only.drew ?_)
set_option maxRecDepth 100000 in
theorem branch_5_x (eff : Int → Int → World → World → Prop) (b : Nat) (i : Ins) (hi : i.Ok) (s : St) (hs : s.Ok) (x : Raw) (w : World) (h : Mach w b s x) (ho : i.op = 5) (hy : (s.regs i.rs1.toNat == s.regs i.rs2.toNat) = false) (ht : ¬ u32 (s.pc + i.imm) % 4 = 0) (hn : x.next = u32 (s.pc + 4)) :
    Calls Tryz.prog 51 #[.pointer (some ⟨b, 0, none⟩), .agg i.cells] w (DoesQ eff b s x i w) := by
  have he : exec s i = .trap s 3 := by 
    have hb : brT i.op (s.regs i.rs1.toNat) (s.regs i.rs2.toNat) = true := by (rw [ho]; simp only [brT]; simp at hy ⊢; first | exact hy | omega)
    unfold exec
    dsimp only
    repeat (first | rw [if_pos (by simp; omega)] | rw [if_neg (by simp; omega)])
    try rw [hb]
    simp [goesTo, ht]
  unfold Ins.cells
  obtain ⟨d0, d1⟩ := hi.rd
  obtain ⟨a0, a1⟩ := hi.rs1
  obtain ⟨c0, c1⟩ := hi.rs2
  obtain ⟨m0, m1⟩ := hi.imm
  obtain ⟨v0, v1⟩ := hs.regs i.rs1.toNat
  obtain ⟨y0, y1⟩ := hs.regs i.rs2.toNat
  obtain ⟨p0, p1⟩ := hs.pc
  have hr := h.mac.reg i.rd.toNat (by omega)
  have hr1 := h.mac.reg i.rs1.toNat (by omega)
  have hr2 := h.mac.reg i.rs2.toNat (by omega)
  have hf := h.mac.free i.rd.toNat
  have hp := h.mac.pc
  have hsz := h.mac.lt
  have ht' : ((s.pc + i.imm) % 4294967296 % 4 != 0) = true := by rw [bne_iff_ne]; exact ht
  have HT := Lib.hid ht'
  clear ht ht'
  have HN := Lib.hid hn
  have HE := Lib.hid he
  clear hn he
  go_enter Tryz.func51, Tryz.ntmps51
  go_wp2_with fail
  go_quiet (fail)
  go_wp2_with fail
  refine wp_region_still_tail 9 (by kernel_rfl) (by kernel_rfl) ?_
  simp only [List.take_succ_cons, List.take_zero, List.drop_succ_cons, List.drop_zero]
  change wpStill _ _ (World.drew _) _ _ _
  repeat still_step
  refine wpStill_nil ?_
  change wpList _ _ _ _ _ (World.drew _)
  go_wp2_with fail
  rw [show (s.pc + i.imm % 4294967296) % 4294967296 = (s.pc + i.imm) % 4294967296 by omega]
  refine (on_no _ _ _ (by omega) HT.out).mono ?_
  rintro e w' ⟨rfl, rfl⟩
  go_wp2_with fail
  refine ⟨rfl, does_trap (x' := x) h HE.out ?_ rfl ?_⟩
  · repeat (first | with_reducible refine MacAt.drew ?_ | with_reducible refine MacAt.drewN ?_ _ | with_reducible refine MacAt.alloc ?_ _)
    exact h.mac
  · repeat (first | with_reducible exact Only.refl _ _ | with_reducible refine Only.set1 ?_ _ _ | with_reducible refine Only.alloc ?_ _ | with_reducible refine Only.drewN ?_ _ | with_reducible refine Only.drew ?_)
set_option maxRecDepth 100000 in
theorem branch_6_t (eff : Int → Int → World → World → Prop) (b : Nat) (i : Ins) (hi : i.Ok) (s : St) (hs : s.Ok) (x : Raw) (w : World) (h : Mach w b s x) (ho : i.op = 6) (hy : decide (wrap32 (s.regs i.rs1.toNat) < wrap32 (s.regs i.rs2.toNat)) = true) (ht : u32 (s.pc + i.imm) % 4 = 0) (hn : x.next = u32 (s.pc + 4)) :
    Calls Tryz.prog 51 #[.pointer (some ⟨b, 0, none⟩), .agg i.cells] w (DoesQ eff b s x i w) := by
  have he : exec s i = .go s (u32 (s.pc + i.imm)) none := by 
    have hb : brT i.op (s.regs i.rs1.toNat) (s.regs i.rs2.toNat) = true := by (rw [ho]; simp only [brT]; simp at hy ⊢; first | exact hy | omega)
    unfold exec
    dsimp only
    repeat (first | rw [if_pos (by simp; omega)] | rw [if_neg (by simp; omega)])
    try rw [hb]
    simp [goesTo, ht]
  unfold Ins.cells
  obtain ⟨d0, d1⟩ := hi.rd
  obtain ⟨a0, a1⟩ := hi.rs1
  obtain ⟨c0, c1⟩ := hi.rs2
  obtain ⟨m0, m1⟩ := hi.imm
  obtain ⟨v0, v1⟩ := hs.regs i.rs1.toNat
  obtain ⟨y0, y1⟩ := hs.regs i.rs2.toNat
  obtain ⟨p0, p1⟩ := hs.pc
  have hr := h.mac.reg i.rd.toNat (by omega)
  have hr1 := h.mac.reg i.rs1.toNat (by omega)
  have hr2 := h.mac.reg i.rs2.toNat (by omega)
  have hf := h.mac.free i.rd.toNat
  have hp := h.mac.pc
  have hsz := h.mac.lt
  have ht' : ((s.pc + i.imm) % 4294967296 % 4 != 0) = false := by rw [show (s.pc + i.imm) % 4294967296 = u32 (s.pc + i.imm) from rfl, ht]; rfl
  have HT := Lib.hid ht'
  clear ht ht'
  have HN := Lib.hid hn
  have HE := Lib.hid he
  clear hn he
  go_enter Tryz.func51, Tryz.ntmps51
  go_wp2_with fail
  go_quiet (fail)
  go_wp2_with fail
  refine wp_region_still_tail 9 (by kernel_rfl) (by kernel_rfl) ?_
  simp only [List.take_succ_cons, List.take_zero, List.drop_succ_cons, List.drop_zero]
  change wpStill _ _ (World.drew _) _ _ _
  repeat still_step
  refine wpStill_nil ?_
  change wpList _ _ _ _ _ (World.drew _)
  go_wp2_with fail
  rw [show (s.pc + i.imm % 4294967296) % 4294967296 = (s.pc + i.imm) % 4294967296 by omega]
  refine (on_yes _ _ s x _ ?_ (by omega) HT.out).mono ?_
  · repeat (first | with_reducible refine MacAt.drew ?_ | with_reducible refine MacAt.drewN ?_ _ | with_reducible refine MacAt.alloc ?_ _)
    exact h.mac
  rintro e w' ⟨rfl, rfl⟩
  go_wp2_with fail
  go_end0
  refine does_go (s2 := s) h HE.out ?_ (clr_self s hs.zero) rfl rfl rfl ?_
  · repeat (first | with_reducible refine MacAt.drew ?_ | with_reducible refine MacAt.drewN ?_ _ | with_reducible refine MacAt.alloc ?_ _)
    refine MacAt.putNext ?_ _
    repeat (first | with_reducible refine MacAt.drew ?_ | with_reducible refine MacAt.drewN ?_ _ | with_reducible refine MacAt.alloc ?_ _)
    exact h.mac
  · repeat (first | with_reducible exact Only.refl _ _ | with_reducible refine Only.set1 ?_ _ _ | with_reducible refine Only.alloc ?_ _ | with_reducible refine Only.drewN ?_ _ | with_reducible refine Only.drew ?_)
set_option maxRecDepth 100000 in
theorem branch_6_n (eff : Int → Int → World → World → Prop) (b : Nat) (i : Ins) (hi : i.Ok) (s : St) (hs : s.Ok) (x : Raw) (w : World) (h : Mach w b s x) (ho : i.op = 6) (hy : decide (wrap32 (s.regs i.rs1.toNat) < wrap32 (s.regs i.rs2.toNat)) = false) (hn : x.next = u32 (s.pc + 4)) :
    Calls Tryz.prog 51 #[.pointer (some ⟨b, 0, none⟩), .agg i.cells] w (DoesQ eff b s x i w) := by
  have he : exec s i = .go s (u32 (s.pc + 4)) none := by 
    have hb : brT i.op (s.regs i.rs1.toNat) (s.regs i.rs2.toNat) = false := by (rw [ho]; simp only [brT]; simp at hy ⊢; first | exact hy | omega)
    unfold exec
    dsimp only
    repeat (first | rw [if_pos (by simp; omega)] | rw [if_neg (by simp; omega)])
    try rw [hb]
    try rfl
  unfold Ins.cells
  obtain ⟨d0, d1⟩ := hi.rd
  obtain ⟨a0, a1⟩ := hi.rs1
  obtain ⟨c0, c1⟩ := hi.rs2
  obtain ⟨m0, m1⟩ := hi.imm
  obtain ⟨v0, v1⟩ := hs.regs i.rs1.toNat
  obtain ⟨y0, y1⟩ := hs.regs i.rs2.toNat
  obtain ⟨p0, p1⟩ := hs.pc
  have hr := h.mac.reg i.rd.toNat (by omega)
  have hr1 := h.mac.reg i.rs1.toNat (by omega)
  have hr2 := h.mac.reg i.rs2.toNat (by omega)
  have hf := h.mac.free i.rd.toNat
  have hp := h.mac.pc
  have hsz := h.mac.lt
  have HN := Lib.hid hn
  have HE := Lib.hid he
  clear hn he
  go_enter Tryz.func51, Tryz.ntmps51
  go_wp2_with fail
  go_quiet (fail)
  go_wp2_with fail
  go_end0
  refine does_go (s2 := s) h HE.out ?_ (clr_self s hs.zero) rfl rfl rfl ?_
  · repeat (first | with_reducible refine MacAt.drew ?_ | with_reducible refine MacAt.drewN ?_ _ | with_reducible refine MacAt.alloc ?_ _)
    have : x = { x with next := u32 (s.pc + 4) } := by rw [← HN.out]
    rw [← this]
    exact h.mac
  · repeat (first | with_reducible exact Only.refl _ _ | with_reducible refine Only.set1 ?_ _ _ | with_reducible refine Only.alloc ?_ _ | with_reducible refine Only.drewN ?_ _ | with_reducible refine Only.drew ?_)
set_option maxRecDepth 100000 in
theorem branch_6_x (eff : Int → Int → World → World → Prop) (b : Nat) (i : Ins) (hi : i.Ok) (s : St) (hs : s.Ok) (x : Raw) (w : World) (h : Mach w b s x) (ho : i.op = 6) (hy : decide (wrap32 (s.regs i.rs1.toNat) < wrap32 (s.regs i.rs2.toNat)) = true) (ht : ¬ u32 (s.pc + i.imm) % 4 = 0) (hn : x.next = u32 (s.pc + 4)) :
    Calls Tryz.prog 51 #[.pointer (some ⟨b, 0, none⟩), .agg i.cells] w (DoesQ eff b s x i w) := by
  have he : exec s i = .trap s 3 := by 
    have hb : brT i.op (s.regs i.rs1.toNat) (s.regs i.rs2.toNat) = true := by (rw [ho]; simp only [brT]; simp at hy ⊢; first | exact hy | omega)
    unfold exec
    dsimp only
    repeat (first | rw [if_pos (by simp; omega)] | rw [if_neg (by simp; omega)])
    try rw [hb]
    simp [goesTo, ht]
  unfold Ins.cells
  obtain ⟨d0, d1⟩ := hi.rd
  obtain ⟨a0, a1⟩ := hi.rs1
  obtain ⟨c0, c1⟩ := hi.rs2
  obtain ⟨m0, m1⟩ := hi.imm
  obtain ⟨v0, v1⟩ := hs.regs i.rs1.toNat
  obtain ⟨y0, y1⟩ := hs.regs i.rs2.toNat
  obtain ⟨p0, p1⟩ := hs.pc
  have hr := h.mac.reg i.rd.toNat (by omega)
  have hr1 := h.mac.reg i.rs1.toNat (by omega)
  have hr2 := h.mac.reg i.rs2.toNat (by omega)
  have hf := h.mac.free i.rd.toNat
  have hp := h.mac.pc
  have hsz := h.mac.lt
  have ht' : ((s.pc + i.imm) % 4294967296 % 4 != 0) = true := by rw [bne_iff_ne]; exact ht
  have HT := Lib.hid ht'
  clear ht ht'
  have HN := Lib.hid hn
  have HE := Lib.hid he
  clear hn he
  go_enter Tryz.func51, Tryz.ntmps51
  go_wp2_with fail
  go_quiet (fail)
  go_wp2_with fail
  refine wp_region_still_tail 9 (by kernel_rfl) (by kernel_rfl) ?_
  simp only [List.take_succ_cons, List.take_zero, List.drop_succ_cons, List.drop_zero]
  change wpStill _ _ (World.drew _) _ _ _
  repeat still_step
  refine wpStill_nil ?_
  change wpList _ _ _ _ _ (World.drew _)
  go_wp2_with fail
  rw [show (s.pc + i.imm % 4294967296) % 4294967296 = (s.pc + i.imm) % 4294967296 by omega]
  refine (on_no _ _ _ (by omega) HT.out).mono ?_
  rintro e w' ⟨rfl, rfl⟩
  go_wp2_with fail
  refine ⟨rfl, does_trap (x' := x) h HE.out ?_ rfl ?_⟩
  · repeat (first | with_reducible refine MacAt.drew ?_ | with_reducible refine MacAt.drewN ?_ _ | with_reducible refine MacAt.alloc ?_ _)
    exact h.mac
  · repeat (first | with_reducible exact Only.refl _ _ | with_reducible refine Only.set1 ?_ _ _ | with_reducible refine Only.alloc ?_ _ | with_reducible refine Only.drewN ?_ _ | with_reducible refine Only.drew ?_)
set_option maxRecDepth 100000 in
theorem branch_7_t (eff : Int → Int → World → World → Prop) (b : Nat) (i : Ins) (hi : i.Ok) (s : St) (hs : s.Ok) (x : Raw) (w : World) (h : Mach w b s x) (ho : i.op = 7) (hy : decide (wrap32 (s.regs i.rs1.toNat) < wrap32 (s.regs i.rs2.toNat)) = false) (ht : u32 (s.pc + i.imm) % 4 = 0) (hn : x.next = u32 (s.pc + 4)) :
    Calls Tryz.prog 51 #[.pointer (some ⟨b, 0, none⟩), .agg i.cells] w (DoesQ eff b s x i w) := by
  have he : exec s i = .go s (u32 (s.pc + i.imm)) none := by 
    have hb : brT i.op (s.regs i.rs1.toNat) (s.regs i.rs2.toNat) = true := by (rw [ho]; simp only [brT]; simp at hy ⊢; first | exact hy | omega)
    unfold exec
    dsimp only
    repeat (first | rw [if_pos (by simp; omega)] | rw [if_neg (by simp; omega)])
    try rw [hb]
    simp [goesTo, ht]
  unfold Ins.cells
  obtain ⟨d0, d1⟩ := hi.rd
  obtain ⟨a0, a1⟩ := hi.rs1
  obtain ⟨c0, c1⟩ := hi.rs2
  obtain ⟨m0, m1⟩ := hi.imm
  obtain ⟨v0, v1⟩ := hs.regs i.rs1.toNat
  obtain ⟨y0, y1⟩ := hs.regs i.rs2.toNat
  obtain ⟨p0, p1⟩ := hs.pc
  have hr := h.mac.reg i.rd.toNat (by omega)
  have hr1 := h.mac.reg i.rs1.toNat (by omega)
  have hr2 := h.mac.reg i.rs2.toNat (by omega)
  have hf := h.mac.free i.rd.toNat
  have hp := h.mac.pc
  have hsz := h.mac.lt
  have ht' : ((s.pc + i.imm) % 4294967296 % 4 != 0) = false := by rw [show (s.pc + i.imm) % 4294967296 = u32 (s.pc + i.imm) from rfl, ht]; rfl
  have HT := Lib.hid ht'
  clear ht ht'
  have HN := Lib.hid hn
  have HE := Lib.hid he
  clear hn he
  go_enter Tryz.func51, Tryz.ntmps51
  go_wp2_with fail
  go_quiet (fail)
  go_wp2_with fail
  refine wp_region_still_tail 9 (by kernel_rfl) (by kernel_rfl) ?_
  simp only [List.take_succ_cons, List.take_zero, List.drop_succ_cons, List.drop_zero]
  change wpStill _ _ (World.drew _) _ _ _
  repeat still_step
  refine wpStill_nil ?_
  change wpList _ _ _ _ _ (World.drew _)
  go_wp2_with fail
  rw [show (s.pc + i.imm % 4294967296) % 4294967296 = (s.pc + i.imm) % 4294967296 by omega]
  refine (on_yes _ _ s x _ ?_ (by omega) HT.out).mono ?_
  · repeat (first | with_reducible refine MacAt.drew ?_ | with_reducible refine MacAt.drewN ?_ _ | with_reducible refine MacAt.alloc ?_ _)
    exact h.mac
  rintro e w' ⟨rfl, rfl⟩
  go_wp2_with fail
  go_end0
  refine does_go (s2 := s) h HE.out ?_ (clr_self s hs.zero) rfl rfl rfl ?_
  · repeat (first | with_reducible refine MacAt.drew ?_ | with_reducible refine MacAt.drewN ?_ _ | with_reducible refine MacAt.alloc ?_ _)
    refine MacAt.putNext ?_ _
    repeat (first | with_reducible refine MacAt.drew ?_ | with_reducible refine MacAt.drewN ?_ _ | with_reducible refine MacAt.alloc ?_ _)
    exact h.mac
  · repeat (first | with_reducible exact Only.refl _ _ | with_reducible refine Only.set1 ?_ _ _ | with_reducible refine Only.alloc ?_ _ | with_reducible refine Only.drewN ?_ _ | with_reducible refine Only.drew ?_)
set_option maxRecDepth 100000 in
theorem branch_7_n (eff : Int → Int → World → World → Prop) (b : Nat) (i : Ins) (hi : i.Ok) (s : St) (hs : s.Ok) (x : Raw) (w : World) (h : Mach w b s x) (ho : i.op = 7) (hy : decide (wrap32 (s.regs i.rs1.toNat) < wrap32 (s.regs i.rs2.toNat)) = true) (hn : x.next = u32 (s.pc + 4)) :
    Calls Tryz.prog 51 #[.pointer (some ⟨b, 0, none⟩), .agg i.cells] w (DoesQ eff b s x i w) := by
  have he : exec s i = .go s (u32 (s.pc + 4)) none := by 
    have hb : brT i.op (s.regs i.rs1.toNat) (s.regs i.rs2.toNat) = false := by (rw [ho]; simp only [brT]; simp at hy ⊢; first | exact hy | omega)
    unfold exec
    dsimp only
    repeat (first | rw [if_pos (by simp; omega)] | rw [if_neg (by simp; omega)])
    try rw [hb]
    try rfl
  unfold Ins.cells
  obtain ⟨d0, d1⟩ := hi.rd
  obtain ⟨a0, a1⟩ := hi.rs1
  obtain ⟨c0, c1⟩ := hi.rs2
  obtain ⟨m0, m1⟩ := hi.imm
  obtain ⟨v0, v1⟩ := hs.regs i.rs1.toNat
  obtain ⟨y0, y1⟩ := hs.regs i.rs2.toNat
  obtain ⟨p0, p1⟩ := hs.pc
  have hr := h.mac.reg i.rd.toNat (by omega)
  have hr1 := h.mac.reg i.rs1.toNat (by omega)
  have hr2 := h.mac.reg i.rs2.toNat (by omega)
  have hf := h.mac.free i.rd.toNat
  have hp := h.mac.pc
  have hsz := h.mac.lt
  have HN := Lib.hid hn
  have HE := Lib.hid he
  clear hn he
  go_enter Tryz.func51, Tryz.ntmps51
  go_wp2_with fail
  go_quiet (fail)
  go_wp2_with fail
  go_end0
  refine does_go (s2 := s) h HE.out ?_ (clr_self s hs.zero) rfl rfl rfl ?_
  · repeat (first | with_reducible refine MacAt.drew ?_ | with_reducible refine MacAt.drewN ?_ _ | with_reducible refine MacAt.alloc ?_ _)
    have : x = { x with next := u32 (s.pc + 4) } := by rw [← HN.out]
    rw [← this]
    exact h.mac
  · repeat (first | with_reducible exact Only.refl _ _ | with_reducible refine Only.set1 ?_ _ _ | with_reducible refine Only.alloc ?_ _ | with_reducible refine Only.drewN ?_ _ | with_reducible refine Only.drew ?_)
set_option maxRecDepth 100000 in
theorem branch_7_x (eff : Int → Int → World → World → Prop) (b : Nat) (i : Ins) (hi : i.Ok) (s : St) (hs : s.Ok) (x : Raw) (w : World) (h : Mach w b s x) (ho : i.op = 7) (hy : decide (wrap32 (s.regs i.rs1.toNat) < wrap32 (s.regs i.rs2.toNat)) = false) (ht : ¬ u32 (s.pc + i.imm) % 4 = 0) (hn : x.next = u32 (s.pc + 4)) :
    Calls Tryz.prog 51 #[.pointer (some ⟨b, 0, none⟩), .agg i.cells] w (DoesQ eff b s x i w) := by
  have he : exec s i = .trap s 3 := by 
    have hb : brT i.op (s.regs i.rs1.toNat) (s.regs i.rs2.toNat) = true := by (rw [ho]; simp only [brT]; simp at hy ⊢; first | exact hy | omega)
    unfold exec
    dsimp only
    repeat (first | rw [if_pos (by simp; omega)] | rw [if_neg (by simp; omega)])
    try rw [hb]
    simp [goesTo, ht]
  unfold Ins.cells
  obtain ⟨d0, d1⟩ := hi.rd
  obtain ⟨a0, a1⟩ := hi.rs1
  obtain ⟨c0, c1⟩ := hi.rs2
  obtain ⟨m0, m1⟩ := hi.imm
  obtain ⟨v0, v1⟩ := hs.regs i.rs1.toNat
  obtain ⟨y0, y1⟩ := hs.regs i.rs2.toNat
  obtain ⟨p0, p1⟩ := hs.pc
  have hr := h.mac.reg i.rd.toNat (by omega)
  have hr1 := h.mac.reg i.rs1.toNat (by omega)
  have hr2 := h.mac.reg i.rs2.toNat (by omega)
  have hf := h.mac.free i.rd.toNat
  have hp := h.mac.pc
  have hsz := h.mac.lt
  have ht' : ((s.pc + i.imm) % 4294967296 % 4 != 0) = true := by rw [bne_iff_ne]; exact ht
  have HT := Lib.hid ht'
  clear ht ht'
  have HN := Lib.hid hn
  have HE := Lib.hid he
  clear hn he
  go_enter Tryz.func51, Tryz.ntmps51
  go_wp2_with fail
  go_quiet (fail)
  go_wp2_with fail
  refine wp_region_still_tail 9 (by kernel_rfl) (by kernel_rfl) ?_
  simp only [List.take_succ_cons, List.take_zero, List.drop_succ_cons, List.drop_zero]
  change wpStill _ _ (World.drew _) _ _ _
  repeat still_step
  refine wpStill_nil ?_
  change wpList _ _ _ _ _ (World.drew _)
  go_wp2_with fail
  rw [show (s.pc + i.imm % 4294967296) % 4294967296 = (s.pc + i.imm) % 4294967296 by omega]
  refine (on_no _ _ _ (by omega) HT.out).mono ?_
  rintro e w' ⟨rfl, rfl⟩
  go_wp2_with fail
  refine ⟨rfl, does_trap (x' := x) h HE.out ?_ rfl ?_⟩
  · repeat (first | with_reducible refine MacAt.drew ?_ | with_reducible refine MacAt.drewN ?_ _ | with_reducible refine MacAt.alloc ?_ _)
    exact h.mac
  · repeat (first | with_reducible exact Only.refl _ _ | with_reducible refine Only.set1 ?_ _ _ | with_reducible refine Only.alloc ?_ _ | with_reducible refine Only.drewN ?_ _ | with_reducible refine Only.drew ?_)
set_option maxRecDepth 100000 in
theorem branch_8_t (eff : Int → Int → World → World → Prop) (b : Nat) (i : Ins) (hi : i.Ok) (s : St) (hs : s.Ok) (x : Raw) (w : World) (h : Mach w b s x) (ho : i.op = 8) (hy : decide (s.regs i.rs1.toNat < s.regs i.rs2.toNat) = true) (ht : u32 (s.pc + i.imm) % 4 = 0) (hn : x.next = u32 (s.pc + 4)) :
    Calls Tryz.prog 51 #[.pointer (some ⟨b, 0, none⟩), .agg i.cells] w (DoesQ eff b s x i w) := by
  have he : exec s i = .go s (u32 (s.pc + i.imm)) none := by 
    have hb : brT i.op (s.regs i.rs1.toNat) (s.regs i.rs2.toNat) = true := by (rw [ho]; simp only [brT]; simp at hy ⊢; first | exact hy | omega)
    unfold exec
    dsimp only
    repeat (first | rw [if_pos (by simp; omega)] | rw [if_neg (by simp; omega)])
    try rw [hb]
    simp [goesTo, ht]
  unfold Ins.cells
  obtain ⟨d0, d1⟩ := hi.rd
  obtain ⟨a0, a1⟩ := hi.rs1
  obtain ⟨c0, c1⟩ := hi.rs2
  obtain ⟨m0, m1⟩ := hi.imm
  obtain ⟨v0, v1⟩ := hs.regs i.rs1.toNat
  obtain ⟨y0, y1⟩ := hs.regs i.rs2.toNat
  obtain ⟨p0, p1⟩ := hs.pc
  have hr := h.mac.reg i.rd.toNat (by omega)
  have hr1 := h.mac.reg i.rs1.toNat (by omega)
  have hr2 := h.mac.reg i.rs2.toNat (by omega)
  have hf := h.mac.free i.rd.toNat
  have hp := h.mac.pc
  have hsz := h.mac.lt
  have ht' : ((s.pc + i.imm) % 4294967296 % 4 != 0) = false := by rw [show (s.pc + i.imm) % 4294967296 = u32 (s.pc + i.imm) from rfl, ht]; rfl
  have HT := Lib.hid ht'
  clear ht ht'
  have HN := Lib.hid hn
  have HE := Lib.hid he
  clear hn he
  go_enter Tryz.func51, Tryz.ntmps51
  go_wp2_with fail
  go_quiet (fail)
  go_wp2_with fail
  refine wp_region_still_tail 9 (by kernel_rfl) (by kernel_rfl) ?_
  simp only [List.take_succ_cons, List.take_zero, List.drop_succ_cons, List.drop_zero]
  change wpStill _ _ (World.drew _) _ _ _
  repeat still_step
  refine wpStill_nil ?_
  change wpList _ _ _ _ _ (World.drew _)
  go_wp2_with fail
  rw [show (s.pc + i.imm % 4294967296) % 4294967296 = (s.pc + i.imm) % 4294967296 by omega]
  refine (on_yes _ _ s x _ ?_ (by omega) HT.out).mono ?_
  · repeat (first | with_reducible refine MacAt.drew ?_ | with_reducible refine MacAt.drewN ?_ _ | with_reducible refine MacAt.alloc ?_ _)
    exact h.mac
  rintro e w' ⟨rfl, rfl⟩
  go_wp2_with fail
  go_end0
  refine does_go (s2 := s) h HE.out ?_ (clr_self s hs.zero) rfl rfl rfl ?_
  · repeat (first | with_reducible refine MacAt.drew ?_ | with_reducible refine MacAt.drewN ?_ _ | with_reducible refine MacAt.alloc ?_ _)
    refine MacAt.putNext ?_ _
    repeat (first | with_reducible refine MacAt.drew ?_ | with_reducible refine MacAt.drewN ?_ _ | with_reducible refine MacAt.alloc ?_ _)
    exact h.mac
  · repeat (first | with_reducible exact Only.refl _ _ | with_reducible refine Only.set1 ?_ _ _ | with_reducible refine Only.alloc ?_ _ | with_reducible refine Only.drewN ?_ _ | with_reducible refine Only.drew ?_)
set_option maxRecDepth 100000 in
theorem branch_8_n (eff : Int → Int → World → World → Prop) (b : Nat) (i : Ins) (hi : i.Ok) (s : St) (hs : s.Ok) (x : Raw) (w : World) (h : Mach w b s x) (ho : i.op = 8) (hy : decide (s.regs i.rs1.toNat < s.regs i.rs2.toNat) = false) (hn : x.next = u32 (s.pc + 4)) :
    Calls Tryz.prog 51 #[.pointer (some ⟨b, 0, none⟩), .agg i.cells] w (DoesQ eff b s x i w) := by
  have he : exec s i = .go s (u32 (s.pc + 4)) none := by 
    have hb : brT i.op (s.regs i.rs1.toNat) (s.regs i.rs2.toNat) = false := by (rw [ho]; simp only [brT]; simp at hy ⊢; first | exact hy | omega)
    unfold exec
    dsimp only
    repeat (first | rw [if_pos (by simp; omega)] | rw [if_neg (by simp; omega)])
    try rw [hb]
    try rfl
  unfold Ins.cells
  obtain ⟨d0, d1⟩ := hi.rd
  obtain ⟨a0, a1⟩ := hi.rs1
  obtain ⟨c0, c1⟩ := hi.rs2
  obtain ⟨m0, m1⟩ := hi.imm
  obtain ⟨v0, v1⟩ := hs.regs i.rs1.toNat
  obtain ⟨y0, y1⟩ := hs.regs i.rs2.toNat
  obtain ⟨p0, p1⟩ := hs.pc
  have hr := h.mac.reg i.rd.toNat (by omega)
  have hr1 := h.mac.reg i.rs1.toNat (by omega)
  have hr2 := h.mac.reg i.rs2.toNat (by omega)
  have hf := h.mac.free i.rd.toNat
  have hp := h.mac.pc
  have hsz := h.mac.lt
  have HN := Lib.hid hn
  have HE := Lib.hid he
  clear hn he
  go_enter Tryz.func51, Tryz.ntmps51
  go_wp2_with fail
  go_quiet (fail)
  go_wp2_with fail
  go_end0
  refine does_go (s2 := s) h HE.out ?_ (clr_self s hs.zero) rfl rfl rfl ?_
  · repeat (first | with_reducible refine MacAt.drew ?_ | with_reducible refine MacAt.drewN ?_ _ | with_reducible refine MacAt.alloc ?_ _)
    have : x = { x with next := u32 (s.pc + 4) } := by rw [← HN.out]
    rw [← this]
    exact h.mac
  · repeat (first | with_reducible exact Only.refl _ _ | with_reducible refine Only.set1 ?_ _ _ | with_reducible refine Only.alloc ?_ _ | with_reducible refine Only.drewN ?_ _ | with_reducible refine Only.drew ?_)
set_option maxRecDepth 100000 in
theorem branch_8_x (eff : Int → Int → World → World → Prop) (b : Nat) (i : Ins) (hi : i.Ok) (s : St) (hs : s.Ok) (x : Raw) (w : World) (h : Mach w b s x) (ho : i.op = 8) (hy : decide (s.regs i.rs1.toNat < s.regs i.rs2.toNat) = true) (ht : ¬ u32 (s.pc + i.imm) % 4 = 0) (hn : x.next = u32 (s.pc + 4)) :
    Calls Tryz.prog 51 #[.pointer (some ⟨b, 0, none⟩), .agg i.cells] w (DoesQ eff b s x i w) := by
  have he : exec s i = .trap s 3 := by 
    have hb : brT i.op (s.regs i.rs1.toNat) (s.regs i.rs2.toNat) = true := by (rw [ho]; simp only [brT]; simp at hy ⊢; first | exact hy | omega)
    unfold exec
    dsimp only
    repeat (first | rw [if_pos (by simp; omega)] | rw [if_neg (by simp; omega)])
    try rw [hb]
    simp [goesTo, ht]
  unfold Ins.cells
  obtain ⟨d0, d1⟩ := hi.rd
  obtain ⟨a0, a1⟩ := hi.rs1
  obtain ⟨c0, c1⟩ := hi.rs2
  obtain ⟨m0, m1⟩ := hi.imm
  obtain ⟨v0, v1⟩ := hs.regs i.rs1.toNat
  obtain ⟨y0, y1⟩ := hs.regs i.rs2.toNat
  obtain ⟨p0, p1⟩ := hs.pc
  have hr := h.mac.reg i.rd.toNat (by omega)
  have hr1 := h.mac.reg i.rs1.toNat (by omega)
  have hr2 := h.mac.reg i.rs2.toNat (by omega)
  have hf := h.mac.free i.rd.toNat
  have hp := h.mac.pc
  have hsz := h.mac.lt
  have ht' : ((s.pc + i.imm) % 4294967296 % 4 != 0) = true := by rw [bne_iff_ne]; exact ht
  have HT := Lib.hid ht'
  clear ht ht'
  have HN := Lib.hid hn
  have HE := Lib.hid he
  clear hn he
  go_enter Tryz.func51, Tryz.ntmps51
  go_wp2_with fail
  go_quiet (fail)
  go_wp2_with fail
  refine wp_region_still_tail 9 (by kernel_rfl) (by kernel_rfl) ?_
  simp only [List.take_succ_cons, List.take_zero, List.drop_succ_cons, List.drop_zero]
  change wpStill _ _ (World.drew _) _ _ _
  repeat still_step
  refine wpStill_nil ?_
  change wpList _ _ _ _ _ (World.drew _)
  go_wp2_with fail
  rw [show (s.pc + i.imm % 4294967296) % 4294967296 = (s.pc + i.imm) % 4294967296 by omega]
  refine (on_no _ _ _ (by omega) HT.out).mono ?_
  rintro e w' ⟨rfl, rfl⟩
  go_wp2_with fail
  refine ⟨rfl, does_trap (x' := x) h HE.out ?_ rfl ?_⟩
  · repeat (first | with_reducible refine MacAt.drew ?_ | with_reducible refine MacAt.drewN ?_ _ | with_reducible refine MacAt.alloc ?_ _)
    exact h.mac
  · repeat (first | with_reducible exact Only.refl _ _ | with_reducible refine Only.set1 ?_ _ _ | with_reducible refine Only.alloc ?_ _ | with_reducible refine Only.drewN ?_ _ | with_reducible refine Only.drew ?_)
set_option maxRecDepth 100000 in
theorem branch_9_t (eff : Int → Int → World → World → Prop) (b : Nat) (i : Ins) (hi : i.Ok) (s : St) (hs : s.Ok) (x : Raw) (w : World) (h : Mach w b s x) (ho : i.op = 9) (hy : decide (s.regs i.rs1.toNat < s.regs i.rs2.toNat) = false) (ht : u32 (s.pc + i.imm) % 4 = 0) (hn : x.next = u32 (s.pc + 4)) :
    Calls Tryz.prog 51 #[.pointer (some ⟨b, 0, none⟩), .agg i.cells] w (DoesQ eff b s x i w) := by
  have he : exec s i = .go s (u32 (s.pc + i.imm)) none := by 
    have hb : brT i.op (s.regs i.rs1.toNat) (s.regs i.rs2.toNat) = true := by (rw [ho]; simp only [brT]; simp at hy ⊢; first | exact hy | omega)
    unfold exec
    dsimp only
    repeat (first | rw [if_pos (by simp; omega)] | rw [if_neg (by simp; omega)])
    try rw [hb]
    simp [goesTo, ht]
  unfold Ins.cells
  obtain ⟨d0, d1⟩ := hi.rd
  obtain ⟨a0, a1⟩ := hi.rs1
  obtain ⟨c0, c1⟩ := hi.rs2
  obtain ⟨m0, m1⟩ := hi.imm
  obtain ⟨v0, v1⟩ := hs.regs i.rs1.toNat
  obtain ⟨y0, y1⟩ := hs.regs i.rs2.toNat
  obtain ⟨p0, p1⟩ := hs.pc
  have hr := h.mac.reg i.rd.toNat (by omega)
  have hr1 := h.mac.reg i.rs1.toNat (by omega)
  have hr2 := h.mac.reg i.rs2.toNat (by omega)
  have hf := h.mac.free i.rd.toNat
  have hp := h.mac.pc
  have hsz := h.mac.lt
  have ht' : ((s.pc + i.imm) % 4294967296 % 4 != 0) = false := by rw [show (s.pc + i.imm) % 4294967296 = u32 (s.pc + i.imm) from rfl, ht]; rfl
  have HT := Lib.hid ht'
  clear ht ht'
  have HN := Lib.hid hn
  have HE := Lib.hid he
  clear hn he
  go_enter Tryz.func51, Tryz.ntmps51
  go_wp2_with fail
  go_quiet (fail)
  go_wp2_with fail
  refine wp_region_still_tail 9 (by kernel_rfl) (by kernel_rfl) ?_
  simp only [List.take_succ_cons, List.take_zero, List.drop_succ_cons, List.drop_zero]
  change wpStill _ _ (World.drew _) _ _ _
  repeat still_step
  refine wpStill_nil ?_
  change wpList _ _ _ _ _ (World.drew _)
  go_wp2_with fail
  rw [show (s.pc + i.imm % 4294967296) % 4294967296 = (s.pc + i.imm) % 4294967296 by omega]
  refine (on_yes _ _ s x _ ?_ (by omega) HT.out).mono ?_
  · repeat (first | with_reducible refine MacAt.drew ?_ | with_reducible refine MacAt.drewN ?_ _ | with_reducible refine MacAt.alloc ?_ _)
    exact h.mac
  rintro e w' ⟨rfl, rfl⟩
  go_wp2_with fail
  go_end0
  refine does_go (s2 := s) h HE.out ?_ (clr_self s hs.zero) rfl rfl rfl ?_
  · repeat (first | with_reducible refine MacAt.drew ?_ | with_reducible refine MacAt.drewN ?_ _ | with_reducible refine MacAt.alloc ?_ _)
    refine MacAt.putNext ?_ _
    repeat (first | with_reducible refine MacAt.drew ?_ | with_reducible refine MacAt.drewN ?_ _ | with_reducible refine MacAt.alloc ?_ _)
    exact h.mac
  · repeat (first | with_reducible exact Only.refl _ _ | with_reducible refine Only.set1 ?_ _ _ | with_reducible refine Only.alloc ?_ _ | with_reducible refine Only.drewN ?_ _ | with_reducible refine Only.drew ?_)
set_option maxRecDepth 100000 in
theorem branch_9_n (eff : Int → Int → World → World → Prop) (b : Nat) (i : Ins) (hi : i.Ok) (s : St) (hs : s.Ok) (x : Raw) (w : World) (h : Mach w b s x) (ho : i.op = 9) (hy : decide (s.regs i.rs1.toNat < s.regs i.rs2.toNat) = true) (hn : x.next = u32 (s.pc + 4)) :
    Calls Tryz.prog 51 #[.pointer (some ⟨b, 0, none⟩), .agg i.cells] w (DoesQ eff b s x i w) := by
  have he : exec s i = .go s (u32 (s.pc + 4)) none := by 
    have hb : brT i.op (s.regs i.rs1.toNat) (s.regs i.rs2.toNat) = false := by (rw [ho]; simp only [brT]; simp at hy ⊢; first | exact hy | omega)
    unfold exec
    dsimp only
    repeat (first | rw [if_pos (by simp; omega)] | rw [if_neg (by simp; omega)])
    try rw [hb]
    try rfl
  unfold Ins.cells
  obtain ⟨d0, d1⟩ := hi.rd
  obtain ⟨a0, a1⟩ := hi.rs1
  obtain ⟨c0, c1⟩ := hi.rs2
  obtain ⟨m0, m1⟩ := hi.imm
  obtain ⟨v0, v1⟩ := hs.regs i.rs1.toNat
  obtain ⟨y0, y1⟩ := hs.regs i.rs2.toNat
  obtain ⟨p0, p1⟩ := hs.pc
  have hr := h.mac.reg i.rd.toNat (by omega)
  have hr1 := h.mac.reg i.rs1.toNat (by omega)
  have hr2 := h.mac.reg i.rs2.toNat (by omega)
  have hf := h.mac.free i.rd.toNat
  have hp := h.mac.pc
  have hsz := h.mac.lt
  have HN := Lib.hid hn
  have HE := Lib.hid he
  clear hn he
  go_enter Tryz.func51, Tryz.ntmps51
  go_wp2_with fail
  go_quiet (fail)
  go_wp2_with fail
  go_end0
  refine does_go (s2 := s) h HE.out ?_ (clr_self s hs.zero) rfl rfl rfl ?_
  · repeat (first | with_reducible refine MacAt.drew ?_ | with_reducible refine MacAt.drewN ?_ _ | with_reducible refine MacAt.alloc ?_ _)
    have : x = { x with next := u32 (s.pc + 4) } := by rw [← HN.out]
    rw [← this]
    exact h.mac
  · repeat (first | with_reducible exact Only.refl _ _ | with_reducible refine Only.set1 ?_ _ _ | with_reducible refine Only.alloc ?_ _ | with_reducible refine Only.drewN ?_ _ | with_reducible refine Only.drew ?_)
set_option maxRecDepth 100000 in
theorem branch_9_x (eff : Int → Int → World → World → Prop) (b : Nat) (i : Ins) (hi : i.Ok) (s : St) (hs : s.Ok) (x : Raw) (w : World) (h : Mach w b s x) (ho : i.op = 9) (hy : decide (s.regs i.rs1.toNat < s.regs i.rs2.toNat) = false) (ht : ¬ u32 (s.pc + i.imm) % 4 = 0) (hn : x.next = u32 (s.pc + 4)) :
    Calls Tryz.prog 51 #[.pointer (some ⟨b, 0, none⟩), .agg i.cells] w (DoesQ eff b s x i w) := by
  have he : exec s i = .trap s 3 := by 
    have hb : brT i.op (s.regs i.rs1.toNat) (s.regs i.rs2.toNat) = true := by (rw [ho]; simp only [brT]; simp at hy ⊢; first | exact hy | omega)
    unfold exec
    dsimp only
    repeat (first | rw [if_pos (by simp; omega)] | rw [if_neg (by simp; omega)])
    try rw [hb]
    simp [goesTo, ht]
  unfold Ins.cells
  obtain ⟨d0, d1⟩ := hi.rd
  obtain ⟨a0, a1⟩ := hi.rs1
  obtain ⟨c0, c1⟩ := hi.rs2
  obtain ⟨m0, m1⟩ := hi.imm
  obtain ⟨v0, v1⟩ := hs.regs i.rs1.toNat
  obtain ⟨y0, y1⟩ := hs.regs i.rs2.toNat
  obtain ⟨p0, p1⟩ := hs.pc
  have hr := h.mac.reg i.rd.toNat (by omega)
  have hr1 := h.mac.reg i.rs1.toNat (by omega)
  have hr2 := h.mac.reg i.rs2.toNat (by omega)
  have hf := h.mac.free i.rd.toNat
  have hp := h.mac.pc
  have hsz := h.mac.lt
  have ht' : ((s.pc + i.imm) % 4294967296 % 4 != 0) = true := by rw [bne_iff_ne]; exact ht
  have HT := Lib.hid ht'
  clear ht ht'
  have HN := Lib.hid hn
  have HE := Lib.hid he
  clear hn he
  go_enter Tryz.func51, Tryz.ntmps51
  go_wp2_with fail
  go_quiet (fail)
  go_wp2_with fail
  refine wp_region_still_tail 9 (by kernel_rfl) (by kernel_rfl) ?_
  simp only [List.take_succ_cons, List.take_zero, List.drop_succ_cons, List.drop_zero]
  change wpStill _ _ (World.drew _) _ _ _
  repeat still_step
  refine wpStill_nil ?_
  change wpList _ _ _ _ _ (World.drew _)
  go_wp2_with fail
  rw [show (s.pc + i.imm % 4294967296) % 4294967296 = (s.pc + i.imm) % 4294967296 by omega]
  refine (on_no _ _ _ (by omega) HT.out).mono ?_
  rintro e w' ⟨rfl, rfl⟩
  go_wp2_with fail
  refine ⟨rfl, does_trap (x' := x) h HE.out ?_ rfl ?_⟩
  · repeat (first | with_reducible refine MacAt.drew ?_ | with_reducible refine MacAt.drewN ?_ _ | with_reducible refine MacAt.alloc ?_ _)
    exact h.mac
  · repeat (first | with_reducible exact Only.refl _ _ | with_reducible refine Only.set1 ?_ _ _ | with_reducible refine Only.alloc ?_ _ | with_reducible refine Only.drewN ?_ _ | with_reducible refine Only.drew ?_)
end Go.Proofs.YtanccjaikocefaaGreatDoor
