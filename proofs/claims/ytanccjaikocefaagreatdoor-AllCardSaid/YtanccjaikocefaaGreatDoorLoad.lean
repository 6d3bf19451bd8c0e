/-
  The contract of 'load', an operation at a time: as the plain machine has it. Conditions: the machine lies in memory; fields are in their ranges.
-/
import Derived.Test.YtanccjaikocefaaGreatDoorMeth3
namespace Go.Proofs.YtanccjaikocefaaGreatDoor
open Go.ChangeShapes Go.WideShapes Go.ChangeAt Go.RowKit
set_option linter.unusedVariables false

theorem load_or (v c : Int) (h0 : 0 ≤ v) (h1 : v < 16777216) (c0 : 0 ≤ c) (c1 : c < 256) : bits BinOp.or IntKind.u32 (v * 256 % 4294967296) c = c + 256 * v := by
  rw [or_add _ _ 8 (by omega) (by omega) (by omega) (by omega) (by omega) (by omega)]; omega
theorem leAt_bd3 {mem : List Int} (hm : ∀ x ∈ mem, 0 ≤ x ∧ x < 256) (n : Nat) (hn : n ≤ 3) (a : Int) : 0 ≤ leAt mem a n ∧ leAt mem a n < 16777216 := by
  have h := leAt_bd mem hm n a
  have e := Nat.pow_le_pow_right (n := 256) (by decide) hn
  have e2 : ((256 ^ n : Nat) : Int) = 256 ^ n := by simp
  omega
theorem load_step {mem : List Int} (hm : ∀ x ∈ mem, 0 ≤ x ∧ x < 256) (A m : Int) (k k2 : Nat) (h2 : k2 = k + 1) (hk : k ≤ 3) : bits BinOp.or IntKind.u32 (leAt mem (A + (m + 1)) k * 256 % 4294967296) (byteAt mem (A + m)) = leAt mem (A + m) k2 := by
  subst h2
  have h1 := leAt_bd3 hm k hk (A + (m + 1))
  have h3 := byteAt_bd hm (A + m)
  rw [load_or _ _ h1.1 h1.2 h3.1 h3.2]
  show _ = byteAt mem (A + m) + 256 * leAt mem (A + m + 1) k
  rw [show A + m + 1 = A + (m + 1) by omega]
theorem lv_10 {mem : List Int} (hm : ∀ x ∈ mem, 0 ≤ x ∧ x < 256) (A : Int) : IntKind.i8.wrap (leAt mem A 1) % 4294967296 = loadV 10 mem A := by
  have h : 0 ≤ leAt mem A 1 ∧ leAt mem A 1 < 256 := leAt_bd mem hm 1 A
  show _ = if leAt mem A 1 < 128 then leAt mem A 1 else leAt mem A 1 - 256 + 4294967296
  generalize leAt mem A 1 = v at *
  simp [IntKind.wrap, IntKind.signed, IntKind.bits]
  split <;> split <;> omega
theorem lv_11 {mem : List Int} (hm : ∀ x ∈ mem, 0 ≤ x ∧ x < 256) (A : Int) : IntKind.i16.wrap (leAt mem A 2) % 4294967296 = loadV 11 mem A := by
  have h : 0 ≤ leAt mem A 2 ∧ leAt mem A 2 < 65536 := leAt_bd mem hm 2 A
  show _ = if leAt mem A 2 < 32768 then leAt mem A 2 else leAt mem A 2 - 65536 + 4294967296
  generalize leAt mem A 2 = v at *
  simp [IntKind.wrap, IntKind.signed, IntKind.bits]
  split <;> split <;> omega
theorem lv_12 {mem : List Int} (hm : ∀ x ∈ mem, 0 ≤ x ∧ x < 256) (A : Int) : leAt mem A 4 = loadV 12 mem A := rfl
theorem lv_13 {mem : List Int} (hm : ∀ x ∈ mem, 0 ≤ x ∧ x < 256) (A : Int) : leAt mem A 1 = loadV 13 mem A := rfl
theorem lv_14 {mem : List Int} (hm : ∀ x ∈ mem, 0 ≤ x ∧ x < 256) (A : Int) : leAt mem A 2 = loadV 14 mem A := rfl
theorem leAt_front (mem : List Int) (a : Int) (n : Nat) : leAt mem a (n + 1) = byteAt mem a + 256 * leAt mem (a + 1) n := rfl
set_option maxRecDepth 100000 in
theorem load_10_fault (eff : Int → Int → World → World → Prop) (b : Nat) (i : Ins) (hi : i.Ok) (s : St) (hs : s.Ok) (x : Raw) (w : World) (h : Mach w b s x) (ho : i.op = 10) (ha : u32 (s.regs i.rs1.toNat + i.imm) % 1 = 0) (hl : lies s (u32 (s.regs i.rs1.toNat + i.imm)) 1 = false) (hn : x.next = u32 (s.pc + 4)) :
    Calls Tryz.prog 52 #[.pointer (some ⟨b, 0, none⟩), .agg i.cells] w (DoesQ eff b s x i w) := by
  have he : exec s i = .trap s 6 := by 
    have hwd : wide i.op = 1 := by rw [ho]; rfl
    unfold exec
    dsimp only
    repeat (first | rw [if_pos (by simp; omega)] | rw [if_neg (by simp; omega)])
    rw [hwd]
    rw [if_neg (by first | (simp; done) | simpa using ha), hl]; rfl
  unfold Ins.cells
  obtain ⟨d0, d1⟩ := hi.rd
  obtain ⟨a0, a1⟩ := hi.rs1
  obtain ⟨c0, c1⟩ := hi.rs2
  obtain ⟨m0, m1⟩ := hi.imm
  obtain ⟨v0, v1⟩ := hs.regs i.rs1.toNat
  obtain ⟨y0, y1⟩ := hs.regs i.rs2.toNat
  obtain ⟨p0, p1⟩ := hs.pc
  have hr := h.mac.reg i.rd.toNat (by omega)
  have hr1 := h.mac.reg i.rs1.toNat (by omega)
  have hr2 := h.mac.reg i.rs2.toNat (by omega)
  have hf := h.mac.free i.rd.toNat
  have hp := h.mac.pc
  have hsz := h.mac.lt
  have HA := Lib.hid ha
  have HL := Lib.hid hl
  clear ha hl
  have HN := Lib.hid hn
  have HE := Lib.hid he
  clear hn he
  go_enter Tryz.func52, Tryz.ntmps52
  go_wp2_with fail
  refine (reach_fault b i hi s hs x _ ?_ _ 1 5 6 (by omega) (by omega) HA.out HL.out).mono ?_
  · repeat (first | with_reducible refine MacAt.drew ?_ | with_reducible refine MacAt.drewN ?_ _ | with_reducible refine MacAt.alloc ?_ _)
    exact h.mac
  rintro e w1 ⟨rfl, ho1⟩
  go_wp2_with fail
  refine ⟨rfl, does_trap (x' := x) h HE.out ?_ rfl ?_⟩
  · refine ho1.heap (fun h => h) ?_
    show MacAt _ _ _ _
    repeat (first | with_reducible refine MacAt.drew ?_ | with_reducible refine MacAt.drewN ?_ _ | with_reducible refine MacAt.alloc ?_ _)
    exact h.mac
  · refine Only.then ?_ (ho1.mono (fun _ _ h => h.elim))
    repeat (first | with_reducible exact Only.refl _ _ | with_reducible refine Only.set1 ?_ _ _ | with_reducible refine Only.alloc ?_ _ | with_reducible refine Only.drewN ?_ _ | with_reducible refine Only.drew ?_)
set_option maxRecDepth 100000 in
theorem load_10_ok (eff : Int → Int → World → World → Prop) (b : Nat) (i : Ins) (hi : i.Ok) (s : St) (hs : s.Ok) (x : Raw) (w : World) (h : Mach w b s x) (ho : i.op = 10) (ha : u32 (s.regs i.rs1.toNat + i.imm) % 1 = 0) (hl : lies s (u32 (s.regs i.rs1.toNat + i.imm)) 1 = true) (hn : x.next = u32 (s.pc + 4)) :
    Calls Tryz.prog 52 #[.pointer (some ⟨b, 0, none⟩), .agg i.cells] w (DoesQ eff b s x i w) := by
  have he : exec s i = .go (s.set i.rd (loadV i.op s.mem (u32 (s.regs i.rs1.toNat + i.imm)))) (u32 (s.pc + 4)) none := by 
    have hwd : wide i.op = 1 := by rw [ho]; rfl
    unfold exec
    dsimp only
    repeat (first | rw [if_pos (by simp; omega)] | rw [if_neg (by simp; omega)])
    rw [hwd]
    rw [if_neg (by first | (simp; done) | simpa using ha), hl]; rfl
  unfold Ins.cells
  obtain ⟨d0, d1⟩ := hi.rd
  obtain ⟨a0, a1⟩ := hi.rs1
  obtain ⟨c0, c1⟩ := hi.rs2
  obtain ⟨m0, m1⟩ := hi.imm
  obtain ⟨v0, v1⟩ := hs.regs i.rs1.toNat
  obtain ⟨y0, y1⟩ := hs.regs i.rs2.toNat
  obtain ⟨p0, p1⟩ := hs.pc
  have hr := h.mac.reg i.rd.toNat (by omega)
  have hr1 := h.mac.reg i.rs1.toNat (by omega)
  have hr2 := h.mac.reg i.rs2.toNat (by omega)
  have hf := h.mac.free i.rd.toNat
  have hp := h.mac.pc
  have hsz := h.mac.lt
  have hwd : wide i.op = 1 := by rw [ho]; rfl
  have hA := u32_bd (s.regs i.rs1.toNat + i.imm)
  obtain ⟨A0, A1⟩ := hA
  have H := h
  have h33 := h.mac.mem
  have hlen := hs.len
  have hl2 : u32 (s.regs i.rs1.toNat + i.imm) + 1 ≤ (s.mem.length : Int) := by unfold lies at hl; simpa using hl
  have HA := Lib.hid ha
  have HL := Lib.hid hl
  clear ha hl
  have HN := Lib.hid hn
  have HE := Lib.hid he
  clear hn he
  go_enter Tryz.func52, Tryz.ntmps52
  go_wp2_with fail
  refine (reach_ok b i hi s hs x _ ?_ _ 1 5 6 (by omega) (by omega) HA.out HL.out).mono ?_
  · repeat (first | with_reducible refine MacAt.drew ?_ | with_reducible refine MacAt.drewN ?_ _ | with_reducible refine MacAt.alloc ?_ _)
    exact h.mac
  rintro e w1 ⟨rfl, ho1⟩
  have hm1 : MacAt w1 b s x := ho1.heap (fun h => h) (show MacAt _ _ _ _ by
    repeat (first | with_reducible refine MacAt.drew ?_ | with_reducible refine MacAt.drewN ?_ _ | with_reducible refine MacAt.alloc ?_ _)
    exact h.mac)
  have hw1 : Only (· = b) w w1 := Only.then (by repeat (first | with_reducible exact Only.refl _ _ | with_reducible refine Only.set1 ?_ _ _ | with_reducible refine Only.alloc ?_ _ | with_reducible refine Only.drewN ?_ _ | with_reducible refine Only.drew ?_)) (ho1.mono (fun _ _ h => h.elim))
  have ib : InsAt w1 w.heap.size i := ho1.heap (fun h => h) (by show (World.alloc _ _).heap[_]? = _; rw [heap_alloc_new]; simp [Ins.cells, ho])
  have hmem1 := ho1.heap (fun h => h) (heap_alloc_old' _ H.mem)
  clear ho1
  have hsz1 : w.heap.size < w1.heap.size := heap_lt ib
  have k0 : w1.cell? ⟨w.heap.size, 0, none⟩ = some (.int .i64 i.op) := ib.cell 0
  have k1 : w1.cell? ⟨w.heap.size, 1, none⟩ = some (.int .i64 i.rd) := ib.cell 1
  have g33 := hm1.mem
  have gr := hm1.reg i.rd.toNat (by omega)
  have gf := hm1.free i.rd.toNat
  clear hr hr1 hr2 hf hp h33
  obtain ⟨A, hAd⟩ : ∃ A : Nat, u32 (s.regs i.rs1.toNat + i.imm) = A := ⟨(u32 (s.regs i.rs1.toNat + i.imm)).toNat, by omega⟩
  rw [hAd] at A0 A1 hl2 ⊢
  have hv : IntKind.i8.wrap (leAt s.mem (A : Int) 1) % 4294967296 = loadV i.op s.mem (u32 (s.regs i.rs1.toNat + i.imm)) := by rw [hAd, ho]; exact lv_10 hs.mem A
  have HV := Lib.hid hv
  clear hAd hv
  go_wp2_with fail
  go_loop [6, 7] (fun v t => ∃ k : Nat, k ≤ 1 ∧ t = .int .u32 k ∧ v = .int .u32 (leAt s.mem ((A : Int) + k) (1 - k))) (fun _ t => (intOf t).toNat)
  case atStart => exact ⟨1, by decide, rfl, rfl⟩
  case round =>
    obtain ⟨k, hk, rfl, rfl⟩ := hrel
    by_cases hlt : 0 < k
    · obtain ⟨m, rfl⟩ : ∃ m, k = m + 1 := ⟨k - 1, by omega⟩
      have hcell : w1.cell? ⟨x.mb, A + m, none⟩ = some (.int .u8 (byteAt s.mem ((A : Int) + m))) := by
        have := mem_cell hmem1 (A + m) (by omega)
        simpa using this
      have hbm := byteAt_bd hs.mem ((A : Int) + m)
      go_wp2_with fail
      go_round
      case rel => exact ⟨m, by omega, rfl, congrArg (Value.int IntKind.u32) (load_step hs.mem _ _ _ _ (by omega) (by omega))⟩
      case measure => simp [intOf] <;> omega
    · obtain rfl : k = 0 := by omega
      go_wp2_with fail
      go_region
      go_end0
      rw [HV.out]
      refine does_set h hs.zero HE.out HN.out ?_ ?_
      · repeat (first | with_reducible refine MacAt.drew ?_ | with_reducible refine MacAt.drewN ?_ _ | with_reducible refine MacAt.alloc ?_ _)
        exact hm1.putReg i.rd.toNat _ (by omega)
      · refine hw1.then ?_
        repeat (first | with_reducible exact Only.refl _ _ | with_reducible refine Only.set1 ?_ _ _ | with_reducible refine Only.alloc ?_ _ | with_reducible refine Only.drewN ?_ _ | with_reducible refine Only.drew ?_)
set_option maxRecDepth 100000 in
theorem load_11_align (eff : Int → Int → World → World → Prop) (b : Nat) (i : Ins) (hi : i.Ok) (s : St) (hs : s.Ok) (x : Raw) (w : World) (h : Mach w b s x) (ho : i.op = 11) (ha : ¬ u32 (s.regs i.rs1.toNat + i.imm) % 2 = 0) (hn : x.next = u32 (s.pc + 4)) :
    Calls Tryz.prog 52 #[.pointer (some ⟨b, 0, none⟩), .agg i.cells] w (DoesQ eff b s x i w) := by
  have he : exec s i = .trap s 5 := by 
    have hwd : wide i.op = 2 := by rw [ho]; rfl
    unfold exec
    dsimp only
    repeat (first | rw [if_pos (by simp; omega)] | rw [if_neg (by simp; omega)])
    rw [hwd]
    rw [if_pos ha]
  unfold Ins.cells
  obtain ⟨d0, d1⟩ := hi.rd
  obtain ⟨a0, a1⟩ := hi.rs1
  obtain ⟨c0, c1⟩ := hi.rs2
  obtain ⟨m0, m1⟩ := hi.imm
  obtain ⟨v0, v1⟩ := hs.regs i.rs1.toNat
  obtain ⟨y0, y1⟩ := hs.regs i.rs2.toNat
  obtain ⟨p0, p1⟩ := hs.pc
  have hr := h.mac.reg i.rd.toNat (by omega)
  have hr1 := h.mac.reg i.rs1.toNat (by omega)
  have hr2 := h.mac.reg i.rs2.toNat (by omega)
  have hf := h.mac.free i.rd.toNat
  have hp := h.mac.pc
  have hsz := h.mac.lt
  have HA := Lib.hid ha
  clear ha
  have HN := Lib.hid hn
  have HE := Lib.hid he
  clear hn he
  go_enter Tryz.func52, Tryz.ntmps52
  go_wp2_with fail
  refine (reach_align b i hi s hs x _ ?_ _ 2 5 6 (by omega) (by omega) HA.out).mono ?_
  · repeat (first | with_reducible refine MacAt.drew ?_ | with_reducible refine MacAt.drewN ?_ _ | with_reducible refine MacAt.alloc ?_ _)
    exact h.mac
  rintro e w1 ⟨rfl, ho1⟩
  go_wp2_with fail
  refine ⟨rfl, does_trap (x' := x) h HE.out ?_ rfl ?_⟩
  · refine ho1.heap (fun h => h) ?_
    show MacAt _ _ _ _
    repeat (first | with_reducible refine MacAt.drew ?_ | with_reducible refine MacAt.drewN ?_ _ | with_reducible refine MacAt.alloc ?_ _)
    exact h.mac
  · refine Only.then ?_ (ho1.mono (fun _ _ h => h.elim))
    repeat (first | with_reducible exact Only.refl _ _ | with_reducible refine Only.set1 ?_ _ _ | with_reducible refine Only.alloc ?_ _ | with_reducible refine Only.drewN ?_ _ | with_reducible refine Only.drew ?_)
set_option maxRecDepth 100000 in
theorem load_11_fault (eff : Int → Int → World → World → Prop) (b : Nat) (i : Ins) (hi : i.Ok) (s : St) (hs : s.Ok) (x : Raw) (w : World) (h : Mach w b s x) (ho : i.op = 11) (ha : u32 (s.regs i.rs1.toNat + i.imm) % 2 = 0) (hl : lies s (u32 (s.regs i.rs1.toNat + i.imm)) 2 = false) (hn : x.next = u32 (s.pc + 4)) :
    Calls Tryz.prog 52 #[.pointer (some ⟨b, 0, none⟩), .agg i.cells] w (DoesQ eff b s x i w) := by
  have he : exec s i = .trap s 6 := by 
    have hwd : wide i.op = 2 := by rw [ho]; rfl
    unfold exec
    dsimp only
    repeat (first | rw [if_pos (by simp; omega)] | rw [if_neg (by simp; omega)])
    rw [hwd]
    rw [if_neg (by first | (simp; done) | simpa using ha), hl]; rfl
  unfold Ins.cells
  obtain ⟨d0, d1⟩ := hi.rd
  obtain ⟨a0, a1⟩ := hi.rs1
  obtain ⟨c0, c1⟩ := hi.rs2
  obtain ⟨m0, m1⟩ := hi.imm
  obtain ⟨v0, v1⟩ := hs.regs i.rs1.toNat
  obtain ⟨y0, y1⟩ := hs.regs i.rs2.toNat
  obtain ⟨p0, p1⟩ := hs.pc
  have hr := h.mac.reg i.rd.toNat (by omega)
  have hr1 := h.mac.reg i.rs1.toNat (by omega)
  have hr2 := h.mac.reg i.rs2.toNat (by omega)
  have hf := h.mac.free i.rd.toNat
  have hp := h.mac.pc
  have hsz := h.mac.lt
  have HA := Lib.hid ha
  have HL := Lib.hid hl
  clear ha hl
  have HN := Lib.hid hn
  have HE := Lib.hid he
  clear hn he
  go_enter Tryz.func52, Tryz.ntmps52
  go_wp2_with fail
  refine (reach_fault b i hi s hs x _ ?_ _ 2 5 6 (by omega) (by omega) HA.out HL.out).mono ?_
  · repeat (first | with_reducible refine MacAt.drew ?_ | with_reducible refine MacAt.drewN ?_ _ | with_reducible refine MacAt.alloc ?_ _)
    exact h.mac
  rintro e w1 ⟨rfl, ho1⟩
  go_wp2_with fail
  refine ⟨rfl, does_trap (x' := x) h HE.out ?_ rfl ?_⟩
  · refine ho1.heap (fun h => h) ?_
    show MacAt _ _ _ _
    repeat (first | with_reducible refine MacAt.drew ?_ | with_reducible refine MacAt.drewN ?_ _ | with_reducible refine MacAt.alloc ?_ _)
    exact h.mac
  · refine Only.then ?_ (ho1.mono (fun _ _ h => h.elim))
    repeat (first | with_reducible exact Only.refl _ _ | with_reducible refine Only.set1 ?_ _ _ | with_reducible refine Only.alloc ?_ _ | with_reducible refine Only.drewN ?_ _ | with_reducible refine Only.drew ?_)
set_option maxRecDepth 100000 in
theorem load_11_ok (eff : Int → Int → World → World → Prop) (b : Nat) (i : Ins) (hi : i.Ok) (s : St) (hs : s.Ok) (x : Raw) (w : World) (h : Mach w b s x) (ho : i.op = 11) (ha : u32 (s.regs i.rs1.toNat + i.imm) % 2 = 0) (hl : lies s (u32 (s.regs i.rs1.toNat + i.imm)) 2 = true) (hn : x.next = u32 (s.pc + 4)) :
    Calls Tryz.prog 52 #[.pointer (some ⟨b, 0, none⟩), .agg i.cells] w (DoesQ eff b s x i w) := by
  have he : exec s i = .go (s.set i.rd (loadV i.op s.mem (u32 (s.regs i.rs1.toNat + i.imm)))) (u32 (s.pc + 4)) none := by 
    have hwd : wide i.op = 2 := by rw [ho]; rfl
    unfold exec
    dsimp only
    repeat (first | rw [if_pos (by simp; omega)] | rw [if_neg (by simp; omega)])
    rw [hwd]
    rw [if_neg (by first | (simp; done) | simpa using ha), hl]; rfl
  unfold Ins.cells
  obtain ⟨d0, d1⟩ := hi.rd
  obtain ⟨a0, a1⟩ := hi.rs1
  obtain ⟨c0, c1⟩ := hi.rs2
  obtain ⟨m0, m1⟩ := hi.imm
  obtain ⟨v0, v1⟩ := hs.regs i.rs1.toNat
  obtain ⟨y0, y1⟩ := hs.regs i.rs2.toNat
  obtain ⟨p0, p1⟩ := hs.pc
  have hr := h.mac.reg i.rd.toNat (by omega)
  have hr1 := h.mac.reg i.rs1.toNat (by omega)
  have hr2 := h.mac.reg i.rs2.toNat (by omega)
  have hf := h.mac.free i.rd.toNat
  have hp := h.mac.pc
  have hsz := h.mac.lt
  have hwd : wide i.op = 2 := by rw [ho]; rfl
  have hA := u32_bd (s.regs i.rs1.toNat + i.imm)
  obtain ⟨A0, A1⟩ := hA
  have H := h
  have h33 := h.mac.mem
  have hlen := hs.len
  have hl2 : u32 (s.regs i.rs1.toNat + i.imm) + 2 ≤ (s.mem.length : Int) := by unfold lies at hl; simpa using hl
  have HA := Lib.hid ha
  have HL := Lib.hid hl
  clear ha hl
  have HN := Lib.hid hn
  have HE := Lib.hid he
  clear hn he
  go_enter Tryz.func52, Tryz.ntmps52
  go_wp2_with fail
  refine (reach_ok b i hi s hs x _ ?_ _ 2 5 6 (by omega) (by omega) HA.out HL.out).mono ?_
  · repeat (first | with_reducible refine MacAt.drew ?_ | with_reducible refine MacAt.drewN ?_ _ | with_reducible refine MacAt.alloc ?_ _)
    exact h.mac
  rintro e w1 ⟨rfl, ho1⟩
  have hm1 : MacAt w1 b s x := ho1.heap (fun h => h) (show MacAt _ _ _ _ by
    repeat (first | with_reducible refine MacAt.drew ?_ | with_reducible refine MacAt.drewN ?_ _ | with_reducible refine MacAt.alloc ?_ _)
    exact h.mac)
  have hw1 : Only (· = b) w w1 := Only.then (by repeat (first | with_reducible exact Only.refl _ _ | with_reducible refine Only.set1 ?_ _ _ | with_reducible refine Only.alloc ?_ _ | with_reducible refine Only.drewN ?_ _ | with_reducible refine Only.drew ?_)) (ho1.mono (fun _ _ h => h.elim))
  have ib : InsAt w1 w.heap.size i := ho1.heap (fun h => h) (by show (World.alloc _ _).heap[_]? = _; rw [heap_alloc_new]; simp [Ins.cells, ho])
  have hmem1 := ho1.heap (fun h => h) (heap_alloc_old' _ H.mem)
  clear ho1
  have hsz1 : w.heap.size < w1.heap.size := heap_lt ib
  have k0 : w1.cell? ⟨w.heap.size, 0, none⟩ = some (.int .i64 i.op) := ib.cell 0
  have k1 : w1.cell? ⟨w.heap.size, 1, none⟩ = some (.int .i64 i.rd) := ib.cell 1
  have g33 := hm1.mem
  have gr := hm1.reg i.rd.toNat (by omega)
  have gf := hm1.free i.rd.toNat
  clear hr hr1 hr2 hf hp h33
  obtain ⟨A, hAd⟩ : ∃ A : Nat, u32 (s.regs i.rs1.toNat + i.imm) = A := ⟨(u32 (s.regs i.rs1.toNat + i.imm)).toNat, by omega⟩
  rw [hAd] at A0 A1 hl2 ⊢
  have hv : IntKind.i16.wrap (leAt s.mem (A : Int) 2) % 4294967296 = loadV i.op s.mem (u32 (s.regs i.rs1.toNat + i.imm)) := by rw [hAd, ho]; exact lv_11 hs.mem A
  have HV := Lib.hid hv
  clear hAd hv
  go_wp2_with fail
  go_loop [6, 7] (fun v t => ∃ k : Nat, k ≤ 2 ∧ t = .int .u32 k ∧ v = .int .u32 (leAt s.mem ((A : Int) + k) (2 - k))) (fun _ t => (intOf t).toNat)
  case atStart => exact ⟨2, by decide, rfl, rfl⟩
  case round =>
    obtain ⟨k, hk, rfl, rfl⟩ := hrel
    by_cases hlt : 0 < k
    · obtain ⟨m, rfl⟩ : ∃ m, k = m + 1 := ⟨k - 1, by omega⟩
      have hcell : w1.cell? ⟨x.mb, A + m, none⟩ = some (.int .u8 (byteAt s.mem ((A : Int) + m))) := by
        have := mem_cell hmem1 (A + m) (by omega)
        simpa using this
      have hbm := byteAt_bd hs.mem ((A : Int) + m)
      go_wp2_with fail
      go_round
      case rel => exact ⟨m, by omega, rfl, congrArg (Value.int IntKind.u32) (load_step hs.mem _ _ _ _ (by omega) (by omega))⟩
      case measure => simp [intOf] <;> omega
    · obtain rfl : k = 0 := by omega
      go_wp2_with fail
      go_region
      go_end0
      rw [HV.out]
      refine does_set h hs.zero HE.out HN.out ?_ ?_
      · repeat (first | with_reducible refine MacAt.drew ?_ | with_reducible refine MacAt.drewN ?_ _ | with_reducible refine MacAt.alloc ?_ _)
        exact hm1.putReg i.rd.toNat _ (by omega)
      · refine hw1.then ?_
        repeat (first | with_reducible exact Only.refl _ _ | with_reducible refine Only.set1 ?_ _ _ | with_reducible refine Only.alloc ?_ _ | with_reducible refine Only.drewN ?_ _ | with_reducible refine Only.drew ?_)
set_option maxRecDepth 100000 in
theorem load_12_align (eff : Int → Int → World → World → Prop) (b : Nat) (i : Ins) (hi : i.Ok) (s : St) (hs : s.Ok) (x : Raw) (w : World) (h : Mach w b s x) (ho : i.op = 12) (ha : ¬ u32 (s.regs i.rs1.toNat + i.imm) % 4 = 0) (hn : x.next = u32 (s.pc + 4)) :
    Calls Tryz.prog 52 #[.pointer (some ⟨b, 0, none⟩), .agg i.cells] w (DoesQ eff b s x i w) := by
  have he : exec s i = .trap s 5 := by 
    have hwd : wide i.op = 4 := by rw [ho]; rfl
    unfold exec
    dsimp only
    repeat (first | rw [if_pos (by simp; omega)] | rw [if_neg (by simp; omega)])
    rw [hwd]
    rw [if_pos ha]
  unfold Ins.cells
  obtain ⟨d0, d1⟩ := hi.rd
  obtain ⟨a0, a1⟩ := hi.rs1
  obtain ⟨c0, c1⟩ := hi.rs2
  obtain ⟨m0, m1⟩ := hi.imm
  obtain ⟨v0, v1⟩ := hs.regs i.rs1.toNat
  obtain ⟨y0, y1⟩ := hs.regs i.rs2.toNat
  obtain ⟨p0, p1⟩ := hs.pc
  have hr := h.mac.reg i.rd.toNat (by omega)
  have hr1 := h.mac.reg i.rs1.toNat (by omega)
  have hr2 := h.mac.reg i.rs2.toNat (by omega)
  have hf := h.mac.free i.rd.toNat
  have hp := h.mac.pc
  have hsz := h.mac.lt
  have HA := Lib.hid ha
  clear ha
  have HN := Lib.hid hn
  have HE := Lib.hid he
  clear hn he
  go_enter Tryz.func52, Tryz.ntmps52
  go_wp2_with fail
  refine (reach_align b i hi s hs x _ ?_ _ 4 5 6 (by omega) (by omega) HA.out).mono ?_
  · repeat (first | with_reducible refine MacAt.drew ?_ | with_reducible refine MacAt.drewN ?_ _ | with_reducible refine MacAt.alloc ?_ _)
    exact h.mac
  rintro e w1 ⟨rfl, ho1⟩
  go_wp2_with fail
  refine ⟨rfl, does_trap (x' := x) h HE.out ?_ rfl ?_⟩
  · refine ho1.heap (fun h => h) ?_
    show MacAt _ _ _ _
    repeat (first | with_reducible refine MacAt.drew ?_ | with_reducible refine MacAt.drewN ?_ _ | with_reducible refine MacAt.alloc ?_ _)
    exact h.mac
  · refine Only.then ?_ (ho1.mono (fun _ _ h => h.elim))
    repeat (first | with_reducible exact Only.refl _ _ | with_reducible refine Only.set1 ?_ _ _ | with_reducible refine Only.alloc ?_ _ | with_reducible refine Only.drewN ?_ _ | with_reducible refine Only.drew ?_)
set_option maxRecDepth 100000 in
theorem load_12_fault (eff : Int → Int → World → World → Prop) (b : Nat) (i : Ins) (hi : i.Ok) (s : St) (hs : s.Ok) (x : Raw) (w : World) (h : Mach w b s x) (ho : i.op = 12) (ha : u32 (s.regs i.rs1.toNat + i.imm) % 4 = 0) (hl : lies s (u32 (s.regs i.rs1.toNat + i.imm)) 4 = false) (hn : x.next = u32 (s.pc + 4)) :
    Calls Tryz.prog 52 #[.pointer (some ⟨b, 0, none⟩), .agg i.cells] w (DoesQ eff b s x i w) := by
  have he : exec s i = .trap s 6 := by 
    have hwd : wide i.op = 4 := by rw [ho]; rfl
    unfold exec
    dsimp only
    repeat (first | rw [if_pos (by simp; omega)] | rw [if_neg (by simp; omega)])
    rw [hwd]
    rw [if_neg (by first | (simp; done) | simpa using ha), hl]; rfl
  unfold Ins.cells
  obtain ⟨d0, d1⟩ := hi.rd
  obtain ⟨a0, a1⟩ := hi.rs1
  obtain ⟨c0, c1⟩ := hi.rs2
  obtain ⟨m0, m1⟩ := hi.imm
  obtain ⟨v0, v1⟩ := hs.regs i.rs1.toNat
  obtain ⟨y0, y1⟩ := hs.regs i.rs2.toNat
  obtain ⟨p0, p1⟩ := hs.pc
  have hr := h.mac.reg i.rd.toNat (by omega)
  have hr1 := h.mac.reg i.rs1.toNat (by omega)
  have hr2 := h.mac.reg i.rs2.toNat (by omega)
  have hf := h.mac.free i.rd.toNat
  have hp := h.mac.pc
  have hsz := h.mac.lt
  have HA := Lib.hid ha
  have HL := Lib.hid hl
  clear ha hl
  have HN := Lib.hid hn
  have HE := Lib.hid he
  clear hn he
  go_enter Tryz.func52, Tryz.ntmps52
  go_wp2_with fail
  refine (reach_fault b i hi s hs x _ ?_ _ 4 5 6 (by omega) (by omega) HA.out HL.out).mono ?_
  · repeat (first | with_reducible refine MacAt.drew ?_ | with_reducible refine MacAt.drewN ?_ _ | with_reducible refine MacAt.alloc ?_ _)
    exact h.mac
  rintro e w1 ⟨rfl, ho1⟩
  go_wp2_with fail
  refine ⟨rfl, does_trap (x' := x) h HE.out ?_ rfl ?_⟩
  · refine ho1.heap (fun h => h) ?_
    show MacAt _ _ _ _
    repeat (first | with_reducible refine MacAt.drew ?_ | with_reducible refine MacAt.drewN ?_ _ | with_reducible refine MacAt.alloc ?_ _)
    exact h.mac
  · refine Only.then ?_ (ho1.mono (fun _ _ h => h.elim))
    repeat (first | with_reducible exact Only.refl _ _ | with_reducible refine Only.set1 ?_ _ _ | with_reducible refine Only.alloc ?_ _ | with_reducible refine Only.drewN ?_ _ | with_reducible refine Only.drew ?_)
set_option maxRecDepth 100000 in
theorem load_12_ok (eff : Int → Int → World → World → Prop) (b : Nat) (i : Ins) (hi : i.Ok) (s : St) (hs : s.Ok) (x : Raw) (w : World) (h : Mach w b s x) (ho : i.op = 12) (ha : u32 (s.regs i.rs1.toNat + i.imm) % 4 = 0) (hl : lies s (u32 (s.regs i.rs1.toNat + i.imm)) 4 = true) (hn : x.next = u32 (s.pc + 4)) :
    Calls Tryz.prog 52 #[.pointer (some ⟨b, 0, none⟩), .agg i.cells] w (DoesQ eff b s x i w) := by
  have he : exec s i = .go (s.set i.rd (loadV i.op s.mem (u32 (s.regs i.rs1.toNat + i.imm)))) (u32 (s.pc + 4)) none := by 
    have hwd : wide i.op = 4 := by rw [ho]; rfl
    unfold exec
    dsimp only
    repeat (first | rw [if_pos (by simp; omega)] | rw [if_neg (by simp; omega)])
    rw [hwd]
    rw [if_neg (by first | (simp; done) | simpa using ha), hl]; rfl
  unfold Ins.cells
  obtain ⟨d0, d1⟩ := hi.rd
  obtain ⟨a0, a1⟩ := hi.rs1
  obtain ⟨c0, c1⟩ := hi.rs2
  obtain ⟨m0, m1⟩ := hi.imm
  obtain ⟨v0, v1⟩ := hs.regs i.rs1.toNat
  obtain ⟨y0, y1⟩ := hs.regs i.rs2.toNat
  obtain ⟨p0, p1⟩ := hs.pc
  have hr := h.mac.reg i.rd.toNat (by omega)
  have hr1 := h.mac.reg i.rs1.toNat (by omega)
  have hr2 := h.mac.reg i.rs2.toNat (by omega)
  have hf := h.mac.free i.rd.toNat
  have hp := h.mac.pc
  have hsz := h.mac.lt
  have hwd : wide i.op = 4 := by rw [ho]; rfl
  have hA := u32_bd (s.regs i.rs1.toNat + i.imm)
  obtain ⟨A0, A1⟩ := hA
  have H := h
  have h33 := h.mac.mem
  have hlen := hs.len
  have hl2 : u32 (s.regs i.rs1.toNat + i.imm) + 4 ≤ (s.mem.length : Int) := by unfold lies at hl; simpa using hl
  have HA := Lib.hid ha
  have HL := Lib.hid hl
  clear ha hl
  have HN := Lib.hid hn
  have HE := Lib.hid he
  clear hn he
  go_enter Tryz.func52, Tryz.ntmps52
  go_wp2_with fail
  refine (reach_ok b i hi s hs x _ ?_ _ 4 5 6 (by omega) (by omega) HA.out HL.out).mono ?_
  · repeat (first | with_reducible refine MacAt.drew ?_ | with_reducible refine MacAt.drewN ?_ _ | with_reducible refine MacAt.alloc ?_ _)
    exact h.mac
  rintro e w1 ⟨rfl, ho1⟩
  have hm1 : MacAt w1 b s x := ho1.heap (fun h => h) (show MacAt _ _ _ _ by
    repeat (first | with_reducible refine MacAt.drew ?_ | with_reducible refine MacAt.drewN ?_ _ | with_reducible refine MacAt.alloc ?_ _)
    exact h.mac)
  have hw1 : Only (· = b) w w1 := Only.then (by repeat (first | with_reducible exact Only.refl _ _ | with_reducible refine Only.set1 ?_ _ _ | with_reducible refine Only.alloc ?_ _ | with_reducible refine Only.drewN ?_ _ | with_reducible refine Only.drew ?_)) (ho1.mono (fun _ _ h => h.elim))
  have ib : InsAt w1 w.heap.size i := ho1.heap (fun h => h) (by show (World.alloc _ _).heap[_]? = _; rw [heap_alloc_new]; simp [Ins.cells, ho])
  have hmem1 := ho1.heap (fun h => h) (heap_alloc_old' _ H.mem)
  clear ho1
  have hsz1 : w.heap.size < w1.heap.size := heap_lt ib
  have k0 : w1.cell? ⟨w.heap.size, 0, none⟩ = some (.int .i64 i.op) := ib.cell 0
  have k1 : w1.cell? ⟨w.heap.size, 1, none⟩ = some (.int .i64 i.rd) := ib.cell 1
  have g33 := hm1.mem
  have gr := hm1.reg i.rd.toNat (by omega)
  have gf := hm1.free i.rd.toNat
  clear hr hr1 hr2 hf hp h33
  obtain ⟨A, hAd⟩ : ∃ A : Nat, u32 (s.regs i.rs1.toNat + i.imm) = A := ⟨(u32 (s.regs i.rs1.toNat + i.imm)).toNat, by omega⟩
  rw [hAd] at A0 A1 hl2 ⊢
  have hv : leAt s.mem (A : Int) 4 = loadV i.op s.mem (u32 (s.regs i.rs1.toNat + i.imm)) := by rw [hAd, ho]; exact lv_12 hs.mem A
  have HV := Lib.hid hv
  clear hAd hv
  go_wp2_with fail
  go_loop [6, 7] (fun v t => ∃ k : Nat, k ≤ 4 ∧ t = .int .u32 k ∧ v = .int .u32 (leAt s.mem ((A : Int) + k) (4 - k))) (fun _ t => (intOf t).toNat)
  case atStart => exact ⟨4, by decide, rfl, rfl⟩
  case round =>
    obtain ⟨k, hk, rfl, rfl⟩ := hrel
    by_cases hlt : 0 < k
    · obtain ⟨m, rfl⟩ : ∃ m, k = m + 1 := ⟨k - 1, by omega⟩
      have hcell : w1.cell? ⟨x.mb, A + m, none⟩ = some (.int .u8 (byteAt s.mem ((A : Int) + m))) := by
        have := mem_cell hmem1 (A + m) (by omega)
        simpa using this
      have hbm := byteAt_bd hs.mem ((A : Int) + m)
      go_wp2_with fail
      go_round
      case rel => exact ⟨m, by omega, rfl, congrArg (Value.int IntKind.u32) (load_step hs.mem _ _ _ _ (by omega) (by omega))⟩
      case measure => simp [intOf] <;> omega
    · obtain rfl : k = 0 := by omega
      go_wp2_with fail
      go_region
      go_end0
      rw [HV.out]
      refine does_set h hs.zero HE.out HN.out ?_ ?_
      · repeat (first | with_reducible refine MacAt.drew ?_ | with_reducible refine MacAt.drewN ?_ _ | with_reducible refine MacAt.alloc ?_ _)
        exact hm1.putReg i.rd.toNat _ (by omega)
      · refine hw1.then ?_
        repeat (first | with_reducible exact Only.refl _ _ | with_reducible refine Only.set1 ?_ _ _ | with_reducible refine Only.alloc ?_ _ | with_reducible refine Only.drewN ?_ _ | with_reducible refine Only.drew ?_)
set_option maxRecDepth 100000 in
theorem load_13_fault (eff : Int → Int → World → World → Prop) (b : Nat) (i : Ins) (hi : i.Ok) (s : St) (hs : s.Ok) (x : Raw) (w : World) (h : Mach w b s x) (ho : i.op = 13) (ha : u32 (s.regs i.rs1.toNat + i.imm) % 1 = 0) (hl : lies s (u32 (s.regs i.rs1.toNat + i.imm)) 1 = false) (hn : x.next = u32 (s.pc + 4)) :
    Calls Tryz.prog 52 #[.pointer (some ⟨b, 0, none⟩), .agg i.cells] w (DoesQ eff b s x i w) := by
  have he : exec s i = .trap s 6 := by 
    have hwd : wide i.op = 1 := by rw [ho]; rfl
    unfold exec
    dsimp only
    repeat (first | rw [if_pos (by simp; omega)] | rw [if_neg (by simp; omega)])
    rw [hwd]
    rw [if_neg (by first | (simp; done) | simpa using ha), hl]; rfl
  unfold Ins.cells
  obtain ⟨d0, d1⟩ := hi.rd
  obtain ⟨a0, a1⟩ := hi.rs1
  obtain ⟨c0, c1⟩ := hi.rs2
  obtain ⟨m0, m1⟩ := hi.imm
  obtain ⟨v0, v1⟩ := hs.regs i.rs1.toNat
  obtain ⟨y0, y1⟩ := hs.regs i.rs2.toNat
  obtain ⟨p0, p1⟩ := hs.pc
  have hr := h.mac.reg i.rd.toNat (by omega)
  have hr1 := h.mac.reg i.rs1.toNat (by omega)
  have hr2 := h.mac.reg i.rs2.toNat (by omega)
  have hf := h.mac.free i.rd.toNat
  have hp := h.mac.pc
  have hsz := h.mac.lt
  have HA := Lib.hid ha
  have HL := Lib.hid hl
  clear ha hl
  have HN := Lib.hid hn
  have HE := Lib.hid he
  clear hn he
  go_enter Tryz.func52, Tryz.ntmps52
  go_wp2_with fail
  refine (reach_fault b i hi s hs x _ ?_ _ 1 5 6 (by omega) (by omega) HA.out HL.out).mono ?_
  · repeat (first | with_reducible refine MacAt.drew ?_ | with_reducible refine MacAt.drewN ?_ _ | with_reducible refine MacAt.alloc ?_ _)
    exact h.mac
  rintro e w1 ⟨rfl, ho1⟩
  go_wp2_with fail
  refine ⟨rfl, does_trap (x' := x) h HE.out ?_ rfl ?_⟩
  · refine ho1.heap (fun h => h) ?_
    show MacAt _ _ _ _
    repeat (first | with_reducible refine MacAt.drew ?_ | with_reducible refine MacAt.drewN ?_ _ | with_reducible refine MacAt.alloc ?_ _)
    exact h.mac
  · refine Only.then ?_ (ho1.mono (fun _ _ h => h.elim))
    repeat (first | with_reducible exact Only.refl _ _ | with_reducible refine Only.set1 ?_ _ _ | with_reducible refine Only.alloc ?_ _ | with_reducible refine Only.drewN ?_ _ | with_reducible refine Only.drew ?_)
set_option maxRecDepth 100000 in
theorem load_13_ok (eff : Int → Int → World → World → Prop) (b : Nat) (i : Ins) (hi : i.Ok) (s : St) (hs : s.Ok) (x : Raw) (w : World) (h : Mach w b s x) (ho : i.op = 13) (ha : u32 (s.regs i.rs1.toNat + i.imm) % 1 = 0) (hl : lies s (u32 (s.regs i.rs1.toNat + i.imm)) 1 = true) (hn : x.next = u32 (s.pc + 4)) :
    Calls Tryz.prog 52 #[.pointer (some ⟨b, 0, none⟩), .agg i.cells] w (DoesQ eff b s x i w) := by
  have he : exec s i = .go (s.set i.rd (loadV i.op s.mem (u32 (s.regs i.rs1.toNat + i.imm)))) (u32 (s.pc + 4)) none := by 
    have hwd : wide i.op = 1 := by rw [ho]; rfl
    unfold exec
    dsimp only
    repeat (first | rw [if_pos (by simp; omega)] | rw [if_neg (by simp; omega)])
    rw [hwd]
    rw [if_neg (by first | (simp; done) | simpa using ha), hl]; rfl
  unfold Ins.cells
  obtain ⟨d0, d1⟩ := hi.rd
  obtain ⟨a0, a1⟩ := hi.rs1
  obtain ⟨c0, c1⟩ := hi.rs2
  obtain ⟨m0, m1⟩ := hi.imm
  obtain ⟨v0, v1⟩ := hs.regs i.rs1.toNat
  obtain ⟨y0, y1⟩ := hs.regs i.rs2.toNat
  obtain ⟨p0, p1⟩ := hs.pc
  have hr := h.mac.reg i.rd.toNat (by omega)
  have hr1 := h.mac.reg i.rs1.toNat (by omega)
  have hr2 := h.mac.reg i.rs2.toNat (by omega)
  have hf := h.mac.free i.rd.toNat
  have hp := h.mac.pc
  have hsz := h.mac.lt
  have hwd : wide i.op = 1 := by rw [ho]; rfl
  have hA := u32_bd (s.regs i.rs1.toNat + i.imm)
  obtain ⟨A0, A1⟩ := hA
  have H := h
  have h33 := h.mac.mem
  have hlen := hs.len
  have hl2 : u32 (s.regs i.rs1.toNat + i.imm) + 1 ≤ (s.mem.length : Int) := by unfold lies at hl; simpa using hl
  have HA := Lib.hid ha
  have HL := Lib.hid hl
  clear ha hl
  have HN := Lib.hid hn
  have HE := Lib.hid he
  clear hn he
  go_enter Tryz.func52, Tryz.ntmps52
  go_wp2_with fail
  refine (reach_ok b i hi s hs x _ ?_ _ 1 5 6 (by omega) (by omega) HA.out HL.out).mono ?_
  · repeat (first | with_reducible refine MacAt.drew ?_ | with_reducible refine MacAt.drewN ?_ _ | with_reducible refine MacAt.alloc ?_ _)
    exact h.mac
  rintro e w1 ⟨rfl, ho1⟩
  have hm1 : MacAt w1 b s x := ho1.heap (fun h => h) (show MacAt _ _ _ _ by
    repeat (first | with_reducible refine MacAt.drew ?_ | with_reducible refine MacAt.drewN ?_ _ | with_reducible refine MacAt.alloc ?_ _)
    exact h.mac)
  have hw1 : Only (· = b) w w1 := Only.then (by repeat (first | with_reducible exact Only.refl _ _ | with_reducible refine Only.set1 ?_ _ _ | with_reducible refine Only.alloc ?_ _ | with_reducible refine Only.drewN ?_ _ | with_reducible refine Only.drew ?_)) (ho1.mono (fun _ _ h => h.elim))
  have ib : InsAt w1 w.heap.size i := ho1.heap (fun h => h) (by show (World.alloc _ _).heap[_]? = _; rw [heap_alloc_new]; simp [Ins.cells, ho])
  have hmem1 := ho1.heap (fun h => h) (heap_alloc_old' _ H.mem)
  clear ho1
  have hsz1 : w.heap.size < w1.heap.size := heap_lt ib
  have k0 : w1.cell? ⟨w.heap.size, 0, none⟩ = some (.int .i64 i.op) := ib.cell 0
  have k1 : w1.cell? ⟨w.heap.size, 1, none⟩ = some (.int .i64 i.rd) := ib.cell 1
  have g33 := hm1.mem
  have gr := hm1.reg i.rd.toNat (by omega)
  have gf := hm1.free i.rd.toNat
  clear hr hr1 hr2 hf hp h33
  obtain ⟨A, hAd⟩ : ∃ A : Nat, u32 (s.regs i.rs1.toNat + i.imm) = A := ⟨(u32 (s.regs i.rs1.toNat + i.imm)).toNat, by omega⟩
  rw [hAd] at A0 A1 hl2 ⊢
  have hv : leAt s.mem (A : Int) 1 = loadV i.op s.mem (u32 (s.regs i.rs1.toNat + i.imm)) := by rw [hAd, ho]; exact lv_13 hs.mem A
  have HV := Lib.hid hv
  clear hAd hv
  go_wp2_with fail
  go_loop [6, 7] (fun v t => ∃ k : Nat, k ≤ 1 ∧ t = .int .u32 k ∧ v = .int .u32 (leAt s.mem ((A : Int) + k) (1 - k))) (fun _ t => (intOf t).toNat)
  case atStart => exact ⟨1, by decide, rfl, rfl⟩
  case round =>
    obtain ⟨k, hk, rfl, rfl⟩ := hrel
    by_cases hlt : 0 < k
    · obtain ⟨m, rfl⟩ : ∃ m, k = m + 1 := ⟨k - 1, by omega⟩
      have hcell : w1.cell? ⟨x.mb, A + m, none⟩ = some (.int .u8 (byteAt s.mem ((A : Int) + m))) := by
        have := mem_cell hmem1 (A + m) (by omega)
        simpa using this
      have hbm := byteAt_bd hs.mem ((A : Int) + m)
      go_wp2_with fail
      go_round
      case rel => exact ⟨m, by omega, rfl, congrArg (Value.int IntKind.u32) (load_step hs.mem _ _ _ _ (by omega) (by omega))⟩
      case measure => simp [intOf] <;> omega
    · obtain rfl : k = 0 := by omega
      go_wp2_with fail
      go_region
      go_end0
      rw [HV.out]
      refine does_set h hs.zero HE.out HN.out ?_ ?_
      · repeat (first | with_reducible refine MacAt.drew ?_ | with_reducible refine MacAt.drewN ?_ _ | with_reducible refine MacAt.alloc ?_ _)
        exact hm1.putReg i.rd.toNat _ (by omega)
      · refine hw1.then ?_
        repeat (first | with_reducible exact Only.refl _ _ | with_reducible refine Only.set1 ?_ _ _ | with_reducible refine Only.alloc ?_ _ | with_reducible refine Only.drewN ?_ _ | with_reducible refine Only.drew ?_)
set_option maxRecDepth 100000 in
theorem load_14_align (eff : Int → Int → World → World → Prop) (b : Nat) (i : Ins) (hi : i.Ok) (s : St) (hs : s.Ok) (x : Raw) (w : World) (h : Mach w b s x) (ho : i.op = 14) (ha : ¬ u32 (s.regs i.rs1.toNat + i.imm) % 2 = 0) (hn : x.next = u32 (s.pc + 4)) :
    Calls Tryz.prog 52 #[.pointer (some ⟨b, 0, none⟩), .agg i.cells] w (DoesQ eff b s x i w) := by
  have he : exec s i = .trap s 5 := by 
    have hwd : wide i.op = 2 := by rw [ho]; rfl
    unfold exec
    dsimp only
    repeat (first | rw [if_pos (by simp; omega)] | rw [if_neg (by simp; omega)])
    rw [hwd]
    rw [if_pos ha]
  unfold Ins.cells
  obtain ⟨d0, d1⟩ := hi.rd
  obtain ⟨a0, a1⟩ := hi.rs1
  obtain ⟨c0, c1⟩ := hi.rs2
  obtain ⟨m0, m1⟩ := hi.imm
  obtain ⟨v0, v1⟩ := hs.regs i.rs1.toNat
  obtain ⟨y0, y1⟩ := hs.regs i.rs2.toNat
  obtain ⟨p0, p1⟩ := hs.pc
  have hr := h.mac.reg i.rd.toNat (by omega)
  have hr1 := h.mac.reg i.rs1.toNat (by omega)
  have hr2 := h.mac.reg i.rs2.toNat (by omega)
  have hf := h.mac.free i.rd.toNat
  have hp := h.mac.pc
  have hsz := h.mac.lt
  have HA := Lib.hid ha
  clear ha
  have HN := Lib.hid hn
  have HE := Lib.hid he
  clear hn he
  go_enter Tryz.func52, Tryz.ntmps52
  go_wp2_with fail
  refine (reach_align b i hi s hs x _ ?_ _ 2 5 6 (by omega) (by omega) HA.out).mono ?_
  · repeat (first | with_reducible refine MacAt.drew ?_ | with_reducible refine MacAt.drewN ?_ _ | with_reducible refine MacAt.alloc ?_ _)
    exact h.mac
  rintro e w1 ⟨rfl, ho1⟩
  go_wp2_with fail
  refine ⟨rfl, does_trap (x' := x) h HE.out ?_ rfl ?_⟩
  · refine ho1.heap (fun h => h) ?_
    show MacAt _ _ _ _
    repeat (first | with_reducible refine MacAt.drew ?_ | with_reducible refine MacAt.drewN ?_ _ | with_reducible refine MacAt.alloc ?_ _)
    exact h.mac
  · refine Only.then ?_ (ho1.mono (fun _ _ h => h.elim))
    repeat (first | with_reducible exact Only.refl _ _ | with_reducible refine Only.set1 ?_ _ _ | with_reducible refine Only.alloc ?_ _ | with_reducible refine Only.drewN ?_ _ | with_reducible refine Only.drew ?_)
set_option maxRecDepth 100000 in
theorem load_14_fault (eff : Int → Int → World → World → Prop) (b : Nat) (i : Ins) (hi : i.Ok) (s : St) (hs : s.Ok) (x : Raw) (w : World) (h : Mach w b s x) (ho : i.op = 14) (ha : u32 (s.regs i.rs1.toNat + i.imm) % 2 = 0) (hl : lies s (u32 (s.regs i.rs1.toNat + i.imm)) 2 = false) (hn : x.next = u32 (s.pc + 4)) :
    Calls Tryz.prog 52 #[.pointer (some ⟨b, 0, none⟩), .agg i.cells] w (DoesQ eff b s x i w) := by
  have he : exec s i = .trap s 6 := by 
    have hwd : wide i.op = 2 := by rw [ho]; rfl
    unfold exec
    dsimp only
    repeat (first | rw [if_pos (by simp; omega)] | rw [if_neg (by simp; omega)])
    rw [hwd]
    rw [if_neg (by first | (simp; done) | simpa using ha), hl]; rfl
  unfold Ins.cells
  obtain ⟨d0, d1⟩ := hi.rd
  obtain ⟨a0, a1⟩ := hi.rs1
  obtain ⟨c0, c1⟩ := hi.rs2
  obtain ⟨m0, m1⟩ := hi.imm
  obtain ⟨v0, v1⟩ := hs.regs i.rs1.toNat
  obtain ⟨y0, y1⟩ := hs.regs i.rs2.toNat
  obtain ⟨p0, p1⟩ := hs.pc
  have hr := h.mac.reg i.rd.toNat (by omega)
  have hr1 := h.mac.reg i.rs1.toNat (by omega)
  have hr2 := h.mac.reg i.rs2.toNat (by omega)
  have hf := h.mac.free i.rd.toNat
  have hp := h.mac.pc
  have hsz := h.mac.lt
  have HA := Lib.hid ha
  have HL := Lib.hid hl
  clear ha hl
  have HN := Lib.hid hn
  have HE := Lib.hid he
  clear hn he
  go_enter Tryz.func52, Tryz.ntmps52
  go_wp2_with fail
  refine (reach_fault b i hi s hs x _ ?_ _ 2 5 6 (by omega) (by omega) HA.out HL.out).mono ?_
  · repeat (first | with_reducible refine MacAt.drew ?_ | with_reducible refine MacAt.drewN ?_ _ | with_reducible refine MacAt.alloc ?_ _)
    exact h.mac
  rintro e w1 ⟨rfl, ho1⟩
  go_wp2_with fail
  refine ⟨rfl, does_trap (x' := x) h HE.out ?_ rfl ?_⟩
  · refine ho1.heap (fun h => h) ?_
    show MacAt _ _ _ _
    repeat (first | with_reducible refine MacAt.drew ?_ | with_reducible refine MacAt.drewN ?_ _ | with_reducible refine MacAt.alloc ?_ _)
    exact h.mac
  · refine Only.then ?_ (ho1.mono (fun _ _ h => h.elim))
    repeat (first | with_reducible exact Only.refl _ _ | with_reducible refine Only.set1 ?_ _ _ | with_reducible refine Only.alloc ?_ _ | with_reducible refine Only.drewN ?_ _ | with_reducible refine Only.drew ?_)
set_option maxRecDepth 100000 in
theorem load_14_ok (eff : Int → Int → World → World → Prop) (b : Nat) (i : Ins) (hi : i.Ok) (s : St) (hs : s.Ok) (x : Raw) (w : World) (h : Mach w b s x) (ho : i.op = 14) (ha : u32 (s.regs i.rs1.toNat + i.imm) % 2 = 0) (hl : lies s (u32 (s.regs i.rs1.toNat + i.imm)) 2 = true) (hn : x.next = u32 (s.pc + 4)) :
    Calls Tryz.prog 52 #[.pointer (some ⟨b, 0, none⟩), .agg i.cells] w (DoesQ eff b s x i w) := by
  have he : exec s i = .go (s.set i.rd (loadV i.op s.mem (u32 (s.regs i.rs1.toNat + i.imm)))) (u32 (s.pc + 4)) none := by 
    have hwd : wide i.op = 2 := by rw [ho]; rfl
    unfold exec
    dsimp only
    repeat (first | rw [if_pos (by simp; omega)] | rw [if_neg (by simp; omega)])
    rw [hwd]
    rw [if_neg (by first | (simp; done) | simpa using ha), hl]; rfl
  unfold Ins.cells
  obtain ⟨d0, d1⟩ := hi.rd
  obtain ⟨a0, a1⟩ := hi.rs1
  obtain ⟨c0, c1⟩ := hi.rs2
  obtain ⟨m0, m1⟩ := hi.imm
  obtain ⟨v0, v1⟩ := hs.regs i.rs1.toNat
  obtain ⟨y0, y1⟩ := hs.regs i.rs2.toNat
  obtain ⟨p0, p1⟩ := hs.pc
  have hr := h.mac.reg i.rd.toNat (by omega)
  have hr1 := h.mac.reg i.rs1.toNat (by omega)
  have hr2 := h.mac.reg i.rs2.toNat (by omega)
  have hf := h.mac.free i.rd.toNat
  have hp := h.mac.pc
  have hsz := h.mac.lt
  have hwd : wide i.op = 2 := by rw [ho]; rfl
  have hA := u32_bd (s.regs i.rs1.toNat + i.imm)
  obtain ⟨A0, A1⟩ := hA
  have H := h
  have h33 := h.mac.mem
  have hlen := hs.len
  have hl2 : u32 (s.regs i.rs1.toNat + i.imm) + 2 ≤ (s.mem.length : Int) := by unfold lies at hl; simpa using hl
  have HA := Lib.hid ha
  have HL := Lib.hid hl
  clear ha hl
  have HN := Lib.hid hn
  have HE := Lib.hid he
  clear hn he
  go_enter Tryz.func52, Tryz.ntmps52
  go_wp2_with fail
  refine (reach_ok b i hi s hs x _ ?_ _ 2 5 6 (by omega) (by omega) HA.out HL.out).mono ?_
  · repeat (first | with_reducible refine MacAt.drew ?_ | with_reducible refine MacAt.drewN ?_ _ | with_reducible refine MacAt.alloc ?_ _)
    exact h.mac
  rintro e w1 ⟨rfl, ho1⟩
  have hm1 : MacAt w1 b s x := ho1.heap (fun h => h) (show MacAt _ _ _ _ by
    repeat (first | with_reducible refine MacAt.drew ?_ | with_reducible refine MacAt.drewN ?_ _ | with_reducible refine MacAt.alloc ?_ _)
    exact h.mac)
  have hw1 : Only (· = b) w w1 := Only.then (by repeat (first | with_reducible exact Only.refl _ _ | with_reducible refine Only.set1 ?_ _ _ | with_reducible refine Only.alloc ?_ _ | with_reducible refine Only.drewN ?_ _ | with_reducible refine Only.drew ?_)) (ho1.mono (fun _ _ h => h.elim))
  have ib : InsAt w1 w.heap.size i := ho1.heap (fun h => h) (by show (World.alloc _ _).heap[_]? = _; rw [heap_alloc_new]; simp [Ins.cells, ho])
  have hmem1 := ho1.heap (fun h => h) (heap_alloc_old' _ H.mem)
  clear ho1
  have hsz1 : w.heap.size < w1.heap.size := heap_lt ib
  have k0 : w1.cell? ⟨w.heap.size, 0, none⟩ = some (.int .i64 i.op) := ib.cell 0
  have k1 : w1.cell? ⟨w.heap.size, 1, none⟩ = some (.int .i64 i.rd) := ib.cell 1
  have g33 := hm1.mem
  have gr := hm1.reg i.rd.toNat (by omega)
  have gf := hm1.free i.rd.toNat
  clear hr hr1 hr2 hf hp h33
  obtain ⟨A, hAd⟩ : ∃ A : Nat, u32 (s.regs i.rs1.toNat + i.imm) = A := ⟨(u32 (s.regs i.rs1.toNat + i.imm)).toNat, by omega⟩
  rw [hAd] at A0 A1 hl2 ⊢
  have hv : leAt s.mem (A : Int) 2 = loadV i.op s.mem (u32 (s.regs i.rs1.toNat + i.imm)) := by rw [hAd, ho]; exact lv_14 hs.mem A
  have HV := Lib.hid hv
  clear hAd hv
  go_wp2_with fail
  go_loop [6, 7] (fun v t => ∃ k : Nat, k ≤ 2 ∧ t = .int .u32 k ∧ v = .int .u32 (leAt s.mem ((A : Int) + k) (2 - k))) (fun _ t => (intOf t).toNat)
  case atStart => exact ⟨2, by decide, rfl, rfl⟩
  case round =>
    obtain ⟨k, hk, rfl, rfl⟩ := hrel
    by_cases hlt : 0 < k
    · obtain ⟨m, rfl⟩ : ∃ m, k = m + 1 := ⟨k - 1, by omega⟩
      have hcell : w1.cell? ⟨x.mb, A + m, none⟩ = some (.int .u8 (byteAt s.mem ((A : Int) + m))) := by
        have := mem_cell hmem1 (A + m) (by omega)
        simpa using this
      have hbm := byteAt_bd hs.mem ((A : Int) + m)
      go_wp2_with fail
      go_round
      case rel => exact ⟨m, by omega, rfl, congrArg (Value.int IntKind.u32) (load_step hs.mem _ _ _ _ (by omega) (by omega))⟩
      case measure => simp [intOf] <;> omega
    · obtain rfl : k = 0 := by omega
      go_wp2_with fail
      go_region
      go_end0
      rw [HV.out]
      refine does_set h hs.zero HE.out HN.out ?_ ?_
      · repeat (first | with_reducible refine MacAt.drew ?_ | with_reducible refine MacAt.drewN ?_ _ | with_reducible refine MacAt.alloc ?_ _)
        exact hm1.putReg i.rd.toNat _ (by omega)
      · refine hw1.then ?_
        repeat (first | with_reducible exact Only.refl _ _ | with_reducible refine Only.set1 ?_ _ _ | with_reducible refine Only.alloc ?_ _ | with_reducible refine Only.drewN ?_ _ | with_reducible refine Only.drew ?_)
end Go.Proofs.YtanccjaikocefaaGreatDoor
