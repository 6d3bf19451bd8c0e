/-
  The contract of 'store', an operation at a time: as the plain machine has it. Conditions: the machine lies in memory; fields are in their ranges; 'write' does what it says ('WriteSpec').
-/
import Derived.Test.YtanccjaikocefaaGreatDoorWrite
namespace Go.Proofs.YtanccjaikocefaaGreatDoor
open Go.ChangeShapes Go.WideShapes Go.ChangeAt Go.RowKit
set_option linter.unusedVariables false

def Stable (pre : World → Prop) (b : Nat) : Prop := ∀ (x : Raw) (s : St) (w w' : World), Mach w b s x → pre w → Only (Mb b x) w w' → pre w'
theorem src_of {w : World} {g : Nat} {cs : List Value} {T : TypeId} {fr : Nat × Nat} {bs : List Int} (hb : w.heap[g]? = some (.cells cs.toArray T fr)) (k : Nat) (h : bs.map (Value.int .u8) = cs.take k) : ∀ j v, (bs.map (Value.int .u8))[j]? = some v → w.cell? ⟨g, 0 + j, none⟩ = some v := by
  intro j v hj
  rw [h, List.getElem?_take] at hj
  rw [cell_of_row w g _ _ _ _ hb]
  split at hj
  · simpa using hj
  · cases hj
set_option maxRecDepth 100000 in
theorem store_15_fault (eff : Int → Int → World → World → Prop) (b : Nat) (i : Ins) (hi : i.Ok) (s : St) (hs : s.Ok) (x : Raw) (w : World) (h : Mach w b s x) (ho : i.op = 15) (ha : u32 (s.regs i.rs1.toNat + i.imm) % 1 = 0) (hl : lies s (u32 (s.regs i.rs1.toNat + i.imm)) 1 = false) (hn : x.next = u32 (s.pc + 4)) :
    Calls Tryz.prog 53 #[.pointer (some ⟨b, 0, none⟩), .agg i.cells] w (DoesQ eff b s x i w) := by
  have he : exec s i = .trap s 8 := by 
    have hwd : wide i.op = 1 := by rw [ho]; rfl
    unfold exec
    dsimp only
    repeat (first | rw [if_pos (by simp; omega)] | rw [if_neg (by simp; omega)])
    rw [hwd]
    rw [if_neg (by first | (simp; done) | simpa using ha), hl]; rfl
  unfold Ins.cells
  obtain ⟨d0, d1⟩ := hi.rd
  obtain ⟨a0, a1⟩ := hi.rs1
  obtain ⟨c0, c1⟩ := hi.rs2
  obtain ⟨m0, m1⟩ := hi.imm
  obtain ⟨v0, v1⟩ := hs.regs i.rs1.toNat
  obtain ⟨y0, y1⟩ := hs.regs i.rs2.toNat
  obtain ⟨p0, p1⟩ := hs.pc
  have hr := h.mac.reg i.rd.toNat (by omega)
  have hr1 := h.mac.reg i.rs1.toNat (by omega)
  have hr2 := h.mac.reg i.rs2.toNat (by omega)
  have hf := h.mac.free i.rd.toNat
  have hp := h.mac.pc
  have hsz := h.mac.lt
  have HA := Lib.hid ha
  have HL := Lib.hid hl
  clear ha hl
  have HN := Lib.hid hn
  have HE := Lib.hid he
  clear hn he
  go_enter Tryz.func53, Tryz.ntmps53
  go_wp2_with fail
  refine (reach_fault b i hi s hs x _ ?_ _ 1 7 8 (by omega) (by omega) HA.out HL.out).mono ?_
  · repeat (first | with_reducible refine MacAt.drew ?_ | with_reducible refine MacAt.drewN ?_ _ | with_reducible refine MacAt.alloc ?_ _)
    exact h.mac
  rintro e w1 ⟨rfl, ho1⟩
  go_wp2_with fail
  refine ⟨rfl, does_trap (x' := x) h HE.out ?_ rfl ?_⟩
  · refine ho1.heap (fun h => h) ?_
    show MacAt _ _ _ _
    repeat (first | with_reducible refine MacAt.drew ?_ | with_reducible refine MacAt.drewN ?_ _ | with_reducible refine MacAt.alloc ?_ _)
    exact h.mac
  · refine Only.then ?_ (ho1.mono (fun _ _ h => h.elim))
    repeat (first | with_reducible exact Only.refl _ _ | with_reducible refine Only.set1 ?_ _ _ | with_reducible refine Only.alloc ?_ _ | with_reducible refine Only.drewN ?_ _ | with_reducible refine Only.drew ?_)
set_option maxRecDepth 100000 in
theorem store_15_ok (eff : Int → Int → World → World → Prop) (b : Nat) (i : Ins) (hi : i.Ok) (s : St) (hs : s.Ok) (x : Raw) (w : World) (h : Mach w b s x) (clo : Value) (pre : World → Prop) (hW : WriteSpec eff b clo pre) (hst : Stable pre b) (hclo : x.wrote = clo) (hpre : pre w) (ho : i.op = 15) (ha : u32 (s.regs i.rs1.toNat + i.imm) % 1 = 0) (hl : lies s (u32 (s.regs i.rs1.toNat + i.imm)) 1 = true) (hn : x.next = u32 (s.pc + 4)) :
    Calls Tryz.prog 53 #[.pointer (some ⟨b, 0, none⟩), .agg i.cells] w (DoesQ eff b s x i w) := by
  have he : exec s i = .go { s with mem := putAt s.mem (u32 (s.regs i.rs1.toNat + i.imm)) (storeB 15 (s.regs i.rs2.toNat)) } (u32 (s.pc + 4)) (some ((u32 (s.regs i.rs1.toNat + i.imm)) / 64, ((u32 (s.regs i.rs1.toNat + i.imm)) + 1 - 1) / 64)) := by 
    have hwd : wide i.op = 1 := by rw [ho]; rfl
    unfold exec
    dsimp only
    repeat (first | rw [if_pos (by simp; omega)] | rw [if_neg (by simp; omega)])
    rw [hwd]
    rw [if_neg (by first | (simp; done) | simpa using ha), hl]; simp [wrOf, ho]
  unfold Ins.cells
  obtain ⟨d0, d1⟩ := hi.rd
  obtain ⟨a0, a1⟩ := hi.rs1
  obtain ⟨c0, c1⟩ := hi.rs2
  obtain ⟨m0, m1⟩ := hi.imm
  obtain ⟨v0, v1⟩ := hs.regs i.rs1.toNat
  obtain ⟨y0, y1⟩ := hs.regs i.rs2.toNat
  obtain ⟨p0, p1⟩ := hs.pc
  have hr := h.mac.reg i.rd.toNat (by omega)
  have hr1 := h.mac.reg i.rs1.toNat (by omega)
  have hr2 := h.mac.reg i.rs2.toNat (by omega)
  have hf := h.mac.free i.rd.toNat
  have hp := h.mac.pc
  have hsz := h.mac.lt
  have hA := u32_bd (s.regs i.rs1.toNat + i.imm)
  obtain ⟨A0, A1⟩ := hA
  have H := h
  have hlen := hs.len
  have hl2 : u32 (s.regs i.rs1.toNat + i.imm) + 1 ≤ (s.mem.length : Int) := by unfold lies at hl; simpa using hl
  have HA := Lib.hid ha
  have HL := Lib.hid hl
  have HC := Lib.hid hclo
  clear ha hl hclo
  have HN := Lib.hid hn
  have HE := Lib.hid he
  clear hn he
  go_enter Tryz.func53, Tryz.ntmps53
  go_wp2_with fail
  refine (reach_ok b i hi s hs x _ ?_ _ 1 7 8 (by omega) (by omega) HA.out HL.out).mono ?_
  · repeat (first | with_reducible refine MacAt.drew ?_ | with_reducible refine MacAt.drewN ?_ _ | with_reducible refine MacAt.alloc ?_ _)
    exact h.mac
  rintro e w1 ⟨rfl, ho1⟩
  have hM1 : Mach w1 b s x := (H.only (S := fun _ => False) ((Only.refl _ w).alloc _) (fun h => h) (fun h => h) (fun h => h) (fun _ _ h => h)).only ho1 (fun h => h) (fun h => h) (fun h => h) (fun _ _ h => h)
  have hw1 : Only (fun _ => False) w w1 := ((Only.refl _ w).alloc _).then ho1
  have ib : InsAt w1 w.heap.size i := ho1.heap (fun h => h) (by show (World.alloc _ _).heap[_]? = _; rw [heap_alloc_new]; simp [Ins.cells, ho])
  clear ho1
  have hsz1 : w.heap.size < w1.heap.size := heap_lt ib
  have k3 : w1.cell? ⟨w.heap.size, 3, none⟩ = some (.int .i64 i.rs2) := ib.cell 3
  have gr2 := hM1.mac.reg i.rs2.toNat (by omega)
  clear hr hr1 hr2 hf hp
  obtain ⟨A, hAd⟩ : ∃ A : Nat, u32 (s.regs i.rs1.toNat + i.imm) = A := ⟨(u32 (s.regs i.rs1.toNat + i.imm)).toNat, by omega⟩
  have HD := Lib.hid hAd
  rw [hAd] at A0 A1 hl2 ⊢
  clear hAd
  go_wp2_with fail
  go_quiet (fail)
  go_wp2_with fail
  have hO4 : Only (fun _ => False) w1 ((w1.drewN nq).alloc (.cells #[.int .u8 (s.regs i.rs2.toNat % 256), .int .u8 (s.regs i.rs2.toNat / 256 % 256), .int .u8 (s.regs i.rs2.toNat / 65536 % 256), .int .u8 (s.regs i.rs2.toNat / 16777216)] 5)) := ((Only.refl _ w1).drewN _).alloc _
  have hM4 := hM1.only hO4 (fun h => h) (fun h => h) (fun h => h) (fun _ _ h => h)
  have hb4 : ((w1.drewN nq).alloc (.cells #[.int .u8 (s.regs i.rs2.toNat % 256), .int .u8 (s.regs i.rs2.toNat / 256 % 256), .int .u8 (s.regs i.rs2.toNat / 65536 % 256), .int .u8 (s.regs i.rs2.toNat / 16777216)] 5)).heap[w1.heap.size]? = some (.cells [Value.int .u8 (s.regs i.rs2.toNat % 256), .int .u8 (s.regs i.rs2.toNat / 256 % 256), .int .u8 (s.regs i.rs2.toNat / 65536 % 256), .int .u8 (s.regs i.rs2.toNat / 16777216)].toArray 5 (0, 0)) := heap_alloc_new _ _
  have hbs : storeB 15 (s.regs i.rs2.toNat) = [s.regs i.rs2.toNat % 256] := by rfl
  have hsw : Only (fun _ => False) w _ := hw1.then hO4
  refine (hW s x A [s.regs i.rs2.toNat % 256] w1.heap.size 0 4 _ hM4 HC.out (hst x s w _ H hpre (hsw.mono (fun _ _ h => h.elim))) hlen (by simp; omega) (src_of hb4 1 rfl) (by simp)).mono ?_
  rintro e w5 ⟨rfl, hM5, _, _, hne⟩
  obtain ⟨w6, ho6, he6⟩ := hne (by simp)
  clear hO4 hM4 hb4 ib k3 gr2
  go_wp2_with fail
  go_end0
  unfold DoesQ
  rw [HE.out, HD.out, hbs]
  refine ⟨rfl, _, x, hM5, clr_self _ hs.zero, HN.out, Keep.refl _ _, w6, w5, ((hsw.mono (fun _ _ h => h.elim)).then ho6), ?_, Only.refl _ _⟩
  simpa using he6
set_option maxRecDepth 100000 in
theorem store_16_align (eff : Int → Int → World → World → Prop) (b : Nat) (i : Ins) (hi : i.Ok) (s : St) (hs : s.Ok) (x : Raw) (w : World) (h : Mach w b s x) (ho : i.op = 16) (ha : ¬ u32 (s.regs i.rs1.toNat + i.imm) % 2 = 0) (hn : x.next = u32 (s.pc + 4)) :
    Calls Tryz.prog 53 #[.pointer (some ⟨b, 0, none⟩), .agg i.cells] w (DoesQ eff b s x i w) := by
  have he : exec s i = .trap s 7 := by 
    have hwd : wide i.op = 2 := by rw [ho]; rfl
    unfold exec
    dsimp only
    repeat (first | rw [if_pos (by simp; omega)] | rw [if_neg (by simp; omega)])
    rw [hwd]
    rw [if_pos ha]
  unfold Ins.cells
  obtain ⟨d0, d1⟩ := hi.rd
  obtain ⟨a0, a1⟩ := hi.rs1
  obtain ⟨c0, c1⟩ := hi.rs2
  obtain ⟨m0, m1⟩ := hi.imm
  obtain ⟨v0, v1⟩ := hs.regs i.rs1.toNat
  obtain ⟨y0, y1⟩ := hs.regs i.rs2.toNat
  obtain ⟨p0, p1⟩ := hs.pc
  have hr := h.mac.reg i.rd.toNat (by omega)
  have hr1 := h.mac.reg i.rs1.toNat (by omega)
  have hr2 := h.mac.reg i.rs2.toNat (by omega)
  have hf := h.mac.free i.rd.toNat
  have hp := h.mac.pc
  have hsz := h.mac.lt
  have HA := Lib.hid ha
  clear ha
  have HN := Lib.hid hn
  have HE := Lib.hid he
  clear hn he
  go_enter Tryz.func53, Tryz.ntmps53
  go_wp2_with fail
  refine (reach_align b i hi s hs x _ ?_ _ 2 7 8 (by omega) (by omega) HA.out).mono ?_
  · repeat (first | with_reducible refine MacAt.drew ?_ | with_reducible refine MacAt.drewN ?_ _ | with_reducible refine MacAt.alloc ?_ _)
    exact h.mac
  rintro e w1 ⟨rfl, ho1⟩
  go_wp2_with fail
  refine ⟨rfl, does_trap (x' := x) h HE.out ?_ rfl ?_⟩
  · refine ho1.heap (fun h => h) ?_
    show MacAt _ _ _ _
    repeat (first | with_reducible refine MacAt.drew ?_ | with_reducible refine MacAt.drewN ?_ _ | with_reducible refine MacAt.alloc ?_ _)
    exact h.mac
  · refine Only.then ?_ (ho1.mono (fun _ _ h => h.elim))
    repeat (first | with_reducible exact Only.refl _ _ | with_reducible refine Only.set1 ?_ _ _ | with_reducible refine Only.alloc ?_ _ | with_reducible refine Only.drewN ?_ _ | with_reducible refine Only.drew ?_)
set_option maxRecDepth 100000 in
theorem store_16_fault (eff : Int → Int → World → World → Prop) (b : Nat) (i : Ins) (hi : i.Ok) (s : St) (hs : s.Ok) (x : Raw) (w : World) (h : Mach w b s x) (ho : i.op = 16) (ha : u32 (s.regs i.rs1.toNat + i.imm) % 2 = 0) (hl : lies s (u32 (s.regs i.rs1.toNat + i.imm)) 2 = false) (hn : x.next = u32 (s.pc + 4)) :
    Calls Tryz.prog 53 #[.pointer (some ⟨b, 0, none⟩), .agg i.cells] w (DoesQ eff b s x i w) := by
  have he : exec s i = .trap s 8 := by 
    have hwd : wide i.op = 2 := by rw [ho]; rfl
    unfold exec
    dsimp only
    repeat (first | rw [if_pos (by simp; omega)] | rw [if_neg (by simp; omega)])
    rw [hwd]
    rw [if_neg (by first | (simp; done) | simpa using ha), hl]; rfl
  unfold Ins.cells
  obtain ⟨d0, d1⟩ := hi.rd
  obtain ⟨a0, a1⟩ := hi.rs1
  obtain ⟨c0, c1⟩ := hi.rs2
  obtain ⟨m0, m1⟩ := hi.imm
  obtain ⟨v0, v1⟩ := hs.regs i.rs1.toNat
  obtain ⟨y0, y1⟩ := hs.regs i.rs2.toNat
  obtain ⟨p0, p1⟩ := hs.pc
  have hr := h.mac.reg i.rd.toNat (by omega)
  have hr1 := h.mac.reg i.rs1.toNat (by omega)
  have hr2 := h.mac.reg i.rs2.toNat (by omega)
  have hf := h.mac.free i.rd.toNat
  have hp := h.mac.pc
  have hsz := h.mac.lt
  have HA := Lib.hid ha
  have HL := Lib.hid hl
  clear ha hl
  have HN := Lib.hid hn
  have HE := Lib.hid he
  clear hn he
  go_enter Tryz.func53, Tryz.ntmps53
  go_wp2_with fail
  refine (reach_fault b i hi s hs x _ ?_ _ 2 7 8 (by omega) (by omega) HA.out HL.out).mono ?_
  · repeat (first | with_reducible refine MacAt.drew ?_ | with_reducible refine MacAt.drewN ?_ _ | with_reducible refine MacAt.alloc ?_ _)
    exact h.mac
  rintro e w1 ⟨rfl, ho1⟩
  go_wp2_with fail
  refine ⟨rfl, does_trap (x' := x) h HE.out ?_ rfl ?_⟩
  · refine ho1.heap (fun h => h) ?_
    show MacAt _ _ _ _
    repeat (first | with_reducible refine MacAt.drew ?_ | with_reducible refine MacAt.drewN ?_ _ | with_reducible refine MacAt.alloc ?_ _)
    exact h.mac
  · refine Only.then ?_ (ho1.mono (fun _ _ h => h.elim))
    repeat (first | with_reducible exact Only.refl _ _ | with_reducible refine Only.set1 ?_ _ _ | with_reducible refine Only.alloc ?_ _ | with_reducible refine Only.drewN ?_ _ | with_reducible refine Only.drew ?_)
set_option maxRecDepth 100000 in
theorem store_16_ok (eff : Int → Int → World → World → Prop) (b : Nat) (i : Ins) (hi : i.Ok) (s : St) (hs : s.Ok) (x : Raw) (w : World) (h : Mach w b s x) (clo : Value) (pre : World → Prop) (hW : WriteSpec eff b clo pre) (hst : Stable pre b) (hclo : x.wrote = clo) (hpre : pre w) (ho : i.op = 16) (ha : u32 (s.regs i.rs1.toNat + i.imm) % 2 = 0) (hl : lies s (u32 (s.regs i.rs1.toNat + i.imm)) 2 = true) (hn : x.next = u32 (s.pc + 4)) :
    Calls Tryz.prog 53 #[.pointer (some ⟨b, 0, none⟩), .agg i.cells] w (DoesQ eff b s x i w) := by
  have he : exec s i = .go { s with mem := putAt s.mem (u32 (s.regs i.rs1.toNat + i.imm)) (storeB 16 (s.regs i.rs2.toNat)) } (u32 (s.pc + 4)) (some ((u32 (s.regs i.rs1.toNat + i.imm)) / 64, ((u32 (s.regs i.rs1.toNat + i.imm)) + 2 - 1) / 64)) := by 
    have hwd : wide i.op = 2 := by rw [ho]; rfl
    unfold exec
    dsimp only
    repeat (first | rw [if_pos (by simp; omega)] | rw [if_neg (by simp; omega)])
    rw [hwd]
    rw [if_neg (by first | (simp; done) | simpa using ha), hl]; simp [wrOf, ho]
  unfold Ins.cells
  obtain ⟨d0, d1⟩ := hi.rd
  obtain ⟨a0, a1⟩ := hi.rs1
  obtain ⟨c0, c1⟩ := hi.rs2
  obtain ⟨m0, m1⟩ := hi.imm
  obtain ⟨v0, v1⟩ := hs.regs i.rs1.toNat
  obtain ⟨y0, y1⟩ := hs.regs i.rs2.toNat
  obtain ⟨p0, p1⟩ := hs.pc
  have hr := h.mac.reg i.rd.toNat (by omega)
  have hr1 := h.mac.reg i.rs1.toNat (by omega)
  have hr2 := h.mac.reg i.rs2.toNat (by omega)
  have hf := h.mac.free i.rd.toNat
  have hp := h.mac.pc
  have hsz := h.mac.lt
  have hA := u32_bd (s.regs i.rs1.toNat + i.imm)
  obtain ⟨A0, A1⟩ := hA
  have H := h
  have hlen := hs.len
  have hl2 : u32 (s.regs i.rs1.toNat + i.imm) + 2 ≤ (s.mem.length : Int) := by unfold lies at hl; simpa using hl
  have HA := Lib.hid ha
  have HL := Lib.hid hl
  have HC := Lib.hid hclo
  clear ha hl hclo
  have HN := Lib.hid hn
  have HE := Lib.hid he
  clear hn he
  go_enter Tryz.func53, Tryz.ntmps53
  go_wp2_with fail
  refine (reach_ok b i hi s hs x _ ?_ _ 2 7 8 (by omega) (by omega) HA.out HL.out).mono ?_
  · repeat (first | with_reducible refine MacAt.drew ?_ | with_reducible refine MacAt.drewN ?_ _ | with_reducible refine MacAt.alloc ?_ _)
    exact h.mac
  rintro e w1 ⟨rfl, ho1⟩
  have hM1 : Mach w1 b s x := (H.only (S := fun _ => False) ((Only.refl _ w).alloc _) (fun h => h) (fun h => h) (fun h => h) (fun _ _ h => h)).only ho1 (fun h => h) (fun h => h) (fun h => h) (fun _ _ h => h)
  have hw1 : Only (fun _ => False) w w1 := ((Only.refl _ w).alloc _).then ho1
  have ib : InsAt w1 w.heap.size i := ho1.heap (fun h => h) (by show (World.alloc _ _).heap[_]? = _; rw [heap_alloc_new]; simp [Ins.cells, ho])
  clear ho1
  have hsz1 : w.heap.size < w1.heap.size := heap_lt ib
  have k3 : w1.cell? ⟨w.heap.size, 3, none⟩ = some (.int .i64 i.rs2) := ib.cell 3
  have gr2 := hM1.mac.reg i.rs2.toNat (by omega)
  clear hr hr1 hr2 hf hp
  obtain ⟨A, hAd⟩ : ∃ A : Nat, u32 (s.regs i.rs1.toNat + i.imm) = A := ⟨(u32 (s.regs i.rs1.toNat + i.imm)).toNat, by omega⟩
  have HD := Lib.hid hAd
  rw [hAd] at A0 A1 hl2 ⊢
  clear hAd
  go_wp2_with fail
  go_quiet (fail)
  go_wp2_with fail
  have hO4 : Only (fun _ => False) w1 ((w1.drewN nq).alloc (.cells #[.int .u8 (s.regs i.rs2.toNat % 256), .int .u8 (s.regs i.rs2.toNat / 256 % 256), .int .u8 (s.regs i.rs2.toNat / 65536 % 256), .int .u8 (s.regs i.rs2.toNat / 16777216)] 5)) := ((Only.refl _ w1).drewN _).alloc _
  have hM4 := hM1.only hO4 (fun h => h) (fun h => h) (fun h => h) (fun _ _ h => h)
  have hb4 : ((w1.drewN nq).alloc (.cells #[.int .u8 (s.regs i.rs2.toNat % 256), .int .u8 (s.regs i.rs2.toNat / 256 % 256), .int .u8 (s.regs i.rs2.toNat / 65536 % 256), .int .u8 (s.regs i.rs2.toNat / 16777216)] 5)).heap[w1.heap.size]? = some (.cells [Value.int .u8 (s.regs i.rs2.toNat % 256), .int .u8 (s.regs i.rs2.toNat / 256 % 256), .int .u8 (s.regs i.rs2.toNat / 65536 % 256), .int .u8 (s.regs i.rs2.toNat / 16777216)].toArray 5 (0, 0)) := heap_alloc_new _ _
  have hbs : storeB 16 (s.regs i.rs2.toNat) = [s.regs i.rs2.toNat % 256, s.regs i.rs2.toNat / 256 % 256] := by rfl
  have hsw : Only (fun _ => False) w _ := hw1.then hO4
  refine (hW s x A [s.regs i.rs2.toNat % 256, s.regs i.rs2.toNat / 256 % 256] w1.heap.size 0 4 _ hM4 HC.out (hst x s w _ H hpre (hsw.mono (fun _ _ h => h.elim))) hlen (by simp; omega) (src_of hb4 2 rfl) (by simp)).mono ?_
  rintro e w5 ⟨rfl, hM5, _, _, hne⟩
  obtain ⟨w6, ho6, he6⟩ := hne (by simp)
  clear hO4 hM4 hb4 ib k3 gr2
  go_wp2_with fail
  go_end0
  unfold DoesQ
  rw [HE.out, HD.out, hbs]
  refine ⟨rfl, _, x, hM5, clr_self _ hs.zero, HN.out, Keep.refl _ _, w6, w5, ((hsw.mono (fun _ _ h => h.elim)).then ho6), ?_, Only.refl _ _⟩
  simpa using he6
set_option maxRecDepth 100000 in
theorem store_17_align (eff : Int → Int → World → World → Prop) (b : Nat) (i : Ins) (hi : i.Ok) (s : St) (hs : s.Ok) (x : Raw) (w : World) (h : Mach w b s x) (ho : i.op = 17) (ha : ¬ u32 (s.regs i.rs1.toNat + i.imm) % 4 = 0) (hn : x.next = u32 (s.pc + 4)) :
    Calls Tryz.prog 53 #[.pointer (some ⟨b, 0, none⟩), .agg i.cells] w (DoesQ eff b s x i w) := by
  have he : exec s i = .trap s 7 := by 
    have hwd : wide i.op = 4 := by rw [ho]; rfl
    unfold exec
    dsimp only
    repeat (first | rw [if_pos (by simp; omega)] | rw [if_neg (by simp; omega)])
    rw [hwd]
    rw [if_pos ha]
  unfold Ins.cells
  obtain ⟨d0, d1⟩ := hi.rd
  obtain ⟨a0, a1⟩ := hi.rs1
  obtain ⟨c0, c1⟩ := hi.rs2
  obtain ⟨m0, m1⟩ := hi.imm
  obtain ⟨v0, v1⟩ := hs.regs i.rs1.toNat
  obtain ⟨y0, y1⟩ := hs.regs i.rs2.toNat
  obtain ⟨p0, p1⟩ := hs.pc
  have hr := h.mac.reg i.rd.toNat (by omega)
  have hr1 := h.mac.reg i.rs1.toNat (by omega)
  have hr2 := h.mac.reg i.rs2.toNat (by omega)
  have hf := h.mac.free i.rd.toNat
  have hp := h.mac.pc
  have hsz := h.mac.lt
  have HA := Lib.hid ha
  clear ha
  have HN := Lib.hid hn
  have HE := Lib.hid he
  clear hn he
  go_enter Tryz.func53, Tryz.ntmps53
  go_wp2_with fail
  refine (reach_align b i hi s hs x _ ?_ _ 4 7 8 (by omega) (by omega) HA.out).mono ?_
  · repeat (first | with_reducible refine MacAt.drew ?_ | with_reducible refine MacAt.drewN ?_ _ | with_reducible refine MacAt.alloc ?_ _)
    exact h.mac
  rintro e w1 ⟨rfl, ho1⟩
  go_wp2_with fail
  refine ⟨rfl, does_trap (x' := x) h HE.out ?_ rfl ?_⟩
  · refine ho1.heap (fun h => h) ?_
    show MacAt _ _ _ _
    repeat (first | with_reducible refine MacAt.drew ?_ | with_reducible refine MacAt.drewN ?_ _ | with_reducible refine MacAt.alloc ?_ _)
    exact h.mac
  · refine Only.then ?_ (ho1.mono (fun _ _ h => h.elim))
    repeat (first | with_reducible exact Only.refl _ _ | with_reducible refine Only.set1 ?_ _ _ | with_reducible refine Only.alloc ?_ _ | with_reducible refine Only.drewN ?_ _ | with_reducible refine Only.drew ?_)
set_option maxRecDepth 100000 in
theorem store_17_fault (eff : Int → Int → World → World → Prop) (b : Nat) (i : Ins) (hi : i.Ok) (s : St) (hs : s.Ok) (x : Raw) (w : World) (h : Mach w b s x) (ho : i.op = 17) (ha : u32 (s.regs i.rs1.toNat + i.imm) % 4 = 0) (hl : lies s (u32 (s.regs i.rs1.toNat + i.imm)) 4 = false) (hn : x.next = u32 (s.pc + 4)) :
    Calls Tryz.prog 53 #[.pointer (some ⟨b, 0, none⟩), .agg i.cells] w (DoesQ eff b s x i w) := by
  have he : exec s i = .trap s 8 := by 
    have hwd : wide i.op = 4 := by rw [ho]; rfl
    unfold exec
    dsimp only
    repeat (first | rw [if_pos (by simp; omega)] | rw [if_neg (by simp; omega)])
    rw [hwd]
    rw [if_neg (by first | (simp; done) | simpa using ha), hl]; rfl
  unfold Ins.cells
  obtain ⟨d0, d1⟩ := hi.rd
  obtain ⟨a0, a1⟩ := hi.rs1
  obtain ⟨c0, c1⟩ := hi.rs2
  obtain ⟨m0, m1⟩ := hi.imm
  obtain ⟨v0, v1⟩ := hs.regs i.rs1.toNat
  obtain ⟨y0, y1⟩ := hs.regs i.rs2.toNat
  obtain ⟨p0, p1⟩ := hs.pc
  have hr := h.mac.reg i.rd.toNat (by omega)
  have hr1 := h.mac.reg i.rs1.toNat (by omega)
  have hr2 := h.mac.reg i.rs2.toNat (by omega)
  have hf := h.mac.free i.rd.toNat
  have hp := h.mac.pc
  have hsz := h.mac.lt
  have HA := Lib.hid ha
  have HL := Lib.hid hl
  clear ha hl
  have HN := Lib.hid hn
  have HE := Lib.hid he
  clear hn he
  go_enter Tryz.func53, Tryz.ntmps53
  go_wp2_with fail
  refine (reach_fault b i hi s hs x _ ?_ _ 4 7 8 (by omega) (by omega) HA.out HL.out).mono ?_
  · repeat (first | with_reducible refine MacAt.drew ?_ | with_reducible refine MacAt.drewN ?_ _ | with_reducible refine MacAt.alloc ?_ _)
    exact h.mac
  rintro e w1 ⟨rfl, ho1⟩
  go_wp2_with fail
  refine ⟨rfl, does_trap (x' := x) h HE.out ?_ rfl ?_⟩
  · refine ho1.heap (fun h => h) ?_
    show MacAt _ _ _ _
    repeat (first | with_reducible refine MacAt.drew ?_ | with_reducible refine MacAt.drewN ?_ _ | with_reducible refine MacAt.alloc ?_ _)
    exact h.mac
  · refine Only.then ?_ (ho1.mono (fun _ _ h => h.elim))
    repeat (first | with_reducible exact Only.refl _ _ | with_reducible refine Only.set1 ?_ _ _ | with_reducible refine Only.alloc ?_ _ | with_reducible refine Only.drewN ?_ _ | with_reducible refine Only.drew ?_)
set_option maxRecDepth 100000 in
theorem store_17_ok (eff : Int → Int → World → World → Prop) (b : Nat) (i : Ins) (hi : i.Ok) (s : St) (hs : s.Ok) (x : Raw) (w : World) (h : Mach w b s x) (clo : Value) (pre : World → Prop) (hW : WriteSpec eff b clo pre) (hst : Stable pre b) (hclo : x.wrote = clo) (hpre : pre w) (ho : i.op = 17) (ha : u32 (s.regs i.rs1.toNat + i.imm) % 4 = 0) (hl : lies s (u32 (s.regs i.rs1.toNat + i.imm)) 4 = true) (hn : x.next = u32 (s.pc + 4)) :
    Calls Tryz.prog 53 #[.pointer (some ⟨b, 0, none⟩), .agg i.cells] w (DoesQ eff b s x i w) := by
  have he : exec s i = .go { s with mem := putAt s.mem (u32 (s.regs i.rs1.toNat + i.imm)) (storeB 17 (s.regs i.rs2.toNat)) } (u32 (s.pc + 4)) (some ((u32 (s.regs i.rs1.toNat + i.imm)) / 64, ((u32 (s.regs i.rs1.toNat + i.imm)) + 4 - 1) / 64)) := by 
    have hwd : wide i.op = 4 := by rw [ho]; rfl
    unfold exec
    dsimp only
    repeat (first | rw [if_pos (by simp; omega)] | rw [if_neg (by simp; omega)])
    rw [hwd]
    rw [if_neg (by first | (simp; done) | simpa using ha), hl]; simp [wrOf, ho]
  unfold Ins.cells
  obtain ⟨d0, d1⟩ := hi.rd
  obtain ⟨a0, a1⟩ := hi.rs1
  obtain ⟨c0, c1⟩ := hi.rs2
  obtain ⟨m0, m1⟩ := hi.imm
  obtain ⟨v0, v1⟩ := hs.regs i.rs1.toNat
  obtain ⟨y0, y1⟩ := hs.regs i.rs2.toNat
  obtain ⟨p0, p1⟩ := hs.pc
  have hr := h.mac.reg i.rd.toNat (by omega)
  have hr1 := h.mac.reg i.rs1.toNat (by omega)
  have hr2 := h.mac.reg i.rs2.toNat (by omega)
  have hf := h.mac.free i.rd.toNat
  have hp := h.mac.pc
  have hsz := h.mac.lt
  have hA := u32_bd (s.regs i.rs1.toNat + i.imm)
  obtain ⟨A0, A1⟩ := hA
  have H := h
  have hlen := hs.len
  have hl2 : u32 (s.regs i.rs1.toNat + i.imm) + 4 ≤ (s.mem.length : Int) := by unfold lies at hl; simpa using hl
  have HA := Lib.hid ha
  have HL := Lib.hid hl
  have HC := Lib.hid hclo
  clear ha hl hclo
  have HN := Lib.hid hn
  have HE := Lib.hid he
  clear hn he
  go_enter Tryz.func53, Tryz.ntmps53
  go_wp2_with fail
  refine (reach_ok b i hi s hs x _ ?_ _ 4 7 8 (by omega) (by omega) HA.out HL.out).mono ?_
  · repeat (first | with_reducible refine MacAt.drew ?_ | with_reducible refine MacAt.drewN ?_ _ | with_reducible refine MacAt.alloc ?_ _)
    exact h.mac
  rintro e w1 ⟨rfl, ho1⟩
  have hM1 : Mach w1 b s x := (H.only (S := fun _ => False) ((Only.refl _ w).alloc _) (fun h => h) (fun h => h) (fun h => h) (fun _ _ h => h)).only ho1 (fun h => h) (fun h => h) (fun h => h) (fun _ _ h => h)
  have hw1 : Only (fun _ => False) w w1 := ((Only.refl _ w).alloc _).then ho1
  have ib : InsAt w1 w.heap.size i := ho1.heap (fun h => h) (by show (World.alloc _ _).heap[_]? = _; rw [heap_alloc_new]; simp [Ins.cells, ho])
  clear ho1
  have hsz1 : w.heap.size < w1.heap.size := heap_lt ib
  have k3 : w1.cell? ⟨w.heap.size, 3, none⟩ = some (.int .i64 i.rs2) := ib.cell 3
  have gr2 := hM1.mac.reg i.rs2.toNat (by omega)
  clear hr hr1 hr2 hf hp
  obtain ⟨A, hAd⟩ : ∃ A : Nat, u32 (s.regs i.rs1.toNat + i.imm) = A := ⟨(u32 (s.regs i.rs1.toNat + i.imm)).toNat, by omega⟩
  have HD := Lib.hid hAd
  rw [hAd] at A0 A1 hl2 ⊢
  clear hAd
  go_wp2_with fail
  go_quiet (fail)
  go_wp2_with fail
  have hO4 : Only (fun _ => False) w1 ((w1.drewN nq).alloc (.cells #[.int .u8 (s.regs i.rs2.toNat % 256), .int .u8 (s.regs i.rs2.toNat / 256 % 256), .int .u8 (s.regs i.rs2.toNat / 65536 % 256), .int .u8 (s.regs i.rs2.toNat / 16777216)] 5)) := ((Only.refl _ w1).drewN _).alloc _
  have hM4 := hM1.only hO4 (fun h => h) (fun h => h) (fun h => h) (fun _ _ h => h)
  have hb4 : ((w1.drewN nq).alloc (.cells #[.int .u8 (s.regs i.rs2.toNat % 256), .int .u8 (s.regs i.rs2.toNat / 256 % 256), .int .u8 (s.regs i.rs2.toNat / 65536 % 256), .int .u8 (s.regs i.rs2.toNat / 16777216)] 5)).heap[w1.heap.size]? = some (.cells [Value.int .u8 (s.regs i.rs2.toNat % 256), .int .u8 (s.regs i.rs2.toNat / 256 % 256), .int .u8 (s.regs i.rs2.toNat / 65536 % 256), .int .u8 (s.regs i.rs2.toNat / 16777216)].toArray 5 (0, 0)) := heap_alloc_new _ _
  have hbs : storeB 17 (s.regs i.rs2.toNat) = [s.regs i.rs2.toNat % 256, s.regs i.rs2.toNat / 256 % 256, s.regs i.rs2.toNat / 65536 % 256, s.regs i.rs2.toNat / 16777216] := by simp only [storeB, wide]; simp; omega
  have hsw : Only (fun _ => False) w _ := hw1.then hO4
  refine (hW s x A [s.regs i.rs2.toNat % 256, s.regs i.rs2.toNat / 256 % 256, s.regs i.rs2.toNat / 65536 % 256, s.regs i.rs2.toNat / 16777216] w1.heap.size 0 4 _ hM4 HC.out (hst x s w _ H hpre (hsw.mono (fun _ _ h => h.elim))) hlen (by simp; omega) (src_of hb4 4 rfl) (by simp)).mono ?_
  rintro e w5 ⟨rfl, hM5, _, _, hne⟩
  obtain ⟨w6, ho6, he6⟩ := hne (by simp)
  clear hO4 hM4 hb4 ib k3 gr2
  go_wp2_with fail
  go_end0
  unfold DoesQ
  rw [HE.out, HD.out, hbs]
  refine ⟨rfl, _, x, hM5, clr_self _ hs.zero, HN.out, Keep.refl _ _, w6, w5, ((hsw.mono (fun _ _ h => h.elim)).then ho6), ?_, Only.refl _ _⟩
  simpa using he6
end Go.Proofs.YtanccjaikocefaaGreatDoor
