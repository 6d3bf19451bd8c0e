/-
  What each method that does instructions does, for all its operations: as the plain machine has it ('exec'). Conditions: the machine lies in memory; fields are in their ranges; 'write' does what it says ('WriteSpec').
-/
import Derived.Test.YtanccjaikocefaaDoorMeth2
import Derived.Test.YtanccjaikocefaaDoorLoad
import Derived.Test.YtanccjaikocefaaDoorCall2
namespace Go.Proofs.YtanccjaikocefaaDoor
open Go.ChangeShapes Go.WideShapes Go.ChangeAt Go.RowKit
set_option linter.unusedVariables false

theorem does_upper (eff : Int → Int → World → World → Prop) (b : Nat) (clo : Value) (pre : World → Prop) (hW : WriteSpec eff b clo pre) (hst : Stable pre b) (i : Ins) (hi : i.Ok) (s : St) (hs : s.Ok) (hev : s.evs.length ≤ 1000000) (hs0 : 0 ≤ s.steps) (hs1 : s.steps ≤ 10000) (x : Raw) (hclo : x.wrote = clo) (w : World) (h : Mach w b s x) (hpre : pre w) (hn : x.next = u32 (s.pc + 4)) (h0 : 0 ≤ i.op) (h1 : i.op ≤ 1) :
    Calls Tryd.prog 50 #[.pointer (some ⟨b, 0, none⟩), .agg i.cells] w (DoesQ eff b s x i w) := by
  by_cases e : i.op = 0
  · exact upper_0 eff b i hi s hs x w h e hn
  · exact upper_1 eff b i hi s hs x w h (by omega) hn
theorem does_jump (eff : Int → Int → World → World → Prop) (b : Nat) (clo : Value) (pre : World → Prop) (hW : WriteSpec eff b clo pre) (hst : Stable pre b) (i : Ins) (hi : i.Ok) (s : St) (hs : s.Ok) (hev : s.evs.length ≤ 1000000) (hs0 : 0 ≤ s.steps) (hs1 : s.steps ≤ 10000) (x : Raw) (hclo : x.wrote = clo) (w : World) (h : Mach w b s x) (hpre : pre w) (hn : x.next = u32 (s.pc + 4)) (h0 : 2 ≤ i.op) (h1 : i.op ≤ 3) :
    Calls Tryd.prog 51 #[.pointer (some ⟨b, 0, none⟩), .agg i.cells] w (DoesQ eff b s x i w) := by
  by_cases e : i.op = 2
  · by_cases t : u32 (s.pc + i.imm) % 4 = 0
    · exact jump_2 eff b i hi s hs x w h e t hn
    · exact jump_2n eff b i hi s hs x w h e t hn
  · by_cases t : u32 (s.regs i.rs1.toNat + i.imm) / 2 * 2 % 4 = 0
    · exact jump_3 eff b i hi s hs x w h (by omega) t hn
    · exact jump_3n eff b i hi s hs x w h (by omega) t hn
theorem does_branch (eff : Int → Int → World → World → Prop) (b : Nat) (clo : Value) (pre : World → Prop) (hW : WriteSpec eff b clo pre) (hst : Stable pre b) (i : Ins) (hi : i.Ok) (s : St) (hs : s.Ok) (hev : s.evs.length ≤ 1000000) (hs0 : 0 ≤ s.steps) (hs1 : s.steps ≤ 10000) (x : Raw) (hclo : x.wrote = clo) (w : World) (h : Mach w b s x) (hpre : pre w) (hn : x.next = u32 (s.pc + 4)) (h0 : 4 ≤ i.op) (h1 : i.op ≤ 9) :
    Calls Tryd.prog 52 #[.pointer (some ⟨b, 0, none⟩), .agg i.cells] w (DoesQ eff b s x i w) := by
  have hops : i.op = 4 ∨ i.op = 5 ∨ i.op = 6 ∨ i.op = 7 ∨ i.op = 8 ∨ i.op = 9 := by omega
  rcases hops with e | e | e | e | e | e
  · cases hy : (s.regs i.rs1.toNat == s.regs i.rs2.toNat)
    · exact branch_4_n eff b i hi s hs x w h e hy hn
    · (by_cases t : u32 (s.pc + i.imm) % 4 = 0; exact branch_4_t eff b i hi s hs x w h e hy t hn; exact branch_4_x eff b i hi s hs x w h e hy t hn)
  · cases hy : (s.regs i.rs1.toNat == s.regs i.rs2.toNat)
    · (by_cases t : u32 (s.pc + i.imm) % 4 = 0; exact branch_5_t eff b i hi s hs x w h e hy t hn; exact branch_5_x eff b i hi s hs x w h e hy t hn)
    · exact branch_5_n eff b i hi s hs x w h e hy hn
  · cases hy : decide (wrap32 (s.regs i.rs1.toNat) < wrap32 (s.regs i.rs2.toNat))
    · exact branch_6_n eff b i hi s hs x w h e hy hn
    · (by_cases t : u32 (s.pc + i.imm) % 4 = 0; exact branch_6_t eff b i hi s hs x w h e hy t hn; exact branch_6_x eff b i hi s hs x w h e hy t hn)
  · cases hy : decide (wrap32 (s.regs i.rs1.toNat) < wrap32 (s.regs i.rs2.toNat))
    · (by_cases t : u32 (s.pc + i.imm) % 4 = 0; exact branch_7_t eff b i hi s hs x w h e hy t hn; exact branch_7_x eff b i hi s hs x w h e hy t hn)
    · exact branch_7_n eff b i hi s hs x w h e hy hn
  · cases hy : decide (s.regs i.rs1.toNat < s.regs i.rs2.toNat)
    · exact branch_8_n eff b i hi s hs x w h e hy hn
    · (by_cases t : u32 (s.pc + i.imm) % 4 = 0; exact branch_8_t eff b i hi s hs x w h e hy t hn; exact branch_8_x eff b i hi s hs x w h e hy t hn)
  · cases hy : decide (s.regs i.rs1.toNat < s.regs i.rs2.toNat)
    · (by_cases t : u32 (s.pc + i.imm) % 4 = 0; exact branch_9_t eff b i hi s hs x w h e hy t hn; exact branch_9_x eff b i hi s hs x w h e hy t hn)
    · exact branch_9_n eff b i hi s hs x w h e hy hn
theorem does_load (eff : Int → Int → World → World → Prop) (b : Nat) (clo : Value) (pre : World → Prop) (hW : WriteSpec eff b clo pre) (hst : Stable pre b) (i : Ins) (hi : i.Ok) (s : St) (hs : s.Ok) (hev : s.evs.length ≤ 1000000) (hs0 : 0 ≤ s.steps) (hs1 : s.steps ≤ 10000) (x : Raw) (hclo : x.wrote = clo) (w : World) (h : Mach w b s x) (hpre : pre w) (hn : x.next = u32 (s.pc + 4)) (h0 : 10 ≤ i.op) (h1 : i.op ≤ 14) :
    Calls Tryd.prog 53 #[.pointer (some ⟨b, 0, none⟩), .agg i.cells] w (DoesQ eff b s x i w) := by
  have hops : i.op = 10 ∨ i.op = 11 ∨ i.op = 12 ∨ i.op = 13 ∨ i.op = 14 := by omega
  rcases hops with e | e | e | e | e
  · by_cases a : u32 (s.regs i.rs1.toNat + i.imm) % 1 = 0
    · cases l : lies s (u32 (s.regs i.rs1.toNat + i.imm)) 1
      · exact load_10_fault eff b i hi s hs x w h e a l hn
      · exact load_10_ok eff b i hi s hs x w h e a l hn
    · omega
  · by_cases a : u32 (s.regs i.rs1.toNat + i.imm) % 2 = 0
    · cases l : lies s (u32 (s.regs i.rs1.toNat + i.imm)) 2
      · exact load_11_fault eff b i hi s hs x w h e a l hn
      · exact load_11_ok eff b i hi s hs x w h e a l hn
    · exact load_11_align eff b i hi s hs x w h e a hn
  · by_cases a : u32 (s.regs i.rs1.toNat + i.imm) % 4 = 0
    · cases l : lies s (u32 (s.regs i.rs1.toNat + i.imm)) 4
      · exact load_12_fault eff b i hi s hs x w h e a l hn
      · exact load_12_ok eff b i hi s hs x w h e a l hn
    · exact load_12_align eff b i hi s hs x w h e a hn
  · by_cases a : u32 (s.regs i.rs1.toNat + i.imm) % 1 = 0
    · cases l : lies s (u32 (s.regs i.rs1.toNat + i.imm)) 1
      · exact load_13_fault eff b i hi s hs x w h e a l hn
      · exact load_13_ok eff b i hi s hs x w h e a l hn
    · omega
  · by_cases a : u32 (s.regs i.rs1.toNat + i.imm) % 2 = 0
    · cases l : lies s (u32 (s.regs i.rs1.toNat + i.imm)) 2
      · exact load_14_fault eff b i hi s hs x w h e a l hn
      · exact load_14_ok eff b i hi s hs x w h e a l hn
    · exact load_14_align eff b i hi s hs x w h e a hn
theorem does_store (eff : Int → Int → World → World → Prop) (b : Nat) (clo : Value) (pre : World → Prop) (hW : WriteSpec eff b clo pre) (hst : Stable pre b) (i : Ins) (hi : i.Ok) (s : St) (hs : s.Ok) (hev : s.evs.length ≤ 1000000) (hs0 : 0 ≤ s.steps) (hs1 : s.steps ≤ 10000) (x : Raw) (hclo : x.wrote = clo) (w : World) (h : Mach w b s x) (hpre : pre w) (hn : x.next = u32 (s.pc + 4)) (h0 : 15 ≤ i.op) (h1 : i.op ≤ 17) :
    Calls Tryd.prog 54 #[.pointer (some ⟨b, 0, none⟩), .agg i.cells] w (DoesQ eff b s x i w) := by
  have hops : i.op = 15 ∨ i.op = 16 ∨ i.op = 17 := by omega
  rcases hops with e | e | e
  · by_cases a : u32 (s.regs i.rs1.toNat + i.imm) % 1 = 0
    · cases l : lies s (u32 (s.regs i.rs1.toNat + i.imm)) 1
      · exact store_15_fault eff b i hi s hs x w h e a l hn
      · exact store_15_ok eff b i hi s hs x w h clo pre hW hst hclo hpre e a l hn
    · omega
  · by_cases a : u32 (s.regs i.rs1.toNat + i.imm) % 2 = 0
    · cases l : lies s (u32 (s.regs i.rs1.toNat + i.imm)) 2
      · exact store_16_fault eff b i hi s hs x w h e a l hn
      · exact store_16_ok eff b i hi s hs x w h clo pre hW hst hclo hpre e a l hn
    · exact store_16_align eff b i hi s hs x w h e a hn
  · by_cases a : u32 (s.regs i.rs1.toNat + i.imm) % 4 = 0
    · cases l : lies s (u32 (s.regs i.rs1.toNat + i.imm)) 4
      · exact store_17_fault eff b i hi s hs x w h e a l hn
      · exact store_17_ok eff b i hi s hs x w h clo pre hW hst hclo hpre e a l hn
    · exact store_17_align eff b i hi s hs x w h e a hn
theorem does_number (eff : Int → Int → World → World → Prop) (b : Nat) (clo : Value) (pre : World → Prop) (hW : WriteSpec eff b clo pre) (hst : Stable pre b) (i : Ins) (hi : i.Ok) (s : St) (hs : s.Ok) (hev : s.evs.length ≤ 1000000) (hs0 : 0 ≤ s.steps) (hs1 : s.steps ≤ 10000) (x : Raw) (hclo : x.wrote = clo) (w : World) (h : Mach w b s x) (hpre : pre w) (hn : x.next = u32 (s.pc + 4)) (h0 : 18 ≤ i.op) (h1 : i.op ≤ 26) :
    Calls Tryd.prog 55 #[.pointer (some ⟨b, 0, none⟩), .agg i.cells] w (DoesQ eff b s x i w) := by
  exact number_any eff b i hi s hs x w h h0 h1 hn
theorem does_registers (eff : Int → Int → World → World → Prop) (b : Nat) (clo : Value) (pre : World → Prop) (hW : WriteSpec eff b clo pre) (hst : Stable pre b) (i : Ins) (hi : i.Ok) (s : St) (hs : s.Ok) (hev : s.evs.length ≤ 1000000) (hs0 : 0 ≤ s.steps) (hs1 : s.steps ≤ 10000) (x : Raw) (hclo : x.wrote = clo) (w : World) (h : Mach w b s x) (hpre : pre w) (hn : x.next = u32 (s.pc + 4)) (h0 : 27 ≤ i.op) (h1 : i.op ≤ 44) :
    Calls Tryd.prog 56 #[.pointer (some ⟨b, 0, none⟩), .agg i.cells] w (DoesQ eff b s x i w) := by
  exact registers_any eff b i hi s hs x w h h0 h1 hn
theorem does_nothing (eff : Int → Int → World → World → Prop) (b : Nat) (clo : Value) (pre : World → Prop) (hW : WriteSpec eff b clo pre) (hst : Stable pre b) (i : Ins) (hi : i.Ok) (s : St) (hs : s.Ok) (hev : s.evs.length ≤ 1000000) (hs0 : 0 ≤ s.steps) (hs1 : s.steps ≤ 10000) (x : Raw) (hclo : x.wrote = clo) (w : World) (h : Mach w b s x) (hpre : pre w) (hn : x.next = u32 (s.pc + 4)) (h0 : i.op = 45) :
    Calls Tryd.prog 59 #[.pointer (some ⟨b, 0, none⟩), .agg i.cells] w (DoesQ eff b s x i w) := by
  exact nothing_any eff b i s hs x w h h0 hn
theorem does_stop (eff : Int → Int → World → World → Prop) (b : Nat) (clo : Value) (pre : World → Prop) (hW : WriteSpec eff b clo pre) (hst : Stable pre b) (i : Ins) (hi : i.Ok) (s : St) (hs : s.Ok) (hev : s.evs.length ≤ 1000000) (hs0 : 0 ≤ s.steps) (hs1 : s.steps ≤ 10000) (x : Raw) (hclo : x.wrote = clo) (w : World) (h : Mach w b s x) (hpre : pre w) (hn : x.next = u32 (s.pc + 4)) (h0 : i.op = 47) :
    Calls Tryd.prog 58 #[.pointer (some ⟨b, 0, none⟩), .agg i.cells] w (DoesQ eff b s x i w) := by
  exact stop_any eff b i s x w h h0
theorem does_call (eff : Int → Int → World → World → Prop) (b : Nat) (clo : Value) (pre : World → Prop) (hW : WriteSpec eff b clo pre) (hst : Stable pre b) (i : Ins) (hi : i.Ok) (s : St) (hs : s.Ok) (hev : s.evs.length ≤ 1000000) (hs0 : 0 ≤ s.steps) (hs1 : s.steps ≤ 10000) (x : Raw) (hclo : x.wrote = clo) (w : World) (h : Mach w b s x) (hpre : pre w) (hn : x.next = u32 (s.pc + 4)) (h0 : i.op = 46) :
    Calls Tryd.prog 57 #[.pointer (some ⟨b, 0, none⟩), .agg i.cells] w (DoesQ eff b s x i w) := by
  have ne : ∀ {a c : Int}, a ≠ c → (a == c) = false := fun h => by simpa using h
  by_cases k1 : s.regs 17 = 93
  · exact call_exit eff b i hi s hs x w h h0 hn hev hs0 hs1 k1
  by_cases k2 : s.regs 17 = 64
  · cases l : lies s (s.regs 11) (s.regs 12)
    · exact call_write_f eff b i hi s hs x w h h0 hn hev k2 l
    · by_cases q : s.regs 11 < (s.mem.length : Int)
      · have hh := call_write_y eff b i hi s hs x w h h0 hn hev k2 l q
        exact hh
      · have l2 : s.regs 11 + s.regs 12 ≤ (s.mem.length : Int) := by unfold lies at l; simpa using l
        have b1 := (hs.regs 12).1
        exact call_write_e eff b i hi s hs x w h h0 hn hev k2 (by omega) (by omega)
  by_cases k3 : s.regs 17 = 63
  · cases l : lies s (s.regs 11) (s.regs 12)
    · exact call_read_f eff b i hi s hs x w h h0 hn hev k3 l
    · cases ha : s.ans with
      | nil => exact call_read_0 eff b i hi s hs x w h h0 hn hev clo pre hW hst hclo hpre k3 ha l
      | cons t rest =>
        obtain ⟨aa, cc, hans, hcc, hcm, hcl⟩ := h.ans
        rw [ha] at hans hcc hcl
        obtain ⟨off, rfl, hcells⟩ := hcl (by simp)
        obtain ⟨htl, h0c⟩ := hcells 0 t rfl
        rw [List.length_cons] at hans hcc
        have hnb : ¬ Mb b x x.ab := by
          rintro (e | e | e)
          · exact h.nea.1 e
          · exact h.nea.2 e
          · exact (h.nee _ e).2.2 rfl
        by_cases q : rest = []
        · subst q
          by_cases q1 : cc = 1
          · subst q1
            have hnew : ∀ W, Only (Mb b x) w W → TextsAt W x.ab (.slice (some ⟨x.ab, off, none⟩) 0 0) [] := fun W _ => ⟨_, 0, rfl, by simp, by omega, fun hne => absurd rfl hne⟩
            by_cases q2 : t.size ≤ (s.regs 12).toNat
            · exact call_read_3 eff b i hi s hs x w h h0 hn hev clo pre hW hst hclo hpre k3 t ha htl off hans q2 h0c hnew l
            · exact call_read_4 eff b i hi s hs x w h h0 hn hev clo pre hW hst hclo hpre k3 t ha htl off hans (by omega) h0c hnew l
          · have hnew : ∀ W, Only (Mb b x) w W → TextsAt W x.ab (.slice (some ⟨x.ab, off + 1, none⟩) ([] : List ByteArray).length (cc - 1)) [] := fun W _ => ⟨_, cc - 1, rfl, by simp, by omega, fun hne => absurd rfl hne⟩
            simp only [List.length_nil] at hcc
            by_cases q2 : t.size ≤ (s.regs 12).toNat
            · exact call_read_1 eff b i hi s hs x w h h0 hn hev clo pre hW hst hclo hpre k3 t [] ha htl off cc hans hcm (by omega) (by simp; omega) q2 h0c hnew l
            · exact call_read_2 eff b i hi s hs x w h h0 hn hev clo pre hW hst hclo hpre k3 t [] ha htl off cc hans hcm (by omega) (by simp; omega) (by omega) h0c hnew l
        · have hr : 0 < rest.length := List.length_pos_iff.mpr q
          have hnew : ∀ W, Only (Mb b x) w W → TextsAt W x.ab (.slice (some ⟨x.ab, off + 1, none⟩) rest.length (cc - 1)) rest := fun W hW => ⟨_, cc - 1, rfl, by omega, by omega, fun _ => ⟨off + 1, rfl, fun j u hj => by
            obtain ⟨a1, a2⟩ := hcells (j + 1) u (by simpa using hj)
            refine ⟨a1, ?_⟩
            rw [show off + 1 + j = off + (j + 1) by omega]
            exact hW.cell hnb a2⟩⟩
          by_cases q2 : t.size ≤ (s.regs 12).toNat
          · exact call_read_1 eff b i hi s hs x w h h0 hn hev clo pre hW hst hclo hpre k3 t rest ha htl off cc hans hcm (by omega) hcc q2 h0c hnew l
          · exact call_read_2 eff b i hi s hs x w h h0 hn hev clo pre hW hst hclo hpre k3 t rest ha htl off cc hans hcm (by omega) hcc (by omega) h0c hnew l
  by_cases k4 : s.regs 17 = 214
  · by_cases q : s.low ≤ s.regs 10
    · cases l : lies s (s.regs 10) 0
      · exact call_brk_f eff b i hi s hs x w h h0 hn hev k4 q l
      · exact call_brk_y eff b i hi s hs x w h h0 hn hev k4 q l
    · exact call_brk_n eff b i hi s hs x w h h0 hn hev k4 q
  · exact call_nosys eff b i hi s hs x w h h0 hn hev (ne k1) (ne k2) (ne k3) (ne k4)
end Go.Proofs.YtanccjaikocefaaDoor
