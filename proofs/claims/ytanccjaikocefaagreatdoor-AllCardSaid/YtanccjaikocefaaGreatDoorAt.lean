/-
  What each method that does instructions does, for all its operations: as the plain machine has it ('exec'). Conditions: the machine lies in memory; fields are in their ranges; 'write' does what it says ('WriteSpec').
  The contract of 'Do' and of 'Find': 'Do' with the method that 'Find' gives does one step of the plain machine. Conditions: the machine lies in memory; numbers and fields are in their ranges; 'write' does what it says ('WriteSpec').
  The contract of 'At': the instruction at an address, or how the run ends there. Conditions: the machine lies in memory; its numbers are in their ranges; the table lies ('Tab').
-/
import Derived.Test.YtanccjaikocefaaGreatDoorMeth2
import Derived.Test.YtanccjaikocefaaGreatDoorLoad
import Derived.Test.YtanccjaikocefaaGreatDoorCall2
import Derived.Test.YtanccjaikocefaaGreatDoorKept
import Derived.Test.YtanccjaikocefaaGreatDoorDecBoth
import Derived.Test.YtanccjaikocefaaGreatDoorMeth3
namespace Go.Proofs.YtanccjaikocefaaGreatDoor
open Go.ChangeShapes Go.WideShapes Go.ChangeAt Go.RowKit
set_option linter.unusedVariables false

theorem does_upper (eff : Int → Int → World → World → Prop) (b : Nat) (clo : Value) (pre : World → Prop) (hW : WriteSpec eff b clo pre) (hst : Stable pre b) (i : Ins) (hi : i.Ok) (s : St) (hs : s.Ok) (hev : s.evs.length ≤ 1000000) (hs0 : 0 ≤ s.steps) (hs1 : s.steps ≤ 10000) (x : Raw) (hclo : x.wrote = clo) (w : World) (h : Mach w b s x) (hpre : pre w) (hn : x.next = u32 (s.pc + 4)) (h0 : 0 ≤ i.op) (h1 : i.op ≤ 1) :
    Calls Tryz.prog 49 #[.pointer (some ⟨b, 0, none⟩), .agg i.cells] w (DoesQ eff b s x i w) := by
  by_cases e : i.op = 0
  · exact upper_0 eff b i hi s hs x w h e hn
  · exact upper_1 eff b i hi s hs x w h (by omega) hn
theorem does_jump (eff : Int → Int → World → World → Prop) (b : Nat) (clo : Value) (pre : World → Prop) (hW : WriteSpec eff b clo pre) (hst : Stable pre b) (i : Ins) (hi : i.Ok) (s : St) (hs : s.Ok) (hev : s.evs.length ≤ 1000000) (hs0 : 0 ≤ s.steps) (hs1 : s.steps ≤ 10000) (x : Raw) (hclo : x.wrote = clo) (w : World) (h : Mach w b s x) (hpre : pre w) (hn : x.next = u32 (s.pc + 4)) (h0 : 2 ≤ i.op) (h1 : i.op ≤ 3) :
    Calls Tryz.prog 50 #[.pointer (some ⟨b, 0, none⟩), .agg i.cells] w (DoesQ eff b s x i w) := by
  by_cases e : i.op = 2
  · by_cases t : u32 (s.pc + i.imm) % 4 = 0
    · exact jump_2 eff b i hi s hs x w h e t hn
    · exact jump_2n eff b i hi s hs x w h e t hn
  · by_cases t : u32 (s.regs i.rs1.toNat + i.imm) / 2 * 2 % 4 = 0
    · exact jump_3 eff b i hi s hs x w h (by omega) t hn
    · exact jump_3n eff b i hi s hs x w h (by omega) t hn
theorem does_branch (eff : Int → Int → World → World → Prop) (b : Nat) (clo : Value) (pre : World → Prop) (hW : WriteSpec eff b clo pre) (hst : Stable pre b) (i : Ins) (hi : i.Ok) (s : St) (hs : s.Ok) (hev : s.evs.length ≤ 1000000) (hs0 : 0 ≤ s.steps) (hs1 : s.steps ≤ 10000) (x : Raw) (hclo : x.wrote = clo) (w : World) (h : Mach w b s x) (hpre : pre w) (hn : x.next = u32 (s.pc + 4)) (h0 : 4 ≤ i.op) (h1 : i.op ≤ 9) :
    Calls Tryz.prog 51 #[.pointer (some ⟨b, 0, none⟩), .agg i.cells] w (DoesQ eff b s x i w) := by
  have hops : i.op = 4 ∨ i.op = 5 ∨ i.op = 6 ∨ i.op = 7 ∨ i.op = 8 ∨ i.op = 9 := by omega
  rcases hops with e | e | e | e | e | e
  · cases hy : (s.regs i.rs1.toNat == s.regs i.rs2.toNat)
    · exact branch_4_n eff b i hi s hs x w h e hy hn
    · (by_cases t : u32 (s.pc + i.imm) % 4 = 0; exact branch_4_t eff b i hi s hs x w h e hy t hn; exact branch_4_x eff b i hi s hs x w h e hy t hn)
  · cases hy : (s.regs i.rs1.toNat == s.regs i.rs2.toNat)
    · (by_cases t : u32 (s.pc + i.imm) % 4 = 0; exact branch_5_t eff b i hi s hs x w h e hy t hn; exact branch_5_x eff b i hi s hs x w h e hy t hn)
    · exact branch_5_n eff b i hi s hs x w h e hy hn
  · cases hy : decide (wrap32 (s.regs i.rs1.toNat) < wrap32 (s.regs i.rs2.toNat))
    · exact branch_6_n eff b i hi s hs x w h e hy hn
    · (by_cases t : u32 (s.pc + i.imm) % 4 = 0; exact branch_6_t eff b i hi s hs x w h e hy t hn; exact branch_6_x eff b i hi s hs x w h e hy t hn)
  · cases hy : decide (wrap32 (s.regs i.rs1.toNat) < wrap32 (s.regs i.rs2.toNat))
    · (by_cases t : u32 (s.pc + i.imm) % 4 = 0; exact branch_7_t eff b i hi s hs x w h e hy t hn; exact branch_7_x eff b i hi s hs x w h e hy t hn)
    · exact branch_7_n eff b i hi s hs x w h e hy hn
  · cases hy : decide (s.regs i.rs1.toNat < s.regs i.rs2.toNat)
    · exact branch_8_n eff b i hi s hs x w h e hy hn
    · (by_cases t : u32 (s.pc + i.imm) % 4 = 0; exact branch_8_t eff b i hi s hs x w h e hy t hn; exact branch_8_x eff b i hi s hs x w h e hy t hn)
  · cases hy : decide (s.regs i.rs1.toNat < s.regs i.rs2.toNat)
    · (by_cases t : u32 (s.pc + i.imm) % 4 = 0; exact branch_9_t eff b i hi s hs x w h e hy t hn; exact branch_9_x eff b i hi s hs x w h e hy t hn)
    · exact branch_9_n eff b i hi s hs x w h e hy hn
theorem does_load (eff : Int → Int → World → World → Prop) (b : Nat) (clo : Value) (pre : World → Prop) (hW : WriteSpec eff b clo pre) (hst : Stable pre b) (i : Ins) (hi : i.Ok) (s : St) (hs : s.Ok) (hev : s.evs.length ≤ 1000000) (hs0 : 0 ≤ s.steps) (hs1 : s.steps ≤ 10000) (x : Raw) (hclo : x.wrote = clo) (w : World) (h : Mach w b s x) (hpre : pre w) (hn : x.next = u32 (s.pc + 4)) (h0 : 10 ≤ i.op) (h1 : i.op ≤ 14) :
    Calls Tryz.prog 52 #[.pointer (some ⟨b, 0, none⟩), .agg i.cells] w (DoesQ eff b s x i w) := by
  have hops : i.op = 10 ∨ i.op = 11 ∨ i.op = 12 ∨ i.op = 13 ∨ i.op = 14 := by omega
  rcases hops with e | e | e | e | e
  · by_cases a : u32 (s.regs i.rs1.toNat + i.imm) % 1 = 0
    · cases l : lies s (u32 (s.regs i.rs1.toNat + i.imm)) 1
      · exact load_10_fault eff b i hi s hs x w h e a l hn
      · exact load_10_ok eff b i hi s hs x w h e a l hn
    · omega
  · by_cases a : u32 (s.regs i.rs1.toNat + i.imm) % 2 = 0
    · cases l : lies s (u32 (s.regs i.rs1.toNat + i.imm)) 2
      · exact load_11_fault eff b i hi s hs x w h e a l hn
      · exact load_11_ok eff b i hi s hs x w h e a l hn
    · exact load_11_align eff b i hi s hs x w h e a hn
  · by_cases a : u32 (s.regs i.rs1.toNat + i.imm) % 4 = 0
    · cases l : lies s (u32 (s.regs i.rs1.toNat + i.imm)) 4
      · exact load_12_fault eff b i hi s hs x w h e a l hn
      · exact load_12_ok eff b i hi s hs x w h e a l hn
    · exact load_12_align eff b i hi s hs x w h e a hn
  · by_cases a : u32 (s.regs i.rs1.toNat + i.imm) % 1 = 0
    · cases l : lies s (u32 (s.regs i.rs1.toNat + i.imm)) 1
      · exact load_13_fault eff b i hi s hs x w h e a l hn
      · exact load_13_ok eff b i hi s hs x w h e a l hn
    · omega
  · by_cases a : u32 (s.regs i.rs1.toNat + i.imm) % 2 = 0
    · cases l : lies s (u32 (s.regs i.rs1.toNat + i.imm)) 2
      · exact load_14_fault eff b i hi s hs x w h e a l hn
      · exact load_14_ok eff b i hi s hs x w h e a l hn
    · exact load_14_align eff b i hi s hs x w h e a hn
theorem does_store (eff : Int → Int → World → World → Prop) (b : Nat) (clo : Value) (pre : World → Prop) (hW : WriteSpec eff b clo pre) (hst : Stable pre b) (i : Ins) (hi : i.Ok) (s : St) (hs : s.Ok) (hev : s.evs.length ≤ 1000000) (hs0 : 0 ≤ s.steps) (hs1 : s.steps ≤ 10000) (x : Raw) (hclo : x.wrote = clo) (w : World) (h : Mach w b s x) (hpre : pre w) (hn : x.next = u32 (s.pc + 4)) (h0 : 15 ≤ i.op) (h1 : i.op ≤ 17) :
    Calls Tryz.prog 53 #[.pointer (some ⟨b, 0, none⟩), .agg i.cells] w (DoesQ eff b s x i w) := by
  have hops : i.op = 15 ∨ i.op = 16 ∨ i.op = 17 := by omega
  rcases hops with e | e | e
  · by_cases a : u32 (s.regs i.rs1.toNat + i.imm) % 1 = 0
    · cases l : lies s (u32 (s.regs i.rs1.toNat + i.imm)) 1
      · exact store_15_fault eff b i hi s hs x w h e a l hn
      · exact store_15_ok eff b i hi s hs x w h clo pre hW hst hclo hpre e a l hn
    · omega
  · by_cases a : u32 (s.regs i.rs1.toNat + i.imm) % 2 = 0
    · cases l : lies s (u32 (s.regs i.rs1.toNat + i.imm)) 2
      · exact store_16_fault eff b i hi s hs x w h e a l hn
      · exact store_16_ok eff b i hi s hs x w h clo pre hW hst hclo hpre e a l hn
    · exact store_16_align eff b i hi s hs x w h e a hn
  · by_cases a : u32 (s.regs i.rs1.toNat + i.imm) % 4 = 0
    · cases l : lies s (u32 (s.regs i.rs1.toNat + i.imm)) 4
      · exact store_17_fault eff b i hi s hs x w h e a l hn
      · exact store_17_ok eff b i hi s hs x w h clo pre hW hst hclo hpre e a l hn
    · exact store_17_align eff b i hi s hs x w h e a hn
theorem does_number (eff : Int → Int → World → World → Prop) (b : Nat) (clo : Value) (pre : World → Prop) (hW : WriteSpec eff b clo pre) (hst : Stable pre b) (i : Ins) (hi : i.Ok) (s : St) (hs : s.Ok) (hev : s.evs.length ≤ 1000000) (hs0 : 0 ≤ s.steps) (hs1 : s.steps ≤ 10000) (x : Raw) (hclo : x.wrote = clo) (w : World) (h : Mach w b s x) (hpre : pre w) (hn : x.next = u32 (s.pc + 4)) (h0 : 18 ≤ i.op) (h1 : i.op ≤ 26) :
    Calls Tryz.prog 54 #[.pointer (some ⟨b, 0, none⟩), .agg i.cells] w (DoesQ eff b s x i w) := by
  exact number_any eff b i hi s hs x w h h0 h1 hn
theorem does_registers (eff : Int → Int → World → World → Prop) (b : Nat) (clo : Value) (pre : World → Prop) (hW : WriteSpec eff b clo pre) (hst : Stable pre b) (i : Ins) (hi : i.Ok) (s : St) (hs : s.Ok) (hev : s.evs.length ≤ 1000000) (hs0 : 0 ≤ s.steps) (hs1 : s.steps ≤ 10000) (x : Raw) (hclo : x.wrote = clo) (w : World) (h : Mach w b s x) (hpre : pre w) (hn : x.next = u32 (s.pc + 4)) (h0 : 27 ≤ i.op) (h1 : i.op ≤ 44) :
    Calls Tryz.prog 55 #[.pointer (some ⟨b, 0, none⟩), .agg i.cells] w (DoesQ eff b s x i w) := by
  exact registers_any eff b i hi s hs x w h h0 h1 hn
theorem does_nothing (eff : Int → Int → World → World → Prop) (b : Nat) (clo : Value) (pre : World → Prop) (hW : WriteSpec eff b clo pre) (hst : Stable pre b) (i : Ins) (hi : i.Ok) (s : St) (hs : s.Ok) (hev : s.evs.length ≤ 1000000) (hs0 : 0 ≤ s.steps) (hs1 : s.steps ≤ 10000) (x : Raw) (hclo : x.wrote = clo) (w : World) (h : Mach w b s x) (hpre : pre w) (hn : x.next = u32 (s.pc + 4)) (h0 : i.op = 45) :
    Calls Tryz.prog 58 #[.pointer (some ⟨b, 0, none⟩), .agg i.cells] w (DoesQ eff b s x i w) := by
  exact nothing_any eff b i s hs x w h h0 hn
theorem does_stop (eff : Int → Int → World → World → Prop) (b : Nat) (clo : Value) (pre : World → Prop) (hW : WriteSpec eff b clo pre) (hst : Stable pre b) (i : Ins) (hi : i.Ok) (s : St) (hs : s.Ok) (hev : s.evs.length ≤ 1000000) (hs0 : 0 ≤ s.steps) (hs1 : s.steps ≤ 10000) (x : Raw) (hclo : x.wrote = clo) (w : World) (h : Mach w b s x) (hpre : pre w) (hn : x.next = u32 (s.pc + 4)) (h0 : i.op = 47) :
    Calls Tryz.prog 57 #[.pointer (some ⟨b, 0, none⟩), .agg i.cells] w (DoesQ eff b s x i w) := by
  exact stop_any eff b i s x w h h0
theorem does_call (eff : Int → Int → World → World → Prop) (b : Nat) (clo : Value) (pre : World → Prop) (hW : WriteSpec eff b clo pre) (hst : Stable pre b) (i : Ins) (hi : i.Ok) (s : St) (hs : s.Ok) (hev : s.evs.length ≤ 1000000) (hs0 : 0 ≤ s.steps) (hs1 : s.steps ≤ 10000) (x : Raw) (hclo : x.wrote = clo) (w : World) (h : Mach w b s x) (hpre : pre w) (hn : x.next = u32 (s.pc + 4)) (h0 : i.op = 46) :
    Calls Tryz.prog 56 #[.pointer (some ⟨b, 0, none⟩), .agg i.cells] w (DoesQ eff b s x i w) := by
  have ne : ∀ {a c : Int}, a ≠ c → (a == c) = false := fun h => by simpa using h
  by_cases k1 : s.regs 17 = 93
  · exact call_exit eff b i hi s hs x w h h0 hn hev hs0 hs1 k1
  by_cases k2 : s.regs 17 = 64
  · cases l : lies s (s.regs 11) (s.regs 12)
    · exact call_write_f eff b i hi s hs x w h h0 hn hev k2 l
    · by_cases q : s.regs 11 < (s.mem.length : Int)
      · have hh := call_write_y eff b i hi s hs x w h h0 hn hev k2 l q
        exact hh
      · have l2 : s.regs 11 + s.regs 12 ≤ (s.mem.length : Int) := by unfold lies at l; simpa using l
        have b1 := (hs.regs 12).1
        exact call_write_e eff b i hi s hs x w h h0 hn hev k2 (by omega) (by omega)
  by_cases k3 : s.regs 17 = 63
  · cases l : lies s (s.regs 11) (s.regs 12)
    · exact call_read_f eff b i hi s hs x w h h0 hn hev k3 l
    · cases ha : s.ans with
      | nil => exact call_read_0 eff b i hi s hs x w h h0 hn hev clo pre hW hst hclo hpre k3 ha l
      | cons t rest =>
        obtain ⟨aa, cc, hans, hcc, hcm, hcl⟩ := h.ans
        rw [ha] at hans hcc hcl
        obtain ⟨off, rfl, hcells⟩ := hcl (by simp)
        obtain ⟨htl, h0c⟩ := hcells 0 t rfl
        rw [List.length_cons] at hans hcc
        have hnb : ¬ Mb b x x.ab := by
          rintro (e | e | e)
          · exact h.nea.1 e
          · exact h.nea.2 e
          · exact (h.nee _ e).2.2 rfl
        by_cases q : rest = []
        · subst q
          by_cases q1 : cc = 1
          · subst q1
            have hnew : ∀ W, Only (Mb b x) w W → TextsAt W x.ab (.slice (some ⟨x.ab, off, none⟩) 0 0) [] := fun W _ => ⟨_, 0, rfl, by simp, by omega, fun hne => absurd rfl hne⟩
            by_cases q2 : t.size ≤ (s.regs 12).toNat
            · exact call_read_3 eff b i hi s hs x w h h0 hn hev clo pre hW hst hclo hpre k3 t ha htl off hans q2 h0c hnew l
            · exact call_read_4 eff b i hi s hs x w h h0 hn hev clo pre hW hst hclo hpre k3 t ha htl off hans (by omega) h0c hnew l
          · have hnew : ∀ W, Only (Mb b x) w W → TextsAt W x.ab (.slice (some ⟨x.ab, off + 1, none⟩) ([] : List ByteArray).length (cc - 1)) [] := fun W _ => ⟨_, cc - 1, rfl, by simp, by omega, fun hne => absurd rfl hne⟩
            simp only [List.length_nil] at hcc
            by_cases q2 : t.size ≤ (s.regs 12).toNat
            · exact call_read_1 eff b i hi s hs x w h h0 hn hev clo pre hW hst hclo hpre k3 t [] ha htl off cc hans hcm (by omega) (by simp; omega) q2 h0c hnew l
            · exact call_read_2 eff b i hi s hs x w h h0 hn hev clo pre hW hst hclo hpre k3 t [] ha htl off cc hans hcm (by omega) (by simp; omega) (by omega) h0c hnew l
        · have hr : 0 < rest.length := List.length_pos_iff.mpr q
          have hnew : ∀ W, Only (Mb b x) w W → TextsAt W x.ab (.slice (some ⟨x.ab, off + 1, none⟩) rest.length (cc - 1)) rest := fun W hW => ⟨_, cc - 1, rfl, by omega, by omega, fun _ => ⟨off + 1, rfl, fun j u hj => by
            obtain ⟨a1, a2⟩ := hcells (j + 1) u (by simpa using hj)
            refine ⟨a1, ?_⟩
            rw [show off + 1 + j = off + (j + 1) by omega]
            exact hW.cell hnb a2⟩⟩
          by_cases q2 : t.size ≤ (s.regs 12).toNat
          · exact call_read_1 eff b i hi s hs x w h h0 hn hev clo pre hW hst hclo hpre k3 t rest ha htl off cc hans hcm (by omega) hcc q2 h0c hnew l
          · exact call_read_2 eff b i hi s hs x w h h0 hn hev clo pre hW hst hclo hpre k3 t rest ha htl off cc hans hcm (by omega) hcc (by omega) h0c hnew l
  by_cases k4 : s.regs 17 = 214
  · by_cases q : s.low ≤ s.regs 10
    · cases l : lies s (s.regs 10) 0
      · exact call_brk_f eff b i hi s hs x w h h0 hn hev k4 q l
      · exact call_brk_y eff b i hi s hs x w h h0 hn hev k4 q l
    · exact call_brk_n eff b i hi s hs x w h h0 hn hev k4 q
  · exact call_nosys eff b i hi s hs x w h h0 hn hev (ne k1) (ne k2) (ne k3) (ne k4)
end Go.Proofs.YtanccjaikocefaaGreatDoor
namespace Go.Proofs.YtanccjaikocefaaGreatDoor
open Go.ChangeShapes Go.WideShapes Go.ChangeAt Go.RowKit
set_option linter.unusedVariables false

/-- What 'Do' comes to. -/
def StepP (eff : Int → Int → World → World → Prop) (b : Nat) (s : St) (x : Raw) (w : World) (e : Ending) (w' : World) : Out → Prop
  | .go s' next wr => e = .returned (.tuple #[]) ∧ ∃ x2, Mach w' b (s'.step next) x2 ∧ Keep w x x2 ∧ Eff eff b x wr w w'
  | .trap s' o => e = trapE o ∧ ∃ x2, Mach w' b s' x2 ∧ Keep w x x2 ∧ Only (Mb b x) w w'
def StepQ (eff : Int → Int → World → World → Prop) (b : Nat) (s : St) (x : Raw) (i : Ins) (w : World) (e : Ending) (w' : World) : Prop := StepP eff b s x w e w' (exec s i)
theorem Eff.pre {eff : Int → Int → World → World → Prop} {b : Nat} {x : Raw} {wr : Option (Int × Int)} {w w1 w2 : World} (h : Eff eff b x wr w1 w2) (ho : Only (Mb b x) w w1) : Eff eff b x wr w w2 := by
  cases wr with
  | none => exact ho.then h
  | some p => obtain ⟨u, v, a, c, d⟩ := h; exact ⟨u, v, ho.then a, c, d⟩
theorem Eff.post {eff : Int → Int → World → World → Prop} {b : Nat} {x : Raw} {wr : Option (Int × Int)} {w w1 w2 : World} (h : Eff eff b x wr w w1) (ho : Only (Mb b x) w1 w2) : Eff eff b x wr w w2 := by
  cases wr with
  | none => exact Only.then h ho
  | some p => obtain ⟨u, v, a, c, d⟩ := h; exact ⟨u, v, a, c, d.then ho⟩
theorem clr_put {s : St} {n t : Int} : ({ s with regs := rset s.regs 0 0, pc := n, steps := t } : St) = { s.clr with pc := n, steps := t } := by
  unfold St.clr rset
  rfl
set_option maxRecDepth 100000 in
set_option maxHeartbeats 400000 in
theorem do_upper (eff : Int → Int → World → World → Prop) (b : Nat) (clo : Value) (pre : World → Prop) (hW : WriteSpec eff b clo pre) (hst : Stable pre b) (i : Ins) (hi : i.Ok) (s : St) (hs : s.Ok) (hev : s.evs.length ≤ 1000000) (hs0 : 0 ≤ s.steps) (hs1 : s.steps ≤ 10000) (x : Raw) (hclo : x.wrote = clo) (w : World) (h : Mach w b s x) (hpre : pre w) (h0 : 0 ≤ i.op) (h1 : i.op ≤ 1) :
    Calls Tryz.prog 32 #[.pointer (some ⟨b, 0, none⟩), .func (.func 49) #[] #[], .agg i.cells] w (StepQ eff b s x i w) := by
  have hO0 : Only (· = b) w ((w.setCell ⟨b, 35, none⟩ (.int .u32 (u32 (s.pc + 4)))).alloc (.cells #[.int .i64 i.op, .int .i64 i.rd, .int .i64 i.rs1, .int .i64 i.rs2, .int .i32 i.imm] 32)) := ((Only.refl _ w).set1 35 _).alloc _
  have hM0 := h.struct (x' := { x with next := u32 (s.pc + 4) }) hO0 ((h.mac.putNext _).alloc _) rfl rfl rfl rfl rfl rfl rfl
  have hd := does_upper eff b clo pre hW hst i hi s hs hev hs0 hs1 { x with next := u32 (s.pc + 4) } hclo _ hM0 (hst x s w _ h hpre hO0.mb) rfl h0 h1
  have hx := exec_ok hs hi
  have p0 := h.mac.pc
  have n35 := h.mac.next
  have f35 := h.mac.free 35
  have hsz := h.mac.lt
  obtain ⟨pc0, pc1⟩ := hs.pc
  have HO0 := Lib.hid hO0
  have HD := Lib.hid hd
  have HX := Lib.hid hx
  clear hO0 hM0 hd hx h0 h1
  unfold Ins.cells at *
  go_enter Tryz.func32, Tryz.ntmps32
  go_wp2_with fail
  refine HD.out.mono ?_
  intro e w1 hq
  unfold DoesQ at hq
  unfold StepQ
  have hx := HX.out
  clear HD HX p0 f35 n35
  cases he : exec s i with
  | go s' next wr =>
    rw [he] at hq hx
    obtain ⟨rfl, s2, x2, hM, hclr, hnx, hK, hE⟩ := hq
    obtain ⟨hT, hst', m0, m1⟩ := hx
    have hst2 : s2.steps = s.steps := by rw [← hst', ← hclr]; rfl
    have k0 := hM.mac.reg 0 (by omega)
    have k32 := hM.mac.pc
    have k34 := hM.mac.steps
    have k35 := hM.mac.next
    have r0 := hM.mac.free 0
    have r32 := hM.mac.free 32
    have r34 := hM.mac.free 34
    rw [hst2] at k34
    rw [hnx] at k35
    have HM := Lib.hid hM
    have HC := Lib.hid hclr
    have HK := Lib.hid hK
    have HE := Lib.hid hE
    have HT := Lib.hid hT
    have HS := Lib.hid hst2
    have HX := Lib.hid he
    clear hM hclr hnx hK hE hT he hst' hst2 hsz
    go_wp2_with fail
    go_end0
    have hO : Only (· = b) w1 (((w1.setCell ⟨b, 0, none⟩ (.int .u32 0)).setCell ⟨b, 32, none⟩ (.int .u32 next)).setCell ⟨b, 34, none⟩ (.int .i64 (s.steps + 1))) := (((Only.refl _ w1).set1 0 _).set1 32 _).set1 34 _
    have hc : MacAt (((w1.setCell ⟨b, 0, none⟩ (.int .u32 0)).setCell ⟨b, 32, none⟩ (.int .u32 next)).setCell ⟨b, 34, none⟩ (.int .i64 (s.steps + 1))) b { s2 with regs := rset s2.regs 0 0, pc := next, steps := s.steps + 1 } x2 :=
      ((HM.out.mac.putReg 0 0 (by omega)).putPc next).putSteps (s.steps + 1)
    have he : ({ s2 with regs := rset s2.regs 0 0, pc := next, steps := s.steps + 1 } : St) = s'.step next := by
      rw [clr_put, HC.out]
      unfold St.step
      congr 1
      rw [← HS.out, ← HC.out]
      rfl
    rw [he] at hc
    have hs' : s' = s2.clr := HC.out.symm
    unfold StepQ
    rw [HX.out]
    refine ⟨rfl, x2, HM.out.struct hO hc rfl rfl rfl rfl ?_ ?_ ?_, HK.out.back HO0.out, (HE.out.pre HO0.out.mb).post ?_⟩
    · rw [hs']; rfl
    · rw [hs']; rfl
    · rw [hs']; rfl
    · exact hO.mb
  | trap s' o =>
    rw [he] at hq hx
    obtain ⟨rfl, x2, hM, hK, hE⟩ := hq
    refine ⟨rfl, rfl, x2, hM, hK.back HO0.out, HO0.out.mb.then hE⟩
set_option maxRecDepth 100000 in
set_option maxHeartbeats 400000 in
theorem do_jump (eff : Int → Int → World → World → Prop) (b : Nat) (clo : Value) (pre : World → Prop) (hW : WriteSpec eff b clo pre) (hst : Stable pre b) (i : Ins) (hi : i.Ok) (s : St) (hs : s.Ok) (hev : s.evs.length ≤ 1000000) (hs0 : 0 ≤ s.steps) (hs1 : s.steps ≤ 10000) (x : Raw) (hclo : x.wrote = clo) (w : World) (h : Mach w b s x) (hpre : pre w) (h0 : 2 ≤ i.op) (h1 : i.op ≤ 3) :
    Calls Tryz.prog 32 #[.pointer (some ⟨b, 0, none⟩), .func (.func 50) #[] #[], .agg i.cells] w (StepQ eff b s x i w) := by
  have hO0 : Only (· = b) w ((w.setCell ⟨b, 35, none⟩ (.int .u32 (u32 (s.pc + 4)))).alloc (.cells #[.int .i64 i.op, .int .i64 i.rd, .int .i64 i.rs1, .int .i64 i.rs2, .int .i32 i.imm] 32)) := ((Only.refl _ w).set1 35 _).alloc _
  have hM0 := h.struct (x' := { x with next := u32 (s.pc + 4) }) hO0 ((h.mac.putNext _).alloc _) rfl rfl rfl rfl rfl rfl rfl
  have hd := does_jump eff b clo pre hW hst i hi s hs hev hs0 hs1 { x with next := u32 (s.pc + 4) } hclo _ hM0 (hst x s w _ h hpre hO0.mb) rfl h0 h1
  have hx := exec_ok hs hi
  have p0 := h.mac.pc
  have n35 := h.mac.next
  have f35 := h.mac.free 35
  have hsz := h.mac.lt
  obtain ⟨pc0, pc1⟩ := hs.pc
  have HO0 := Lib.hid hO0
  have HD := Lib.hid hd
  have HX := Lib.hid hx
  clear hO0 hM0 hd hx h0 h1
  unfold Ins.cells at *
  go_enter Tryz.func32, Tryz.ntmps32
  go_wp2_with fail
  refine HD.out.mono ?_
  intro e w1 hq
  unfold DoesQ at hq
  unfold StepQ
  have hx := HX.out
  clear HD HX p0 f35 n35
  cases he : exec s i with
  | go s' next wr =>
    rw [he] at hq hx
    obtain ⟨rfl, s2, x2, hM, hclr, hnx, hK, hE⟩ := hq
    obtain ⟨hT, hst', m0, m1⟩ := hx
    have hst2 : s2.steps = s.steps := by rw [← hst', ← hclr]; rfl
    have k0 := hM.mac.reg 0 (by omega)
    have k32 := hM.mac.pc
    have k34 := hM.mac.steps
    have k35 := hM.mac.next
    have r0 := hM.mac.free 0
    have r32 := hM.mac.free 32
    have r34 := hM.mac.free 34
    rw [hst2] at k34
    rw [hnx] at k35
    have HM := Lib.hid hM
    have HC := Lib.hid hclr
    have HK := Lib.hid hK
    have HE := Lib.hid hE
    have HT := Lib.hid hT
    have HS := Lib.hid hst2
    have HX := Lib.hid he
    clear hM hclr hnx hK hE hT he hst' hst2 hsz
    go_wp2_with fail
    go_end0
    have hO : Only (· = b) w1 (((w1.setCell ⟨b, 0, none⟩ (.int .u32 0)).setCell ⟨b, 32, none⟩ (.int .u32 next)).setCell ⟨b, 34, none⟩ (.int .i64 (s.steps + 1))) := (((Only.refl _ w1).set1 0 _).set1 32 _).set1 34 _
    have hc : MacAt (((w1.setCell ⟨b, 0, none⟩ (.int .u32 0)).setCell ⟨b, 32, none⟩ (.int .u32 next)).setCell ⟨b, 34, none⟩ (.int .i64 (s.steps + 1))) b { s2 with regs := rset s2.regs 0 0, pc := next, steps := s.steps + 1 } x2 :=
      ((HM.out.mac.putReg 0 0 (by omega)).putPc next).putSteps (s.steps + 1)
    have he : ({ s2 with regs := rset s2.regs 0 0, pc := next, steps := s.steps + 1 } : St) = s'.step next := by
      rw [clr_put, HC.out]
      unfold St.step
      congr 1
      rw [← HS.out, ← HC.out]
      rfl
    rw [he] at hc
    have hs' : s' = s2.clr := HC.out.symm
    unfold StepQ
    rw [HX.out]
    refine ⟨rfl, x2, HM.out.struct hO hc rfl rfl rfl rfl ?_ ?_ ?_, HK.out.back HO0.out, (HE.out.pre HO0.out.mb).post ?_⟩
    · rw [hs']; rfl
    · rw [hs']; rfl
    · rw [hs']; rfl
    · exact hO.mb
  | trap s' o =>
    rw [he] at hq hx
    obtain ⟨rfl, x2, hM, hK, hE⟩ := hq
    refine ⟨rfl, rfl, x2, hM, hK.back HO0.out, HO0.out.mb.then hE⟩
set_option maxRecDepth 100000 in
set_option maxHeartbeats 400000 in
theorem do_branch (eff : Int → Int → World → World → Prop) (b : Nat) (clo : Value) (pre : World → Prop) (hW : WriteSpec eff b clo pre) (hst : Stable pre b) (i : Ins) (hi : i.Ok) (s : St) (hs : s.Ok) (hev : s.evs.length ≤ 1000000) (hs0 : 0 ≤ s.steps) (hs1 : s.steps ≤ 10000) (x : Raw) (hclo : x.wrote = clo) (w : World) (h : Mach w b s x) (hpre : pre w) (h0 : 4 ≤ i.op) (h1 : i.op ≤ 9) :
    Calls Tryz.prog 32 #[.pointer (some ⟨b, 0, none⟩), .func (.func 51) #[] #[], .agg i.cells] w (StepQ eff b s x i w) := by
  have hO0 : Only (· = b) w ((w.setCell ⟨b, 35, none⟩ (.int .u32 (u32 (s.pc + 4)))).alloc (.cells #[.int .i64 i.op, .int .i64 i.rd, .int .i64 i.rs1, .int .i64 i.rs2, .int .i32 i.imm] 32)) := ((Only.refl _ w).set1 35 _).alloc _
  have hM0 := h.struct (x' := { x with next := u32 (s.pc + 4) }) hO0 ((h.mac.putNext _).alloc _) rfl rfl rfl rfl rfl rfl rfl
  have hd := does_branch eff b clo pre hW hst i hi s hs hev hs0 hs1 { x with next := u32 (s.pc + 4) } hclo _ hM0 (hst x s w _ h hpre hO0.mb) rfl h0 h1
  have hx := exec_ok hs hi
  have p0 := h.mac.pc
  have n35 := h.mac.next
  have f35 := h.mac.free 35
  have hsz := h.mac.lt
  obtain ⟨pc0, pc1⟩ := hs.pc
  have HO0 := Lib.hid hO0
  have HD := Lib.hid hd
  have HX := Lib.hid hx
  clear hO0 hM0 hd hx h0 h1
  unfold Ins.cells at *
  go_enter Tryz.func32, Tryz.ntmps32
  go_wp2_with fail
  refine HD.out.mono ?_
  intro e w1 hq
  unfold DoesQ at hq
  unfold StepQ
  have hx := HX.out
  clear HD HX p0 f35 n35
  cases he : exec s i with
  | go s' next wr =>
    rw [he] at hq hx
    obtain ⟨rfl, s2, x2, hM, hclr, hnx, hK, hE⟩ := hq
    obtain ⟨hT, hst', m0, m1⟩ := hx
    have hst2 : s2.steps = s.steps := by rw [← hst', ← hclr]; rfl
    have k0 := hM.mac.reg 0 (by omega)
    have k32 := hM.mac.pc
    have k34 := hM.mac.steps
    have k35 := hM.mac.next
    have r0 := hM.mac.free 0
    have r32 := hM.mac.free 32
    have r34 := hM.mac.free 34
    rw [hst2] at k34
    rw [hnx] at k35
    have HM := Lib.hid hM
    have HC := Lib.hid hclr
    have HK := Lib.hid hK
    have HE := Lib.hid hE
    have HT := Lib.hid hT
    have HS := Lib.hid hst2
    have HX := Lib.hid he
    clear hM hclr hnx hK hE hT he hst' hst2 hsz
    go_wp2_with fail
    go_end0
    have hO : Only (· = b) w1 (((w1.setCell ⟨b, 0, none⟩ (.int .u32 0)).setCell ⟨b, 32, none⟩ (.int .u32 next)).setCell ⟨b, 34, none⟩ (.int .i64 (s.steps + 1))) := (((Only.refl _ w1).set1 0 _).set1 32 _).set1 34 _
    have hc : MacAt (((w1.setCell ⟨b, 0, none⟩ (.int .u32 0)).setCell ⟨b, 32, none⟩ (.int .u32 next)).setCell ⟨b, 34, none⟩ (.int .i64 (s.steps + 1))) b { s2 with regs := rset s2.regs 0 0, pc := next, steps := s.steps + 1 } x2 :=
      ((HM.out.mac.putReg 0 0 (by omega)).putPc next).putSteps (s.steps + 1)
    have he : ({ s2 with regs := rset s2.regs 0 0, pc := next, steps := s.steps + 1 } : St) = s'.step next := by
      rw [clr_put, HC.out]
      unfold St.step
      congr 1
      rw [← HS.out, ← HC.out]
      rfl
    rw [he] at hc
    have hs' : s' = s2.clr := HC.out.symm
    unfold StepQ
    rw [HX.out]
    refine ⟨rfl, x2, HM.out.struct hO hc rfl rfl rfl rfl ?_ ?_ ?_, HK.out.back HO0.out, (HE.out.pre HO0.out.mb).post ?_⟩
    · rw [hs']; rfl
    · rw [hs']; rfl
    · rw [hs']; rfl
    · exact hO.mb
  | trap s' o =>
    rw [he] at hq hx
    obtain ⟨rfl, x2, hM, hK, hE⟩ := hq
    refine ⟨rfl, rfl, x2, hM, hK.back HO0.out, HO0.out.mb.then hE⟩
set_option maxRecDepth 100000 in
set_option maxHeartbeats 400000 in
theorem do_load (eff : Int → Int → World → World → Prop) (b : Nat) (clo : Value) (pre : World → Prop) (hW : WriteSpec eff b clo pre) (hst : Stable pre b) (i : Ins) (hi : i.Ok) (s : St) (hs : s.Ok) (hev : s.evs.length ≤ 1000000) (hs0 : 0 ≤ s.steps) (hs1 : s.steps ≤ 10000) (x : Raw) (hclo : x.wrote = clo) (w : World) (h : Mach w b s x) (hpre : pre w) (h0 : 10 ≤ i.op) (h1 : i.op ≤ 14) :
    Calls Tryz.prog 32 #[.pointer (some ⟨b, 0, none⟩), .func (.func 52) #[] #[], .agg i.cells] w (StepQ eff b s x i w) := by
  have hO0 : Only (· = b) w ((w.setCell ⟨b, 35, none⟩ (.int .u32 (u32 (s.pc + 4)))).alloc (.cells #[.int .i64 i.op, .int .i64 i.rd, .int .i64 i.rs1, .int .i64 i.rs2, .int .i32 i.imm] 32)) := ((Only.refl _ w).set1 35 _).alloc _
  have hM0 := h.struct (x' := { x with next := u32 (s.pc + 4) }) hO0 ((h.mac.putNext _).alloc _) rfl rfl rfl rfl rfl rfl rfl
  have hd := does_load eff b clo pre hW hst i hi s hs hev hs0 hs1 { x with next := u32 (s.pc + 4) } hclo _ hM0 (hst x s w _ h hpre hO0.mb) rfl h0 h1
  have hx := exec_ok hs hi
  have p0 := h.mac.pc
  have n35 := h.mac.next
  have f35 := h.mac.free 35
  have hsz := h.mac.lt
  obtain ⟨pc0, pc1⟩ := hs.pc
  have HO0 := Lib.hid hO0
  have HD := Lib.hid hd
  have HX := Lib.hid hx
  clear hO0 hM0 hd hx h0 h1
  unfold Ins.cells at *
  go_enter Tryz.func32, Tryz.ntmps32
  go_wp2_with fail
  refine HD.out.mono ?_
  intro e w1 hq
  unfold DoesQ at hq
  unfold StepQ
  have hx := HX.out
  clear HD HX p0 f35 n35
  cases he : exec s i with
  | go s' next wr =>
    rw [he] at hq hx
    obtain ⟨rfl, s2, x2, hM, hclr, hnx, hK, hE⟩ := hq
    obtain ⟨hT, hst', m0, m1⟩ := hx
    have hst2 : s2.steps = s.steps := by rw [← hst', ← hclr]; rfl
    have k0 := hM.mac.reg 0 (by omega)
    have k32 := hM.mac.pc
    have k34 := hM.mac.steps
    have k35 := hM.mac.next
    have r0 := hM.mac.free 0
    have r32 := hM.mac.free 32
    have r34 := hM.mac.free 34
    rw [hst2] at k34
    rw [hnx] at k35
    have HM := Lib.hid hM
    have HC := Lib.hid hclr
    have HK := Lib.hid hK
    have HE := Lib.hid hE
    have HT := Lib.hid hT
    have HS := Lib.hid hst2
    have HX := Lib.hid he
    clear hM hclr hnx hK hE hT he hst' hst2 hsz
    go_wp2_with fail
    go_end0
    have hO : Only (· = b) w1 (((w1.setCell ⟨b, 0, none⟩ (.int .u32 0)).setCell ⟨b, 32, none⟩ (.int .u32 next)).setCell ⟨b, 34, none⟩ (.int .i64 (s.steps + 1))) := (((Only.refl _ w1).set1 0 _).set1 32 _).set1 34 _
    have hc : MacAt (((w1.setCell ⟨b, 0, none⟩ (.int .u32 0)).setCell ⟨b, 32, none⟩ (.int .u32 next)).setCell ⟨b, 34, none⟩ (.int .i64 (s.steps + 1))) b { s2 with regs := rset s2.regs 0 0, pc := next, steps := s.steps + 1 } x2 :=
      ((HM.out.mac.putReg 0 0 (by omega)).putPc next).putSteps (s.steps + 1)
    have he : ({ s2 with regs := rset s2.regs 0 0, pc := next, steps := s.steps + 1 } : St) = s'.step next := by
      rw [clr_put, HC.out]
      unfold St.step
      congr 1
      rw [← HS.out, ← HC.out]
      rfl
    rw [he] at hc
    have hs' : s' = s2.clr := HC.out.symm
    unfold StepQ
    rw [HX.out]
    refine ⟨rfl, x2, HM.out.struct hO hc rfl rfl rfl rfl ?_ ?_ ?_, HK.out.back HO0.out, (HE.out.pre HO0.out.mb).post ?_⟩
    · rw [hs']; rfl
    · rw [hs']; rfl
    · rw [hs']; rfl
    · exact hO.mb
  | trap s' o =>
    rw [he] at hq hx
    obtain ⟨rfl, x2, hM, hK, hE⟩ := hq
    refine ⟨rfl, rfl, x2, hM, hK.back HO0.out, HO0.out.mb.then hE⟩
set_option maxRecDepth 100000 in
set_option maxHeartbeats 400000 in
theorem do_store (eff : Int → Int → World → World → Prop) (b : Nat) (clo : Value) (pre : World → Prop) (hW : WriteSpec eff b clo pre) (hst : Stable pre b) (i : Ins) (hi : i.Ok) (s : St) (hs : s.Ok) (hev : s.evs.length ≤ 1000000) (hs0 : 0 ≤ s.steps) (hs1 : s.steps ≤ 10000) (x : Raw) (hclo : x.wrote = clo) (w : World) (h : Mach w b s x) (hpre : pre w) (h0 : 15 ≤ i.op) (h1 : i.op ≤ 17) :
    Calls Tryz.prog 32 #[.pointer (some ⟨b, 0, none⟩), .func (.func 53) #[] #[], .agg i.cells] w (StepQ eff b s x i w) := by
  have hO0 : Only (· = b) w ((w.setCell ⟨b, 35, none⟩ (.int .u32 (u32 (s.pc + 4)))).alloc (.cells #[.int .i64 i.op, .int .i64 i.rd, .int .i64 i.rs1, .int .i64 i.rs2, .int .i32 i.imm] 32)) := ((Only.refl _ w).set1 35 _).alloc _
  have hM0 := h.struct (x' := { x with next := u32 (s.pc + 4) }) hO0 ((h.mac.putNext _).alloc _) rfl rfl rfl rfl rfl rfl rfl
  have hd := does_store eff b clo pre hW hst i hi s hs hev hs0 hs1 { x with next := u32 (s.pc + 4) } hclo _ hM0 (hst x s w _ h hpre hO0.mb) rfl h0 h1
  have hx := exec_ok hs hi
  have p0 := h.mac.pc
  have n35 := h.mac.next
  have f35 := h.mac.free 35
  have hsz := h.mac.lt
  obtain ⟨pc0, pc1⟩ := hs.pc
  have HO0 := Lib.hid hO0
  have HD := Lib.hid hd
  have HX := Lib.hid hx
  clear hO0 hM0 hd hx h0 h1
  unfold Ins.cells at *
  go_enter Tryz.func32, Tryz.ntmps32
  go_wp2_with fail
  refine HD.out.mono ?_
  intro e w1 hq
  unfold DoesQ at hq
  unfold StepQ
  have hx := HX.out
  clear HD HX p0 f35 n35
  cases he : exec s i with
  | go s' next wr =>
    rw [he] at hq hx
    obtain ⟨rfl, s2, x2, hM, hclr, hnx, hK, hE⟩ := hq
    obtain ⟨hT, hst', m0, m1⟩ := hx
    have hst2 : s2.steps = s.steps := by rw [← hst', ← hclr]; rfl
    have k0 := hM.mac.reg 0 (by omega)
    have k32 := hM.mac.pc
    have k34 := hM.mac.steps
    have k35 := hM.mac.next
    have r0 := hM.mac.free 0
    have r32 := hM.mac.free 32
    have r34 := hM.mac.free 34
    rw [hst2] at k34
    rw [hnx] at k35
    have HM := Lib.hid hM
    have HC := Lib.hid hclr
    have HK := Lib.hid hK
    have HE := Lib.hid hE
    have HT := Lib.hid hT
    have HS := Lib.hid hst2
    have HX := Lib.hid he
    clear hM hclr hnx hK hE hT he hst' hst2 hsz
    go_wp2_with fail
    go_end0
    have hO : Only (· = b) w1 (((w1.setCell ⟨b, 0, none⟩ (.int .u32 0)).setCell ⟨b, 32, none⟩ (.int .u32 next)).setCell ⟨b, 34, none⟩ (.int .i64 (s.steps + 1))) := (((Only.refl _ w1).set1 0 _).set1 32 _).set1 34 _
    have hc : MacAt (((w1.setCell ⟨b, 0, none⟩ (.int .u32 0)).setCell ⟨b, 32, none⟩ (.int .u32 next)).setCell ⟨b, 34, none⟩ (.int .i64 (s.steps + 1))) b { s2 with regs := rset s2.regs 0 0, pc := next, steps := s.steps + 1 } x2 :=
      ((HM.out.mac.putReg 0 0 (by omega)).putPc next).putSteps (s.steps + 1)
    have he : ({ s2 with regs := rset s2.regs 0 0, pc := next, steps := s.steps + 1 } : St) = s'.step next := by
      rw [clr_put, HC.out]
      unfold St.step
      congr 1
      rw [← HS.out, ← HC.out]
      rfl
    rw [he] at hc
    have hs' : s' = s2.clr := HC.out.symm
    unfold StepQ
    rw [HX.out]
    refine ⟨rfl, x2, HM.out.struct hO hc rfl rfl rfl rfl ?_ ?_ ?_, HK.out.back HO0.out, (HE.out.pre HO0.out.mb).post ?_⟩
    · rw [hs']; rfl
    · rw [hs']; rfl
    · rw [hs']; rfl
    · exact hO.mb
  | trap s' o =>
    rw [he] at hq hx
    obtain ⟨rfl, x2, hM, hK, hE⟩ := hq
    refine ⟨rfl, rfl, x2, hM, hK.back HO0.out, HO0.out.mb.then hE⟩
set_option maxRecDepth 100000 in
set_option maxHeartbeats 400000 in
theorem do_number (eff : Int → Int → World → World → Prop) (b : Nat) (clo : Value) (pre : World → Prop) (hW : WriteSpec eff b clo pre) (hst : Stable pre b) (i : Ins) (hi : i.Ok) (s : St) (hs : s.Ok) (hev : s.evs.length ≤ 1000000) (hs0 : 0 ≤ s.steps) (hs1 : s.steps ≤ 10000) (x : Raw) (hclo : x.wrote = clo) (w : World) (h : Mach w b s x) (hpre : pre w) (h0 : 18 ≤ i.op) (h1 : i.op ≤ 26) :
    Calls Tryz.prog 32 #[.pointer (some ⟨b, 0, none⟩), .func (.func 54) #[] #[], .agg i.cells] w (StepQ eff b s x i w) := by
  have hO0 : Only (· = b) w ((w.setCell ⟨b, 35, none⟩ (.int .u32 (u32 (s.pc + 4)))).alloc (.cells #[.int .i64 i.op, .int .i64 i.rd, .int .i64 i.rs1, .int .i64 i.rs2, .int .i32 i.imm] 32)) := ((Only.refl _ w).set1 35 _).alloc _
  have hM0 := h.struct (x' := { x with next := u32 (s.pc + 4) }) hO0 ((h.mac.putNext _).alloc _) rfl rfl rfl rfl rfl rfl rfl
  have hd := does_number eff b clo pre hW hst i hi s hs hev hs0 hs1 { x with next := u32 (s.pc + 4) } hclo _ hM0 (hst x s w _ h hpre hO0.mb) rfl h0 h1
  have hx := exec_ok hs hi
  have p0 := h.mac.pc
  have n35 := h.mac.next
  have f35 := h.mac.free 35
  have hsz := h.mac.lt
  obtain ⟨pc0, pc1⟩ := hs.pc
  have HO0 := Lib.hid hO0
  have HD := Lib.hid hd
  have HX := Lib.hid hx
  clear hO0 hM0 hd hx h0 h1
  unfold Ins.cells at *
  go_enter Tryz.func32, Tryz.ntmps32
  go_wp2_with fail
  refine HD.out.mono ?_
  intro e w1 hq
  unfold DoesQ at hq
  unfold StepQ
  have hx := HX.out
  clear HD HX p0 f35 n35
  cases he : exec s i with
  | go s' next wr =>
    rw [he] at hq hx
    obtain ⟨rfl, s2, x2, hM, hclr, hnx, hK, hE⟩ := hq
    obtain ⟨hT, hst', m0, m1⟩ := hx
    have hst2 : s2.steps = s.steps := by rw [← hst', ← hclr]; rfl
    have k0 := hM.mac.reg 0 (by omega)
    have k32 := hM.mac.pc
    have k34 := hM.mac.steps
    have k35 := hM.mac.next
    have r0 := hM.mac.free 0
    have r32 := hM.mac.free 32
    have r34 := hM.mac.free 34
    rw [hst2] at k34
    rw [hnx] at k35
    have HM := Lib.hid hM
    have HC := Lib.hid hclr
    have HK := Lib.hid hK
    have HE := Lib.hid hE
    have HT := Lib.hid hT
    have HS := Lib.hid hst2
    have HX := Lib.hid he
    clear hM hclr hnx hK hE hT he hst' hst2 hsz
    go_wp2_with fail
    go_end0
    have hO : Only (· = b) w1 (((w1.setCell ⟨b, 0, none⟩ (.int .u32 0)).setCell ⟨b, 32, none⟩ (.int .u32 next)).setCell ⟨b, 34, none⟩ (.int .i64 (s.steps + 1))) := (((Only.refl _ w1).set1 0 _).set1 32 _).set1 34 _
    have hc : MacAt (((w1.setCell ⟨b, 0, none⟩ (.int .u32 0)).setCell ⟨b, 32, none⟩ (.int .u32 next)).setCell ⟨b, 34, none⟩ (.int .i64 (s.steps + 1))) b { s2 with regs := rset s2.regs 0 0, pc := next, steps := s.steps + 1 } x2 :=
      ((HM.out.mac.putReg 0 0 (by omega)).putPc next).putSteps (s.steps + 1)
    have he : ({ s2 with regs := rset s2.regs 0 0, pc := next, steps := s.steps + 1 } : St) = s'.step next := by
      rw [clr_put, HC.out]
      unfold St.step
      congr 1
      rw [← HS.out, ← HC.out]
      rfl
    rw [he] at hc
    have hs' : s' = s2.clr := HC.out.symm
    unfold StepQ
    rw [HX.out]
    refine ⟨rfl, x2, HM.out.struct hO hc rfl rfl rfl rfl ?_ ?_ ?_, HK.out.back HO0.out, (HE.out.pre HO0.out.mb).post ?_⟩
    · rw [hs']; rfl
    · rw [hs']; rfl
    · rw [hs']; rfl
    · exact hO.mb
  | trap s' o =>
    rw [he] at hq hx
    obtain ⟨rfl, x2, hM, hK, hE⟩ := hq
    refine ⟨rfl, rfl, x2, hM, hK.back HO0.out, HO0.out.mb.then hE⟩
set_option maxRecDepth 100000 in
set_option maxHeartbeats 400000 in
theorem do_registers (eff : Int → Int → World → World → Prop) (b : Nat) (clo : Value) (pre : World → Prop) (hW : WriteSpec eff b clo pre) (hst : Stable pre b) (i : Ins) (hi : i.Ok) (s : St) (hs : s.Ok) (hev : s.evs.length ≤ 1000000) (hs0 : 0 ≤ s.steps) (hs1 : s.steps ≤ 10000) (x : Raw) (hclo : x.wrote = clo) (w : World) (h : Mach w b s x) (hpre : pre w) (h0 : 27 ≤ i.op) (h1 : i.op ≤ 44) :
    Calls Tryz.prog 32 #[.pointer (some ⟨b, 0, none⟩), .func (.func 55) #[] #[], .agg i.cells] w (StepQ eff b s x i w) := by
  have hO0 : Only (· = b) w ((w.setCell ⟨b, 35, none⟩ (.int .u32 (u32 (s.pc + 4)))).alloc (.cells #[.int .i64 i.op, .int .i64 i.rd, .int .i64 i.rs1, .int .i64 i.rs2, .int .i32 i.imm] 32)) := ((Only.refl _ w).set1 35 _).alloc _
  have hM0 := h.struct (x' := { x with next := u32 (s.pc + 4) }) hO0 ((h.mac.putNext _).alloc _) rfl rfl rfl rfl rfl rfl rfl
  have hd := does_registers eff b clo pre hW hst i hi s hs hev hs0 hs1 { x with next := u32 (s.pc + 4) } hclo _ hM0 (hst x s w _ h hpre hO0.mb) rfl h0 h1
  have hx := exec_ok hs hi
  have p0 := h.mac.pc
  have n35 := h.mac.next
  have f35 := h.mac.free 35
  have hsz := h.mac.lt
  obtain ⟨pc0, pc1⟩ := hs.pc
  have HO0 := Lib.hid hO0
  have HD := Lib.hid hd
  have HX := Lib.hid hx
  clear hO0 hM0 hd hx h0 h1
  unfold Ins.cells at *
  go_enter Tryz.func32, Tryz.ntmps32
  go_wp2_with fail
  refine HD.out.mono ?_
  intro e w1 hq
  unfold DoesQ at hq
  unfold StepQ
  have hx := HX.out
  clear HD HX p0 f35 n35
  cases he : exec s i with
  | go s' next wr =>
    rw [he] at hq hx
    obtain ⟨rfl, s2, x2, hM, hclr, hnx, hK, hE⟩ := hq
    obtain ⟨hT, hst', m0, m1⟩ := hx
    have hst2 : s2.steps = s.steps := by rw [← hst', ← hclr]; rfl
    have k0 := hM.mac.reg 0 (by omega)
    have k32 := hM.mac.pc
    have k34 := hM.mac.steps
    have k35 := hM.mac.next
    have r0 := hM.mac.free 0
    have r32 := hM.mac.free 32
    have r34 := hM.mac.free 34
    rw [hst2] at k34
    rw [hnx] at k35
    have HM := Lib.hid hM
    have HC := Lib.hid hclr
    have HK := Lib.hid hK
    have HE := Lib.hid hE
    have HT := Lib.hid hT
    have HS := Lib.hid hst2
    have HX := Lib.hid he
    clear hM hclr hnx hK hE hT he hst' hst2 hsz
    go_wp2_with fail
    go_end0
    have hO : Only (· = b) w1 (((w1.setCell ⟨b, 0, none⟩ (.int .u32 0)).setCell ⟨b, 32, none⟩ (.int .u32 next)).setCell ⟨b, 34, none⟩ (.int .i64 (s.steps + 1))) := (((Only.refl _ w1).set1 0 _).set1 32 _).set1 34 _
    have hc : MacAt (((w1.setCell ⟨b, 0, none⟩ (.int .u32 0)).setCell ⟨b, 32, none⟩ (.int .u32 next)).setCell ⟨b, 34, none⟩ (.int .i64 (s.steps + 1))) b { s2 with regs := rset s2.regs 0 0, pc := next, steps := s.steps + 1 } x2 :=
      ((HM.out.mac.putReg 0 0 (by omega)).putPc next).putSteps (s.steps + 1)
    have he : ({ s2 with regs := rset s2.regs 0 0, pc := next, steps := s.steps + 1 } : St) = s'.step next := by
      rw [clr_put, HC.out]
      unfold St.step
      congr 1
      rw [← HS.out, ← HC.out]
      rfl
    rw [he] at hc
    have hs' : s' = s2.clr := HC.out.symm
    unfold StepQ
    rw [HX.out]
    refine ⟨rfl, x2, HM.out.struct hO hc rfl rfl rfl rfl ?_ ?_ ?_, HK.out.back HO0.out, (HE.out.pre HO0.out.mb).post ?_⟩
    · rw [hs']; rfl
    · rw [hs']; rfl
    · rw [hs']; rfl
    · exact hO.mb
  | trap s' o =>
    rw [he] at hq hx
    obtain ⟨rfl, x2, hM, hK, hE⟩ := hq
    refine ⟨rfl, rfl, x2, hM, hK.back HO0.out, HO0.out.mb.then hE⟩
set_option maxRecDepth 100000 in
set_option maxHeartbeats 400000 in
theorem do_nothing (eff : Int → Int → World → World → Prop) (b : Nat) (clo : Value) (pre : World → Prop) (hW : WriteSpec eff b clo pre) (hst : Stable pre b) (i : Ins) (hi : i.Ok) (s : St) (hs : s.Ok) (hev : s.evs.length ≤ 1000000) (hs0 : 0 ≤ s.steps) (hs1 : s.steps ≤ 10000) (x : Raw) (hclo : x.wrote = clo) (w : World) (h : Mach w b s x) (hpre : pre w) (h0 : i.op = 45) :
    Calls Tryz.prog 32 #[.pointer (some ⟨b, 0, none⟩), .func (.func 58) #[] #[], .agg i.cells] w (StepQ eff b s x i w) := by
  have hO0 : Only (· = b) w ((w.setCell ⟨b, 35, none⟩ (.int .u32 (u32 (s.pc + 4)))).alloc (.cells #[.int .i64 i.op, .int .i64 i.rd, .int .i64 i.rs1, .int .i64 i.rs2, .int .i32 i.imm] 32)) := ((Only.refl _ w).set1 35 _).alloc _
  have hM0 := h.struct (x' := { x with next := u32 (s.pc + 4) }) hO0 ((h.mac.putNext _).alloc _) rfl rfl rfl rfl rfl rfl rfl
  have hd := does_nothing eff b clo pre hW hst i hi s hs hev hs0 hs1 { x with next := u32 (s.pc + 4) } hclo _ hM0 (hst x s w _ h hpre hO0.mb) rfl h0
  have hx := exec_ok hs hi
  have p0 := h.mac.pc
  have n35 := h.mac.next
  have f35 := h.mac.free 35
  have hsz := h.mac.lt
  obtain ⟨pc0, pc1⟩ := hs.pc
  have HO0 := Lib.hid hO0
  have HD := Lib.hid hd
  have HX := Lib.hid hx
  clear hO0 hM0 hd hx h0
  unfold Ins.cells at *
  go_enter Tryz.func32, Tryz.ntmps32
  go_wp2_with fail
  refine HD.out.mono ?_
  intro e w1 hq
  unfold DoesQ at hq
  unfold StepQ
  have hx := HX.out
  clear HD HX p0 f35 n35
  cases he : exec s i with
  | go s' next wr =>
    rw [he] at hq hx
    obtain ⟨rfl, s2, x2, hM, hclr, hnx, hK, hE⟩ := hq
    obtain ⟨hT, hst', m0, m1⟩ := hx
    have hst2 : s2.steps = s.steps := by rw [← hst', ← hclr]; rfl
    have k0 := hM.mac.reg 0 (by omega)
    have k32 := hM.mac.pc
    have k34 := hM.mac.steps
    have k35 := hM.mac.next
    have r0 := hM.mac.free 0
    have r32 := hM.mac.free 32
    have r34 := hM.mac.free 34
    rw [hst2] at k34
    rw [hnx] at k35
    have HM := Lib.hid hM
    have HC := Lib.hid hclr
    have HK := Lib.hid hK
    have HE := Lib.hid hE
    have HT := Lib.hid hT
    have HS := Lib.hid hst2
    have HX := Lib.hid he
    clear hM hclr hnx hK hE hT he hst' hst2 hsz
    go_wp2_with fail
    go_end0
    have hO : Only (· = b) w1 (((w1.setCell ⟨b, 0, none⟩ (.int .u32 0)).setCell ⟨b, 32, none⟩ (.int .u32 next)).setCell ⟨b, 34, none⟩ (.int .i64 (s.steps + 1))) := (((Only.refl _ w1).set1 0 _).set1 32 _).set1 34 _
    have hc : MacAt (((w1.setCell ⟨b, 0, none⟩ (.int .u32 0)).setCell ⟨b, 32, none⟩ (.int .u32 next)).setCell ⟨b, 34, none⟩ (.int .i64 (s.steps + 1))) b { s2 with regs := rset s2.regs 0 0, pc := next, steps := s.steps + 1 } x2 :=
      ((HM.out.mac.putReg 0 0 (by omega)).putPc next).putSteps (s.steps + 1)
    have he : ({ s2 with regs := rset s2.regs 0 0, pc := next, steps := s.steps + 1 } : St) = s'.step next := by
      rw [clr_put, HC.out]
      unfold St.step
      congr 1
      rw [← HS.out, ← HC.out]
      rfl
    rw [he] at hc
    have hs' : s' = s2.clr := HC.out.symm
    unfold StepQ
    rw [HX.out]
    refine ⟨rfl, x2, HM.out.struct hO hc rfl rfl rfl rfl ?_ ?_ ?_, HK.out.back HO0.out, (HE.out.pre HO0.out.mb).post ?_⟩
    · rw [hs']; rfl
    · rw [hs']; rfl
    · rw [hs']; rfl
    · exact hO.mb
  | trap s' o =>
    rw [he] at hq hx
    obtain ⟨rfl, x2, hM, hK, hE⟩ := hq
    refine ⟨rfl, rfl, x2, hM, hK.back HO0.out, HO0.out.mb.then hE⟩
set_option maxRecDepth 100000 in
set_option maxHeartbeats 400000 in
theorem do_stop (eff : Int → Int → World → World → Prop) (b : Nat) (clo : Value) (pre : World → Prop) (hW : WriteSpec eff b clo pre) (hst : Stable pre b) (i : Ins) (hi : i.Ok) (s : St) (hs : s.Ok) (hev : s.evs.length ≤ 1000000) (hs0 : 0 ≤ s.steps) (hs1 : s.steps ≤ 10000) (x : Raw) (hclo : x.wrote = clo) (w : World) (h : Mach w b s x) (hpre : pre w) (h0 : i.op = 47) :
    Calls Tryz.prog 32 #[.pointer (some ⟨b, 0, none⟩), .func (.func 57) #[] #[], .agg i.cells] w (StepQ eff b s x i w) := by
  have hO0 : Only (· = b) w ((w.setCell ⟨b, 35, none⟩ (.int .u32 (u32 (s.pc + 4)))).alloc (.cells #[.int .i64 i.op, .int .i64 i.rd, .int .i64 i.rs1, .int .i64 i.rs2, .int .i32 i.imm] 32)) := ((Only.refl _ w).set1 35 _).alloc _
  have hM0 := h.struct (x' := { x with next := u32 (s.pc + 4) }) hO0 ((h.mac.putNext _).alloc _) rfl rfl rfl rfl rfl rfl rfl
  have hd := does_stop eff b clo pre hW hst i hi s hs hev hs0 hs1 { x with next := u32 (s.pc + 4) } hclo _ hM0 (hst x s w _ h hpre hO0.mb) rfl h0
  have hx := exec_ok hs hi
  have p0 := h.mac.pc
  have n35 := h.mac.next
  have f35 := h.mac.free 35
  have hsz := h.mac.lt
  obtain ⟨pc0, pc1⟩ := hs.pc
  have HO0 := Lib.hid hO0
  have HD := Lib.hid hd
  have HX := Lib.hid hx
  clear hO0 hM0 hd hx h0
  unfold Ins.cells at *
  go_enter Tryz.func32, Tryz.ntmps32
  go_wp2_with fail
  refine HD.out.mono ?_
  intro e w1 hq
  unfold DoesQ at hq
  unfold StepQ
  have hx := HX.out
  clear HD HX p0 f35 n35
  cases he : exec s i with
  | go s' next wr =>
    rw [he] at hq hx
    obtain ⟨rfl, s2, x2, hM, hclr, hnx, hK, hE⟩ := hq
    obtain ⟨hT, hst', m0, m1⟩ := hx
    have hst2 : s2.steps = s.steps := by rw [← hst', ← hclr]; rfl
    have k0 := hM.mac.reg 0 (by omega)
    have k32 := hM.mac.pc
    have k34 := hM.mac.steps
    have k35 := hM.mac.next
    have r0 := hM.mac.free 0
    have r32 := hM.mac.free 32
    have r34 := hM.mac.free 34
    rw [hst2] at k34
    rw [hnx] at k35
    have HM := Lib.hid hM
    have HC := Lib.hid hclr
    have HK := Lib.hid hK
    have HE := Lib.hid hE
    have HT := Lib.hid hT
    have HS := Lib.hid hst2
    have HX := Lib.hid he
    clear hM hclr hnx hK hE hT he hst' hst2 hsz
    go_wp2_with fail
    go_end0
    have hO : Only (· = b) w1 (((w1.setCell ⟨b, 0, none⟩ (.int .u32 0)).setCell ⟨b, 32, none⟩ (.int .u32 next)).setCell ⟨b, 34, none⟩ (.int .i64 (s.steps + 1))) := (((Only.refl _ w1).set1 0 _).set1 32 _).set1 34 _
    have hc : MacAt (((w1.setCell ⟨b, 0, none⟩ (.int .u32 0)).setCell ⟨b, 32, none⟩ (.int .u32 next)).setCell ⟨b, 34, none⟩ (.int .i64 (s.steps + 1))) b { s2 with regs := rset s2.regs 0 0, pc := next, steps := s.steps + 1 } x2 :=
      ((HM.out.mac.putReg 0 0 (by omega)).putPc next).putSteps (s.steps + 1)
    have he : ({ s2 with regs := rset s2.regs 0 0, pc := next, steps := s.steps + 1 } : St) = s'.step next := by
      rw [clr_put, HC.out]
      unfold St.step
      congr 1
      rw [← HS.out, ← HC.out]
      rfl
    rw [he] at hc
    have hs' : s' = s2.clr := HC.out.symm
    unfold StepQ
    rw [HX.out]
    refine ⟨rfl, x2, HM.out.struct hO hc rfl rfl rfl rfl ?_ ?_ ?_, HK.out.back HO0.out, (HE.out.pre HO0.out.mb).post ?_⟩
    · rw [hs']; rfl
    · rw [hs']; rfl
    · rw [hs']; rfl
    · exact hO.mb
  | trap s' o =>
    rw [he] at hq hx
    obtain ⟨rfl, x2, hM, hK, hE⟩ := hq
    refine ⟨rfl, rfl, x2, hM, hK.back HO0.out, HO0.out.mb.then hE⟩
set_option maxRecDepth 100000 in
set_option maxHeartbeats 400000 in
theorem do_call (eff : Int → Int → World → World → Prop) (b : Nat) (clo : Value) (pre : World → Prop) (hW : WriteSpec eff b clo pre) (hst : Stable pre b) (i : Ins) (hi : i.Ok) (s : St) (hs : s.Ok) (hev : s.evs.length ≤ 1000000) (hs0 : 0 ≤ s.steps) (hs1 : s.steps ≤ 10000) (x : Raw) (hclo : x.wrote = clo) (w : World) (h : Mach w b s x) (hpre : pre w) (h0 : i.op = 46) :
    Calls Tryz.prog 32 #[.pointer (some ⟨b, 0, none⟩), .func (.func 56) #[] #[], .agg i.cells] w (StepQ eff b s x i w) := by
  have hO0 : Only (· = b) w ((w.setCell ⟨b, 35, none⟩ (.int .u32 (u32 (s.pc + 4)))).alloc (.cells #[.int .i64 i.op, .int .i64 i.rd, .int .i64 i.rs1, .int .i64 i.rs2, .int .i32 i.imm] 32)) := ((Only.refl _ w).set1 35 _).alloc _
  have hM0 := h.struct (x' := { x with next := u32 (s.pc + 4) }) hO0 ((h.mac.putNext _).alloc _) rfl rfl rfl rfl rfl rfl rfl
  have hd := does_call eff b clo pre hW hst i hi s hs hev hs0 hs1 { x with next := u32 (s.pc + 4) } hclo _ hM0 (hst x s w _ h hpre hO0.mb) rfl h0
  have hx := exec_ok hs hi
  have p0 := h.mac.pc
  have n35 := h.mac.next
  have f35 := h.mac.free 35
  have hsz := h.mac.lt
  obtain ⟨pc0, pc1⟩ := hs.pc
  have HO0 := Lib.hid hO0
  have HD := Lib.hid hd
  have HX := Lib.hid hx
  clear hO0 hM0 hd hx h0
  unfold Ins.cells at *
  go_enter Tryz.func32, Tryz.ntmps32
  go_wp2_with fail
  refine HD.out.mono ?_
  intro e w1 hq
  unfold DoesQ at hq
  unfold StepQ
  have hx := HX.out
  clear HD HX p0 f35 n35
  cases he : exec s i with
  | go s' next wr =>
    rw [he] at hq hx
    obtain ⟨rfl, s2, x2, hM, hclr, hnx, hK, hE⟩ := hq
    obtain ⟨hT, hst', m0, m1⟩ := hx
    have hst2 : s2.steps = s.steps := by rw [← hst', ← hclr]; rfl
    have k0 := hM.mac.reg 0 (by omega)
    have k32 := hM.mac.pc
    have k34 := hM.mac.steps
    have k35 := hM.mac.next
    have r0 := hM.mac.free 0
    have r32 := hM.mac.free 32
    have r34 := hM.mac.free 34
    rw [hst2] at k34
    rw [hnx] at k35
    have HM := Lib.hid hM
    have HC := Lib.hid hclr
    have HK := Lib.hid hK
    have HE := Lib.hid hE
    have HT := Lib.hid hT
    have HS := Lib.hid hst2
    have HX := Lib.hid he
    clear hM hclr hnx hK hE hT he hst' hst2 hsz
    go_wp2_with fail
    go_end0
    have hO : Only (· = b) w1 (((w1.setCell ⟨b, 0, none⟩ (.int .u32 0)).setCell ⟨b, 32, none⟩ (.int .u32 next)).setCell ⟨b, 34, none⟩ (.int .i64 (s.steps + 1))) := (((Only.refl _ w1).set1 0 _).set1 32 _).set1 34 _
    have hc : MacAt (((w1.setCell ⟨b, 0, none⟩ (.int .u32 0)).setCell ⟨b, 32, none⟩ (.int .u32 next)).setCell ⟨b, 34, none⟩ (.int .i64 (s.steps + 1))) b { s2 with regs := rset s2.regs 0 0, pc := next, steps := s.steps + 1 } x2 :=
      ((HM.out.mac.putReg 0 0 (by omega)).putPc next).putSteps (s.steps + 1)
    have he : ({ s2 with regs := rset s2.regs 0 0, pc := next, steps := s.steps + 1 } : St) = s'.step next := by
      rw [clr_put, HC.out]
      unfold St.step
      congr 1
      rw [← HS.out, ← HC.out]
      rfl
    rw [he] at hc
    have hs' : s' = s2.clr := HC.out.symm
    unfold StepQ
    rw [HX.out]
    refine ⟨rfl, x2, HM.out.struct hO hc rfl rfl rfl rfl ?_ ?_ ?_, HK.out.back HO0.out, (HE.out.pre HO0.out.mb).post ?_⟩
    · rw [hs']; rfl
    · rw [hs']; rfl
    · rw [hs']; rfl
    · exact hO.mb
  | trap s' o =>
    rw [he] at hq hx
    obtain ⟨rfl, x2, hM, hK, hE⟩ := hq
    refine ⟨rfl, rfl, x2, hM, hK.back HO0.out, HO0.out.mb.then hE⟩
/-- What 'Find' gives. -/
def findV (op : Int) : Value := if decide (op ≤ 1) then .func (.func 49) #[] #[] else if decide (op ≤ 3) then .func (.func 50) #[] #[] else if decide (op ≤ 9) then .func (.func 51) #[] #[] else if decide (op ≤ 14) then .func (.func 52) #[] #[] else if decide (op ≤ 17) then .func (.func 53) #[] #[] else if decide (op ≤ 26) then .func (.func 54) #[] #[] else if decide (op ≤ 44) then .func (.func 55) #[] #[] else if op == 46 then .func (.func 56) #[] #[] else if op == 47 then .func (.func 57) #[] #[] else .func (.func 58) #[] #[]
theorem find_any (op : Int) (w : World) : Calls Tryz.prog 33 #[.int .i64 op] w fun e w' => e = .returned (findV op) ∧ w = w' := by
  unfold findV
  cases h0 : decide (op ≤ 1)
  case true =>
    go_enter Tryz.func33, Tryz.ntmps33
    go_wp2
    go_ret
    exact ⟨rfl, rfl⟩
  cases h1 : decide (op ≤ 3)
  case true =>
    go_enter Tryz.func33, Tryz.ntmps33
    go_wp2
    go_ret
    exact ⟨rfl, rfl⟩
  cases h2 : decide (op ≤ 9)
  case true =>
    go_enter Tryz.func33, Tryz.ntmps33
    go_wp2
    go_ret
    exact ⟨rfl, rfl⟩
  cases h3 : decide (op ≤ 14)
  case true =>
    go_enter Tryz.func33, Tryz.ntmps33
    go_wp2
    go_ret
    exact ⟨rfl, rfl⟩
  cases h4 : decide (op ≤ 17)
  case true =>
    go_enter Tryz.func33, Tryz.ntmps33
    go_wp2
    go_ret
    exact ⟨rfl, rfl⟩
  cases h5 : decide (op ≤ 26)
  case true =>
    go_enter Tryz.func33, Tryz.ntmps33
    go_wp2
    go_ret
    exact ⟨rfl, rfl⟩
  cases h6 : decide (op ≤ 44)
  case true =>
    go_enter Tryz.func33, Tryz.ntmps33
    go_wp2
    go_ret
    exact ⟨rfl, rfl⟩
  cases h7 : op == 46
  case true =>
    go_enter Tryz.func33, Tryz.ntmps33
    go_wp2
    go_ret
    exact ⟨rfl, rfl⟩
  cases h8 : op == 47
  case true =>
    go_enter Tryz.func33, Tryz.ntmps33
    go_wp2
    go_ret
    exact ⟨rfl, rfl⟩
  go_enter Tryz.func33, Tryz.ntmps33
  go_wp2
  go_ret
  exact ⟨rfl, rfl⟩
theorem do_any (eff : Int → Int → World → World → Prop) (b : Nat) (clo : Value) (pre : World → Prop) (hW : WriteSpec eff b clo pre) (hst : Stable pre b) (i : Ins) (hi : i.Ok) (s : St) (hs : s.Ok) (hev : s.evs.length ≤ 1000000) (hs0 : 0 ≤ s.steps) (hs1 : s.steps ≤ 10000) (x : Raw) (hclo : x.wrote = clo) (w : World) (h : Mach w b s x) (hpre : pre w) :
    Calls Tryz.prog 32 #[.pointer (some ⟨b, 0, none⟩), findV i.op, .agg i.cells] w (StepQ eff b s x i w) := by
  obtain ⟨o0, o1⟩ := hi.op
  unfold findV
  by_cases g0 : i.op ≤ 1
  · rw [if_pos (decide_eq_true g0)]
    exact do_upper eff b clo pre hW hst i hi s hs hev hs0 hs1 x hclo w h hpre (by omega) g0
  rw [if_neg (by simpa using g0)]
  by_cases g1 : i.op ≤ 3
  · rw [if_pos (decide_eq_true g1)]
    exact do_jump eff b clo pre hW hst i hi s hs hev hs0 hs1 x hclo w h hpre (by omega) g1
  rw [if_neg (by simpa using g1)]
  by_cases g2 : i.op ≤ 9
  · rw [if_pos (decide_eq_true g2)]
    exact do_branch eff b clo pre hW hst i hi s hs hev hs0 hs1 x hclo w h hpre (by omega) g2
  rw [if_neg (by simpa using g2)]
  by_cases g3 : i.op ≤ 14
  · rw [if_pos (decide_eq_true g3)]
    exact do_load eff b clo pre hW hst i hi s hs hev hs0 hs1 x hclo w h hpre (by omega) g3
  rw [if_neg (by simpa using g3)]
  by_cases g4 : i.op ≤ 17
  · rw [if_pos (decide_eq_true g4)]
    exact do_store eff b clo pre hW hst i hi s hs hev hs0 hs1 x hclo w h hpre (by omega) g4
  rw [if_neg (by simpa using g4)]
  by_cases g5 : i.op ≤ 26
  · rw [if_pos (decide_eq_true g5)]
    exact do_number eff b clo pre hW hst i hi s hs hev hs0 hs1 x hclo w h hpre (by omega) g5
  rw [if_neg (by simpa using g5)]
  by_cases g6 : i.op ≤ 44
  · rw [if_pos (decide_eq_true g6)]
    exact do_registers eff b clo pre hW hst i hi s hs hev hs0 hs1 x hclo w h hpre (by omega) g6
  rw [if_neg (by simpa using g6)]
  by_cases g46 : i.op = 46
  · rw [if_pos (by simpa using g46)]
    exact do_call eff b clo pre hW hst i hi s hs hev hs0 hs1 x hclo w h hpre g46
  rw [if_neg (by simpa using g46)]
  by_cases g47 : i.op = 47
  · rw [if_pos (by simpa using g47)]
    exact do_stop eff b clo pre hW hst i hi s hs hev hs0 hs1 x hclo w h hpre g47
  rw [if_neg (by simpa using g47)]
  exact do_nothing eff b clo pre hW hst i hi s hs hev hs0 hs1 x hclo w h hpre (by omega)
end Go.Proofs.YtanccjaikocefaaGreatDoor
namespace Go.Proofs.YtanccjaikocefaaGreatDoor
open Go.ChangeShapes Go.WideShapes Go.ChangeAt Go.RowKit
set_option linter.unusedVariables false

/-- What 'At' comes to. -/
def AtP (w : World) (e : Ending) (w' : World) : Int ⊕ Ins → Prop
  | .inl o => e = trapE o ∧ Only (fun _ => False) w w'
  | .inr i => e = .returned (.agg i.cells) ∧ Only (fun _ => False) w w'
theorem results_one {fn : Func} {p : Tmp} (hres : fn.results = #[.cell p 32]) (tmps : Array Value) (w : World) (b : Nat) (i : Ins) (h2 : tmps.getD p undef = .pointer (some ⟨b, 0, none⟩)) (hi : InsAt w b i) :
    (results fn tmps).run Tryz.prog w = .ok (.agg i.cells) w := by
  have h2' : tmps[p]?.getD undef = .pointer (some ⟨b, 0, none⟩) := by simpa using h2
  have hl := run_loadVar_row (P := Tryz.prog) w b _ 32 i.cells _ _ hi Tryz.underlying32 rfl (by kernel_rfl)
  simp [results, hres, asAddr, h2', hl]
set_option maxRecDepth 100000 in
set_option maxHeartbeats 400000 in
theorem at_align (b : Nat) (s : St) (hs : s.Ok) (x : Raw) (w : World) (h : Mach w b s x) (ht : Tab w) (ha : (s.pc % 4 != 0) = true) :
    Calls Tryz.prog 31 #[.pointer (some ⟨b, 0, none⟩), .int .u32 s.pc] w fun e w' => AtP w e w' (fetch s) := by
  have he : fetch s = .inl 3 := by unfold fetch; rw [if_pos (by simpa using ha)]
  rw [he]
  obtain ⟨pc0, pc1⟩ := hs.pc
  have H := h
  clear h he
  go_enter Tryz.func31, Tryz.ntmps31
  go_wp2_with fail
  refine (trap_any _ _ _).mono ?_
  rintro e w' ⟨rfl, rfl⟩
  exact ⟨rfl, rfl, by repeat (first | with_reducible exact Only.refl _ _ | with_reducible refine Only.alloc ?_ _)⟩
set_option maxRecDepth 100000 in
set_option maxHeartbeats 400000 in
theorem at_fault (b : Nat) (s : St) (hs : s.Ok) (x : Raw) (w : World) (h : Mach w b s x) (ht : Tab w) (ha : (s.pc % 4 != 0) = false) (hl : lies s s.pc 4 = false) :
    Calls Tryz.prog 31 #[.pointer (some ⟨b, 0, none⟩), .int .u32 s.pc] w fun e w' => AtP w e w' (fetch s) := by
  have he : fetch s = .inl 4 := by unfold fetch; rw [if_neg (by simpa using ha), hl]; rfl
  rw [he]
  obtain ⟨pc0, pc1⟩ := hs.pc
  have H := h
  have HL := Lib.hid hl
  clear h he hl
  go_enter Tryz.func31, Tryz.ntmps31
  go_wp2_with fail
  refine (lies_any b _ _ s x _ (H.mac.alloc _) pc0 pc1 (by omega) (by omega) hs.len).mono ?_
  rintro e w1 ⟨rfl, rfl⟩
  rw [HL.out]
  go_wp2_with fail
  refine (trap_any _ _ _).mono ?_
  rintro e w' ⟨rfl, rfl⟩
  exact ⟨rfl, rfl, by repeat (first | with_reducible exact Only.refl _ _ | with_reducible refine Only.alloc ?_ _)⟩
set_option maxRecDepth 100000 in
set_option maxHeartbeats 400000 in
theorem at_in (b : Nat) (s : St) (hs : s.Ok) (x : Raw) (w : World) (h : Mach w b s x) (ht : Tab w) (ha : (s.pc % 4 != 0) = false) (hl : lies s s.pc 4 = true) :
    Calls Tryz.prog 31 #[.pointer (some ⟨b, 0, none⟩), .int .u32 s.pc] w fun e w' => AtP w e w' (fetch s) := by
  have hw := wordAt_ok hs s.pc
  have he : fetch s = (match decO (wordAt s.mem s.pc) with | some i => .inr i | none => .inl 2) := by unfold fetch; rw [if_neg (by simpa using ha), if_pos hl]; cases decO (wordAt s.mem s.pc) <;> rfl
  have hl2 : s.pc + 4 ≤ (s.mem.length : Int) := by unfold lies at hl; simpa using hl
  obtain ⟨pc0, pc1⟩ := hs.pc
  have H := h
  have HL := Lib.hid hl
  have HE := Lib.hid he
  have HI := Lib.hid hl2
  clear h he hl hl2
  go_enter Tryz.func31, Tryz.ntmps31
  go_wp2_with fail
  have hO0 : Only (fun _ => False) w (w.alloc (.cells #[.int .i64 0, .int .i64 0, .int .i64 0, .int .i64 0, .int .i32 0] 32)) := (Only.refl _ w).alloc _
  have hM0 := H.no hO0
  refine (lies_any b _ _ s x _ hM0.mac pc0 pc1 (by omega) (by omega) hs.len).mono ?_
  rintro e w1 ⟨rfl, rfl⟩
  rw [HL.out]
  go_wp2_with fail
  refine (word_any b s hs x s.pc pc0 HI.out _ hM0).mono ?_
  rintro e w1 ⟨rfl, rfl⟩
  go_wp2_with fail
  refine (decode_any _ hw.1 hw.2 _ (ht.alloc _)).mono ?_
  rintro e w1 ⟨rfl, ho⟩
  rw [decP_form]
  have hi : InsAt w1 w.heap.size Ins.zero := ho.heap (fun h => h) (heap_alloc_new _ _)
  have HO : Only (fun _ => False) w w1 := ((Only.refl _ w).alloc _).then ho
  clear ho
  have hsz : w.heap.size < w1.heap.size := heap_lt hi
  have hd : decO (wordAt s.mem s.pc) = if decB (wordAt s.mem s.pc) then some (decI (wordAt s.mem s.pc)) else none := by
    unfold decB decI
    cases decO (wordAt s.mem s.pc) <;> rfl
  have HD := Lib.hid hd
  clear hd
  generalize decI (wordAt s.mem s.pc) = I at *
  generalize decB (wordAt s.mem s.pc) = B at *
  cases B with
  | false =>
    go_wp2_with fail
    refine (trap_any _ _ _).mono ?_
    rintro e w' ⟨rfl, rfl⟩
    have hh : fetch s = .inl 2 := by rw [HE.out, HD.out]; rfl
    refine ⟨rfl, ?_⟩
    show AtP w _ _ (fetch s)
    rw [hh]
    exact ⟨rfl, by repeat (first | with_reducible exact HO | with_reducible refine Only.alloc ?_ _)⟩
  | true =>
    have q0 : w1.cell? ⟨w.heap.size, 0, none⟩ = some (.int .i64 0) := hi.cell 0
    have q1 : w1.cell? ⟨w.heap.size, 1, none⟩ = some (.int .i64 0) := hi.cell 1
    have q2 : w1.cell? ⟨w.heap.size, 2, none⟩ = some (.int .i64 0) := hi.cell 2
    have q3 : w1.cell? ⟨w.heap.size, 3, none⟩ = some (.int .i64 0) := hi.cell 3
    have q4 : w1.cell? ⟨w.heap.size, 4, none⟩ = some (.int .i32 0) := hi.cell 4
    have r0 : w1.frozen? ⟨w.heap.size, 0, none⟩ = false := hi.free 0
    have r1 : w1.frozen? ⟨w.heap.size, 1, none⟩ = false := hi.free 1
    have r2 : w1.frozen? ⟨w.heap.size, 2, none⟩ = false := hi.free 2
    have r3 : w1.frozen? ⟨w.heap.size, 3, none⟩ = false := hi.free 3
    have r4 : w1.frozen? ⟨w.heap.size, 4, none⟩ = false := hi.free 4
    go_wp2_with fail
    have hh : fetch s = .inr I := by rw [HE.out, HD.out]; rfl
    refine bodyPost_ret (results_one Tryz.results31 _ _ w.heap.size I ?_ ?_) rfl ?_
    · rfl
    · exact heap_alloc_old' _ (ins_store5 hi _ _ _ _ _)
    · show AtP w _ _ (fetch s)
      rw [hh]
      exact ⟨rfl, by repeat (first | with_reducible exact HO | with_reducible refine Only.alloc ?_ _ | with_reducible refine Only.setW ?_ _ _)⟩
theorem at_any (b : Nat) (s : St) (hs : s.Ok) (x : Raw) (w : World) (h : Mach w b s x) (ht : Tab w) :
    Calls Tryz.prog 31 #[.pointer (some ⟨b, 0, none⟩), .int .u32 s.pc] w fun e w' => AtP w e w' (fetch s) := by
  cases ha : s.pc % 4 != 0
  · cases hl : lies s s.pc 4
    · exact at_fault b s hs x w h ht ha hl
    · exact at_in b s hs x w h ht ha hl
  · exact at_align b s hs x w h ht ha
end Go.Proofs.YtanccjaikocefaaGreatDoor
