/-
  The plain law of decoding, opcode by opcode. No program in sight. Condition: the word is of 32 bits.
-/
import Derived.Test.YtanccjaikocefaaGreatDoorDecSame
namespace Go.Proofs.YtanccjaikocefaaGreatDoor
open Go.ChangeShapes Go.WideShapes Go.ChangeAt Go.RowKit
set_option linter.unusedVariables false

/-- The list of operations of an opcode, read by a number; 99: none. -/
def oneO (l : List Int) (k : Int) (i : Ins) : Option Ins := if (l.getD k.toNat 99 == 99) = true then none else some ⟨l.getD k.toNat 99, i.rd, i.rs1, i.rs2, i.imm⟩
theorem f3_cases (wd : Int) : wd / 4096 % 8 = 0 ∨ wd / 4096 % 8 = 1 ∨ wd / 4096 % 8 = 2 ∨ wd / 4096 % 8 = 3 ∨ wd / 4096 % 8 = 4 ∨ wd / 4096 % 8 = 5 ∨ wd / 4096 % 8 = 6 ∨ wd / 4096 % 8 = 7 := by omega

theorem dec_55 (wd : Int) (h0 : 0 ≤ wd) (h1 : wd < 4294967296) (h : wd % 128 = 55) : decO wd = some ⟨0, rdF wd, 0, 0, immU wd⟩ := by
  rw [decO_fields wd h0 h1, h]
  simp [tabRows, fitF, fillI] <;> omega

theorem dec_23 (wd : Int) (h0 : 0 ≤ wd) (h1 : wd < 4294967296) (h : wd % 128 = 23) : decO wd = some ⟨1, rdF wd, 0, 0, immU wd⟩ := by
  rw [decO_fields wd h0 h1, h]
  simp [tabRows, fitF, fillI] <;> omega

theorem dec_111 (wd : Int) (h0 : 0 ≤ wd) (h1 : wd < 4294967296) (h : wd % 128 = 111) : decO wd = some ⟨2, rdF wd, 0, 0, immJ wd⟩ := by
  rw [decO_fields wd h0 h1, h]
  simp [tabRows, fitF, fillI] <;> omega

theorem dec_103 (wd : Int) (h0 : 0 ≤ wd) (h1 : wd < 4294967296) (h : wd % 128 = 103) : decO wd = oneO [3] (wd / 4096 % 8) ⟨0, rdF wd, rs1F wd, 0, immI wd⟩ := by
  rw [decO_fields wd h0 h1, h]
  rcases f3_cases wd with e | e | e | e | e | e | e | e <;> rw [e] <;> (simp [tabRows, fitF, oneO, fillI] <;> omega)

theorem dec_99 (wd : Int) (h0 : 0 ≤ wd) (h1 : wd < 4294967296) (h : wd % 128 = 99) : decO wd = oneO [4, 5, 99, 99, 6, 7, 8, 9] (wd / 4096 % 8) ⟨0, 0, rs1F wd, rs2F wd, immB wd⟩ := by
  rw [decO_fields wd h0 h1, h]
  rcases f3_cases wd with e | e | e | e | e | e | e | e <;> rw [e] <;> (simp [tabRows, fitF, oneO, fillI] <;> omega)

theorem dec_3 (wd : Int) (h0 : 0 ≤ wd) (h1 : wd < 4294967296) (h : wd % 128 = 3) : decO wd = oneO [10, 11, 12, 99, 13, 14] (wd / 4096 % 8) ⟨0, rdF wd, rs1F wd, 0, immI wd⟩ := by
  rw [decO_fields wd h0 h1, h]
  rcases f3_cases wd with e | e | e | e | e | e | e | e <;> rw [e] <;> (simp [tabRows, fitF, oneO, fillI] <;> omega)

theorem dec_35 (wd : Int) (h0 : 0 ≤ wd) (h1 : wd < 4294967296) (h : wd % 128 = 35) : decO wd = oneO [15, 16, 17] (wd / 4096 % 8) ⟨0, 0, rs1F wd, rs2F wd, immS wd⟩ := by
  rw [decO_fields wd h0 h1, h]
  rcases f3_cases wd with e | e | e | e | e | e | e | e <;> rw [e] <;> (simp [tabRows, fitF, oneO, fillI] <;> omega)

theorem dec_15 (wd : Int) (h0 : 0 ≤ wd) (h1 : wd < 4294967296) (h : wd % 128 = 15) : decO wd = oneO [45, 45] (wd / 4096 % 8) ⟨0, 0, 0, 0, 0⟩ := by
  rw [decO_fields wd h0 h1, h]
  rcases f3_cases wd with e | e | e | e | e | e | e | e <;> rw [e] <;> (simp [tabRows, fitF, oneO, fillI] <;> omega)

theorem dec_51_0 (wd : Int) (h0 : 0 ≤ wd) (h1 : wd < 4294967296) (h : wd % 128 = 51) (g : wd / 33554432 = 0) : decO wd = oneO [27, 29, 30, 31, 32, 33, 35, 36] (wd / 4096 % 8) ⟨0, rdF wd, rs1F wd, rs2F wd, 0⟩ := by
  rw [decO_fields wd h0 h1, h, g]
  rcases f3_cases wd with e | e | e | e | e | e | e | e <;> rw [e] <;> (simp [tabRows, fitF, oneO, fillI] <;> omega)

theorem dec_51_1 (wd : Int) (h0 : 0 ≤ wd) (h1 : wd < 4294967296) (h : wd % 128 = 51) (g : wd / 33554432 = 1) : decO wd = oneO [37, 38, 39, 40, 41, 42, 43, 44] (wd / 4096 % 8) ⟨0, rdF wd, rs1F wd, rs2F wd, 0⟩ := by
  rw [decO_fields wd h0 h1, h, g]
  rcases f3_cases wd with e | e | e | e | e | e | e | e <;> rw [e] <;> (simp [tabRows, fitF, oneO, fillI] <;> omega)

theorem dec_51_32 (wd : Int) (h0 : 0 ≤ wd) (h1 : wd < 4294967296) (h : wd % 128 = 51) (g : wd / 33554432 = 32) : decO wd = oneO [28, 99, 99, 99, 99, 34] (wd / 4096 % 8) ⟨0, rdF wd, rs1F wd, rs2F wd, 0⟩ := by
  rw [decO_fields wd h0 h1, h, g]
  rcases f3_cases wd with e | e | e | e | e | e | e | e <;> rw [e] <;> (simp [tabRows, fitF, oneO, fillI] <;> omega)

theorem dec_51_n (wd : Int) (h0 : 0 ≤ wd) (h1 : wd < 4294967296) (h : wd % 128 = 51) (g0 : wd / 33554432 ≠ 0) (g1 : wd / 33554432 ≠ 1) (g2 : wd / 33554432 ≠ 32) : decO wd = none := by
  rw [decO_fields wd h0 h1, h]
  simp [tabRows, fitF, g0, g1, g2] <;> omega
theorem dec_19_i (wd : Int) (h0 : 0 ≤ wd) (h1 : wd < 4294967296) (h : wd % 128 = 19) (g1 : wd / 4096 % 8 ≠ 1) (g5 : wd / 4096 % 8 ≠ 5) : decO wd = oneO [18, 99, 19, 20, 21, 99, 22, 23] (wd / 4096 % 8) ⟨0, rdF wd, rs1F wd, 0, immI wd⟩ := by
  rw [decO_fields wd h0 h1, h]
  rcases f3_cases wd with e | e | e | e | e | e | e | e <;> rw [e] at g1 g5 ⊢ <;> first | exact absurd rfl g1 | exact absurd rfl g5 | (simp [tabRows, fitF, oneO, fillI] <;> omega)
theorem dec_19_1 (wd : Int) (h0 : 0 ≤ wd) (h1 : wd < 4294967296) (h : wd % 128 = 19) (e : wd / 4096 % 8 = 1) (g : wd / 33554432 = 0) : decO wd = oneO [99, 24, 99, 99, 99, 25, 26] 1 ⟨0, rdF wd, rs1F wd, 0, rs2F wd⟩ := by
  rw [decO_fields wd h0 h1, h, e, g]
  simp [tabRows, fitF, oneO, fillI] <;> omega
theorem dec_19_5 (wd : Int) (h0 : 0 ≤ wd) (h1 : wd < 4294967296) (h : wd % 128 = 19) (e : wd / 4096 % 8 = 5) (g : wd / 33554432 = 0) : decO wd = oneO [99, 24, 99, 99, 99, 25, 26] 5 ⟨0, rdF wd, rs1F wd, 0, rs2F wd⟩ := by
  rw [decO_fields wd h0 h1, h, e, g]
  simp [tabRows, fitF, oneO, fillI] <;> omega
theorem dec_19_6 (wd : Int) (h0 : 0 ≤ wd) (h1 : wd < 4294967296) (h : wd % 128 = 19) (e : wd / 4096 % 8 = 5) (g : wd / 33554432 = 32) : decO wd = oneO [99, 24, 99, 99, 99, 25, 26] 6 ⟨0, rdF wd, rs1F wd, 0, rs2F wd⟩ := by
  rw [decO_fields wd h0 h1, h, e, g]
  simp [tabRows, fitF, oneO, fillI] <;> omega
theorem dec_19_1n (wd : Int) (h0 : 0 ≤ wd) (h1 : wd < 4294967296) (h : wd % 128 = 19) (e : wd / 4096 % 8 = 1) (g : wd / 33554432 ≠ 0) : decO wd = none := by
  rw [decO_fields wd h0 h1, h, e]
  simp [tabRows, fitF, g] <;> omega
theorem dec_19_5n (wd : Int) (h0 : 0 ≤ wd) (h1 : wd < 4294967296) (h : wd % 128 = 19) (e : wd / 4096 % 8 = 5) (g : wd / 33554432 ≠ 0) (g2 : wd / 33554432 ≠ 32) : decO wd = none := by
  rw [decO_fields wd h0 h1, h, e]
  simp [tabRows, fitF, g, g2] <;> omega
theorem dec_115_0 (wd : Int) (h0 : 0 ≤ wd) (h1 : wd < 4294967296) (h : wd = 115) : decO wd = some ⟨46, 0, 0, 0, 0⟩ := by
  subst h
  rw [decO_fields 115 h0 h1]
  simp [tabRows, fitF, fillI]
theorem dec_115_1 (wd : Int) (h0 : 0 ≤ wd) (h1 : wd < 4294967296) (h : wd = 1048691) : decO wd = some ⟨47, 0, 0, 0, 0⟩ := by
  subst h
  rw [decO_fields 1048691 h0 h1]
  simp [tabRows, fitF, fillI]
theorem dec_115_n (wd : Int) (h0 : 0 ≤ wd) (h1 : wd < 4294967296) (h : wd % 128 = 115) (g : wd ≠ 115) (g2 : wd ≠ 1048691) : decO wd = none := by
  rw [decO_fields wd h0 h1, h]
  simp [tabRows, fitF, g, g2]
end Go.Proofs.YtanccjaikocefaaGreatDoor
