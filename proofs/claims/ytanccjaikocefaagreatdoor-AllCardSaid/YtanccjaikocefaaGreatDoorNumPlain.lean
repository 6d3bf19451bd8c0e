/-
  Plain arithmetic of 'Compute': what the program's and the document's text come to, and that they are the same. No program in sight. Conditions: both numbers are of 32 bits; the operation is one from ADDI to REMU.
  Plain decoding: the program's table of instructions, what 'fill' puts together, and the first row that fits. No program in sight. No condition but that the word is of 32 bits.
-/
import Derived.WalkKit
import Derived.ProofKit
namespace Go.Proofs.YtanccjaikocefaaGreatDoor
open Go.ChangeShapes Go.WideShapes Go.ChangeAt Go.RowKit
set_option linter.unusedVariables false

theorem ret_int {k : IntKind} {a b : Int} (h : a = b) : Ending.returned (.int k a) = .returned (.int k b) := by rw [h]
def bin (op : Int) : Int := if op == 18 then 27 else if op == 19 then 30 else if op == 20 then 31 else if op == 21 then 32 else if op == 22 then 35 else if op == 23 then 36 else if op == 24 then 29 else if op == 25 then 33 else if op == 26 then 34 else op
def tru (b : Bool) : Int := if b then 1 else 0
def divd (op a b : Int) : Int :=
  if op == 41 then (if wrap32 b == 0 then 4294967295 else if wrap32 b == -1 then -a % 4294967296 else wrap32 ((wrap32 a).tdiv (wrap32 b)) % 4294967296)
  else if op == 43 then (if wrap32 b == 0 then a else if wrap32 b == -1 then 0 else (wrap32 a).tmod (wrap32 b) % 4294967296)
  else if op == 42 then (if b == 0 then 4294967295 else a.tdiv b % 4294967296)
  else if op == 44 then (if b == 0 then a else a % b)
  else 0
/-- What 'rv.Compute' comes to. -/
def cmpI (op a b : Int) : Int :=
  if bin op == 27 then (a + b) % 4294967296
  else if bin op == 28 then (a - b) % 4294967296
  else if bin op == 29 then a * 2 ^ (bits BinOp.and IntKind.u32 b 31).toNat % 4294967296
  else if bin op == 30 then tru (decide (wrap32 a < wrap32 b))
  else if bin op == 31 then tru (decide (a < b))
  else if bin op == 32 then bits BinOp.xor IntKind.u32 a b
  else if bin op == 33 then a / 2 ^ (bits BinOp.and IntKind.u32 b 31).toNat
  else if bin op == 34 then wrap32 a / 2 ^ (bits BinOp.and IntKind.u32 b 31).toNat % 4294967296
  else if bin op == 35 then bits BinOp.or IntKind.u32 a b
  else if bin op == 36 then bits BinOp.and IntKind.u32 a b
  else if bin op == 37 then IntKind.u64.wrap (a * b) % 4294967296
  else if bin op == 40 then IntKind.u64.wrap (a * b) / 4294967296 % 4294967296
  else if bin op == 39 then (IntKind.u64.wrap (a * b) / 4294967296 % 4294967296 - bits BinOp.and IntKind.u32 (wrap32 a / 2147483648 % 4294967296) b) % 4294967296
  else if bin op == 38 then ((IntKind.u64.wrap (a * b) / 4294967296 % 4294967296 - bits BinOp.and IntKind.u32 (wrap32 a / 2147483648 % 4294967296) b) % 4294967296 - bits BinOp.and IntKind.u32 (wrap32 b / 2147483648 % 4294967296) a) % 4294967296
  else divd op a b
def quoI (a b : Int) : Int := if b == 0 then 4294967295 else if a == 2147483648 && b == 4294967295 then a else wrap32 ((wrap32 a).tdiv (wrap32 b)) % 4294967296
def remI (a b : Int) : Int := if b == 0 then a else if a == 2147483648 && b == 4294967295 then 0 else (wrap32 a).tmod (wrap32 b) % 4294967296
/-- What the document's 'Compute' comes to. -/
def rcmpI (op a b : Int) : Int :=
  if op == 27 || op == 18 then (a + b) % 4294967296
  else if op == 28 then (a - b) % 4294967296
  else if op == 29 || op == 24 then a * 2 ^ (bits BinOp.and IntKind.u32 b 31).toNat % 4294967296
  else if op == 30 || op == 19 then tru (decide (wrap32 a < wrap32 b))
  else if op == 31 || op == 20 then tru (decide (a < b))
  else if op == 32 || op == 21 then bits BinOp.xor IntKind.u32 a b
  else if op == 33 || op == 25 then a / 2 ^ (bits BinOp.and IntKind.u32 b 31).toNat
  else if op == 34 || op == 26 then wrap32 a / 2 ^ (bits BinOp.and IntKind.u32 b 31).toNat % 4294967296
  else if op == 35 || op == 22 then bits BinOp.or IntKind.u32 a b
  else if op == 36 || op == 23 then bits BinOp.and IntKind.u32 a b
  else if op == 37 then a * b % 4294967296
  else if op == 38 then IntKind.u64.wrap (wrap64 (wrap64 (wrap32 a) * wrap64 (wrap32 b))) / 4294967296 % 4294967296
  else if op == 39 then IntKind.u64.wrap (wrap64 (wrap64 (wrap32 a) * b)) / 4294967296 % 4294967296
  else if op == 40 then IntKind.u64.wrap (a * b) / 4294967296 % 4294967296
  else if op == 41 then quoI a b
  else if op == 43 then remI a b
  else if op == 42 then (if b == 0 then 4294967295 else a.tdiv b % 4294967296)
  else if op == 44 then (if b == 0 then a else a % b)
  else 0
/-- What the call 'Compute' comes to. -/
def capI (op a b : Int) : Int := if op < 18 ∨ 44 < op then 0 else cmpI op a b

theorem and31 (b : Int) (h0 : 0 ≤ b) (h1 : b < 4294967296) : bits BinOp.and IntKind.u32 b 31 = b % 32 := by
  rw [u32_and b 31 h0 h1 (by decide) (by decide)]
  have := Nat.and_two_pow_sub_one_eq_mod b.toNat 5
  simp at this ⊢
  rw [this]; omega
theorem u64wrap (x : Int) : IntKind.u64.wrap x = x % 18446744073709551616 := by simp [IntKind.wrap, IntKind.signed, IntKind.bits]
theorem wrap32_lt {a : Int} (h0 : 0 ≤ a) (h : a < 2147483648) : wrap32 a = a := by unfold wrap32; omega
theorem wrap32_ge {a : Int} (h0 : 2147483648 ≤ a) (h : a < 4294967296) : wrap32 a = a - 4294967296 := by unfold wrap32; omega
theorem and_sign (a b : Int) (ha : 0 ≤ a) (ha2 : a < 4294967296) (hb : 0 ≤ b) (hb2 : b < 4294967296) :
    bits BinOp.and IntKind.u32 (wrap32 a / 2147483648 % 4294967296) b = if a < 2147483648 then 0 else b := by
  by_cases h : a < 2147483648
  · rw [if_pos h, wrap32_lt ha h, show a / 2147483648 % 4294967296 = 0 by omega, u32_and 0 b (by decide) (by decide) hb hb2]; simp
  · rw [if_neg h, wrap32_ge (by omega) ha2, show (a - 4294967296) / 2147483648 % 4294967296 = 4294967295 by omega, u32_and 4294967295 b (by decide) (by decide) hb hb2]
    have := Nat.and_two_pow_sub_one_eq_mod b.toNat 32
    rw [Nat.and_comm] at this
    simp at this ⊢
    rw [this]; omega
theorem wrap64_mod (x : Int) : wrap64 x % 18446744073709551616 = x % 18446744073709551616 := by unfold wrap64; omega
theorem high_plain (p b : Int) : (p - 4294967296 * b) % 18446744073709551616 / 4294967296 % 4294967296 = (p % 18446744073709551616 / 4294967296 % 4294967296 - b) % 4294967296 := by omega
theorem sub_sub_mod (x y z : Int) : ((x - y) % 4294967296 - z) % 4294967296 = (x - (y + z)) % 4294967296 := by omega
theorem mulhsu_same (a b : Int) (ha : 0 ≤ a) (ha2 : a < 4294967296) (hb : 0 ≤ b) (hb2 : b < 4294967296) :
    IntKind.u64.wrap (wrap64 (wrap64 (wrap32 a) * b)) / 4294967296 % 4294967296 =
      (IntKind.u64.wrap (a * b) / 4294967296 % 4294967296 - bits BinOp.and IntKind.u32 (wrap32 a / 2147483648 % 4294967296) b) % 4294967296 := by
  rw [and_sign a b ha ha2 hb hb2, u64wrap, u64wrap, wrap64_mod]
  by_cases h : a < 2147483648
  · rw [if_pos h, wrap32_lt ha h, show wrap64 a = a by unfold wrap64; omega]; omega
  · rw [if_neg h, wrap32_ge (by omega) ha2, show wrap64 (a - 4294967296) = a - 4294967296 by unfold wrap64; omega, Int.sub_mul, high_plain]
theorem mulh_same (a b : Int) (ha : 0 ≤ a) (ha2 : a < 4294967296) (hb : 0 ≤ b) (hb2 : b < 4294967296) :
    IntKind.u64.wrap (wrap64 (wrap64 (wrap32 a) * wrap64 (wrap32 b))) / 4294967296 % 4294967296 =
      ((IntKind.u64.wrap (a * b) / 4294967296 % 4294967296 - bits BinOp.and IntKind.u32 (wrap32 a / 2147483648 % 4294967296) b) % 4294967296 - bits BinOp.and IntKind.u32 (wrap32 b / 2147483648 % 4294967296) a) % 4294967296 := by
  rw [and_sign a b ha ha2 hb hb2, and_sign b a hb hb2 ha ha2, u64wrap, u64wrap, wrap64_mod, sub_sub_mod]
  have e1 : ∀ x : Int, 0 ≤ x → x < 4294967296 → wrap64 (wrap32 x) = if x < 2147483648 then x else x - 4294967296 := by
    intro x h0 h1
    by_cases h : x < 2147483648
    · rw [if_pos h, wrap32_lt h0 h]; unfold wrap64; omega
    · rw [if_neg h, wrap32_ge (by omega) h1]; unfold wrap64; omega
  rw [e1 a ha ha2, e1 b hb hb2]
  by_cases h : a < 2147483648 <;> by_cases k : b < 2147483648 <;> simp only [if_pos, if_neg, h, k, not_false_eq_true]
  · omega
  · rw [Int.mul_sub, show a * 4294967296 = 4294967296 * a by omega, high_plain]; omega
  · rw [Int.sub_mul, high_plain]; omega
  · rw [Int.sub_mul, Int.mul_sub, show a * b - a * 4294967296 - 4294967296 * (b - 4294967296) = a * b - 4294967296 * (b + a - 4294967296) by omega, high_plain]; omega
theorem div_same (a b : Int) (hb : 0 ≤ b) (hb2 : b < 4294967296) : quoI a b = divd 41 a b := by
  have e0 : (wrap32 b == 0) = (b == 0) := by rw [Bool.eq_iff_iff]; simp; unfold wrap32; omega
  have e1 : (wrap32 b == -1) = (b == 4294967295) := by rw [Bool.eq_iff_iff]; simp; unfold wrap32; omega
  unfold quoI divd
  simp only [e0, e1, beq_self_eq_true, if_true]
  by_cases h : b = 0
  · simp [h]
  by_cases k : b = 4294967295
  · subst k
    have hm : wrap32 4294967295 = -1 := by unfold wrap32; omega
    simp [hm]
    by_cases j : a = 2147483648
    · simp [j]
    · rw [if_neg j]; unfold wrap32; omega
  · simp [h, k]
theorem rem_same (a b : Int) (hb : 0 ≤ b) (hb2 : b < 4294967296) : remI a b = divd 43 a b := by
  have e0 : (wrap32 b == 0) = (b == 0) := by rw [Bool.eq_iff_iff]; simp; unfold wrap32; omega
  have e1 : (wrap32 b == -1) = (b == 4294967295) := by rw [Bool.eq_iff_iff]; simp; unfold wrap32; omega
  unfold remI divd
  simp only [e0, e1]
  by_cases h : b = 0
  · simp [h]
  by_cases k : b = 4294967295
  · subst k
    have hm : wrap32 4294967295 = -1 := by unfold wrap32; omega
    simp [hm]
  · simp [h, k]
/-- The plain law: the program's and the document's 'Compute' are the same. -/
theorem rcmp_same (op a b : Int) (h1 : 18 ≤ op) (h2 : op ≤ 44) (ha : 0 ≤ a) (ha2 : a < 4294967296) (hb : 0 ≤ b) (hb2 : b < 4294967296) :
    rcmpI op a b = cmpI op a b := by
  have hs : op = 18 ∨ op = 19 ∨ op = 20 ∨ op = 21 ∨ op = 22 ∨ op = 23 ∨ op = 24 ∨ op = 25 ∨ op = 26 ∨ op = 27 ∨ op = 28 ∨ op = 29 ∨ op = 30 ∨ op = 31 ∨ op = 32 ∨ op = 33 ∨ op = 34 ∨ op = 35 ∨ op = 36 ∨ op = 37 ∨ op = 38 ∨ op = 39 ∨ op = 40 ∨ op = 41 ∨ op = 42 ∨ op = 43 ∨ op = 44 := by omega
  rcases hs with rfl | rfl | rfl | rfl | rfl | rfl | rfl | rfl | rfl | rfl | rfl | rfl | rfl | rfl | rfl | rfl | rfl | rfl | rfl | rfl | rfl | rfl | rfl | rfl | rfl | rfl | rfl
  all_goals simp [rcmpI, cmpI, bin]
  · rw [u64wrap]; omega
  · rw [mulh_same a b ha ha2 hb hb2]; simp
  · rw [mulhsu_same a b ha ha2 hb hb2]; simp
  · exact div_same a b hb hb2
  · simp [divd]
  · exact rem_same a b hb hb2
  · simp [divd]
theorem rcmp_other (op a b : Int) (h : op < 18 ∨ 44 < op) : rcmpI op a b = 0 := by
  unfold rcmpI
  have e : ∀ k : Int, 18 ≤ k → k ≤ 44 → (op == k) = false := fun k h1 h2 => by simp; omega
  simp only [e, show (18:Int) ≤ 27 by decide, show (27:Int) ≤ 44 by decide]
  simp [e]
theorem cap_same (op a b : Int) (ha : 0 ≤ a) (ha2 : a < 4294967296) (hb : 0 ≤ b) (hb2 : b < 4294967296) : capI op a b = rcmpI op a b := by
  unfold capI
  by_cases h : op < 18 ∨ 44 < op
  · rw [if_pos h, rcmp_other op a b h]
  · rw [if_neg h, rcmp_same op a b (by omega) (by omega) ha ha2 hb hb2]
end Go.Proofs.YtanccjaikocefaaGreatDoor
namespace Go.Proofs.YtanccjaikocefaaGreatDoor
open Go.ChangeShapes Go.WideShapes Go.ChangeAt Go.RowKit
set_option linter.unusedVariables false

/-- An instruction: the operation, rd, rs1, rs2, the immediate. -/
structure Ins where
  op : Int
  rd : Int
  rs1 : Int
  rs2 : Int
  imm : Int
def Ins.cells (i : Ins) : Array Value := #[.int .i64 i.op, .int .i64 i.rd, .int .i64 i.rs1, .int .i64 i.rs2, .int .i32 i.imm]
def Ins.zero : Ins := ⟨0, 0, 0, 0, 0⟩
def tabRows : List (Int × Int × Int × Int) := [
  (0, 4, 127, 55), (1, 4, 127, 23), (2, 5, 127, 111), (3, 1, 28799, 103), (4, 3, 28799, 99), (5, 3, 28799, 4195), (6, 3, 28799, 16483),
  (7, 3, 28799, 20579), (8, 3, 28799, 24675), (9, 3, 28799, 28771), (10, 1, 28799, 3), (11, 1, 28799, 4099), (12, 1, 28799, 8195), (13, 1, 28799, 16387),
  (14, 1, 28799, 20483), (15, 2, 28799, 35), (16, 2, 28799, 4131), (17, 2, 28799, 8227), (18, 1, 28799, 19), (19, 1, 28799, 8211), (20, 1, 28799, 12307),
  (21, 1, 28799, 16403), (22, 1, 28799, 24595), (23, 1, 28799, 28691), (24, 6, 4261441663, 4115), (25, 6, 4261441663, 20499), (26, 6, 4261441663, 1073762323), (27, 0, 4261441663, 51),
  (28, 0, 4261441663, 1073741875), (29, 0, 4261441663, 4147), (30, 0, 4261441663, 8243), (31, 0, 4261441663, 12339), (32, 0, 4261441663, 16435), (33, 0, 4261441663, 20531), (34, 0, 4261441663, 1073762355),
  (35, 0, 4261441663, 24627), (36, 0, 4261441663, 28723), (37, 0, 4261441663, 33554483), (38, 0, 4261441663, 33558579), (39, 0, 4261441663, 33562675), (40, 0, 4261441663, 33566771), (41, 0, 4261441663, 33570867),
  (42, 0, 4261441663, 33574963), (43, 0, 4261441663, 33579059), (44, 0, 4261441663, 33583155), (45, 7, 28799, 15), (45, 7, 28799, 4111), (46, 7, 4294967295, 115), (47, 7, 4294967295, 1048691)]
def tabAt (k : Nat) : Int × Int × Int × Int := tabRows.getD k (0, 0, 0, 0)
def rowCells (r : Int × Int × Int × Int) : List Value := [.int .i64 r.1, .int .i64 r.2.1, .int .u32 r.2.2.1, .int .u32 r.2.2.2]
def tabCells : List Value := tabRows.flatMap rowCells
def rdF (wd : Int) : Int := wd / 128 % 32
def rs1F (wd : Int) : Int := wd / 32768 % 32
def rs2F (wd : Int) : Int := wd / 1048576 % 32
def immI (wd : Int) : Int := wrap32 wd / 1048576
def immS (wd : Int) : Int := wrap32 wd / 33554432 * 32 + wd / 128 % 32
def immB (wd : Int) : Int := wrap32 wd / 2147483648 * 4096 + wd / 128 % 2 * 2048 + wd / 33554432 % 64 * 32 + wd / 256 % 16 * 2
def immU (wd : Int) : Int := wrap32 wd / 4096 * 4096
def immJ (wd : Int) : Int := wrap32 wd / 2147483648 * 1048576 + wd / 4096 % 256 * 4096 + wd / 1048576 % 2 * 2048 + wd / 2097152 % 1024 * 2
/-- What 'fill' puts into an instruction of a form. -/
def fillI (op f wd : Int) : Ins :=
  if f == 0 then ⟨op, rdF wd, rs1F wd, rs2F wd, 0⟩
  else if f == 1 then ⟨op, rdF wd, rs1F wd, 0, immI wd⟩
  else if f == 6 then ⟨op, rdF wd, rs1F wd, 0, rs2F wd⟩
  else if f == 2 then ⟨op, 0, rs1F wd, rs2F wd, immS wd⟩
  else if f == 3 then ⟨op, 0, rs1F wd, rs2F wd, immB wd⟩
  else if f == 4 then ⟨op, rdF wd, 0, 0, immU wd⟩
  else if f == 5 then ⟨op, rdF wd, 0, 0, immJ wd⟩
  else ⟨op, 0, 0, 0, 0⟩
def fits (wd : Int) (r : Int × Int × Int × Int) : Bool := bits BinOp.and IntKind.u32 wd r.2.2.1 == r.2.2.2
/-- What 'rv.Decode' comes to: none: the word is no instruction. -/
def decO (wd : Int) : Option Ins := (tabRows.find? (fits wd)).map fun r => fillI r.1 r.2.1 wd

/-! ### Masks as arithmetic -/
theorem nat_and_field (x n k : Nat) : x &&& ((2 ^ n - 1) * 2 ^ k) = x / 2 ^ k % 2 ^ n * 2 ^ k := by
  apply Nat.eq_of_testBit_eq
  intro i
  rw [← Nat.shiftLeft_eq, ← Nat.shiftLeft_eq, ← Nat.shiftRight_eq_div_pow]
  simp only [Nat.testBit_and, Nat.testBit_shiftLeft, Nat.testBit_two_pow_sub_one, Nat.testBit_mod_two_pow, Nat.testBit_shiftRight]
  by_cases h : k ≤ i
  · simp [h]; rw [Bool.and_comm]
  · simp [h]
theorem and_field (x m : Int) (n k : Nat) (h0 : 0 ≤ x) (h1 : x < 4294967296) (hm : m = ((2 ^ n - 1 : Nat) : Int) * 2 ^ k) (hm1 : m < 4294967296) :
    bits BinOp.and IntKind.u32 x m = x / 2 ^ k % 2 ^ n * 2 ^ k := by
  have hm0 : 0 ≤ m := by rw [hm]; exact Int.mul_nonneg (by omega) (Int.le_of_lt (Int.pow_pos (by decide)))
  rw [u32_and x m h0 h1 hm0 hm1]
  have e : m.toNat = (2 ^ n - 1) * 2 ^ k := by
    have : m = (((2 ^ n - 1) * 2 ^ k : Nat) : Int) := by rw [hm]; simp
    omega
  rw [e, nat_and_field]
  have hx : x = (x.toNat : Int) := by omega
  conv => rhs; rw [hx]
  simp
theorem nat_or_add (x y k : Nat) (hx : x % 2 ^ k = 0) (hy : y < 2 ^ k) : x ||| y = x + y := by
  have e : x = 2 ^ k * (x / 2 ^ k) := by have := Nat.div_add_mod x (2 ^ k); omega
  rw [e, ← Nat.two_pow_add_eq_or_of_lt hy]
theorem or_add (x y : Int) (k : Nat) (hx0 : 0 ≤ x) (hx1 : x < 4294967296) (hy0 : 0 ≤ y) (hy1 : y < 4294967296) (hx : x % 2 ^ k = 0) (hy : y < 2 ^ k) :
    bits BinOp.or IntKind.u32 x y = x + y := by
  rw [u32_or x y hx0 hx1 hy0 hy1, nat_or_add x.toNat y.toNat k]
  · omega
  · have : x = (x.toNat : Int) := by omega
    rw [this] at hx
    have e : ((x.toNat % 2 ^ k : Nat) : Int) = 0 := by simpa using hx
    omega
  · have e : ((2 ^ k : Nat) : Int) = 2 ^ k := by simp
    omega
theorem ofInt_mod (x : Int) : BitVec.ofInt 32 x = BitVec.ofInt 32 (x % 4294967296) := by
  apply BitVec.eq_of_toInt_eq
  simp only [BitVec.toInt_ofInt]
  exact (Int.emod_bmod x (2 ^ 32)).symm
theorem i32_u32 (op : BinOp) (x y : Int) : bits op IntKind.i32 x y = wrap32 (bits op IntKind.u32 (x % 4294967296) (y % 4294967296)) := by
  have key : ∀ b : BitVec 32, IntKind.i32.wrap (b.toNat : Int) = wrap32 (IntKind.u32.wrap (b.toNat : Int)) := by
    intro b
    have hw : IntKind.u32.wrap (b.toNat : Int) = b.toNat := by
      have := b.isLt
      simp [IntKind.wrap, IntKind.signed, IntKind.bits]
      omega
    rw [hw, IntKind.wrap_i32]
    unfold wrap32
    omega
  unfold bits
  simp only [IntKind.bits]
  rw [← ofInt_mod x, ← ofInt_mod y]
  exact key _
/-! ### The walk's spellings of the fields -/
theorem sp_rd (wd : Int) (h0 : 0 ≤ wd) (h1 : wd < 4294967296) : wrap64 (bits BinOp.and IntKind.u32 (wd / 128) 31) = rdF wd := by
  rw [and31 _ (by omega) (by omega)]; unfold wrap64 rdF; omega
theorem sp_rs1 (wd : Int) (h0 : 0 ≤ wd) (h1 : wd < 4294967296) : wrap64 (bits BinOp.and IntKind.u32 (wd / 32768) 31) = rs1F wd := by
  rw [and31 _ (by omega) (by omega)]; unfold wrap64 rs1F; omega
theorem sp_rs2 (wd : Int) (h0 : 0 ≤ wd) (h1 : wd < 4294967296) : wrap64 (bits BinOp.and IntKind.u32 (wd / 1048576) 31) = rs2F wd := by
  rw [and31 _ (by omega) (by omega)]; unfold wrap64 rs2F; omega
theorem sp_I (wd : Int) (h0 : 0 ≤ wd) (h1 : wd < 4294967296) : wrap32 wd / 1048576 = immI wd := rfl
theorem sp_H (wd : Int) (h0 : 0 ≤ wd) (h1 : wd < 4294967296) : wrap32 (wrap64 (bits BinOp.and IntKind.u32 (wd / 1048576) 31)) = rs2F wd := by
  rw [sp_rs2 wd h0 h1]; unfold wrap32 rs2F; omega
theorem sp_S (wd : Int) (h0 : 0 ≤ wd) (h1 : wd < 4294967296) : bits BinOp.or IntKind.i32 (wrap32 (wrap32 wd / 33554432 * 32)) (wrap32 (wrap64 (bits BinOp.and IntKind.u32 (wd / 128) 31))) = immS wd := by
  rw [sp_rd wd h0 h1, i32_u32, or_add _ _ 5 (by omega) (by omega) (by omega) (by omega) (by unfold wrap32; omega) (by unfold wrap32 rdF; omega)]
  unfold immS rdF wrap32; omega
theorem and_2048 (x : Int) (h0 : 0 ≤ x) (h1 : x < 4294967296) : bits BinOp.and IntKind.u32 x 2048 = x / 2048 % 2 * 2048 := and_field x 2048 1 11 h0 h1 (by decide) (by decide)
theorem and_2016 (x : Int) (h0 : 0 ≤ x) (h1 : x < 4294967296) : bits BinOp.and IntKind.u32 x 2016 = x / 32 % 64 * 32 := and_field x 2016 6 5 h0 h1 (by decide) (by decide)
theorem and_30 (x : Int) (h0 : 0 ≤ x) (h1 : x < 4294967296) : bits BinOp.and IntKind.u32 x 30 = x / 2 % 16 * 2 := and_field x 30 4 1 h0 h1 (by decide) (by decide)
theorem and_2046 (x : Int) (h0 : 0 ≤ x) (h1 : x < 4294967296) : bits BinOp.and IntKind.u32 x 2046 = x / 2 % 1024 * 2 := and_field x 2046 10 1 h0 h1 (by decide) (by decide)
theorem and_1044480 (x : Int) (h0 : 0 ≤ x) (h1 : x < 4294967296) : bits BinOp.and IntKind.u32 x 1044480 = x / 4096 % 256 * 4096 := and_field x 1044480 8 12 h0 h1 (by decide) (by decide)
theorem or_comm_u32 (x y : Int) (h0 : 0 ≤ x) (h1 : x < 4294967296) (g0 : 0 ≤ y) (g1 : y < 4294967296) : bits BinOp.or IntKind.u32 x y = bits BinOp.or IntKind.u32 y x := by
  rw [u32_or x y h0 h1 g0 g1, u32_or y x g0 g1 h0 h1, Nat.or_comm]
theorem or_sign12 (wd s : Int) (hs : 0 ≤ s) (hs2 : s < 4096) : bits BinOp.or IntKind.i32 (wrap32 (wrap32 wd / 2147483648 * 4096)) (wrap32 s) = wrap32 wd / 2147483648 * 4096 + s := by
  rw [i32_u32, or_add _ _ 12 (by omega) (by omega) (by omega) (by omega) (by unfold wrap32; omega) (by unfold wrap32; omega)]
  unfold wrap32; omega
theorem or_sign20 (wd s : Int) (hs : 0 ≤ s) (hs2 : s < 1048576) : bits BinOp.or IntKind.i32 (wrap32 (wrap32 wd / 2147483648 * 1048576)) (wrap32 s) = wrap32 wd / 2147483648 * 1048576 + s := by
  rw [i32_u32, or_add _ _ 20 (by omega) (by omega) (by omega) (by omega) (by unfold wrap32; omega) (by unfold wrap32; omega)]
  unfold wrap32; omega
theorem sp_B (wd : Int) (h0 : 0 ≤ wd) (h1 : wd < 4294967296) : bits BinOp.or IntKind.i32 (wrap32 (wrap32 wd / 2147483648 * 4096)) (wrap32 (bits BinOp.or IntKind.u32 (bits BinOp.or IntKind.u32 (bits BinOp.and IntKind.u32 (wd * 16 % 4294967296) 2048) (bits BinOp.and IntKind.u32 (wd / 1048576) 2016)) (bits BinOp.and IntKind.u32 (wd / 128) 30))) = immB wd := by
  rw [and_2048 _ (by omega) (by omega), and_2016 _ (by omega) (by omega), and_30 _ (by omega) (by omega)]
  rw [show wd * 16 % 4294967296 / 2048 % 2 = wd / 128 % 2 by omega, show wd / 1048576 / 32 % 64 = wd / 33554432 % 64 by omega, show wd / 128 / 2 % 16 = wd / 256 % 16 by omega]
  rw [or_add (wd / 128 % 2 * 2048) _ 11 (by omega) (by omega) (by omega) (by omega) (by omega) (by omega)]
  rw [or_add _ (wd / 256 % 16 * 2) 5 (by omega) (by omega) (by omega) (by omega) (by omega) (by omega)]
  rw [or_sign12 _ _ (by omega) (by omega)]
  unfold immB; omega
theorem sp_J (wd : Int) (h0 : 0 ≤ wd) (h1 : wd < 4294967296) : bits BinOp.or IntKind.i32 (wrap32 (wrap32 wd / 2147483648 * 1048576)) (wrap32 (bits BinOp.or IntKind.u32 (bits BinOp.or IntKind.u32 (bits BinOp.and IntKind.u32 wd 1044480) (bits BinOp.and IntKind.u32 (wd / 512) 2048)) (bits BinOp.and IntKind.u32 (wd / 1048576) 2046))) = immJ wd := by
  rw [and_1044480 _ (by omega) (by omega), and_2048 _ (by omega) (by omega), and_2046 _ (by omega) (by omega)]
  rw [show wd / 512 / 2048 % 2 = wd / 1048576 % 2 by omega, show wd / 1048576 / 2 % 1024 = wd / 2097152 % 1024 by omega]
  rw [or_add _ (wd / 1048576 % 2 * 2048) 12 (by omega) (by omega) (by omega) (by omega) (by omega) (by omega)]
  rw [or_add _ (wd / 2097152 % 1024 * 2) 11 (by omega) (by omega) (by omega) (by omega) (by omega) (by omega)]
  rw [or_sign20 _ _ (by omega) (by omega)]
  unfold immJ; omega
theorem andNot_4095 (x : Int) (h0 : 0 ≤ x) (h1 : x < 4294967296) : bits BinOp.andNot IntKind.u32 x 4095 = x / 4096 * 4096 := by
  rw [u32_andNot x 4095 h0 h1 (by decide) (by decide)]
  have := and_field x 4294963200 20 12 h0 h1 (by decide) (by decide)
  rw [u32_and x 4294963200 h0 h1 (by decide) (by decide)] at this
  have e : (4294967295 - (4095 : Int).toNat) = (4294963200 : Int).toNat := by decide
  rw [e, this]; omega
theorem sp_U (wd : Int) (h0 : 0 ≤ wd) (h1 : wd < 4294967296) : bits BinOp.andNot IntKind.i32 (wrap32 wd) 4095 = immU wd := by
  rw [i32_u32, show (4095 : Int) % 4294967296 = 4095 by decide, andNot_4095 _ (by omega) (by omega)]
  unfold immU wrap32; omega
end Go.Proofs.YtanccjaikocefaaGreatDoor
