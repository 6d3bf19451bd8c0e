/-
  Plain decoding: the program's table of instructions, what 'fill' puts together, and the first row that fits. No program in sight. No condition but that the word is of 32 bits.
-/
import Derived.Test.YtanccjaikocefaaDoorNumPlain
namespace Go.Proofs.YtanccjaikocefaaDoor
open Go.ChangeShapes Go.WideShapes Go.ChangeAt Go.RowKit
set_option linter.unusedVariables false

/-- An instruction: the operation, rd, rs1, rs2, the immediate. -/
structure Ins where
  op : Int
  rd : Int
  rs1 : Int
  rs2 : Int
  imm : Int
def Ins.cells (i : Ins) : Array Value := #[.int .i64 i.op, .int .i64 i.rd, .int .i64 i.rs1, .int .i64 i.rs2, .int .i32 i.imm]
def Ins.zero : Ins := ⟨0, 0, 0, 0, 0⟩
def tabRows : List (Int × Int × Int × Int) := [
  (0, 4, 127, 55), (1, 4, 127, 23), (2, 5, 127, 111), (3, 1, 28799, 103), (4, 3, 28799, 99), (5, 3, 28799, 4195), (6, 3, 28799, 16483),
  (7, 3, 28799, 20579), (8, 3, 28799, 24675), (9, 3, 28799, 28771), (10, 1, 28799, 3), (11, 1, 28799, 4099), (12, 1, 28799, 8195), (13, 1, 28799, 16387),
  (14, 1, 28799, 20483), (15, 2, 28799, 35), (16, 2, 28799, 4131), (17, 2, 28799, 8227), (18, 1, 28799, 19), (19, 1, 28799, 8211), (20, 1, 28799, 12307),
  (21, 1, 28799, 16403), (22, 1, 28799, 24595), (23, 1, 28799, 28691), (24, 6, 4261441663, 4115), (25, 6, 4261441663, 20499), (26, 6, 4261441663, 1073762323), (27, 0, 4261441663, 51),
  (28, 0, 4261441663, 1073741875), (29, 0, 4261441663, 4147), (30, 0, 4261441663, 8243), (31, 0, 4261441663, 12339), (32, 0, 4261441663, 16435), (33, 0, 4261441663, 20531), (34, 0, 4261441663, 1073762355),
  (35, 0, 4261441663, 24627), (36, 0, 4261441663, 28723), (37, 0, 4261441663, 33554483), (38, 0, 4261441663, 33558579), (39, 0, 4261441663, 33562675), (40, 0, 4261441663, 33566771), (41, 0, 4261441663, 33570867),
  (42, 0, 4261441663, 33574963), (43, 0, 4261441663, 33579059), (44, 0, 4261441663, 33583155), (45, 7, 28799, 15), (45, 7, 28799, 4111), (46, 7, 4294967295, 115), (47, 7, 4294967295, 1048691)]
def tabAt (k : Nat) : Int × Int × Int × Int := tabRows.getD k (0, 0, 0, 0)
def rowCells (r : Int × Int × Int × Int) : List Value := [.int .i64 r.1, .int .i64 r.2.1, .int .u32 r.2.2.1, .int .u32 r.2.2.2]
def tabCells : List Value := tabRows.flatMap rowCells
def rdF (wd : Int) : Int := wd / 128 % 32
def rs1F (wd : Int) : Int := wd / 32768 % 32
def rs2F (wd : Int) : Int := wd / 1048576 % 32
def immI (wd : Int) : Int := wrap32 wd / 1048576
def immS (wd : Int) : Int := wrap32 wd / 33554432 * 32 + wd / 128 % 32
def immB (wd : Int) : Int := wrap32 wd / 2147483648 * 4096 + wd / 128 % 2 * 2048 + wd / 33554432 % 64 * 32 + wd / 256 % 16 * 2
def immU (wd : Int) : Int := wrap32 wd / 4096 * 4096
def immJ (wd : Int) : Int := wrap32 wd / 2147483648 * 1048576 + wd / 4096 % 256 * 4096 + wd / 1048576 % 2 * 2048 + wd / 2097152 % 1024 * 2
/-- What 'fill' puts into an instruction of a form. -/
def fillI (op f wd : Int) : Ins :=
  if f == 0 then ⟨op, rdF wd, rs1F wd, rs2F wd, 0⟩
  else if f == 1 then ⟨op, rdF wd, rs1F wd, 0, immI wd⟩
  else if f == 6 then ⟨op, rdF wd, rs1F wd, 0, rs2F wd⟩
  else if f == 2 then ⟨op, 0, rs1F wd, rs2F wd, immS wd⟩
  else if f == 3 then ⟨op, 0, rs1F wd, rs2F wd, immB wd⟩
  else if f == 4 then ⟨op, rdF wd, 0, 0, immU wd⟩
  else if f == 5 then ⟨op, rdF wd, 0, 0, immJ wd⟩
  else ⟨op, 0, 0, 0, 0⟩
def fits (wd : Int) (r : Int × Int × Int × Int) : Bool := bits BinOp.and IntKind.u32 wd r.2.2.1 == r.2.2.2
/-- What 'rv.Decode' comes to: none: the word is no instruction. -/
def decO (wd : Int) : Option Ins := (tabRows.find? (fits wd)).map fun r => fillI r.1 r.2.1 wd

/-! ### Masks as arithmetic -/
theorem nat_and_field (x n k : Nat) : x &&& ((2 ^ n - 1) * 2 ^ k) = x / 2 ^ k % 2 ^ n * 2 ^ k := by
  apply Nat.eq_of_testBit_eq
  intro i
  rw [← Nat.shiftLeft_eq, ← Nat.shiftLeft_eq, ← Nat.shiftRight_eq_div_pow]
  simp only [Nat.testBit_and, Nat.testBit_shiftLeft, Nat.testBit_two_pow_sub_one, Nat.testBit_mod_two_pow, Nat.testBit_shiftRight]
  by_cases h : k ≤ i
  · simp [h]; rw [Bool.and_comm]
  · simp [h]
theorem and_field (x m : Int) (n k : Nat) (h0 : 0 ≤ x) (h1 : x < 4294967296) (hm : m = ((2 ^ n - 1 : Nat) : Int) * 2 ^ k) (hm1 : m < 4294967296) :
    bits BinOp.and IntKind.u32 x m = x / 2 ^ k % 2 ^ n * 2 ^ k := by
  have hm0 : 0 ≤ m := by rw [hm]; exact Int.mul_nonneg (by omega) (Int.le_of_lt (Int.pow_pos (by decide)))
  rw [u32_and x m h0 h1 hm0 hm1]
  have e : m.toNat = (2 ^ n - 1) * 2 ^ k := by
    have : m = (((2 ^ n - 1) * 2 ^ k : Nat) : Int) := by rw [hm]; simp
    omega
  rw [e, nat_and_field]
  have hx : x = (x.toNat : Int) := by omega
  conv => rhs; rw [hx]
  simp
theorem nat_or_add (x y k : Nat) (hx : x % 2 ^ k = 0) (hy : y < 2 ^ k) : x ||| y = x + y := by
  have e : x = 2 ^ k * (x / 2 ^ k) := by have := Nat.div_add_mod x (2 ^ k); omega
  rw [e, ← Nat.two_pow_add_eq_or_of_lt hy]
theorem or_add (x y : Int) (k : Nat) (hx0 : 0 ≤ x) (hx1 : x < 4294967296) (hy0 : 0 ≤ y) (hy1 : y < 4294967296) (hx : x % 2 ^ k = 0) (hy : y < 2 ^ k) :
    bits BinOp.or IntKind.u32 x y = x + y := by
  rw [u32_or x y hx0 hx1 hy0 hy1, nat_or_add x.toNat y.toNat k]
  · omega
  · have : x = (x.toNat : Int) := by omega
    rw [this] at hx
    have e : ((x.toNat % 2 ^ k : Nat) : Int) = 0 := by simpa using hx
    omega
  · have e : ((2 ^ k : Nat) : Int) = 2 ^ k := by simp
    omega
theorem ofInt_mod (x : Int) : BitVec.ofInt 32 x = BitVec.ofInt 32 (x % 4294967296) := by
  apply BitVec.eq_of_toInt_eq
  simp only [BitVec.toInt_ofInt]
  exact (Int.emod_bmod x (2 ^ 32)).symm
theorem i32_u32 (op : BinOp) (x y : Int) : bits op IntKind.i32 x y = wrap32 (bits op IntKind.u32 (x % 4294967296) (y % 4294967296)) := by
  have key : ∀ b : BitVec 32, IntKind.i32.wrap (b.toNat : Int) = wrap32 (IntKind.u32.wrap (b.toNat : Int)) := by
    intro b
    have hw : IntKind.u32.wrap (b.toNat : Int) = b.toNat := by
      have := b.isLt
      simp [IntKind.wrap, IntKind.signed, IntKind.bits]
      omega
    rw [hw, IntKind.wrap_i32]
    unfold wrap32
    omega
  unfold bits
  simp only [IntKind.bits]
  rw [← ofInt_mod x, ← ofInt_mod y]
  exact key _
/-! ### The walk's spellings of the fields -/
theorem sp_rd (wd : Int) (h0 : 0 ≤ wd) (h1 : wd < 4294967296) : wrap64 (bits BinOp.and IntKind.u32 (wd / 128) 31) = rdF wd := by
  rw [and31 _ (by omega) (by omega)]; unfold wrap64 rdF; omega
theorem sp_rs1 (wd : Int) (h0 : 0 ≤ wd) (h1 : wd < 4294967296) : wrap64 (bits BinOp.and IntKind.u32 (wd / 32768) 31) = rs1F wd := by
  rw [and31 _ (by omega) (by omega)]; unfold wrap64 rs1F; omega
theorem sp_rs2 (wd : Int) (h0 : 0 ≤ wd) (h1 : wd < 4294967296) : wrap64 (bits BinOp.and IntKind.u32 (wd / 1048576) 31) = rs2F wd := by
  rw [and31 _ (by omega) (by omega)]; unfold wrap64 rs2F; omega
theorem sp_I (wd : Int) (h0 : 0 ≤ wd) (h1 : wd < 4294967296) : wrap32 wd / 1048576 = immI wd := rfl
theorem sp_H (wd : Int) (h0 : 0 ≤ wd) (h1 : wd < 4294967296) : wrap32 (wrap64 (bits BinOp.and IntKind.u32 (wd / 1048576) 31)) = rs2F wd := by
  rw [sp_rs2 wd h0 h1]; unfold wrap32 rs2F; omega
theorem sp_S (wd : Int) (h0 : 0 ≤ wd) (h1 : wd < 4294967296) : bits BinOp.or IntKind.i32 (wrap32 (wrap32 wd / 33554432 * 32)) (wrap32 (wrap64 (bits BinOp.and IntKind.u32 (wd / 128) 31))) = immS wd := by
  rw [sp_rd wd h0 h1, i32_u32, or_add _ _ 5 (by omega) (by omega) (by omega) (by omega) (by unfold wrap32; omega) (by unfold wrap32 rdF; omega)]
  unfold immS rdF wrap32; omega
theorem and_2048 (x : Int) (h0 : 0 ≤ x) (h1 : x < 4294967296) : bits BinOp.and IntKind.u32 x 2048 = x / 2048 % 2 * 2048 := and_field x 2048 1 11 h0 h1 (by decide) (by decide)
theorem and_2016 (x : Int) (h0 : 0 ≤ x) (h1 : x < 4294967296) : bits BinOp.and IntKind.u32 x 2016 = x / 32 % 64 * 32 := and_field x 2016 6 5 h0 h1 (by decide) (by decide)
theorem and_30 (x : Int) (h0 : 0 ≤ x) (h1 : x < 4294967296) : bits BinOp.and IntKind.u32 x 30 = x / 2 % 16 * 2 := and_field x 30 4 1 h0 h1 (by decide) (by decide)
theorem and_2046 (x : Int) (h0 : 0 ≤ x) (h1 : x < 4294967296) : bits BinOp.and IntKind.u32 x 2046 = x / 2 % 1024 * 2 := and_field x 2046 10 1 h0 h1 (by decide) (by decide)
theorem and_1044480 (x : Int) (h0 : 0 ≤ x) (h1 : x < 4294967296) : bits BinOp.and IntKind.u32 x 1044480 = x / 4096 % 256 * 4096 := and_field x 1044480 8 12 h0 h1 (by decide) (by decide)
theorem or_comm_u32 (x y : Int) (h0 : 0 ≤ x) (h1 : x < 4294967296) (g0 : 0 ≤ y) (g1 : y < 4294967296) : bits BinOp.or IntKind.u32 x y = bits BinOp.or IntKind.u32 y x := by
  rw [u32_or x y h0 h1 g0 g1, u32_or y x g0 g1 h0 h1, Nat.or_comm]
theorem or_sign12 (wd s : Int) (hs : 0 ≤ s) (hs2 : s < 4096) : bits BinOp.or IntKind.i32 (wrap32 (wrap32 wd / 2147483648 * 4096)) (wrap32 s) = wrap32 wd / 2147483648 * 4096 + s := by
  rw [i32_u32, or_add _ _ 12 (by omega) (by omega) (by omega) (by omega) (by unfold wrap32; omega) (by unfold wrap32; omega)]
  unfold wrap32; omega
theorem or_sign20 (wd s : Int) (hs : 0 ≤ s) (hs2 : s < 1048576) : bits BinOp.or IntKind.i32 (wrap32 (wrap32 wd / 2147483648 * 1048576)) (wrap32 s) = wrap32 wd / 2147483648 * 1048576 + s := by
  rw [i32_u32, or_add _ _ 20 (by omega) (by omega) (by omega) (by omega) (by unfold wrap32; omega) (by unfold wrap32; omega)]
  unfold wrap32; omega
theorem sp_B (wd : Int) (h0 : 0 ≤ wd) (h1 : wd < 4294967296) : bits BinOp.or IntKind.i32 (wrap32 (wrap32 wd / 2147483648 * 4096)) (wrap32 (bits BinOp.or IntKind.u32 (bits BinOp.or IntKind.u32 (bits BinOp.and IntKind.u32 (wd * 16 % 4294967296) 2048) (bits BinOp.and IntKind.u32 (wd / 1048576) 2016)) (bits BinOp.and IntKind.u32 (wd / 128) 30))) = immB wd := by
  rw [and_2048 _ (by omega) (by omega), and_2016 _ (by omega) (by omega), and_30 _ (by omega) (by omega)]
  rw [show wd * 16 % 4294967296 / 2048 % 2 = wd / 128 % 2 by omega, show wd / 1048576 / 32 % 64 = wd / 33554432 % 64 by omega, show wd / 128 / 2 % 16 = wd / 256 % 16 by omega]
  rw [or_add (wd / 128 % 2 * 2048) _ 11 (by omega) (by omega) (by omega) (by omega) (by omega) (by omega)]
  rw [or_add _ (wd / 256 % 16 * 2) 5 (by omega) (by omega) (by omega) (by omega) (by omega) (by omega)]
  rw [or_sign12 _ _ (by omega) (by omega)]
  unfold immB; omega
theorem sp_J (wd : Int) (h0 : 0 ≤ wd) (h1 : wd < 4294967296) : bits BinOp.or IntKind.i32 (wrap32 (wrap32 wd / 2147483648 * 1048576)) (wrap32 (bits BinOp.or IntKind.u32 (bits BinOp.or IntKind.u32 (bits BinOp.and IntKind.u32 wd 1044480) (bits BinOp.and IntKind.u32 (wd / 512) 2048)) (bits BinOp.and IntKind.u32 (wd / 1048576) 2046))) = immJ wd := by
  rw [and_1044480 _ (by omega) (by omega), and_2048 _ (by omega) (by omega), and_2046 _ (by omega) (by omega)]
  rw [show wd / 512 / 2048 % 2 = wd / 1048576 % 2 by omega, show wd / 1048576 / 2 % 1024 = wd / 2097152 % 1024 by omega]
  rw [or_add _ (wd / 1048576 % 2 * 2048) 12 (by omega) (by omega) (by omega) (by omega) (by omega) (by omega)]
  rw [or_add _ (wd / 2097152 % 1024 * 2) 11 (by omega) (by omega) (by omega) (by omega) (by omega) (by omega)]
  rw [or_sign20 _ _ (by omega) (by omega)]
  unfold immJ; omega
theorem andNot_4095 (x : Int) (h0 : 0 ≤ x) (h1 : x < 4294967296) : bits BinOp.andNot IntKind.u32 x 4095 = x / 4096 * 4096 := by
  rw [u32_andNot x 4095 h0 h1 (by decide) (by decide)]
  have := and_field x 4294963200 20 12 h0 h1 (by decide) (by decide)
  rw [u32_and x 4294963200 h0 h1 (by decide) (by decide)] at this
  have e : (4294967295 - (4095 : Int).toNat) = (4294963200 : Int).toNat := by decide
  rw [e, this]; omega
theorem sp_U (wd : Int) (h0 : 0 ≤ wd) (h1 : wd < 4294967296) : bits BinOp.andNot IntKind.i32 (wrap32 wd) 4095 = immU wd := by
  rw [i32_u32, show (4095 : Int) % 4294967296 = 4095 by decide, andNot_4095 _ (by omega) (by omega)]
  unfold immU wrap32; omega
end Go.Proofs.YtanccjaikocefaaDoor
