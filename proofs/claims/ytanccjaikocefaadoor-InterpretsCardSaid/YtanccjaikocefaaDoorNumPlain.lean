/-
  Plain arithmetic of 'Compute': what the program's and the document's text come to, and that they are the same. No program in sight. Conditions: both numbers are of 32 bits; the operation is one from ADDI to REMU.
-/
import Derived.WalkKit
import Derived.ProofKit
namespace Go.Proofs.YtanccjaikocefaaDoor
open Go.ChangeShapes Go.WideShapes Go.ChangeAt Go.RowKit
set_option linter.unusedVariables false

theorem ret_int {k : IntKind} {a b : Int} (h : a = b) : Ending.returned (.int k a) = .returned (.int k b) := by rw [h]
def bin (op : Int) : Int := if op == 18 then 27 else if op == 19 then 30 else if op == 20 then 31 else if op == 21 then 32 else if op == 22 then 35 else if op == 23 then 36 else if op == 24 then 29 else if op == 25 then 33 else if op == 26 then 34 else op
def tru (b : Bool) : Int := if b then 1 else 0
def divd (op a b : Int) : Int :=
  if op == 41 then (if wrap32 b == 0 then 4294967295 else if wrap32 b == -1 then -a % 4294967296 else wrap32 ((wrap32 a).tdiv (wrap32 b)) % 4294967296)
  else if op == 43 then (if wrap32 b == 0 then a else if wrap32 b == -1 then 0 else (wrap32 a).tmod (wrap32 b) % 4294967296)
  else if op == 42 then (if b == 0 then 4294967295 else a.tdiv b % 4294967296)
  else if op == 44 then (if b == 0 then a else a % b)
  else 0
/-- What 'rv.Compute' comes to. -/
def cmpI (op a b : Int) : Int :=
  if bin op == 27 then (a + b) % 4294967296
  else if bin op == 28 then (a - b) % 4294967296
  else if bin op == 29 then a * 2 ^ (bits BinOp.and IntKind.u32 b 31).toNat % 4294967296
  else if bin op == 30 then tru (decide (wrap32 a < wrap32 b))
  else if bin op == 31 then tru (decide (a < b))
  else if bin op == 32 then bits BinOp.xor IntKind.u32 a b
  else if bin op == 33 then a / 2 ^ (bits BinOp.and IntKind.u32 b 31).toNat
  else if bin op == 34 then wrap32 a / 2 ^ (bits BinOp.and IntKind.u32 b 31).toNat % 4294967296
  else if bin op == 35 then bits BinOp.or IntKind.u32 a b
  else if bin op == 36 then bits BinOp.and IntKind.u32 a b
  else if bin op == 37 then IntKind.u64.wrap (a * b) % 4294967296
  else if bin op == 40 then IntKind.u64.wrap (a * b) / 4294967296 % 4294967296
  else if bin op == 39 then (IntKind.u64.wrap (a * b) / 4294967296 % 4294967296 - bits BinOp.and IntKind.u32 (wrap32 a / 2147483648 % 4294967296) b) % 4294967296
  else if bin op == 38 then ((IntKind.u64.wrap (a * b) / 4294967296 % 4294967296 - bits BinOp.and IntKind.u32 (wrap32 a / 2147483648 % 4294967296) b) % 4294967296 - bits BinOp.and IntKind.u32 (wrap32 b / 2147483648 % 4294967296) a) % 4294967296
  else divd op a b
def quoI (a b : Int) : Int := if b == 0 then 4294967295 else if a == 2147483648 && b == 4294967295 then a else wrap32 ((wrap32 a).tdiv (wrap32 b)) % 4294967296
def remI (a b : Int) : Int := if b == 0 then a else if a == 2147483648 && b == 4294967295 then 0 else (wrap32 a).tmod (wrap32 b) % 4294967296
/-- What the document's 'Compute' comes to. -/
def rcmpI (op a b : Int) : Int :=
  if op == 27 || op == 18 then (a + b) % 4294967296
  else if op == 28 then (a - b) % 4294967296
  else if op == 29 || op == 24 then a * 2 ^ (bits BinOp.and IntKind.u32 b 31).toNat % 4294967296
  else if op == 30 || op == 19 then tru (decide (wrap32 a < wrap32 b))
  else if op == 31 || op == 20 then tru (decide (a < b))
  else if op == 32 || op == 21 then bits BinOp.xor IntKind.u32 a b
  else if op == 33 || op == 25 then a / 2 ^ (bits BinOp.and IntKind.u32 b 31).toNat
  else if op == 34 || op == 26 then wrap32 a / 2 ^ (bits BinOp.and IntKind.u32 b 31).toNat % 4294967296
  else if op == 35 || op == 22 then bits BinOp.or IntKind.u32 a b
  else if op == 36 || op == 23 then bits BinOp.and IntKind.u32 a b
  else if op == 37 then a * b % 4294967296
  else if op == 38 then IntKind.u64.wrap (wrap64 (wrap64 (wrap32 a) * wrap64 (wrap32 b))) / 4294967296 % 4294967296
  else if op == 39 then IntKind.u64.wrap (wrap64 (wrap64 (wrap32 a) * b)) / 4294967296 % 4294967296
  else if op == 40 then IntKind.u64.wrap (a * b) / 4294967296 % 4294967296
  else if op == 41 then quoI a b
  else if op == 43 then remI a b
  else if op == 42 then (if b == 0 then 4294967295 else a.tdiv b % 4294967296)
  else if op == 44 then (if b == 0 then a else a % b)
  else 0
/-- What the call 'Compute' comes to. -/
def capI (op a b : Int) : Int := if op < 18 ∨ 44 < op then 0 else cmpI op a b

theorem and31 (b : Int) (h0 : 0 ≤ b) (h1 : b < 4294967296) : bits BinOp.and IntKind.u32 b 31 = b % 32 := by
  rw [u32_and b 31 h0 h1 (by decide) (by decide)]
  have := Nat.and_two_pow_sub_one_eq_mod b.toNat 5
  simp at this ⊢
  rw [this]; omega
theorem u64wrap (x : Int) : IntKind.u64.wrap x = x % 18446744073709551616 := by simp [IntKind.wrap, IntKind.signed, IntKind.bits]
theorem wrap32_lt {a : Int} (h0 : 0 ≤ a) (h : a < 2147483648) : wrap32 a = a := by unfold wrap32; omega
theorem wrap32_ge {a : Int} (h0 : 2147483648 ≤ a) (h : a < 4294967296) : wrap32 a = a - 4294967296 := by unfold wrap32; omega
theorem and_sign (a b : Int) (ha : 0 ≤ a) (ha2 : a < 4294967296) (hb : 0 ≤ b) (hb2 : b < 4294967296) :
    bits BinOp.and IntKind.u32 (wrap32 a / 2147483648 % 4294967296) b = if a < 2147483648 then 0 else b := by
  by_cases h : a < 2147483648
  · rw [if_pos h, wrap32_lt ha h, show a / 2147483648 % 4294967296 = 0 by omega, u32_and 0 b (by decide) (by decide) hb hb2]; simp
  · rw [if_neg h, wrap32_ge (by omega) ha2, show (a - 4294967296) / 2147483648 % 4294967296 = 4294967295 by omega, u32_and 4294967295 b (by decide) (by decide) hb hb2]
    have := Nat.and_two_pow_sub_one_eq_mod b.toNat 32
    rw [Nat.and_comm] at this
    simp at this ⊢
    rw [this]; omega
theorem wrap64_mod (x : Int) : wrap64 x % 18446744073709551616 = x % 18446744073709551616 := by unfold wrap64; omega
theorem high_plain (p b : Int) : (p - 4294967296 * b) % 18446744073709551616 / 4294967296 % 4294967296 = (p % 18446744073709551616 / 4294967296 % 4294967296 - b) % 4294967296 := by omega
theorem sub_sub_mod (x y z : Int) : ((x - y) % 4294967296 - z) % 4294967296 = (x - (y + z)) % 4294967296 := by omega
theorem mulhsu_same (a b : Int) (ha : 0 ≤ a) (ha2 : a < 4294967296) (hb : 0 ≤ b) (hb2 : b < 4294967296) :
    IntKind.u64.wrap (wrap64 (wrap64 (wrap32 a) * b)) / 4294967296 % 4294967296 =
      (IntKind.u64.wrap (a * b) / 4294967296 % 4294967296 - bits BinOp.and IntKind.u32 (wrap32 a / 2147483648 % 4294967296) b) % 4294967296 := by
  rw [and_sign a b ha ha2 hb hb2, u64wrap, u64wrap, wrap64_mod]
  by_cases h : a < 2147483648
  · rw [if_pos h, wrap32_lt ha h, show wrap64 a = a by unfold wrap64; omega]; omega
  · rw [if_neg h, wrap32_ge (by omega) ha2, show wrap64 (a - 4294967296) = a - 4294967296 by unfold wrap64; omega, Int.sub_mul, high_plain]
theorem mulh_same (a b : Int) (ha : 0 ≤ a) (ha2 : a < 4294967296) (hb : 0 ≤ b) (hb2 : b < 4294967296) :
    IntKind.u64.wrap (wrap64 (wrap64 (wrap32 a) * wrap64 (wrap32 b))) / 4294967296 % 4294967296 =
      ((IntKind.u64.wrap (a * b) / 4294967296 % 4294967296 - bits BinOp.and IntKind.u32 (wrap32 a / 2147483648 % 4294967296) b) % 4294967296 - bits BinOp.and IntKind.u32 (wrap32 b / 2147483648 % 4294967296) a) % 4294967296 := by
  rw [and_sign a b ha ha2 hb hb2, and_sign b a hb hb2 ha ha2, u64wrap, u64wrap, wrap64_mod, sub_sub_mod]
  have e1 : ∀ x : Int, 0 ≤ x → x < 4294967296 → wrap64 (wrap32 x) = if x < 2147483648 then x else x - 4294967296 := by
    intro x h0 h1
    by_cases h : x < 2147483648
    · rw [if_pos h, wrap32_lt h0 h]; unfold wrap64; omega
    · rw [if_neg h, wrap32_ge (by omega) h1]; unfold wrap64; omega
  rw [e1 a ha ha2, e1 b hb hb2]
  by_cases h : a < 2147483648 <;> by_cases k : b < 2147483648 <;> simp only [if_pos, if_neg, h, k, not_false_eq_true]
  · omega
  · rw [Int.mul_sub, show a * 4294967296 = 4294967296 * a by omega, high_plain]; omega
  · rw [Int.sub_mul, high_plain]; omega
  · rw [Int.sub_mul, Int.mul_sub, show a * b - a * 4294967296 - 4294967296 * (b - 4294967296) = a * b - 4294967296 * (b + a - 4294967296) by omega, high_plain]; omega
theorem div_same (a b : Int) (hb : 0 ≤ b) (hb2 : b < 4294967296) : quoI a b = divd 41 a b := by
  have e0 : (wrap32 b == 0) = (b == 0) := by rw [Bool.eq_iff_iff]; simp; unfold wrap32; omega
  have e1 : (wrap32 b == -1) = (b == 4294967295) := by rw [Bool.eq_iff_iff]; simp; unfold wrap32; omega
  unfold quoI divd
  simp only [e0, e1, beq_self_eq_true, if_true]
  by_cases h : b = 0
  · simp [h]
  by_cases k : b = 4294967295
  · subst k
    have hm : wrap32 4294967295 = -1 := by unfold wrap32; omega
    simp [hm]
    by_cases j : a = 2147483648
    · simp [j]
    · rw [if_neg j]; unfold wrap32; omega
  · simp [h, k]
theorem rem_same (a b : Int) (hb : 0 ≤ b) (hb2 : b < 4294967296) : remI a b = divd 43 a b := by
  have e0 : (wrap32 b == 0) = (b == 0) := by rw [Bool.eq_iff_iff]; simp; unfold wrap32; omega
  have e1 : (wrap32 b == -1) = (b == 4294967295) := by rw [Bool.eq_iff_iff]; simp; unfold wrap32; omega
  unfold remI divd
  simp only [e0, e1]
  by_cases h : b = 0
  · simp [h]
  by_cases k : b = 4294967295
  · subst k
    have hm : wrap32 4294967295 = -1 := by unfold wrap32; omega
    simp [hm]
  · simp [h, k]
/-- The plain law: the program's and the document's 'Compute' are the same. -/
theorem rcmp_same (op a b : Int) (h1 : 18 ≤ op) (h2 : op ≤ 44) (ha : 0 ≤ a) (ha2 : a < 4294967296) (hb : 0 ≤ b) (hb2 : b < 4294967296) :
    rcmpI op a b = cmpI op a b := by
  have hs : op = 18 ∨ op = 19 ∨ op = 20 ∨ op = 21 ∨ op = 22 ∨ op = 23 ∨ op = 24 ∨ op = 25 ∨ op = 26 ∨ op = 27 ∨ op = 28 ∨ op = 29 ∨ op = 30 ∨ op = 31 ∨ op = 32 ∨ op = 33 ∨ op = 34 ∨ op = 35 ∨ op = 36 ∨ op = 37 ∨ op = 38 ∨ op = 39 ∨ op = 40 ∨ op = 41 ∨ op = 42 ∨ op = 43 ∨ op = 44 := by omega
  rcases hs with rfl | rfl | rfl | rfl | rfl | rfl | rfl | rfl | rfl | rfl | rfl | rfl | rfl | rfl | rfl | rfl | rfl | rfl | rfl | rfl | rfl | rfl | rfl | rfl | rfl | rfl | rfl
  all_goals simp [rcmpI, cmpI, bin]
  · rw [u64wrap]; omega
  · rw [mulh_same a b ha ha2 hb hb2]; simp
  · rw [mulhsu_same a b ha ha2 hb hb2]; simp
  · exact div_same a b hb hb2
  · simp [divd]
  · exact rem_same a b hb hb2
  · simp [divd]
theorem rcmp_other (op a b : Int) (h : op < 18 ∨ 44 < op) : rcmpI op a b = 0 := by
  unfold rcmpI
  have e : ∀ k : Int, 18 ≤ k → k ≤ 44 → (op == k) = false := fun k h1 h2 => by simp; omega
  simp only [e, show (18:Int) ≤ 27 by decide, show (27:Int) ≤ 44 by decide]
  simp [e]
theorem cap_same (op a b : Int) (ha : 0 ≤ a) (ha2 : a < 4294967296) (hb : 0 ≤ b) (hb2 : b < 4294967296) : capI op a b = rcmpI op a b := by
  unfold capI
  by_cases h : op < 18 ∨ 44 < op
  · rw [if_pos h, rcmp_other op a b h]
  · rw [if_neg h, rcmp_same op a b (by omega) (by omega) ha ha2 hb hb2]
end Go.Proofs.YtanccjaikocefaaDoor
