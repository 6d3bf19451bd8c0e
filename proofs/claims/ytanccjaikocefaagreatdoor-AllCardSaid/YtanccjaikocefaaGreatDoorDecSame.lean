/-
  The plain law of decoding: the first row of the program's table that fits a word gives what the document's text gives. No program in sight. Condition: the word is of 32 bits.
-/
import Derived.Test.YtanccjaikocefaaGreatDoorNumPlain
namespace Go.Proofs.YtanccjaikocefaaGreatDoor
open Go.ChangeShapes Go.WideShapes Go.ChangeAt Go.RowKit
set_option linter.unusedVariables false

/-- The row fits, said of the word's fields. -/
def fitF (o f3 f7 wd : Int) (r : Int × Int × Int × Int) : Bool :=
  if r.2.2.1 == 127 then o == r.2.2.2
  else if r.2.2.1 == 28799 then o == r.2.2.2 % 128 && f3 == r.2.2.2 / 4096
  else if r.2.2.1 == 4261441663 then o == r.2.2.2 % 128 && (f3 == r.2.2.2 / 4096 % 8 && f7 == r.2.2.2 / 33554432)
  else wd == r.2.2.2
def goodRow (r : Int × Int × Int × Int) : Bool :=
  (r.2.2.1 == 127 && (0 ≤ r.2.2.2 && r.2.2.2 < 128)) ||
  (r.2.2.1 == 28799 && (0 ≤ r.2.2.2 && r.2.2.2 == r.2.2.2 % 128 + r.2.2.2 / 4096 * 4096 && r.2.2.2 / 4096 < 8)) ||
  (r.2.2.1 == 4261441663 && (0 ≤ r.2.2.2 && r.2.2.2 < 4294967296 && r.2.2.2 == r.2.2.2 % 128 + r.2.2.2 / 4096 % 8 * 4096 + r.2.2.2 / 33554432 * 33554432)) ||
  (r.2.2.1 == 4294967295)
theorem good_all : tabRows.all goodRow = true := by decide +kernel
theorem and_127 (x : Int) (h0 : 0 ≤ x) (h1 : x < 4294967296) : bits BinOp.and IntKind.u32 x 127 = x % 128 := by
  have := and_field x 127 7 0 h0 h1 (by decide) (by decide)
  simpa using this
theorem and_all (x : Int) (h0 : 0 ≤ x) (h1 : x < 4294967296) : bits BinOp.and IntKind.u32 x 4294967295 = x := by
  have := and_field x 4294967295 32 0 h0 h1 (by decide) (by decide)
  rw [this]; simp; omega
theorem nat_and_or (x a b : Nat) : x &&& (a ||| b) = (x &&& a) ||| (x &&& b) := Nat.and_or_distrib_left ..
theorem and_28799 (x : Int) (h0 : 0 ≤ x) (h1 : x < 4294967296) : bits BinOp.and IntKind.u32 x 28799 = x % 128 + x / 4096 % 8 * 4096 := by
  rw [u32_and x 28799 h0 h1 (by decide) (by decide), show (28799 : Int).toNat = (28672 ||| 127 : Nat) by decide, nat_and_or]
  have e1 := and_field x 28672 3 12 h0 h1 (by decide) (by decide)
  have e2 := and_127 x h0 h1
  rw [u32_and x 28672 h0 h1 (by decide) (by decide)] at e1
  rw [u32_and x 127 h0 h1 (by decide) (by decide)] at e2
  have k1 : (28672 : Int).toNat = 28672 := rfl
  have k2 : (127 : Int).toNat = 127 := rfl
  rw [k1] at e1
  rw [k2] at e2
  rw [nat_or_add _ _ 12 (by omega) (by omega)]
  omega
theorem and_f7 (x : Int) (h0 : 0 ≤ x) (h1 : x < 4294967296) : bits BinOp.and IntKind.u32 x 4261441663 = x % 128 + x / 4096 % 8 * 4096 + x / 33554432 * 33554432 := by
  rw [u32_and x 4261441663 h0 h1 (by decide) (by decide), show (4261441663 : Int).toNat = (4261412864 ||| 28799 : Nat) by decide, nat_and_or]
  have e1 := and_field x 4261412864 7 25 h0 h1 (by decide) (by decide)
  have e2 := and_28799 x h0 h1
  rw [u32_and x 4261412864 h0 h1 (by decide) (by decide)] at e1
  rw [u32_and x 28799 h0 h1 (by decide) (by decide)] at e2
  have k1 : (4261412864 : Int).toNat = 4261412864 := rfl
  have k2 : (28799 : Int).toNat = 28799 := rfl
  rw [k1] at e1
  rw [k2] at e2
  rw [nat_or_add _ _ 25 (by omega) (by omega)]
  omega
theorem fits_fitF (wd : Int) (h0 : 0 ≤ wd) (h1 : wd < 4294967296) (r : Int × Int × Int × Int) (hr : goodRow r = true) :
    fits wd r = fitF (wd % 128) (wd / 4096 % 8) (wd / 33554432) wd r := by
  obtain ⟨op, f, m, v⟩ := r
  simp only [goodRow, Bool.or_eq_true, Bool.and_eq_true, beq_iff_eq, decide_eq_true_eq] at hr
  unfold fits fitF
  dsimp only
  rcases hr with ((⟨rfl, h⟩ | ⟨rfl, h⟩) | ⟨rfl, h⟩) | rfl
  · rw [and_127 wd h0 h1]; rfl
  · rw [and_28799 wd h0 h1, Bool.eq_iff_iff]
    simp
    omega
  · rw [and_f7 wd h0 h1, Bool.eq_iff_iff]
    simp
    omega
  · rw [and_all wd h0 h1]; rfl
theorem find_congr {α : Type} (p q : α → Bool) (l : List α) (h : ∀ x ∈ l, p x = q x) : l.find? p = l.find? q := by
  induction l with
  | nil => rfl
  | cons a l ih =>
    simp only [List.find?_cons, h a (List.mem_cons_self ..)]
    rw [ih (fun x hx => h x (List.mem_cons_of_mem _ hx))]
theorem decO_fields (wd : Int) (h0 : 0 ≤ wd) (h1 : wd < 4294967296) :
    decO wd = (tabRows.find? (fitF (wd % 128) (wd / 4096 % 8) (wd / 33554432) wd)).map fun r => fillI r.1 r.2.1 wd := by
  unfold decO
  rw [find_congr (fits wd) _ tabRows (fun r hr => fits_fitF wd h0 h1 r (List.all_eq_true.1 good_all r hr))]
/-- No opcode of the table. -/
theorem dec_none (wd : Int) (h0 : 0 ≤ wd) (h1 : wd < 4294967296) (h : ∀ k ∈ [55, 23, 111, 103, 99, 3, 35, 19, 51, 15, 115], wd % 128 ≠ k) : decO wd = none := by
  rw [decO_fields wd h0 h1]
  have e : tabRows.find? (fitF (wd % 128) (wd / 4096 % 8) (wd / 33554432) wd) = none := by
    simp at h
    rw [List.find?_eq_none]
    intro r hr
    have hb : ∀ r ∈ tabRows, ([55, 23, 111, 103, 99, 3, 35, 19, 51, 15, 115].contains (r.2.2.2 % 128)) = true := List.all_eq_true.1 (by decide +kernel : (tabRows.all fun r => [55, 23, 111, 103, 99, 3, 35, 19, 51, 15, 115].contains (r.2.2.2 % 128)) = true)
    have hm := hb r hr
    have hg := List.all_eq_true.1 good_all r hr
    obtain ⟨op, f, m, v⟩ := r
    simp only [goodRow, Bool.or_eq_true, Bool.and_eq_true, beq_iff_eq, decide_eq_true_eq] at hg
    simp at hm
    unfold fitF
    dsimp only
    intro hc
    rcases hg with ((⟨rfl, hg⟩ | ⟨rfl, hg⟩) | ⟨rfl, hg⟩) | rfl <;> simp at hc <;> omega
  rw [e]; rfl
end Go.Proofs.YtanccjaikocefaaGreatDoor
