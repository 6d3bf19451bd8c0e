/-
  The contracts of the functions under 'Compute', of the program and of the document's answer: each returns what the plain functions give, and the world stays as it was. Condition: both numbers are of 32 bits.
-/
import Derived.Test.YtanccjaikocefaaGreatDoorRows
import Derived.Test.YtanccjaikocefaaGreatDoorNumPlain
import Derived.Deep.QuietTactic
import Derived.BigQuiet
namespace Go.Proofs.YtanccjaikocefaaGreatDoor
open Go.ChangeShapes Go.WideShapes Go.ChangeAt Go.RowKit
set_option linter.unusedVariables false

theorem mul32_any (a b : Int) (ha : 0 ≤ a) (ha2 : a < 4294967296) (hb : 0 ≤ b) (hb2 : b < 4294967296) (w : World) :
    Calls Tryz.prog 40 #[.int .u32 a, .int .u32 b] w fun e w' => e = .returned (.tuple #[.int .u32 (IntKind.u64.wrap (a * b) / 4294967296 % 4294967296), .int .u32 (IntKind.u64.wrap (a * b) % 4294967296)]) ∧ w = w' := by
  go_enter Tryz.func40, Tryz.ntmps40
  go_wp2
  go_ret2
  exact ⟨rfl, rfl⟩
theorem binary_any (op : Int) (w : World) :
    Calls Tryz.prog 41 #[.int .i64 op] w fun e w' => e = .returned (.int .i64 (bin op)) ∧ w = w' := by
  go_enter Tryz.func41, Tryz.ntmps41
  go_wp2
  all_goals (go_ret; exact ⟨ret_int (by simp [bin, *]), rfl⟩)
theorem truth_any (b : Bool) (w : World) :
    Calls Tryz.prog 42 #[.bool b] w fun e w' => e = .returned (.int .u32 (tru b)) ∧ w = w' := by
  cases b <;> (go_enter Tryz.func42, Tryz.ntmps42; go_wp2; go_ret; exact ⟨rfl, rfl⟩)
theorem rtruth_any (b : Bool) (w : World) :
    Calls Tryz.prog 26 #[.bool b] w fun e w' => e = .returned (.int .u32 (tru b)) ∧ w = w' := by
  cases b <;> (go_enter Tryz.func26, Tryz.ntmps26; go_wp2; go_ret; exact ⟨rfl, rfl⟩)
theorem divide_any (op a b : Int) (ha : 0 ≤ a) (ha2 : a < 4294967296) (hb : 0 ≤ b) (hb2 : b < 4294967296) (w : World) :
    Calls Tryz.prog 43 #[.int .i64 op, .int .u32 a, .int .u32 b] w fun e w' => e = .returned (.int .u32 (divd op a b)) ∧ w = w' := by
  go_enter Tryz.func43, Tryz.ntmps43
  go_wp2
  all_goals (try (exfalso; simp_all; done))
  all_goals (go_ret; exact ⟨ret_int (by simp [divd, *]), rfl⟩)
theorem quotient_0 (a b : Int) (h : (b == 0) = true) (w : World) :
    Calls Tryz.prog 27 #[.int .u32 a, .int .u32 b] w fun e w' => e = .returned (.tuple #[.int .u32 4294967295, .int .u32 a]) ∧ w = w' := by
  go_enter Tryz.func27, Tryz.ntmps27
  go_wp2
  go_ret2
  exact ⟨rfl, rfl⟩
theorem quotient_1 (a b : Int) (h : (b == 0) = false) (h1 : (a == 2147483648) = true) (h2 : (b == 4294967295) = true) (w : World) :
    Calls Tryz.prog 27 #[.int .u32 a, .int .u32 b] w fun e w' => e = .returned (.tuple #[.int .u32 a, .int .u32 0]) ∧ w = w' := by
  go_enter Tryz.func27, Tryz.ntmps27
  go_wp2
  go_ret2
  exact ⟨rfl, rfl⟩
def Draws (w w' : World) : Prop := ∃ n, w' = w.drewN n
theorem quotient_2 (a b : Int) (ha : 0 ≤ a) (ha2 : a < 4294967296) (hb : 0 ≤ b) (hb2 : b < 4294967296) (h : (b == 0) = false) (h1 : (a == 2147483648) = false) (hw : ¬ wrap32 b = 0) (w : World) :
    Calls Tryz.prog 27 #[.int .u32 a, .int .u32 b] w fun e w' => e = .returned (.tuple #[.int .u32 (wrap32 ((wrap32 a).tdiv (wrap32 b)) % 4294967296), .int .u32 ((wrap32 a).tmod (wrap32 b) % 4294967296)]) ∧ Draws w w' := by
  go_enter Tryz.func27, Tryz.ntmps27
  go_wp2
  go_quiet (fail)
  go_wp2
  go_ret2
  exact ⟨rfl, _, rfl⟩
theorem quotient_3 (a b : Int) (ha : 0 ≤ a) (ha2 : a < 4294967296) (hb : 0 ≤ b) (hb2 : b < 4294967296) (h : (b == 0) = false) (h1 : (a == 2147483648) = true) (h2 : (b == 4294967295) = false) (hw : ¬ wrap32 b = 0) (w : World) :
    Calls Tryz.prog 27 #[.int .u32 a, .int .u32 b] w fun e w' => e = .returned (.tuple #[.int .u32 (wrap32 ((wrap32 a).tdiv (wrap32 b)) % 4294967296), .int .u32 ((wrap32 a).tmod (wrap32 b) % 4294967296)]) ∧ Draws w w' := by
  go_enter Tryz.func27, Tryz.ntmps27
  go_wp2
  go_quiet (fail)
  go_wp2
  go_ret2
  exact ⟨rfl, _, rfl⟩
theorem draws_refl (w : World) : Draws w w := ⟨0, rfl⟩
theorem quotient_any (a b : Int) (ha : 0 ≤ a) (ha2 : a < 4294967296) (hb : 0 ≤ b) (hb2 : b < 4294967296) (w : World) :
    Calls Tryz.prog 27 #[.int .u32 a, .int .u32 b] w fun e w' => e = .returned (.tuple #[.int .u32 (quoI a b), .int .u32 (remI a b)]) ∧ Draws w w' := by
  by_cases h : b = 0
  · refine (quotient_0 a b (by simp [h]) w).mono ?_
    rintro e w' ⟨rfl, rfl⟩
    exact ⟨by simp [quoI, remI, h], draws_refl _⟩
  · have hw : ¬ wrap32 b = 0 := by unfold wrap32; omega
    by_cases h1 : a = 2147483648
    · by_cases h2 : b = 4294967295
      · refine (quotient_1 a b (by simp [h]) (by simp [h1]) (by simp [h2]) w).mono ?_
        rintro e w' ⟨rfl, rfl⟩
        exact ⟨by simp [quoI, remI, h1, h2], draws_refl _⟩
      · refine (quotient_3 a b ha ha2 hb hb2 (by simp [h]) (by simp [h1]) (by simp [h2]) hw w).mono ?_
        rintro e w' ⟨rfl, hd⟩
        exact ⟨by simp [quoI, remI, h1, h2, h], hd⟩
    · refine (quotient_2 a b ha ha2 hb hb2 (by simp [h]) (by simp [h1]) hw w).mono ?_
      rintro e w' ⟨rfl, hd⟩
      exact ⟨by simp [quoI, remI, h1, h], hd⟩
theorem comp_any (op a b : Int) (ha : 0 ≤ a) (ha2 : a < 4294967296) (hb : 0 ≤ b) (hb2 : b < 4294967296) (w : World) :
    Calls Tryz.prog 25 #[.int .i64 op, .int .u32 a, .int .u32 b] w fun e w' => e = .returned (.int .u32 (cmpI op a b)) ∧ w = w' := by
  have h1 : 0 ≤ bits BinOp.and IntKind.u32 b 31 ∧ bits BinOp.and IntKind.u32 b 31 < 32 := by rw [and31 b hb hb2]; omega
  obtain ⟨h1, h2⟩ := h1
  go_enter Tryz.func25, Tryz.ntmps25
  go_wp2_with (first | (go_at_call 40; refine (mul32_any _ _ ha ha2 hb hb2 _).mono ?_; rintro e w' ⟨rfl, rfl⟩) | (go_at_call 41; refine (binary_any _ _).mono ?_; rintro e w' ⟨rfl, rfl⟩) | (go_at_call 42; refine (truth_any _ _).mono ?_; rintro e w' ⟨rfl, rfl⟩) | (go_at_call 43; refine (divide_any _ _ _ ha ha2 hb hb2 _).mono ?_; rintro e w' ⟨rfl, rfl⟩))
  all_goals (go_ret; exact ⟨ret_int (by simp only [cmpI, *]; first | rfl | simp), rfl⟩)
theorem rcomp_any (op a b : Int) (ha : 0 ≤ a) (ha2 : a < 4294967296) (hb : 0 ≤ b) (hb2 : b < 4294967296) (w : World) :
    Calls Tryz.prog 12 #[.int .i64 op, .int .u32 a, .int .u32 b] w fun e w' => e = .returned (.int .u32 (rcmpI op a b)) ∧ Draws w w' := by
  have h1 : 0 ≤ bits BinOp.and IntKind.u32 b 31 ∧ bits BinOp.and IntKind.u32 b 31 < 32 := by rw [and31 b hb hb2]; omega
  obtain ⟨h1, h2⟩ := h1
  go_enter Tryz.func12, Tryz.ntmps12
  go_wp2_with (first | (go_at_call 26; refine (rtruth_any _ _).mono ?_; rintro e w' ⟨rfl, rfl⟩) | (go_at_call 27; refine (quotient_any _ _ ha ha2 hb hb2 _).mono ?_; rintro e w' ⟨rfl, n, rfl⟩))
  all_goals (try (exfalso; simp_all; done))
  all_goals (go_ret; exact ⟨ret_int (by simp only [rcmpI, *]; first | rfl | simp), by first | exact ⟨_, rfl⟩ | exact draws_refl _⟩)
theorem cap_any (op a b : Int) (ha : 0 ≤ a) (ha2 : a < 4294967296) (hb : 0 ≤ b) (hb2 : b < 4294967296) (w : World) :
    Calls Tryz.prog 11 #[.int .i64 op, .int .u32 a, .int .u32 b] w fun e w' => e = .returned (.int .u32 (capI op a b)) ∧ w = w' := by
  go_enter Tryz.func11, Tryz.ntmps11
  go_wp2_with (go_at_call 25; refine (comp_any _ _ _ ha ha2 hb hb2 _).mono ?_; rintro e w' ⟨rfl, rfl⟩)
  all_goals (go_ret; exact ⟨ret_int (by unfold capI; first | rw [if_pos (by omega)] | rw [if_neg (by omega)]), rfl⟩)
theorem rcomp_cap (op a b : Int) (ha : 0 ≤ a) (ha2 : a < 4294967296) (hb : 0 ≤ b) (hb2 : b < 4294967296) (w : World) :
    Calls Tryz.prog 12 #[.int .i64 op, .int .u32 a, .int .u32 b] w fun e w' => e = .returned (.int .u32 (capI op a b)) ∧ Draws w w' := by
  rw [cap_same op a b ha ha2 hb hb2]
  exact rcomp_any op a b ha ha2 hb hb2 w
theorem Draws.grown {w w' : World} (h : Draws w w') : Grown w w' := by
  obtain ⟨n, rfl⟩ := h
  exact Grown.refl w
theorem Draws.trans {a b c : World} (h : Draws a b) (k : Draws b c) : Draws a c := by
  obtain ⟨n, rfl⟩ := h
  obtain ⟨m, rfl⟩ := k
  exact ⟨n + m, by simp [World.drewN, Nat.add_assoc]⟩
end Go.Proofs.YtanccjaikocefaaGreatDoor
