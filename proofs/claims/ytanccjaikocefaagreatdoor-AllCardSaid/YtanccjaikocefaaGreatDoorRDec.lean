/-
  The contracts of the document's 'bits', 'signed' and 'one': they return what the plain functions give; nothing that was there before is written. Conditions: the numbers are in their ranges.
-/
import Derived.Test.YtanccjaikocefaaGreatDoorDec
import Derived.Test.YtanccjaikocefaaGreatDoorDecOps
namespace Go.Proofs.YtanccjaikocefaaGreatDoor
open Go.ChangeShapes Go.WideShapes Go.ChangeAt Go.RowKit
set_option linter.unusedVariables false

def fld (wd a b : Int) : Int := wd / 2 ^ b.toNat % 2 ^ (a - b + 1).toNat
theorem fld_bd (wd a b : Int) : 0 ≤ fld wd a b ∧ fld wd a b < 2 ^ (a - b + 1).toNat := ⟨Int.emod_nonneg _ (Int.ne_of_gt (Int.pow_pos (by decide))), Int.emod_lt_of_pos _ (Int.pow_pos (by decide))⟩
theorem fld_sp (wd a b : Int) (h0 : 0 ≤ wd) (h1 : wd < 4294967296) (hb : 0 ≤ b) (hab : b ≤ a) (hn : a - b ≤ 30) :
    bits BinOp.and IntKind.u32 (wd / 2 ^ b.toNat) ((2 ^ (a - b + 1).toNat - 1) % 4294967296) = fld wd a b := by
  have hk : (a - b + 1).toNat ≤ 31 := by omega
  generalize hN : (a - b + 1).toNat = N at hk
  have hp : (1 : Int) ≤ 2 ^ N ∧ (2 : Int) ^ N ≤ 2147483648 := by
    have h := Nat.pow_le_pow_right (n := 2) (by decide) hk
    have h2 := Nat.one_le_two_pow (n := N)
    have e : ((2 ^ N : Nat) : Int) = 2 ^ N := by simp
    omega
  have hx0 : 0 ≤ wd / 2 ^ b.toNat := Int.ediv_nonneg h0 (Int.le_of_lt (Int.pow_pos (by decide)))
  have hx1 : wd / 2 ^ b.toNat ≤ wd := Int.ediv_le_self _ h0
  have hm : ((2 : Int) ^ N - 1) % 4294967296 = ((2 ^ N - 1 : Nat) : Int) * 2 ^ 0 := by
    have e : ((2 ^ N : Nat) : Int) = 2 ^ N := by simp
    have h2 := Nat.one_le_two_pow (n := N)
    rw [Int.emod_eq_of_lt (by omega) (by omega)]
    omega
  rw [and_field _ _ N 0 hx0 (by omega) hm (by omega)]
  unfold fld
  rw [hN]
  simp
def sgn (v n : Int) : Int := if v / 2 ^ (n - 1).toNat % 2 = 1 then v - 2 ^ n.toNat else v
theorem bit_sp (x : Int) (h0 : 0 ≤ x) (h1 : x < 4294967296) : bits BinOp.and IntKind.u32 x 1 = x % 2 := by
  rw [u32_and x 1 h0 h1 (by decide) (by decide)]
  have := Nat.and_two_pow_sub_one_eq_mod x.toNat 1
  simp at this ⊢
  omega
theorem sgn_yes (v n : Int) (hn : n = 12 ∨ n = 13 ∨ n = 21) (h0 : 0 ≤ v) (h1 : v < 2 ^ n.toNat) (h : (bits BinOp.and IntKind.u32 (v / 2 ^ (n.toNat - 1)) 1 == 1) = true) :
    wrap32 (bits BinOp.or IntKind.u32 v (4294967295 * 2 ^ n.toNat % 4294967296)) = sgn v n := by
  rcases hn with rfl | rfl | rfl
  · simp at h h1
    rw [bit_sp _ (by omega) (by omega)] at h
    simp [sgn, h]
    rw [or_comm_u32 _ _ h0 (by omega) (by omega) (by omega), or_add _ _ 12 (by omega) (by omega) (by omega) (by omega) (by omega) (by omega)]
    unfold wrap32; omega
  · simp at h h1
    rw [bit_sp _ (by omega) (by omega)] at h
    simp [sgn, h]
    rw [or_comm_u32 _ _ h0 (by omega) (by omega) (by omega), or_add _ _ 13 (by omega) (by omega) (by omega) (by omega) (by omega) (by omega)]
    unfold wrap32; omega
  · simp at h h1
    rw [bit_sp _ (by omega) (by omega)] at h
    simp [sgn, h]
    rw [or_comm_u32 _ _ h0 (by omega) (by omega) (by omega), or_add _ _ 21 (by omega) (by omega) (by omega) (by omega) (by omega) (by omega)]
    unfold wrap32; omega
theorem sgn_no (v n : Int) (hn : n = 12 ∨ n = 13 ∨ n = 21) (h0 : 0 ≤ v) (h1 : v < 2 ^ n.toNat) (h : (bits BinOp.and IntKind.u32 (v / 2 ^ (n.toNat - 1)) 1 == 1) = false) :
    wrap32 v = sgn v n := by
  rcases hn with rfl | rfl | rfl
  all_goals
    simp at h h1
    rw [bit_sp _ (by omega) (by omega)] at h
    simp [sgn, h]
    unfold wrap32; omega
def DrawsR (v : Value) (w : World) (e : Ending) (w' : World) : Prop := e = .returned v ∧ Draws w w'
theorem rbits_any (wd a b : Int) (h0 : 0 ≤ wd) (h1 : wd < 4294967296) (hb : 0 ≤ b) (hab : b ≤ a) (ha : a ≤ 31) (hn : a - b ≤ 30) (w : World) :
    Calls Tryz.prog 22 #[.int .u32 wd, .int .i64 a, .int .i64 b] w (DrawsR (.int .u32 (fld wd a b)) w) := by
  go_enter Tryz.func22, Tryz.ntmps22
  go_wp2
  go_quiet (fail)
  go_wp2
  go_ret
  exact ⟨ret_int (fld_sp wd a b h0 h1 hb hab hn), _, rfl⟩
theorem rsigned_any (v n : Int) (hn : n = 12 ∨ n = 13 ∨ n = 21) (h0 : 0 ≤ v) (h1 : v < 2 ^ n.toNat) (w : World) :
    Calls Tryz.prog 23 #[.int .u32 v, .int .i64 n] w fun e w' => e = .returned (.int .i32 (sgn v n)) ∧ w = w' := by
  have hb : 2 ≤ n ∧ n ≤ 31 := by omega
  obtain ⟨hb, hab⟩ := hb
  have H1 := Lib.hid h1
  have HN := Lib.hid hn
  clear h1 hn
  go_enter Tryz.func23, Tryz.ntmps23
  go_wp2
  · go_ret
    exact ⟨ret_int (sgn_yes v n HN.out h0 H1.out ‹_›), rfl⟩
  · go_ret
    exact ⟨ret_int (sgn_no v n HN.out h0 H1.out ‹_›), rfl⟩
def insP (o : Option Ins) : Value := match o with
  | some i => .tuple #[.agg i.cells, .bool true]
  | none => .tuple #[.agg Ins.zero.cells, .bool false]
def OnlyR (v : Value) (w : World) (e : Ending) (w' : World) : Prop := e = .returned v ∧ Only (fun _ => False) w w'
theorem rone_out (b L : Nat) (k : Int) (i : Ins) (h0 : (L : Int) ≤ k) (hk : k < 8) (w : World) :
    Calls Tryz.prog 24 #[.slice (some ⟨b, 0, none⟩) L L, .int .u32 k, .agg i.cells] w (OnlyR (insP none) w) := by
  unfold Ins.cells
  have hg : decide ((L : Int) ≤ k) = true := by simp; exact h0
  go_enter Tryz.func24, Tryz.ntmps24
  go_wp2
  refine bodyPost_ret (v := insP none) (by simp [results, Tryz.results24, go_sem, insP, Ins.cells, Ins.zero]) rfl ⟨rfl, ?_⟩
  repeat (first | exact Only.refl _ _ | refine Only.alloc ?_ _)
theorem rone_in (b L : Nat) (k x : Int) (i : Ins) (h0 : 0 ≤ k) (h1 : k < (L : Int)) (hk : k < 8) (hL : L < 10) (w : World) (hc : w.cell? ⟨b, k.toNat, none⟩ = some (.int .i64 x)) :
    Calls Tryz.prog 24 #[.slice (some ⟨b, 0, none⟩) L L, .int .u32 k, .agg i.cells] w (OnlyR (insP (if (x == 99) = true then none else some ⟨x, i.rd, i.rs1, i.rs2, i.imm⟩)) w) := by
  unfold Ins.cells
  have hlt := block_lt_of_cell hc
  cases hx : (x == 99)
  · go_enter Tryz.func24, Tryz.ntmps24
    go_wp2
    refine bodyPost_ret (v := insP (some ⟨x, i.rd, i.rs1, i.rs2, i.imm⟩)) (by simp [results, Tryz.results24, go_sem, insP, Ins.cells]) rfl ⟨rfl, ?_⟩
    repeat (first | exact Only.refl _ _ | refine Only.alloc ?_ _)
  · go_enter Tryz.func24, Tryz.ntmps24
    go_wp2
    refine bodyPost_ret (v := insP none) (by simp [results, Tryz.results24, go_sem, insP, Ins.cells, Ins.zero]) rfl ⟨rfl, ?_⟩
    repeat (first | exact Only.refl _ _ | refine Only.alloc ?_ _)
end Go.Proofs.YtanccjaikocefaaGreatDoor
