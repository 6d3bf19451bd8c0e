/-
  The contract of 'Word': four bytes, little end first. Conditions: the machine lies in memory; the word lies in its memory.
-/
import Derived.Test.YtanccjaikocefaaDoorMeth3
namespace Go.Proofs.YtanccjaikocefaaDoor
open Go.ChangeShapes Go.WideShapes Go.ChangeAt Go.RowKit
set_option linter.unusedVariables false

theorem leAt_bd (mem : List Int) (hm : ∀ x ∈ mem, 0 ≤ x ∧ x < 256) : ∀ (n : Nat) (a : Int), 0 ≤ leAt mem a n ∧ leAt mem a n < 256 ^ n := by
  have hb : ∀ k, 0 ≤ byteAt mem k ∧ byteAt mem k < 256 := by
    intro k
    unfold byteAt
    rw [List.getD_eq_getElem?_getD]
    cases hq : mem[k.toNat]? with
    | none => simp
    | some v => simpa using hm v (List.mem_of_getElem? hq)
  intro n
  induction n with
  | zero => intro a; simp [leAt]
  | succ n ih =>
    intro a
    have h1 := hb a
    have h2 := ih (a + 1)
    simp only [leAt]
    have e : (256 : Int) ^ (n + 1) = 256 * 256 ^ n := by rw [Int.pow_succ, Int.mul_comm]
    omega
theorem byteAt_bd {mem : List Int} (hm : ∀ x ∈ mem, 0 ≤ x ∧ x < 256) (k : Int) : 0 ≤ byteAt mem k ∧ byteAt mem k < 256 := by
  have := leAt_bd mem hm 1 k
  simpa [leAt] using this
theorem leAt_snoc (mem : List Int) : ∀ (n : Nat) (a : Int), leAt mem a (n + 1) = leAt mem a n + byteAt mem (a + n) * 256 ^ n := by
  intro n
  induction n with
  | zero => intro a; simp [leAt]
  | succ n ih =>
    intro a
    rw [leAt, ih (a + 1)]
    conv => rhs; rw [leAt]
    have e : (256 : Int) ^ (n + 1) = 256 * 256 ^ n := by rw [Int.pow_succ, Int.mul_comm]
    have e2 : a + 1 + (n : Int) = a + ((n + 1 : Nat) : Int) := by omega
    rw [e, e2, Int.mul_add, ← Int.mul_assoc, ← Int.mul_assoc, Int.mul_comm (byteAt mem (a + ((n + 1 : Nat) : Int))) 256]
    omega
theorem word_or (v c : Int) (k : Nat) (hk : k < 4) (h0 : 0 ≤ v) (h1 : v < 256 ^ k) (c0 : 0 ≤ c) (c1 : c < 256) :
    bits BinOp.or IntKind.u32 v (c * 2 ^ (8 * k) % 4294967296) = v + c * 256 ^ k := by
  have hs : k = 0 ∨ k = 1 ∨ k = 2 ∨ k = 3 := by omega
  rcases hs with rfl | rfl | rfl | rfl
  · simp at h1 ⊢
    rw [or_comm_u32 _ _ (by omega) (by omega) (by omega) (by omega), or_add _ _ 0 (by omega) (by omega) (by omega) (by omega) (by omega) (by omega)]; omega
  · simp at h1 ⊢
    rw [or_comm_u32 _ _ (by omega) (by omega) (by omega) (by omega), or_add _ _ 8 (by omega) (by omega) (by omega) (by omega) (by omega) (by omega)]; omega
  · simp at h1 ⊢
    rw [or_comm_u32 _ _ (by omega) (by omega) (by omega) (by omega), or_add _ _ 16 (by omega) (by omega) (by omega) (by omega) (by omega) (by omega)]; omega
  · simp at h1 ⊢
    rw [or_comm_u32 _ _ (by omega) (by omega) (by omega) (by omega), or_add _ _ 24 (by omega) (by omega) (by omega) (by omega) (by omega) (by omega)]; omega
theorem mem_cell {w : World} {s : St} {mb : Nat} {T : TypeId} {fr : Nat × Nat} (h : w.heap[mb]? = some (.cells (s.mem.map (Value.int .u8)).toArray T fr)) (j : Nat) (hj : j < s.mem.length) : w.cell? ⟨mb, j, none⟩ = some (.int .u8 (byteAt s.mem j)) := by
  rw [cell_of_row w mb j _ _ _ h]
  simp [byteAt, List.getD_eq_getElem?_getD, List.getElem?_eq_getElem hj]
set_option maxRecDepth 100000 in
theorem word_any (b : Nat) (s : St) (hs : s.Ok) (x : Raw) (at_ : Int) (h0 : 0 ≤ at_) (hl : at_ + 4 ≤ (s.mem.length : Int)) (w : World) (h : Mach w b s x) :
    Calls Tryd.prog 49 #[.pointer (some ⟨b, 0, none⟩), .int .u32 at_] w (fun e w' => e = .returned (.int .u32 (wordAt s.mem at_)) ∧ w = w') := by
  obtain ⟨n, rfl⟩ := Int.eq_ofNat_of_zero_le h0
  have hlen := hs.len
  have h33 := h.mac.mem
  have hn4 : n + 4 ≤ s.mem.length := by omega
  go_enter Tryd.func49, Tryd.ntmps49
  go_wp2_with fail
  go_loop [4, 16] (fun v i => ∃ k : Nat, k ≤ 4 ∧ i = .int .i64 k ∧ v = .int .u32 (leAt s.mem n k)) (fun _ i => (4 - intOf i).toNat)
  case atStart => exact ⟨0, by decide, rfl, rfl⟩
  case round =>
    obtain ⟨k, hk, rfl, rfl⟩ := hrel
    have hbd := leAt_bd s.mem hs.mem k n
    have hbb := byteAt_bd hs.mem ((n : Int) + k)
    by_cases hlt : k < 4
    · have hcell : w.cell? ⟨x.mb, n + k, none⟩ = some (.int .u8 (byteAt s.mem ((n : Int) + k))) := by
        have := mem_cell h.mem (n + k) (by omega)
        simpa using this
      obtain ⟨q0, q1⟩ := hbb
      obtain ⟨r0, r1⟩ := hbd
      have R1 := Lib.hid r1
      clear r1
      go_wp2_with fail
      go_round
      case rel => exact ⟨k + 1, by omega, by go_num, by rw [word_or _ _ k hlt r0 R1.out q0 q1, leAt_snoc]⟩
      case measure => simp [intOf]; omega
    · have hk4 : k = 4 := by omega
      subst hk4
      go_wp2_with fail
      go_ret
      exact ⟨rfl, rfl⟩
end Go.Proofs.YtanccjaikocefaaDoor
