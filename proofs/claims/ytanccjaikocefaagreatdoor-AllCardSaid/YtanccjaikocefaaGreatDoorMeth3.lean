/-
  The contracts of 'reach', 'tell', 'Word', 'nothing', 'stop': as the plain machine has them. Conditions: the machine lies in memory; numbers and fields are in their ranges.
  The contract of 'tell': an event more. Conditions: the machine lies in memory; the events are fewer than a million.
  The contract of 'Word': four bytes, little end first. Conditions: the machine lies in memory; the word lies in its memory.
-/
import Derived.Test.YtanccjaikocefaaGreatDoorMeth1
import Derived.Deep.AppendLies
namespace Go.Proofs.YtanccjaikocefaaGreatDoor
open Go.ChangeShapes Go.WideShapes Go.ChangeAt Go.RowKit
set_option linter.unusedVariables false

set_option maxRecDepth 100000 in
theorem reach_ok (b : Nat) (i : Ins) (hi : i.Ok) (s : St) (hs : s.Ok) (x : Raw) (w : World) (h : MacAt w b s x) (p n oa of_ : Int) (n0 : 1 ≤ n) (n1 : n ≤ 4) (ha : u32 (s.regs i.rs1.toNat + i.imm) % n = 0) (hl : lies s (u32 (s.regs i.rs1.toNat + i.imm)) n = true) :
    Calls Tryz.prog 71 #[.pointer (some ⟨b, 0, none⟩), .agg #[.int .i64 p, .int .i64 i.rd, .int .i64 i.rs1, .int .i64 i.rs2, .int .i32 i.imm], .int .u32 n, .int .i64 oa, .int .i64 of_] w (fun e w' => e = .returned (.int .u32 (u32 (s.regs i.rs1.toNat + i.imm))) ∧ Only (fun _ => False) w w') := by
  obtain ⟨a0, a1⟩ := hi.rs1
  obtain ⟨m0, m1⟩ := hi.imm
  obtain ⟨v0, v1⟩ := hs.regs i.rs1.toNat
  have hr1 := h.reg i.rs1.toNat (by omega)
  have hsz := h.lt
  have ha' : ((s.regs i.rs1.toNat + i.imm) % 4294967296 % n != 0) = false := by show (u32 (s.regs i.rs1.toNat + i.imm) % n != 0) = false; rw [ha]; rfl
  have hl' : lies s ((s.regs i.rs1.toNat + i.imm) % 4294967296) n = true := hl
  have HL := Lib.hid hl'
  clear ha hl hl'
  go_enter Tryz.func71, Tryz.ntmps71
  go_wp2_with fail
  go_quiet (fail)
  go_wp2_with fail
  refine (lies_any b _ _ s x _ ?_ (by omega) (by omega) (by omega) (by omega) hs.len).mono ?_
  · repeat (first | with_reducible refine MacAt.drew ?_ | with_reducible refine MacAt.drewN ?_ _ | with_reducible refine MacAt.alloc ?_ _)
    exact h
  rintro e w' ⟨rfl, rfl⟩
  rw [HL.out]
  go_wp2_with fail
  go_ret
  refine ⟨rfl, ?_⟩
  repeat (first | with_reducible exact Only.refl _ _ | with_reducible refine Only.alloc ?_ _ | with_reducible refine Only.drewN ?_ _ | with_reducible refine Only.drew ?_)

set_option maxRecDepth 100000 in
theorem reach_align (b : Nat) (i : Ins) (hi : i.Ok) (s : St) (hs : s.Ok) (x : Raw) (w : World) (h : MacAt w b s x) (p n oa of_ : Int) (n0 : 1 ≤ n) (n1 : n ≤ 4) (ha : ¬ u32 (s.regs i.rs1.toNat + i.imm) % n = 0) :
    Calls Tryz.prog 71 #[.pointer (some ⟨b, 0, none⟩), .agg #[.int .i64 p, .int .i64 i.rd, .int .i64 i.rs1, .int .i64 i.rs2, .int .i32 i.imm], .int .u32 n, .int .i64 oa, .int .i64 of_] w (fun e w' => e = trapE oa ∧ Only (fun _ => False) w w') := by
  obtain ⟨a0, a1⟩ := hi.rs1
  obtain ⟨m0, m1⟩ := hi.imm
  obtain ⟨v0, v1⟩ := hs.regs i.rs1.toNat
  have hr1 := h.reg i.rs1.toNat (by omega)
  have hsz := h.lt
  have ha' : ((s.regs i.rs1.toNat + i.imm) % 4294967296 % n != 0) = true := by rw [bne_iff_ne]; exact ha
  clear ha
  go_enter Tryz.func71, Tryz.ntmps71
  go_wp2_with fail
  go_quiet (fail)
  go_wp2_with fail
  refine (trap_any _ _ _).mono ?_
  rintro e w' ⟨rfl, rfl⟩
  go_wp2_with fail
  refine ⟨rfl, rfl, ?_⟩
  repeat (first | with_reducible exact Only.refl _ _ | with_reducible refine Only.alloc ?_ _ | with_reducible refine Only.drewN ?_ _ | with_reducible refine Only.drew ?_)

set_option maxRecDepth 100000 in
theorem reach_fault (b : Nat) (i : Ins) (hi : i.Ok) (s : St) (hs : s.Ok) (x : Raw) (w : World) (h : MacAt w b s x) (p n oa of_ : Int) (n0 : 1 ≤ n) (n1 : n ≤ 4) (ha : u32 (s.regs i.rs1.toNat + i.imm) % n = 0) (hl : lies s (u32 (s.regs i.rs1.toNat + i.imm)) n = false) :
    Calls Tryz.prog 71 #[.pointer (some ⟨b, 0, none⟩), .agg #[.int .i64 p, .int .i64 i.rd, .int .i64 i.rs1, .int .i64 i.rs2, .int .i32 i.imm], .int .u32 n, .int .i64 oa, .int .i64 of_] w (fun e w' => e = trapE of_ ∧ Only (fun _ => False) w w') := by
  obtain ⟨a0, a1⟩ := hi.rs1
  obtain ⟨m0, m1⟩ := hi.imm
  obtain ⟨v0, v1⟩ := hs.regs i.rs1.toNat
  have hr1 := h.reg i.rs1.toNat (by omega)
  have hsz := h.lt
  have ha' : ((s.regs i.rs1.toNat + i.imm) % 4294967296 % n != 0) = false := by show (u32 (s.regs i.rs1.toNat + i.imm) % n != 0) = false; rw [ha]; rfl
  have hl' : lies s ((s.regs i.rs1.toNat + i.imm) % 4294967296) n = false := hl
  have HL := Lib.hid hl'
  clear ha hl hl'
  go_enter Tryz.func71, Tryz.ntmps71
  go_wp2_with fail
  go_quiet (fail)
  go_wp2_with fail
  refine (lies_any b _ _ s x _ ?_ (by omega) (by omega) (by omega) (by omega) hs.len).mono ?_
  · repeat (first | with_reducible refine MacAt.drew ?_ | with_reducible refine MacAt.drewN ?_ _ | with_reducible refine MacAt.alloc ?_ _)
    exact h
  rintro e w' ⟨rfl, rfl⟩
  rw [HL.out]
  go_wp2_with fail
  refine (trap_any _ _ _).mono ?_
  rintro e w' ⟨rfl, rfl⟩
  go_wp2_with fail
  refine ⟨rfl, rfl, ?_⟩
  repeat (first | with_reducible exact Only.refl _ _ | with_reducible refine Only.alloc ?_ _ | with_reducible refine Only.drewN ?_ _ | with_reducible refine Only.drew ?_)

theorem nothing_any (eff : Int → Int → World → World → Prop) (b : Nat) (i : Ins) (s : St) (hs : s.Ok) (x : Raw) (w : World) (h : Mach w b s x) (ho : i.op = 45) (hn : x.next = u32 (s.pc + 4)) :
    Calls Tryz.prog 58 #[.pointer (some ⟨b, 0, none⟩), .agg i.cells] w (DoesQ eff b s x i w) := by
  have he : exec s i = .go s (u32 (s.pc + 4)) none := by simp [exec, ho]
  have HN := Lib.hid hn
  have HE := Lib.hid he
  clear hn he
  unfold Ins.cells
  go_enter Tryz.func58, Tryz.ntmps58
  go_wp2
  go_end0
  refine does_go (s2 := s) h HE.out ?_ (clr_self s hs.zero) rfl rfl rfl ?_
  · repeat (first | with_reducible refine MacAt.drew ?_ | with_reducible refine MacAt.drewN ?_ _ | with_reducible refine MacAt.alloc ?_ _)
    have : x = { x with next := u32 (s.pc + 4) } := by rw [← HN.out]
    rw [← this]
    exact h.mac
  · repeat (first | with_reducible exact Only.refl _ _ | with_reducible refine Only.set1 ?_ _ _ | with_reducible refine Only.alloc ?_ _ | with_reducible refine Only.drewN ?_ _ | with_reducible refine Only.drew ?_)
theorem stop_any (eff : Int → Int → World → World → Prop) (b : Nat) (i : Ins) (s : St) (x : Raw) (w : World) (h : Mach w b s x) (ho : i.op = 47) :
    Calls Tryz.prog 57 #[.pointer (some ⟨b, 0, none⟩), .agg i.cells] w (DoesQ eff b s x i w) := by
  have he : exec s i = .trap s 9 := by simp [exec, ho]
  have HE := Lib.hid he
  clear he
  unfold Ins.cells
  go_enter Tryz.func57, Tryz.ntmps57
  go_wp2_with fail
  refine (trap_any _ _ _).mono ?_
  rintro e w' ⟨rfl, rfl⟩
  go_wp2_with fail
  refine ⟨rfl, does_trap (x' := x) h HE.out ?_ rfl ?_⟩
  · repeat (first | with_reducible refine MacAt.drew ?_ | with_reducible refine MacAt.drewN ?_ _ | with_reducible refine MacAt.alloc ?_ _)
    exact h.mac
  · repeat (first | with_reducible exact Only.refl _ _ | with_reducible refine Only.set1 ?_ _ _ | with_reducible refine Only.alloc ?_ _ | with_reducible refine Only.drewN ?_ _ | with_reducible refine Only.drew ?_)
end Go.Proofs.YtanccjaikocefaaGreatDoor
namespace Go.Proofs.YtanccjaikocefaaGreatDoor
open Go.ChangeShapes Go.WideShapes Go.ChangeAt Go.RowKit
set_option linter.unusedVariables false

theorem evInfo : (Tryz.prog.info? 86).map (fun i => (i.zero, i.size, i.bytes)) = some (some (.agg #[.int .u32 0, .int .u32 0, .string ⟨#[]⟩]), 3, 24) := by kernel_rfl
def TellP (b : Nat) (s : St) (x : Raw) (e : Ev) (w : World) (en : Ending) (w' : World) : Prop :=
  en = .returned (.tuple #[]) ∧ ∃ v, Mach w' b { s with evs := s.evs ++ [e] } { x with evs := v } ∧ Keep w x { x with evs := v } ∧ Only (Mb b x) w w'
theorem evCells_snoc (l : List Ev) (e : Ev) : evCells (l ++ [e]) = evCells l ++ [.int .u32 e.call, .int .u32 e.result, .string e.data] := by simp [evCells]
theorem Only.of_grown {S : Nat → Prop} {a w w' : World} {row : Option Nat} (h : Only S a w) (hg : w.grownBy w' row) (hr : ∀ k, row = some k → S k) : Only S a w' :=
  h.then ⟨hg.os, hg.tape, hg.output, hg.size, fun k hk hs => hg.block k hk (fun e => hs (hr k e.symm))⟩
set_option maxRecDepth 100000 in
theorem tell_any (b : Nat) (s : St) (x : Raw) (c r : Int) (d : ByteArray) (w : World) (h : Mach w b s x) (hev : s.evs.length ≤ 1000000) :
    Calls Tryz.prog 73 #[.pointer (some ⟨b, 0, none⟩), .int .u32 c, .int .u32 r, .string d] w (TellP b s x ⟨c, r, d⟩ w) := by
  obtain ⟨i0, hi, hz0, hz1, hz2⟩ := info_parts evInfo
  have hown := h.evs
  have hbl := h.mac.lt
  have h40 := h.mac.evs
  have hf := h.mac.free 40
  have H := h
  go_enter Tryz.func73, Tryz.ntmps73
  go_wp2_with (at_builtin; refine wpList_append_lies _ (by rfl) (.tmp 12) (.tmp 17) 39 (by rfl) 0 86 i0 _ 3 24 Tryz.underlying39 hi hz0 hz1 hz2 (by rfl) (by omega) x.evs s.evs.length (evCells s.evs) (by rfl) (hown.alloc _) ⟨w.heap.size, 0, none⟩ 1 1 [.int .u32 c, .int .u32 r, .string d] (by rfl) (by rfl) (World.news_of_block (heap_alloc_new w _)) (by simp [Value.oneCell']) (by omega) (by unfold maxLen; omega) (by omega) (Nat.zero_le _) (w.heap.size + 1) (by simp) ?_)
  intro g cap w1 hown1 hgrow hat hlt
  have hneb : ¬ x.evs.ownBlock = some b := fun e => (H.nee b e).1 rfl
  have HO1 : Only (fun k => x.evs.ownBlock = some k) w w1 := ((Only.refl _ w).alloc _).of_grown hgrow (fun k h => h.symm ▸ rfl)
  clear hgrow
  have q40 : w1.cell? ⟨b, 40, none⟩ = some x.evs := HO1.cell hneb h40
  have qf : w1.frozen? ⟨b, 40, none⟩ = false := HO1.free hneb hbl hf
  clear h40 hf hown
  go_wp2_with fail
  go_end0
  have ho2 : Only (· = b) w1 (w1.setCell ⟨b, 40, none⟩ (.slice (some ⟨g, 0, none⟩) (s.evs.length + 1) cap)) := (Only.refl _ _).set1 _ _
  have hmb := heap_lt H.mem
  have hgn : g ≠ b ∧ g ≠ x.mb ∧ g ≠ x.ab := by
    rcases hat with hat | hat
    · exact H.nee g hat
    · have := H.abLt
      exact ⟨by omega, by omega, by omega⟩
  refine ⟨rfl, .slice (some ⟨g, 0, none⟩) (s.evs.length + 1) cap, ?_, ?_, ?_⟩
  · refine ⟨?_, ho2.heap (Ne.symm H.ne) (HO1.heap (fun e => (H.nee _ e).2.1 rfl) H.mem), H.ne, (H.ans.only HO1 (fun e => (H.nee _ e).2.2 rfl)).only ho2 H.nea.1, ?_, H.nea, ?_, ?_⟩
    · have hm1 : MacAt w1 b s x := HO1.heap hneb H.mac
      have hm2 := hm1.putEvs (.slice (some ⟨g, 0, none⟩) (s.evs.length + 1) cap)
      exact hm2
    · exact Nat.lt_of_lt_of_le H.abLt (Nat.le_trans HO1.size ho2.size)
    · have := ownsRow_only hown1 ho2 (fun k hk => by simp [Value.ownBlock] at hk; omega)
      rw [evCells_snoc]
      simpa using this
    · intro k hk
      simp [Value.ownBlock] at hk
      subst hk
      exact hgn
  · refine ⟨rfl, rfl, rfl, ?_⟩
    rcases hat with hat | hat
    · exact .inl (by rw [hat]; rfl)
    · exact .inr ⟨g, rfl, by omega⟩
  · exact (HO1.mono (fun _ _ h => .inr (.inr h))).then ho2.mb
end Go.Proofs.YtanccjaikocefaaGreatDoor
namespace Go.Proofs.YtanccjaikocefaaGreatDoor
open Go.ChangeShapes Go.WideShapes Go.ChangeAt Go.RowKit
set_option linter.unusedVariables false

theorem leAt_bd (mem : List Int) (hm : ∀ x ∈ mem, 0 ≤ x ∧ x < 256) : ∀ (n : Nat) (a : Int), 0 ≤ leAt mem a n ∧ leAt mem a n < 256 ^ n := by
  have hb : ∀ k, 0 ≤ byteAt mem k ∧ byteAt mem k < 256 := by
    intro k
    unfold byteAt
    rw [List.getD_eq_getElem?_getD]
    cases hq : mem[k.toNat]? with
    | none => simp
    | some v => simpa using hm v (List.mem_of_getElem? hq)
  intro n
  induction n with
  | zero => intro a; simp [leAt]
  | succ n ih =>
    intro a
    have h1 := hb a
    have h2 := ih (a + 1)
    simp only [leAt]
    have e : (256 : Int) ^ (n + 1) = 256 * 256 ^ n := by rw [Int.pow_succ, Int.mul_comm]
    omega
theorem byteAt_bd {mem : List Int} (hm : ∀ x ∈ mem, 0 ≤ x ∧ x < 256) (k : Int) : 0 ≤ byteAt mem k ∧ byteAt mem k < 256 := by
  have := leAt_bd mem hm 1 k
  simpa [leAt] using this
theorem leAt_snoc (mem : List Int) : ∀ (n : Nat) (a : Int), leAt mem a (n + 1) = leAt mem a n + byteAt mem (a + n) * 256 ^ n := by
  intro n
  induction n with
  | zero => intro a; simp [leAt]
  | succ n ih =>
    intro a
    rw [leAt, ih (a + 1)]
    conv => rhs; rw [leAt]
    have e : (256 : Int) ^ (n + 1) = 256 * 256 ^ n := by rw [Int.pow_succ, Int.mul_comm]
    have e2 : a + 1 + (n : Int) = a + ((n + 1 : Nat) : Int) := by omega
    rw [e, e2, Int.mul_add, ← Int.mul_assoc, ← Int.mul_assoc, Int.mul_comm (byteAt mem (a + ((n + 1 : Nat) : Int))) 256]
    omega
theorem word_or (v c : Int) (k : Nat) (hk : k < 4) (h0 : 0 ≤ v) (h1 : v < 256 ^ k) (c0 : 0 ≤ c) (c1 : c < 256) :
    bits BinOp.or IntKind.u32 v (c * 2 ^ (8 * k) % 4294967296) = v + c * 256 ^ k := by
  have hs : k = 0 ∨ k = 1 ∨ k = 2 ∨ k = 3 := by omega
  rcases hs with rfl | rfl | rfl | rfl
  · simp at h1 ⊢
    rw [or_comm_u32 _ _ (by omega) (by omega) (by omega) (by omega), or_add _ _ 0 (by omega) (by omega) (by omega) (by omega) (by omega) (by omega)]; omega
  · simp at h1 ⊢
    rw [or_comm_u32 _ _ (by omega) (by omega) (by omega) (by omega), or_add _ _ 8 (by omega) (by omega) (by omega) (by omega) (by omega) (by omega)]; omega
  · simp at h1 ⊢
    rw [or_comm_u32 _ _ (by omega) (by omega) (by omega) (by omega), or_add _ _ 16 (by omega) (by omega) (by omega) (by omega) (by omega) (by omega)]; omega
  · simp at h1 ⊢
    rw [or_comm_u32 _ _ (by omega) (by omega) (by omega) (by omega), or_add _ _ 24 (by omega) (by omega) (by omega) (by omega) (by omega) (by omega)]; omega
theorem mem_cell {w : World} {s : St} {mb : Nat} {T : TypeId} {fr : Nat × Nat} (h : w.heap[mb]? = some (.cells (s.mem.map (Value.int .u8)).toArray T fr)) (j : Nat) (hj : j < s.mem.length) : w.cell? ⟨mb, j, none⟩ = some (.int .u8 (byteAt s.mem j)) := by
  rw [cell_of_row w mb j _ _ _ h]
  simp [byteAt, List.getD_eq_getElem?_getD, List.getElem?_eq_getElem hj]
set_option maxRecDepth 100000 in
theorem word_any (b : Nat) (s : St) (hs : s.Ok) (x : Raw) (at_ : Int) (h0 : 0 ≤ at_) (hl : at_ + 4 ≤ (s.mem.length : Int)) (w : World) (h : Mach w b s x) :
    Calls Tryz.prog 48 #[.pointer (some ⟨b, 0, none⟩), .int .u32 at_] w (fun e w' => e = .returned (.int .u32 (wordAt s.mem at_)) ∧ w = w') := by
  obtain ⟨n, rfl⟩ := Int.eq_ofNat_of_zero_le h0
  have hlen := hs.len
  have h33 := h.mac.mem
  have hn4 : n + 4 ≤ s.mem.length := by omega
  go_enter Tryz.func48, Tryz.ntmps48
  go_wp2_with fail
  go_loop [4, 16] (fun v i => ∃ k : Nat, k ≤ 4 ∧ i = .int .i64 k ∧ v = .int .u32 (leAt s.mem n k)) (fun _ i => (4 - intOf i).toNat)
  case atStart => exact ⟨0, by decide, rfl, rfl⟩
  case round =>
    obtain ⟨k, hk, rfl, rfl⟩ := hrel
    have hbd := leAt_bd s.mem hs.mem k n
    have hbb := byteAt_bd hs.mem ((n : Int) + k)
    by_cases hlt : k < 4
    · have hcell : w.cell? ⟨x.mb, n + k, none⟩ = some (.int .u8 (byteAt s.mem ((n : Int) + k))) := by
        have := mem_cell h.mem (n + k) (by omega)
        simpa using this
      obtain ⟨q0, q1⟩ := hbb
      obtain ⟨r0, r1⟩ := hbd
      have R1 := Lib.hid r1
      clear r1
      go_wp2_with fail
      go_round
      case rel => exact ⟨k + 1, by omega, by go_num, by rw [word_or _ _ k hlt r0 R1.out q0 q1, leAt_snoc]⟩
      case measure => simp [intOf]; omega
    · have hk4 : k = 4 := by omega
      subst hk4
      go_wp2_with fail
      go_ret
      exact ⟨rfl, rfl⟩
end Go.Proofs.YtanccjaikocefaaGreatDoor
