/-
  The contract of the document's 'do': what the plain machine does. Conditions: the machine lies in memory; its numbers are in their ranges; it has not ended.
-/
import Derived.Test.YtanccjaikocefaaGreatDoorRCall
import Derived.Test.YtanccjaikocefaaGreatDoorNum
namespace Go.Proofs.YtanccjaikocefaaGreatDoor
open Go.ChangeShapes Go.WideShapes Go.ChangeAt Go.RowKit
set_option linter.unusedVariables false

theorem RM.end2 {B b : Nat} {r1 r' : RS} {x1 : RRaw} {w w1 : World} {next st : Int} (h1 : RMach B w1 b r1 x1) (ho : Only (RUp B) w w1) (hst : st = r1.s.steps + 1) (e : r' = { r1 with s := r1.s.step next }) :
    RP B b w (.tuple #[]) r' (.returned (.tuple #[])) ((w1.setCell ⟨b, 1, none⟩ (.int .u32 next)).setCell ⟨b, 37, none⟩ (.int .i64 st)) := by
  subst e
  subst hst
  have hs : Only (· = b) w1 ((w1.setCell ⟨b, 1, none⟩ (.int .u32 next)).setCell ⟨b, 37, none⟩ (.int .i64 (r1.s.steps + 1))) := ((Only.refl _ w1).set1 _ _).set1 _ _
  exact ⟨rfl, ⟨x1, h1.struct hs ((h1.mac.putPc _).putSteps _) rfl h1.ans rfl rfl rfl rfl⟩, ho.then (hs.upb h1.from_.1)⟩
theorem do_go {r : RS} {i : Ins} {s' : St} {next : Int} (he : exec r.s i = .go s' next none) (hj : jumps r.s i = false) : r.do_ i = { r with s := s'.step next } := by
  unfold RS.do_
  rw [he, hj]
  rfl
theorem do_trap {r : RS} {i : Ins} {s' : St} {o : Int} (he : exec r.s i = .trap s' o) : r.do_ i = RS.end_ { r with s := s' } o := by
  unfold RS.do_
  rw [he]
theorem rdo_jump {r : RS} {i : Ins} {s' : St} {next : Int} (he : exec r.s i = .go s' next none) (hj : jumps r.s i = true) : r.do_ i = { r with s := s'.step next, cur := (0, 0) } := by
  unfold RS.do_
  rw [he, hj]
  rfl
theorem RP.alloc {B b : Nat} {w w1 : World} {v : Value} {r : RS} {e : Ending} (h : RP B b w v r e w1) (o : Obj) : RP B b w v r e (w1.alloc o) := h.no ((Only.refl _ w1).alloc o)
theorem nojump (s : St) (i : Ins) (h : i.op < 2 ∨ 10 ≤ i.op) : jumps s i = false := by
  have h2 : (i.op == 2) = false := by simp; omega
  have h3 : (i.op == 3) = false := by simp; omega
  unfold jumps
  rw [h2, h3]
  by_cases h4 : 4 ≤ i.op
  · have h9 : decide (i.op ≤ 9) = false := by simp; omega
    rw [h9]; simp
  · have h9 : decide (4 ≤ i.op) = false := by simpa using h4
    rw [h9]; simp
theorem RM.endS {B b : Nat} {r r' : RS} {x : RRaw} {w w0 w1 : World} {d v next st : Int} (h : RMach B w0 b r x) (ho : Only (fun _ => False) w w0) (hc : RAt w1 b (r.setr d v) x) (h1 : Only (· = b) w0 w1) (hst : st = r.s.steps + 1) (e : r' = { r.setr d v with s := (r.setr d v).s.step next }) :
    RP B b w (.tuple #[]) r' (.returned (.tuple #[])) ((w1.setCell ⟨b, 1, none⟩ (.int .u32 next)).setCell ⟨b, 37, none⟩ (.int .i64 st)) :=
  RM.end2 (h.struct h1 hc rfl h.ans rfl rfl rfl rfl) (ho.up0.then (h1.upb h.from_.1)) hst e
theorem RM.endT {B b : Nat} {r r1 r' : RS} {x : RRaw} {w w0 w1 : World} (h : RMach B w0 b r x) (ho : Only (fun _ => False) w w0) (hc : RAt w1 b r1 x) (h1 : Only (· = b) w0 w1) (e : r' = r1) (e1 : r1.s.mem = r.s.mem) (e2 : r1.s.ans = r.s.ans) (e3 : r1.s.evs = r.s.evs) (e4 : r1.slots = r.slots) (e5 : r1.blocks = r.blocks) :
    RP B b w (.tuple #[]) r' (.returned (.tuple #[])) w1 := by
  subst e
  exact ⟨rfl, ⟨x, h.struct h1 hc rfl (by rw [e2]; exact h.ans) e1 e3 e4 e5⟩, ho.up0.then (h1.upb h.from_.1)⟩
theorem exec_load (s : St) (i : Ins) (h0 : 10 ≤ i.op) (h1 : i.op ≤ 14) : exec s i = (if u32 (s.regs i.rs1.toNat + i.imm) % wide i.op ≠ 0 then .trap s 5 else if lies s (u32 (s.regs i.rs1.toNat + i.imm)) (wide i.op) then .go (s.set i.rd (loadV i.op s.mem (u32 (s.regs i.rs1.toNat + i.imm)))) (u32 (s.pc + 4)) none else .trap s 6) := by
  conv => lhs; unfold exec
  dsimp only
  repeat (first | rw [if_pos (by simp; omega)] | rw [if_neg (by simp; omega)])
theorem exec_store (s : St) (i : Ins) (h0 : 15 ≤ i.op) (h1 : i.op ≤ 17) : exec s i = (if u32 (s.regs i.rs1.toNat + i.imm) % wide i.op ≠ 0 then .trap s 7 else if lies s (u32 (s.regs i.rs1.toNat + i.imm)) (wide i.op) then .go { s with mem := putAt s.mem (u32 (s.regs i.rs1.toNat + i.imm)) (storeB i.op (s.regs i.rs2.toNat)) } (u32 (s.pc + 4)) (wrOf (u32 (s.regs i.rs1.toNat + i.imm)) (wide i.op)) else .trap s 8) := by
  conv => lhs; unfold exec
  dsimp only
  repeat (first | rw [if_pos (by simp; omega)] | rw [if_neg (by simp; omega)])
theorem exec_call (s : St) (i : Ins) (h : i.op = 46) : exec s i = doCall s (u32 (s.pc + 4)) := by
  unfold exec
  simp [h]
def Out.isGo : Out → Bool
  | .go .. => true
  | .trap .. => false
/-- Where a memory's instruction goes on. -/
theorem mem_next {s s' : St} {i : Ins} {next : Int} {wr : Option (Int × Int)} (h0 : 10 ≤ i.op) (h1 : i.op ≤ 17) (hx : exec s i = .go s' next wr) : next = u32 (s.pc + 4) := by
  by_cases h : i.op ≤ 14
  · rw [exec_load s i h0 h] at hx
    split at hx
    · cases hx
    · split at hx
      · injection hx with _ e _; exact e.symm
      · cases hx
  · rw [exec_store s i (by omega) h1] at hx
    split at hx
    · cases hx
    · split at hx
      · injection hx with _ e _; exact e.symm
      · cases hx
theorem call_next {s s' : St} {n next : Int} {wr : Option (Int × Int)} (hx : doCall s n = .go s' next wr) : next = n := by
  unfold doCall at hx
  dsimp only at hx
  repeat' (first | (split at hx) | (injection hx with _ e _; exact e.symm) | cases hx)
theorem do_part {r : RS} {i : Ins} {s' : St} {next : Int} {wr : Option (Int × Int)} (hx : exec r.s i = .go s' next wr) (hj : jumps r.s i = false) : r.do_ i = { r.part (exec r.s i) with s := (r.part (exec r.s i)).s.step next } := by
  rw [hx]
  unfold RS.do_ RS.part
  rw [hx, hj]
  cases wr <;> rfl
theorem do_partT {r : RS} {i : Ins} {s' : St} {o : Int} (hx : exec r.s i = .trap s' o) : r.do_ i = r.part (exec r.s i) := by
  rw [hx]
  unfold RS.do_ RS.part
  rw [hx]
theorem part_steps {r : RS} {s' : St} {next : Int} {wr : Option (Int × Int)} : (r.part (.go s' next wr)).s = s' ∧ (r.part (.go s' next wr)).ended = r.ended := by cases wr <;> exact ⟨rfl, rfl⟩
set_option maxRecDepth 100000 in
set_option maxHeartbeats 400000 in
theorem rdo_45 (B b : Nat) (i : Ins) (hi : i.Ok) (r : RS) (hs : r.s.Ok) (st0 : 0 ≤ r.s.steps) (st1 : r.s.steps ≤ 10000) (x : RRaw) (w : World) (h : RMach B w b r x) (h45 : i.op = 45) :
    Calls Tryz.prog 63 #[.pointer (some ⟨b, 0, none⟩), .agg i.cells] w (RP B b w (.tuple #[]) (r.do_ i)) := by
  have hd : r.do_ i = { r with s := r.s.step (u32 (r.s.pc + 4)) } := do_go (by simp [exec, h45]) (nojump _ _ (by omega))
  have hi0 := hi
  unfold Ins.cells
  obtain ⟨d0, d1⟩ := hi.rd
  obtain ⟨a0, a1⟩ := hi.rs1
  obtain ⟨c0, c1⟩ := hi.rs2
  obtain ⟨m0, m1⟩ := hi.imm
  obtain ⟨v0, v1⟩ := hs.regs i.rs1.toNat
  obtain ⟨y0, y1⟩ := hs.regs i.rs2.toNat
  obtain ⟨p0, p1⟩ := hs.pc
  have hr1 := h.mac.reg i.rs1.toNat (by omega)
  have hr2 := h.mac.reg i.rs2.toNat (by omega)
  have hp := h.mac.pc
  have hst := h.mac.steps
  have f1 := h.mac.free 1
  have f37 := h.mac.free 37
  have hsz := h.mac.lt
  have H := Lib.hid h
  have HD := Lib.hid hd
  clear h hd
  go_enter Tryz.func63, Tryz.ntmps63
  go_wp2_with fail
  go_quiet (fail)
  go_wp2_with fail
  go_quiet (fail)
  go_wp2_with fail
  first | go_end0 | refine bodyPost_ret (results_none rfl _ _ _) rfl ?_
  refine RM.end2 (H.out.no ?_) (Only.up0 ?_) rfl HD.out
  all_goals repeat (first | with_reducible exact Only.refl _ _ | with_reducible refine Only.alloc ?_ _ | with_reducible refine Only.drewN ?_ _ | with_reducible refine Only.drew ?_)
set_option maxRecDepth 100000 in
set_option maxHeartbeats 400000 in
theorem rdo_47 (B b : Nat) (i : Ins) (hi : i.Ok) (r : RS) (hs : r.s.Ok) (st0 : 0 ≤ r.s.steps) (st1 : r.s.steps ≤ 10000) (x : RRaw) (w : World) (h : RMach B w b r x) (h47 : i.op = 47) :
    Calls Tryz.prog 63 #[.pointer (some ⟨b, 0, none⟩), .agg i.cells] w (RP B b w (.tuple #[]) (r.do_ i)) := by
  have hd : r.do_ i = r.end_ 9 := do_trap (by simp [exec, h47])
  have hi0 := hi
  unfold Ins.cells
  obtain ⟨d0, d1⟩ := hi.rd
  obtain ⟨a0, a1⟩ := hi.rs1
  obtain ⟨c0, c1⟩ := hi.rs2
  obtain ⟨m0, m1⟩ := hi.imm
  obtain ⟨v0, v1⟩ := hs.regs i.rs1.toNat
  obtain ⟨y0, y1⟩ := hs.regs i.rs2.toNat
  obtain ⟨p0, p1⟩ := hs.pc
  have hr1 := h.mac.reg i.rs1.toNat (by omega)
  have hr2 := h.mac.reg i.rs2.toNat (by omega)
  have hp := h.mac.pc
  have hst := h.mac.steps
  have f1 := h.mac.free 1
  have f37 := h.mac.free 37
  have hsz := h.mac.lt
  have H := Lib.hid h
  have HD := Lib.hid hd
  clear h hd
  go_enter Tryz.func63, Tryz.ntmps63
  go_wp2_with fail
  go_quiet (fail)
  go_wp2_with fail
  go_quiet (fail)
  go_wp2_with fail
  refine (rstop_any b 9 r x _ ?_).mono ?_
  · repeat (first | with_reducible refine RAt.drew ?_ | with_reducible refine RAt.drewN ?_ _ | with_reducible refine RAt.alloc ?_ _)
    exact H.out.mac
  rintro e w1 ⟨rfl, h1, ho1⟩
  go_wp2_with fail
  first | go_end0 | refine bodyPost_ret (results_none rfl _ _ _) rfl ?_
  refine RM.endT (H.out.no ?_) ?_ h1 ho1 HD.out rfl rfl rfl rfl rfl
  all_goals repeat (first | with_reducible exact Only.refl _ _ | with_reducible refine Only.alloc ?_ _ | with_reducible refine Only.drewN ?_ _ | with_reducible refine Only.drew ?_)
set_option maxRecDepth 100000 in
set_option maxHeartbeats 400000 in
theorem rdo_0 (B b : Nat) (i : Ins) (hi : i.Ok) (r : RS) (hs : r.s.Ok) (st0 : 0 ≤ r.s.steps) (st1 : r.s.steps ≤ 10000) (x : RRaw) (w : World) (h : RMach B w b r x) (h0 : i.op = 0) :
    Calls Tryz.prog 63 #[.pointer (some ⟨b, 0, none⟩), .agg i.cells] w (RP B b w (.tuple #[]) (r.do_ i)) := by
  have hd : r.do_ i = { r.setr i.rd (u32 i.imm) with s := (r.setr i.rd (u32 i.imm)).s.step (u32 (r.s.pc + 4)) } := do_go (by simp [exec, h0]; rfl) (nojump _ _ (by omega))
  have hi0 := hi
  unfold Ins.cells
  obtain ⟨d0, d1⟩ := hi.rd
  obtain ⟨a0, a1⟩ := hi.rs1
  obtain ⟨c0, c1⟩ := hi.rs2
  obtain ⟨m0, m1⟩ := hi.imm
  obtain ⟨v0, v1⟩ := hs.regs i.rs1.toNat
  obtain ⟨y0, y1⟩ := hs.regs i.rs2.toNat
  obtain ⟨p0, p1⟩ := hs.pc
  have hr1 := h.mac.reg i.rs1.toNat (by omega)
  have hr2 := h.mac.reg i.rs2.toNat (by omega)
  have hp := h.mac.pc
  have hst := h.mac.steps
  have f1 := h.mac.free 1
  have f37 := h.mac.free 37
  have hsz := h.mac.lt
  have H := Lib.hid h
  have HD := Lib.hid hd
  clear h hd
  go_enter Tryz.func63, Tryz.ntmps63
  go_wp2_with fail
  go_quiet (fail)
  go_wp2_with fail
  go_quiet (fail)
  go_wp2_with fail
  refine (rset_any b i.rd (u32 i.imm) d0 d1 r x _ ?_).mono ?_
  · repeat (first | with_reducible refine RAt.drew ?_ | with_reducible refine RAt.drewN ?_ _ | with_reducible refine RAt.alloc ?_ _)
    exact H.out.mac
  rintro e w1 ⟨rfl, h1, ho1⟩
  have q1 := h1.pc
  have q37 := h1.steps
  change w1.cell? ⟨b, 1, none⟩ = some (.int .u32 r.s.pc) at q1
  change w1.cell? ⟨b, 37, none⟩ = some (.int .i64 r.s.steps) at q37
  have g1 := h1.free 1
  have g37 := h1.free 37
  have s1 := h1.lt
  have H1 := Lib.hid h1
  have HO1 := Lib.hid ho1
  clear hr1 hr2 hp hst f1 f37 h1 ho1
  go_wp2_with fail
  first | go_end0 | refine bodyPost_ret (results_none rfl _ _ _) rfl ?_
  refine RM.endS (H.out.no ?_) ?_ H1.out HO1.out rfl HD.out
  all_goals repeat (first | with_reducible exact Only.refl _ _ | with_reducible refine Only.alloc ?_ _ | with_reducible refine Only.drewN ?_ _ | with_reducible refine Only.drew ?_)
set_option maxRecDepth 100000 in
set_option maxHeartbeats 400000 in
theorem rdo_1 (B b : Nat) (i : Ins) (hi : i.Ok) (r : RS) (hs : r.s.Ok) (st0 : 0 ≤ r.s.steps) (st1 : r.s.steps ≤ 10000) (x : RRaw) (w : World) (h : RMach B w b r x) (h0 : i.op = 1) :
    Calls Tryz.prog 63 #[.pointer (some ⟨b, 0, none⟩), .agg i.cells] w (RP B b w (.tuple #[]) (r.do_ i)) := by
  have hd : r.do_ i = { r.setr i.rd (u32 (r.s.pc + i.imm)) with s := (r.setr i.rd (u32 (r.s.pc + i.imm))).s.step (u32 (r.s.pc + 4)) } := do_go (by simp [exec, h0]; rfl) (nojump _ _ (by omega))
  have hi0 := hi
  unfold Ins.cells
  obtain ⟨d0, d1⟩ := hi.rd
  obtain ⟨a0, a1⟩ := hi.rs1
  obtain ⟨c0, c1⟩ := hi.rs2
  obtain ⟨m0, m1⟩ := hi.imm
  obtain ⟨v0, v1⟩ := hs.regs i.rs1.toNat
  obtain ⟨y0, y1⟩ := hs.regs i.rs2.toNat
  obtain ⟨p0, p1⟩ := hs.pc
  have hr1 := h.mac.reg i.rs1.toNat (by omega)
  have hr2 := h.mac.reg i.rs2.toNat (by omega)
  have hp := h.mac.pc
  have hst := h.mac.steps
  have f1 := h.mac.free 1
  have f37 := h.mac.free 37
  have hsz := h.mac.lt
  have H := Lib.hid h
  have HD := Lib.hid hd
  clear h hd
  go_enter Tryz.func63, Tryz.ntmps63
  go_wp2_with fail
  go_quiet (fail)
  go_wp2_with fail
  go_quiet (fail)
  go_wp2_with fail
  refine (rset_any b i.rd (u32 (r.s.pc + i.imm)) d0 d1 r x _ ?_).mono ?_
  · repeat (first | with_reducible refine RAt.drew ?_ | with_reducible refine RAt.drewN ?_ _ | with_reducible refine RAt.alloc ?_ _)
    exact H.out.mac
  rintro e w1 ⟨rfl, h1, ho1⟩
  have q1 := h1.pc
  have q37 := h1.steps
  change w1.cell? ⟨b, 1, none⟩ = some (.int .u32 r.s.pc) at q1
  change w1.cell? ⟨b, 37, none⟩ = some (.int .i64 r.s.steps) at q37
  have g1 := h1.free 1
  have g37 := h1.free 37
  have s1 := h1.lt
  have H1 := Lib.hid h1
  have HO1 := Lib.hid ho1
  clear hr1 hr2 hp hst f1 f37 h1 ho1
  go_wp2_with fail
  first | go_end0 | refine bodyPost_ret (results_none rfl _ _ _) rfl ?_
  refine RM.endS (H.out.no ?_) ?_ H1.out HO1.out rfl HD.out
  all_goals repeat (first | with_reducible exact Only.refl _ _ | with_reducible refine Only.alloc ?_ _ | with_reducible refine Only.drewN ?_ _ | with_reducible refine Only.drew ?_)
set_option maxRecDepth 100000 in
set_option maxHeartbeats 400000 in
theorem rdo_num (B b : Nat) (i : Ins) (hi : i.Ok) (r : RS) (hs : r.s.Ok) (st0 : 0 ≤ r.s.steps) (st1 : r.s.steps ≤ 10000) (x : RRaw) (w : World) (h : RMach B w b r x) (h0 : 18 ≤ i.op) (h9 : i.op ≤ 26) :
    Calls Tryz.prog 63 #[.pointer (some ⟨b, 0, none⟩), .agg i.cells] w (RP B b w (.tuple #[]) (r.do_ i)) := by
  have hd : r.do_ i = { r.setr i.rd (rcmpI i.op (r.s.regs i.rs1.toNat) (u32 i.imm)) with s := (r.setr i.rd (rcmpI i.op (r.s.regs i.rs1.toNat) (u32 i.imm))).s.step (u32 (r.s.pc + 4)) } := by
    refine do_go (s' := r.s.set i.rd (rcmpI i.op (r.s.regs i.rs1.toNat) (u32 i.imm))) ?_ (nojump _ _ (by omega))
    rw [rcmp_same _ _ _ h0 (by omega) (hs.regs _).1 (hs.regs _).2 (by unfold u32; omega) (by unfold u32; omega)]
    unfold exec; dsimp only; repeat (first | rw [if_pos (by simp; omega)] | rw [if_neg (by simp; omega)])
  have hi0 := hi
  unfold Ins.cells
  obtain ⟨d0, d1⟩ := hi.rd
  obtain ⟨a0, a1⟩ := hi.rs1
  obtain ⟨c0, c1⟩ := hi.rs2
  obtain ⟨m0, m1⟩ := hi.imm
  obtain ⟨v0, v1⟩ := hs.regs i.rs1.toNat
  obtain ⟨y0, y1⟩ := hs.regs i.rs2.toNat
  obtain ⟨p0, p1⟩ := hs.pc
  have hr1 := h.mac.reg i.rs1.toNat (by omega)
  have hr2 := h.mac.reg i.rs2.toNat (by omega)
  have hp := h.mac.pc
  have hst := h.mac.steps
  have f1 := h.mac.free 1
  have f37 := h.mac.free 37
  have hsz := h.mac.lt
  have H := Lib.hid h
  have HD := Lib.hid hd
  clear h hd
  have hi0 : 0 ≤ i.imm % 4294967296 := by omega
  have hi1 : i.imm % 4294967296 < 4294967296 := by omega
  have n0 : (i.op == 0) = false := by simp; omega
  have n1 : (i.op == 1) = false := by simp; omega
  have n2 : (i.op == 2) = false := by simp; omega
  have n3 : (i.op == 3) = false := by simp; omega
  have n46 : (i.op == 46) = false := by simp; omega
  have n47 : (i.op == 47) = false := by simp; omega
  have m9 : ¬ i.op ≤ 9 := by omega
  have m4 : 4 ≤ i.op := by omega
  have m10 : 10 ≤ i.op := by omega
  have m18 : ¬ i.op < 18 := by omega
  go_enter Tryz.func63, Tryz.ntmps63
  go_wp2_with fail
  go_quiet (fail)
  go_wp2_with fail
  go_quiet (fail)
  go_wp2_with fail
  refine (rcomp_any i.op (r.s.regs i.rs1.toNat) (u32 i.imm) v0 v1 hi0 hi1 _).mono ?_
  rintro e w1 ⟨rfl, nn, rfl⟩
  go_wp2_with fail
  refine (rset_any b i.rd (rcmpI i.op (r.s.regs i.rs1.toNat) (u32 i.imm)) d0 d1 r x _ ?_).mono ?_
  · repeat (first | with_reducible refine RAt.drew ?_ | with_reducible refine RAt.drewN ?_ _ | with_reducible refine RAt.alloc ?_ _)
    exact H.out.mac
  rintro e w1 ⟨rfl, h1, ho1⟩
  have q1 := h1.pc
  have q37 := h1.steps
  change w1.cell? ⟨b, 1, none⟩ = some (.int .u32 r.s.pc) at q1
  change w1.cell? ⟨b, 37, none⟩ = some (.int .i64 r.s.steps) at q37
  have g1 := h1.free 1
  have g37 := h1.free 37
  have s1 := h1.lt
  have H1 := Lib.hid h1
  have HO1 := Lib.hid ho1
  clear hr1 hr2 hp hst f1 f37 h1 ho1
  go_wp2_with fail
  first | go_end0 | refine bodyPost_ret (results_none rfl _ _ _) rfl ?_
  refine RM.endS (H.out.no ?_) ?_ H1.out HO1.out rfl HD.out
  all_goals repeat (first | with_reducible exact Only.refl _ _ | with_reducible refine Only.alloc ?_ _ | with_reducible refine Only.drewN ?_ _ | with_reducible refine Only.drew ?_)
set_option maxRecDepth 100000 in
set_option maxHeartbeats 400000 in
theorem rdo_reg (B b : Nat) (i : Ins) (hi : i.Ok) (r : RS) (hs : r.s.Ok) (st0 : 0 ≤ r.s.steps) (st1 : r.s.steps ≤ 10000) (x : RRaw) (w : World) (h : RMach B w b r x) (h0 : 27 ≤ i.op) (h9 : i.op ≤ 44) :
    Calls Tryz.prog 63 #[.pointer (some ⟨b, 0, none⟩), .agg i.cells] w (RP B b w (.tuple #[]) (r.do_ i)) := by
  have hd : r.do_ i = { r.setr i.rd (rcmpI i.op (r.s.regs i.rs1.toNat) (r.s.regs i.rs2.toNat)) with s := (r.setr i.rd (rcmpI i.op (r.s.regs i.rs1.toNat) (r.s.regs i.rs2.toNat))).s.step (u32 (r.s.pc + 4)) } := by
    refine do_go (s' := r.s.set i.rd (rcmpI i.op (r.s.regs i.rs1.toNat) (r.s.regs i.rs2.toNat))) ?_ (nojump _ _ (by omega))
    rw [rcmp_same _ _ _ (by omega) h9 (hs.regs _).1 (hs.regs _).2 (hs.regs _).1 (hs.regs _).2]
    unfold exec; dsimp only; repeat (first | rw [if_pos (by simp; omega)] | rw [if_neg (by simp; omega)])
  have hi0 := hi
  unfold Ins.cells
  obtain ⟨d0, d1⟩ := hi.rd
  obtain ⟨a0, a1⟩ := hi.rs1
  obtain ⟨c0, c1⟩ := hi.rs2
  obtain ⟨m0, m1⟩ := hi.imm
  obtain ⟨v0, v1⟩ := hs.regs i.rs1.toNat
  obtain ⟨y0, y1⟩ := hs.regs i.rs2.toNat
  obtain ⟨p0, p1⟩ := hs.pc
  have hr1 := h.mac.reg i.rs1.toNat (by omega)
  have hr2 := h.mac.reg i.rs2.toNat (by omega)
  have hp := h.mac.pc
  have hst := h.mac.steps
  have f1 := h.mac.free 1
  have f37 := h.mac.free 37
  have hsz := h.mac.lt
  have H := Lib.hid h
  have HD := Lib.hid hd
  clear h hd
  have n0 : (i.op == 0) = false := by simp; omega
  have n1 : (i.op == 1) = false := by simp; omega
  have n2 : (i.op == 2) = false := by simp; omega
  have n3 : (i.op == 3) = false := by simp; omega
  have n46 : (i.op == 46) = false := by simp; omega
  have n47 : (i.op == 47) = false := by simp; omega
  have m9 : ¬ i.op ≤ 9 := by omega
  have m4 : 4 ≤ i.op := by omega
  have m10 : 10 ≤ i.op := by omega
  have m18 : ¬ i.op < 18 := by omega
  have m19 : 18 ≤ i.op := by omega
  have m26 : ¬ i.op ≤ 26 := by omega
  go_enter Tryz.func63, Tryz.ntmps63
  go_wp2_with fail
  go_quiet (fail)
  go_wp2_with fail
  go_quiet (fail)
  go_wp2_with fail
  refine (rcomp_any i.op (r.s.regs i.rs1.toNat) (r.s.regs i.rs2.toNat) v0 v1 y0 y1 _).mono ?_
  rintro e w1 ⟨rfl, nn, rfl⟩
  go_wp2_with fail
  refine (rset_any b i.rd (rcmpI i.op (r.s.regs i.rs1.toNat) (r.s.regs i.rs2.toNat)) d0 d1 r x _ ?_).mono ?_
  · repeat (first | with_reducible refine RAt.drew ?_ | with_reducible refine RAt.drewN ?_ _ | with_reducible refine RAt.alloc ?_ _)
    exact H.out.mac
  rintro e w1 ⟨rfl, h1, ho1⟩
  have q1 := h1.pc
  have q37 := h1.steps
  change w1.cell? ⟨b, 1, none⟩ = some (.int .u32 r.s.pc) at q1
  change w1.cell? ⟨b, 37, none⟩ = some (.int .i64 r.s.steps) at q37
  have g1 := h1.free 1
  have g37 := h1.free 37
  have s1 := h1.lt
  have H1 := Lib.hid h1
  have HO1 := Lib.hid ho1
  clear hr1 hr2 hp hst f1 f37 h1 ho1
  go_wp2_with fail
  first | go_end0 | refine bodyPost_ret (results_none rfl _ _ _) rfl ?_
  refine RM.endS (H.out.no ?_) ?_ H1.out HO1.out rfl HD.out
  all_goals repeat (first | with_reducible exact Only.refl _ _ | with_reducible refine Only.alloc ?_ _ | with_reducible refine Only.drewN ?_ _ | with_reducible refine Only.drew ?_)
set_option maxRecDepth 100000 in
set_option maxHeartbeats 400000 in
theorem rdo_2_no (B b : Nat) (i : Ins) (hi : i.Ok) (r : RS) (hs : r.s.Ok) (st0 : 0 ≤ r.s.steps) (st1 : r.s.steps ≤ 10000) (x : RRaw) (w : World) (h : RMach B w b r x) (h0 : i.op = 2) (ht : ¬ (u32 (r.s.pc + i.imm)) % 4 = 0) :
    Calls Tryz.prog 63 #[.pointer (some ⟨b, 0, none⟩), .agg i.cells] w (RP B b w (.tuple #[]) (r.do_ i)) := by
  have hd : r.do_ i = r.end_ 3 := do_trap (by simp [exec, h0, ht])
  have hi0 := hi
  unfold Ins.cells
  obtain ⟨d0, d1⟩ := hi.rd
  obtain ⟨a0, a1⟩ := hi.rs1
  obtain ⟨c0, c1⟩ := hi.rs2
  obtain ⟨m0, m1⟩ := hi.imm
  obtain ⟨v0, v1⟩ := hs.regs i.rs1.toNat
  obtain ⟨y0, y1⟩ := hs.regs i.rs2.toNat
  obtain ⟨p0, p1⟩ := hs.pc
  have hr1 := h.mac.reg i.rs1.toNat (by omega)
  have hr2 := h.mac.reg i.rs2.toNat (by omega)
  have hp := h.mac.pc
  have hst := h.mac.steps
  have f1 := h.mac.free 1
  have f37 := h.mac.free 37
  have hsz := h.mac.lt
  have H := Lib.hid h
  have HD := Lib.hid hd
  clear h hd
  have hsp := andNot_1 (u32 (r.s.regs i.rs1.toNat + i.imm)) (u32_bd _).1 (u32_bd _).2
  unfold u32 at hsp
  have TO0 : 0 ≤ (u32 (r.s.pc + i.imm)) := by unfold u32; omega
  have ht' : ((u32 (r.s.pc + i.imm)) % 4 != 0) = true := by rw [bne_iff_ne]; exact ht
  have HT := Lib.hid ht'
  clear ht ht'
  go_enter Tryz.func63, Tryz.ntmps63
  go_wp2_with fail
  go_quiet (fail)
  go_wp2_with fail
  go_quiet (fail)
  go_wp2_with fail
  refine (rgoes_no b (u32 (r.s.pc + i.imm)) r x _ ?_ TO0 HT.out).mono ?_
  · repeat (first | with_reducible refine RAt.drew ?_ | with_reducible refine RAt.drewN ?_ _ | with_reducible refine RAt.alloc ?_ _)
    exact H.out.mac
  rintro e w1 ⟨rfl, h1, ho1⟩
  go_wp2_with fail
  first | go_end0 | refine bodyPost_ret (results_none rfl _ _ _) rfl ?_
  refine RM.endT (H.out.no ?_) ?_ h1 ho1 HD.out rfl rfl rfl rfl rfl
  all_goals repeat (first | with_reducible exact Only.refl _ _ | with_reducible refine Only.alloc ?_ _ | with_reducible refine Only.drewN ?_ _ | with_reducible refine Only.drew ?_)
set_option maxRecDepth 100000 in
set_option maxHeartbeats 400000 in
theorem rdo_2_yes (B b : Nat) (i : Ins) (hi : i.Ok) (r : RS) (hs : r.s.Ok) (st0 : 0 ≤ r.s.steps) (st1 : r.s.steps ≤ 10000) (x : RRaw) (w : World) (h : RMach B w b r x) (h0 : i.op = 2) (ht : (u32 (r.s.pc + i.imm)) % 4 = 0) :
    Calls Tryz.prog 63 #[.pointer (some ⟨b, 0, none⟩), .agg i.cells] w (RP B b w (.tuple #[]) (r.do_ i)) := by
  have hd : r.do_ i = (r.gone (u32 (r.s.pc + i.imm))).setr i.rd (u32 (r.s.pc + 4)) := rdo_jump (s' := r.s.set i.rd (u32 (r.s.pc + 4))) (next := (u32 (r.s.pc + i.imm))) (by simp [exec, h0, ht]) (by simp [jumps, h0])
  have hi0 := hi
  unfold Ins.cells
  obtain ⟨d0, d1⟩ := hi.rd
  obtain ⟨a0, a1⟩ := hi.rs1
  obtain ⟨c0, c1⟩ := hi.rs2
  obtain ⟨m0, m1⟩ := hi.imm
  obtain ⟨v0, v1⟩ := hs.regs i.rs1.toNat
  obtain ⟨y0, y1⟩ := hs.regs i.rs2.toNat
  obtain ⟨p0, p1⟩ := hs.pc
  have hr1 := h.mac.reg i.rs1.toNat (by omega)
  have hr2 := h.mac.reg i.rs2.toNat (by omega)
  have hp := h.mac.pc
  have hst := h.mac.steps
  have f1 := h.mac.free 1
  have f37 := h.mac.free 37
  have hsz := h.mac.lt
  have H := Lib.hid h
  have HD := Lib.hid hd
  clear h hd
  have hsp := andNot_1 (u32 (r.s.regs i.rs1.toNat + i.imm)) (u32_bd _).1 (u32_bd _).2
  unfold u32 at hsp
  have TO0 : 0 ≤ (u32 (r.s.pc + i.imm)) := by unfold u32; omega
  have ht' : ((u32 (r.s.pc + i.imm)) % 4 != 0) = false := by rw [ht]; rfl
  have HT := Lib.hid ht'
  clear ht ht'
  go_enter Tryz.func63, Tryz.ntmps63
  go_wp2_with fail
  go_quiet (fail)
  go_wp2_with fail
  go_quiet (fail)
  go_wp2_with fail
  refine (rgoes_yes b (u32 (r.s.pc + i.imm)) r x _ ?_ TO0 HT.out st0 st1).mono ?_
  · repeat (first | with_reducible refine RAt.drew ?_ | with_reducible refine RAt.drewN ?_ _ | with_reducible refine RAt.alloc ?_ _)
    exact H.out.mac
  rintro e w1 ⟨rfl, h1, ho1⟩
  have kb : w1.cell? ⟨w.heap.size, 1, none⟩ = some (.int .i64 i.rd) := ho1.cell (by omega) (cell_of_row (w.alloc (.cells #[.int .i64 2, .int .i64 i.rd, .int .i64 i.rs1, .int .i64 i.rs2, .int .i32 i.imm] 32)) w.heap.size 1 _ _ _ (heap_alloc_new w _))
  go_wp2_with fail
  refine (rset_any b i.rd (u32 (r.s.pc + 4)) d0 d1 _ x _ h1).mono ?_
  rintro e w2 ⟨rfl, h2, ho2⟩
  go_wp2_with fail
  first | go_end0 | refine bodyPost_ret (results_none rfl _ _ _) rfl ?_
  refine RM.endT (H.out.no ?_) ?_ h2 (ho1.then ho2) HD.out rfl rfl rfl rfl rfl
  all_goals repeat (first | with_reducible exact Only.refl _ _ | with_reducible refine Only.alloc ?_ _ | with_reducible refine Only.drewN ?_ _ | with_reducible refine Only.drew ?_)
set_option maxRecDepth 100000 in
set_option maxHeartbeats 400000 in
theorem rdo_3_no (B b : Nat) (i : Ins) (hi : i.Ok) (r : RS) (hs : r.s.Ok) (st0 : 0 ≤ r.s.steps) (st1 : r.s.steps ≤ 10000) (x : RRaw) (w : World) (h : RMach B w b r x) (h0 : i.op = 3) (ht : ¬ (u32 (r.s.regs i.rs1.toNat + i.imm) / 2 * 2) % 4 = 0) :
    Calls Tryz.prog 63 #[.pointer (some ⟨b, 0, none⟩), .agg i.cells] w (RP B b w (.tuple #[]) (r.do_ i)) := by
  have hd : r.do_ i = r.end_ 3 := do_trap (by simp [exec, h0, ht])
  have hi0 := hi
  unfold Ins.cells
  obtain ⟨d0, d1⟩ := hi.rd
  obtain ⟨a0, a1⟩ := hi.rs1
  obtain ⟨c0, c1⟩ := hi.rs2
  obtain ⟨m0, m1⟩ := hi.imm
  obtain ⟨v0, v1⟩ := hs.regs i.rs1.toNat
  obtain ⟨y0, y1⟩ := hs.regs i.rs2.toNat
  obtain ⟨p0, p1⟩ := hs.pc
  have hr1 := h.mac.reg i.rs1.toNat (by omega)
  have hr2 := h.mac.reg i.rs2.toNat (by omega)
  have hp := h.mac.pc
  have hst := h.mac.steps
  have f1 := h.mac.free 1
  have f37 := h.mac.free 37
  have hsz := h.mac.lt
  have H := Lib.hid h
  have HD := Lib.hid hd
  clear h hd
  have hsp := andNot_1 (u32 (r.s.regs i.rs1.toNat + i.imm)) (u32_bd _).1 (u32_bd _).2
  unfold u32 at hsp
  have TO0 : 0 ≤ (u32 (r.s.regs i.rs1.toNat + i.imm) / 2 * 2) := by unfold u32; omega
  have ht' : ((u32 (r.s.regs i.rs1.toNat + i.imm) / 2 * 2) % 4 != 0) = true := by rw [bne_iff_ne]; exact ht
  have HT := Lib.hid ht'
  clear ht ht'
  go_enter Tryz.func63, Tryz.ntmps63
  go_wp2_with fail
  go_quiet (fail)
  go_wp2_with fail
  go_quiet (fail)
  go_wp2_with fail
  refine (rgoes_no b (u32 (r.s.regs i.rs1.toNat + i.imm) / 2 * 2) r x _ ?_ TO0 HT.out).mono ?_
  · repeat (first | with_reducible refine RAt.drew ?_ | with_reducible refine RAt.drewN ?_ _ | with_reducible refine RAt.alloc ?_ _)
    exact H.out.mac
  rintro e w1 ⟨rfl, h1, ho1⟩
  go_wp2_with fail
  first | go_end0 | refine bodyPost_ret (results_none rfl _ _ _) rfl ?_
  refine RM.endT (H.out.no ?_) ?_ h1 ho1 HD.out rfl rfl rfl rfl rfl
  all_goals repeat (first | with_reducible exact Only.refl _ _ | with_reducible refine Only.alloc ?_ _ | with_reducible refine Only.drewN ?_ _ | with_reducible refine Only.drew ?_)
set_option maxRecDepth 100000 in
set_option maxHeartbeats 400000 in
theorem rdo_3_yes (B b : Nat) (i : Ins) (hi : i.Ok) (r : RS) (hs : r.s.Ok) (st0 : 0 ≤ r.s.steps) (st1 : r.s.steps ≤ 10000) (x : RRaw) (w : World) (h : RMach B w b r x) (h0 : i.op = 3) (ht : (u32 (r.s.regs i.rs1.toNat + i.imm) / 2 * 2) % 4 = 0) :
    Calls Tryz.prog 63 #[.pointer (some ⟨b, 0, none⟩), .agg i.cells] w (RP B b w (.tuple #[]) (r.do_ i)) := by
  have hd : r.do_ i = (r.gone (u32 (r.s.regs i.rs1.toNat + i.imm) / 2 * 2)).setr i.rd (u32 (r.s.pc + 4)) := rdo_jump (s' := r.s.set i.rd (u32 (r.s.pc + 4))) (next := (u32 (r.s.regs i.rs1.toNat + i.imm) / 2 * 2)) (by simp [exec, h0, ht]) (by simp [jumps, h0])
  have hi0 := hi
  unfold Ins.cells
  obtain ⟨d0, d1⟩ := hi.rd
  obtain ⟨a0, a1⟩ := hi.rs1
  obtain ⟨c0, c1⟩ := hi.rs2
  obtain ⟨m0, m1⟩ := hi.imm
  obtain ⟨v0, v1⟩ := hs.regs i.rs1.toNat
  obtain ⟨y0, y1⟩ := hs.regs i.rs2.toNat
  obtain ⟨p0, p1⟩ := hs.pc
  have hr1 := h.mac.reg i.rs1.toNat (by omega)
  have hr2 := h.mac.reg i.rs2.toNat (by omega)
  have hp := h.mac.pc
  have hst := h.mac.steps
  have f1 := h.mac.free 1
  have f37 := h.mac.free 37
  have hsz := h.mac.lt
  have H := Lib.hid h
  have HD := Lib.hid hd
  clear h hd
  have hsp := andNot_1 (u32 (r.s.regs i.rs1.toNat + i.imm)) (u32_bd _).1 (u32_bd _).2
  unfold u32 at hsp
  have TO0 : 0 ≤ (u32 (r.s.regs i.rs1.toNat + i.imm) / 2 * 2) := by unfold u32; omega
  have ht' : ((u32 (r.s.regs i.rs1.toNat + i.imm) / 2 * 2) % 4 != 0) = false := by rw [ht]; rfl
  have HT := Lib.hid ht'
  clear ht ht'
  go_enter Tryz.func63, Tryz.ntmps63
  go_wp2_with fail
  go_quiet (fail)
  go_wp2_with fail
  go_quiet (fail)
  go_wp2_with fail
  refine (rgoes_yes b (u32 (r.s.regs i.rs1.toNat + i.imm) / 2 * 2) r x _ ?_ TO0 HT.out st0 st1).mono ?_
  · repeat (first | with_reducible refine RAt.drew ?_ | with_reducible refine RAt.drewN ?_ _ | with_reducible refine RAt.alloc ?_ _)
    exact H.out.mac
  rintro e w1 ⟨rfl, h1, ho1⟩
  have kb : w1.cell? ⟨w.heap.size, 1, none⟩ = some (.int .i64 i.rd) := ho1.cell (by omega) (cell_of_row (w.alloc (.cells #[.int .i64 3, .int .i64 i.rd, .int .i64 i.rs1, .int .i64 i.rs2, .int .i32 i.imm] 32)) w.heap.size 1 _ _ _ (heap_alloc_new w _))
  go_wp2_with fail
  refine (rset_any b i.rd (u32 (r.s.pc + 4)) d0 d1 _ x _ h1).mono ?_
  rintro e w2 ⟨rfl, h2, ho2⟩
  go_wp2_with fail
  first | go_end0 | refine bodyPost_ret (results_none rfl _ _ _) rfl ?_
  refine RM.endT (H.out.no ?_) ?_ h2 (ho1.then ho2) HD.out rfl rfl rfl rfl rfl
  all_goals repeat (first | with_reducible exact Only.refl _ _ | with_reducible refine Only.alloc ?_ _ | with_reducible refine Only.drewN ?_ _ | with_reducible refine Only.drew ?_)
set_option maxRecDepth 100000 in
set_option maxHeartbeats 400000 in
theorem rdo_4_no (B b : Nat) (i : Ins) (hi : i.Ok) (r : RS) (hs : r.s.Ok) (st0 : 0 ≤ r.s.steps) (st1 : r.s.steps ≤ 10000) (x : RRaw) (w : World) (h : RMach B w b r x) (h0 : i.op = 4) (hy : (r.s.regs i.rs1.toNat == r.s.regs i.rs2.toNat) = true) (ht : ¬ (u32 (r.s.pc + i.imm)) % 4 = 0) :
    Calls Tryz.prog 63 #[.pointer (some ⟨b, 0, none⟩), .agg i.cells] w (RP B b w (.tuple #[]) (r.do_ i)) := by
  have hd : r.do_ i = r.end_ 3 := by
    have hb : brT i.op (r.s.regs i.rs1.toNat) (r.s.regs i.rs2.toNat) = true := by (rw [h0]; simp only [brT]; simp at hy ⊢; first | exact hy | omega)
    refine do_trap (s' := r.s) ?_
    unfold exec
    dsimp only
    repeat (first | rw [if_pos (by simp; omega)] | rw [if_neg (by simp; omega)])
    try rw [hb]
    simp [goesTo, ht]
  have hi0 := hi
  unfold Ins.cells
  obtain ⟨d0, d1⟩ := hi.rd
  obtain ⟨a0, a1⟩ := hi.rs1
  obtain ⟨c0, c1⟩ := hi.rs2
  obtain ⟨m0, m1⟩ := hi.imm
  obtain ⟨v0, v1⟩ := hs.regs i.rs1.toNat
  obtain ⟨y0, y1⟩ := hs.regs i.rs2.toNat
  obtain ⟨p0, p1⟩ := hs.pc
  have hr1 := h.mac.reg i.rs1.toNat (by omega)
  have hr2 := h.mac.reg i.rs2.toNat (by omega)
  have hp := h.mac.pc
  have hst := h.mac.steps
  have f1 := h.mac.free 1
  have f37 := h.mac.free 37
  have hsz := h.mac.lt
  have H := Lib.hid h
  have HD := Lib.hid hd
  clear h hd
  have TO0 : 0 ≤ (u32 (r.s.pc + i.imm)) := by unfold u32; omega
  have ht' : ((u32 (r.s.pc + i.imm)) % 4 != 0) = true := by rw [bne_iff_ne]; exact ht
  have HT := Lib.hid ht'
  clear ht ht'
  go_enter Tryz.func63, Tryz.ntmps63
  go_wp2_with fail
  go_quiet (fail)
  go_wp2_with fail
  go_quiet (fail)
  go_wp2_with fail
  refine (rgoes_no b (u32 (r.s.pc + i.imm)) r x _ ?_ TO0 HT.out).mono ?_
  · repeat (first | with_reducible refine RAt.drew ?_ | with_reducible refine RAt.drewN ?_ _ | with_reducible refine RAt.alloc ?_ _)
    exact H.out.mac
  rintro e w1 ⟨rfl, h1, ho1⟩
  go_wp2_with fail
  first | go_end0 | refine bodyPost_ret (results_none rfl _ _ _) rfl ?_
  refine RM.endT (H.out.no ?_) ?_ h1 ho1 HD.out rfl rfl rfl rfl rfl
  all_goals repeat (first | with_reducible exact Only.refl _ _ | with_reducible refine Only.alloc ?_ _ | with_reducible refine Only.drewN ?_ _ | with_reducible refine Only.drew ?_)
set_option maxRecDepth 100000 in
set_option maxHeartbeats 400000 in
theorem rdo_4_yes (B b : Nat) (i : Ins) (hi : i.Ok) (r : RS) (hs : r.s.Ok) (st0 : 0 ≤ r.s.steps) (st1 : r.s.steps ≤ 10000) (x : RRaw) (w : World) (h : RMach B w b r x) (h0 : i.op = 4) (hy : (r.s.regs i.rs1.toNat == r.s.regs i.rs2.toNat) = true) (ht : (u32 (r.s.pc + i.imm)) % 4 = 0) :
    Calls Tryz.prog 63 #[.pointer (some ⟨b, 0, none⟩), .agg i.cells] w (RP B b w (.tuple #[]) (r.do_ i)) := by
  have hd : r.do_ i = r.gone (u32 (r.s.pc + i.imm)) := by
    have hb : brT i.op (r.s.regs i.rs1.toNat) (r.s.regs i.rs2.toNat) = true := by (rw [h0]; simp only [brT]; simp at hy ⊢; first | exact hy | omega)
    refine rdo_jump (s' := r.s) (next := (u32 (r.s.pc + i.imm))) ?_ ?_
    · unfold exec
      dsimp only
      repeat (first | rw [if_pos (by simp; omega)] | rw [if_neg (by simp; omega)])
      try rw [hb]
      simp [goesTo, ht]
    · unfold jumps
      rw [hb]
      simp [h0]
  have hi0 := hi
  unfold Ins.cells
  obtain ⟨d0, d1⟩ := hi.rd
  obtain ⟨a0, a1⟩ := hi.rs1
  obtain ⟨c0, c1⟩ := hi.rs2
  obtain ⟨m0, m1⟩ := hi.imm
  obtain ⟨v0, v1⟩ := hs.regs i.rs1.toNat
  obtain ⟨y0, y1⟩ := hs.regs i.rs2.toNat
  obtain ⟨p0, p1⟩ := hs.pc
  have hr1 := h.mac.reg i.rs1.toNat (by omega)
  have hr2 := h.mac.reg i.rs2.toNat (by omega)
  have hp := h.mac.pc
  have hst := h.mac.steps
  have f1 := h.mac.free 1
  have f37 := h.mac.free 37
  have hsz := h.mac.lt
  have H := Lib.hid h
  have HD := Lib.hid hd
  clear h hd
  have TO0 : 0 ≤ (u32 (r.s.pc + i.imm)) := by unfold u32; omega
  have ht' : ((u32 (r.s.pc + i.imm)) % 4 != 0) = false := by rw [ht]; rfl
  have HT := Lib.hid ht'
  clear ht ht'
  go_enter Tryz.func63, Tryz.ntmps63
  go_wp2_with fail
  go_quiet (fail)
  go_wp2_with fail
  go_quiet (fail)
  go_wp2_with fail
  refine (rgoes_yes b (u32 (r.s.pc + i.imm)) r x _ ?_ TO0 HT.out st0 st1).mono ?_
  · repeat (first | with_reducible refine RAt.drew ?_ | with_reducible refine RAt.drewN ?_ _ | with_reducible refine RAt.alloc ?_ _)
    exact H.out.mac
  rintro e w1 ⟨rfl, h1, ho1⟩
  go_wp2_with fail
  first | go_end0 | refine bodyPost_ret (results_none rfl _ _ _) rfl ?_
  refine RM.endT (H.out.no ?_) ?_ h1 ho1 HD.out rfl rfl rfl rfl rfl
  all_goals repeat (first | with_reducible exact Only.refl _ _ | with_reducible refine Only.alloc ?_ _ | with_reducible refine Only.drewN ?_ _ | with_reducible refine Only.drew ?_)
set_option maxRecDepth 100000 in
set_option maxHeartbeats 400000 in
theorem rdo_4_f (B b : Nat) (i : Ins) (hi : i.Ok) (r : RS) (hs : r.s.Ok) (st0 : 0 ≤ r.s.steps) (st1 : r.s.steps ≤ 10000) (x : RRaw) (w : World) (h : RMach B w b r x) (h0 : i.op = 4) (hy : (r.s.regs i.rs1.toNat == r.s.regs i.rs2.toNat) = false) :
    Calls Tryz.prog 63 #[.pointer (some ⟨b, 0, none⟩), .agg i.cells] w (RP B b w (.tuple #[]) (r.do_ i)) := by
  have hd : r.do_ i = { r with s := r.s.step (u32 (r.s.pc + 4)) } := by
    have hb : brT i.op (r.s.regs i.rs1.toNat) (r.s.regs i.rs2.toNat) = false := by (rw [h0]; simp only [brT]; simp at hy ⊢; first | exact hy | omega)
    refine do_go (s' := r.s) ?_ ?_
    · unfold exec
      dsimp only
      repeat (first | rw [if_pos (by simp; omega)] | rw [if_neg (by simp; omega)])
      try rw [hb]
      try rfl
    · unfold jumps
      rw [hb]
      simp [h0]
  have hi0 := hi
  unfold Ins.cells
  obtain ⟨d0, d1⟩ := hi.rd
  obtain ⟨a0, a1⟩ := hi.rs1
  obtain ⟨c0, c1⟩ := hi.rs2
  obtain ⟨m0, m1⟩ := hi.imm
  obtain ⟨v0, v1⟩ := hs.regs i.rs1.toNat
  obtain ⟨y0, y1⟩ := hs.regs i.rs2.toNat
  obtain ⟨p0, p1⟩ := hs.pc
  have hr1 := h.mac.reg i.rs1.toNat (by omega)
  have hr2 := h.mac.reg i.rs2.toNat (by omega)
  have hp := h.mac.pc
  have hst := h.mac.steps
  have f1 := h.mac.free 1
  have f37 := h.mac.free 37
  have hsz := h.mac.lt
  have H := Lib.hid h
  have HD := Lib.hid hd
  clear h hd
  go_enter Tryz.func63, Tryz.ntmps63
  go_wp2_with fail
  go_quiet (fail)
  go_wp2_with fail
  go_quiet (fail)
  go_wp2_with fail
  first | go_end0 | refine bodyPost_ret (results_none rfl _ _ _) rfl ?_
  refine RP.alloc (RM.end2 (H.out.no ?_) (Only.up0 ?_) rfl HD.out) _
  all_goals repeat (first | with_reducible exact Only.refl _ _ | with_reducible refine Only.alloc ?_ _ | with_reducible refine Only.drewN ?_ _ | with_reducible refine Only.drew ?_)
set_option maxRecDepth 100000 in
set_option maxHeartbeats 400000 in
theorem rdo_5_no (B b : Nat) (i : Ins) (hi : i.Ok) (r : RS) (hs : r.s.Ok) (st0 : 0 ≤ r.s.steps) (st1 : r.s.steps ≤ 10000) (x : RRaw) (w : World) (h : RMach B w b r x) (h0 : i.op = 5) (hy : (r.s.regs i.rs1.toNat != r.s.regs i.rs2.toNat) = true) (ht : ¬ (u32 (r.s.pc + i.imm)) % 4 = 0) :
    Calls Tryz.prog 63 #[.pointer (some ⟨b, 0, none⟩), .agg i.cells] w (RP B b w (.tuple #[]) (r.do_ i)) := by
  have hd : r.do_ i = r.end_ 3 := by
    have hb : brT i.op (r.s.regs i.rs1.toNat) (r.s.regs i.rs2.toNat) = true := by (rw [h0]; simp only [brT]; simp at hy ⊢; first | exact hy | omega)
    refine do_trap (s' := r.s) ?_
    unfold exec
    dsimp only
    repeat (first | rw [if_pos (by simp; omega)] | rw [if_neg (by simp; omega)])
    try rw [hb]
    simp [goesTo, ht]
  have hi0 := hi
  unfold Ins.cells
  obtain ⟨d0, d1⟩ := hi.rd
  obtain ⟨a0, a1⟩ := hi.rs1
  obtain ⟨c0, c1⟩ := hi.rs2
  obtain ⟨m0, m1⟩ := hi.imm
  obtain ⟨v0, v1⟩ := hs.regs i.rs1.toNat
  obtain ⟨y0, y1⟩ := hs.regs i.rs2.toNat
  obtain ⟨p0, p1⟩ := hs.pc
  have hr1 := h.mac.reg i.rs1.toNat (by omega)
  have hr2 := h.mac.reg i.rs2.toNat (by omega)
  have hp := h.mac.pc
  have hst := h.mac.steps
  have f1 := h.mac.free 1
  have f37 := h.mac.free 37
  have hsz := h.mac.lt
  have H := Lib.hid h
  have HD := Lib.hid hd
  clear h hd
  have TO0 : 0 ≤ (u32 (r.s.pc + i.imm)) := by unfold u32; omega
  have ht' : ((u32 (r.s.pc + i.imm)) % 4 != 0) = true := by rw [bne_iff_ne]; exact ht
  have HT := Lib.hid ht'
  clear ht ht'
  go_enter Tryz.func63, Tryz.ntmps63
  go_wp2_with fail
  go_quiet (fail)
  go_wp2_with fail
  go_quiet (fail)
  go_wp2_with fail
  refine (rgoes_no b (u32 (r.s.pc + i.imm)) r x _ ?_ TO0 HT.out).mono ?_
  · repeat (first | with_reducible refine RAt.drew ?_ | with_reducible refine RAt.drewN ?_ _ | with_reducible refine RAt.alloc ?_ _)
    exact H.out.mac
  rintro e w1 ⟨rfl, h1, ho1⟩
  go_wp2_with fail
  first | go_end0 | refine bodyPost_ret (results_none rfl _ _ _) rfl ?_
  refine RM.endT (H.out.no ?_) ?_ h1 ho1 HD.out rfl rfl rfl rfl rfl
  all_goals repeat (first | with_reducible exact Only.refl _ _ | with_reducible refine Only.alloc ?_ _ | with_reducible refine Only.drewN ?_ _ | with_reducible refine Only.drew ?_)
set_option maxRecDepth 100000 in
set_option maxHeartbeats 400000 in
theorem rdo_5_yes (B b : Nat) (i : Ins) (hi : i.Ok) (r : RS) (hs : r.s.Ok) (st0 : 0 ≤ r.s.steps) (st1 : r.s.steps ≤ 10000) (x : RRaw) (w : World) (h : RMach B w b r x) (h0 : i.op = 5) (hy : (r.s.regs i.rs1.toNat != r.s.regs i.rs2.toNat) = true) (ht : (u32 (r.s.pc + i.imm)) % 4 = 0) :
    Calls Tryz.prog 63 #[.pointer (some ⟨b, 0, none⟩), .agg i.cells] w (RP B b w (.tuple #[]) (r.do_ i)) := by
  have hd : r.do_ i = r.gone (u32 (r.s.pc + i.imm)) := by
    have hb : brT i.op (r.s.regs i.rs1.toNat) (r.s.regs i.rs2.toNat) = true := by (rw [h0]; simp only [brT]; simp at hy ⊢; first | exact hy | omega)
    refine rdo_jump (s' := r.s) (next := (u32 (r.s.pc + i.imm))) ?_ ?_
    · unfold exec
      dsimp only
      repeat (first | rw [if_pos (by simp; omega)] | rw [if_neg (by simp; omega)])
      try rw [hb]
      simp [goesTo, ht]
    · unfold jumps
      rw [hb]
      simp [h0]
  have hi0 := hi
  unfold Ins.cells
  obtain ⟨d0, d1⟩ := hi.rd
  obtain ⟨a0, a1⟩ := hi.rs1
  obtain ⟨c0, c1⟩ := hi.rs2
  obtain ⟨m0, m1⟩ := hi.imm
  obtain ⟨v0, v1⟩ := hs.regs i.rs1.toNat
  obtain ⟨y0, y1⟩ := hs.regs i.rs2.toNat
  obtain ⟨p0, p1⟩ := hs.pc
  have hr1 := h.mac.reg i.rs1.toNat (by omega)
  have hr2 := h.mac.reg i.rs2.toNat (by omega)
  have hp := h.mac.pc
  have hst := h.mac.steps
  have f1 := h.mac.free 1
  have f37 := h.mac.free 37
  have hsz := h.mac.lt
  have H := Lib.hid h
  have HD := Lib.hid hd
  clear h hd
  have TO0 : 0 ≤ (u32 (r.s.pc + i.imm)) := by unfold u32; omega
  have ht' : ((u32 (r.s.pc + i.imm)) % 4 != 0) = false := by rw [ht]; rfl
  have HT := Lib.hid ht'
  clear ht ht'
  go_enter Tryz.func63, Tryz.ntmps63
  go_wp2_with fail
  go_quiet (fail)
  go_wp2_with fail
  go_quiet (fail)
  go_wp2_with fail
  refine (rgoes_yes b (u32 (r.s.pc + i.imm)) r x _ ?_ TO0 HT.out st0 st1).mono ?_
  · repeat (first | with_reducible refine RAt.drew ?_ | with_reducible refine RAt.drewN ?_ _ | with_reducible refine RAt.alloc ?_ _)
    exact H.out.mac
  rintro e w1 ⟨rfl, h1, ho1⟩
  go_wp2_with fail
  first | go_end0 | refine bodyPost_ret (results_none rfl _ _ _) rfl ?_
  refine RM.endT (H.out.no ?_) ?_ h1 ho1 HD.out rfl rfl rfl rfl rfl
  all_goals repeat (first | with_reducible exact Only.refl _ _ | with_reducible refine Only.alloc ?_ _ | with_reducible refine Only.drewN ?_ _ | with_reducible refine Only.drew ?_)
set_option maxRecDepth 100000 in
set_option maxHeartbeats 400000 in
theorem rdo_5_f (B b : Nat) (i : Ins) (hi : i.Ok) (r : RS) (hs : r.s.Ok) (st0 : 0 ≤ r.s.steps) (st1 : r.s.steps ≤ 10000) (x : RRaw) (w : World) (h : RMach B w b r x) (h0 : i.op = 5) (hy : (r.s.regs i.rs1.toNat != r.s.regs i.rs2.toNat) = false) :
    Calls Tryz.prog 63 #[.pointer (some ⟨b, 0, none⟩), .agg i.cells] w (RP B b w (.tuple #[]) (r.do_ i)) := by
  have hd : r.do_ i = { r with s := r.s.step (u32 (r.s.pc + 4)) } := by
    have hb : brT i.op (r.s.regs i.rs1.toNat) (r.s.regs i.rs2.toNat) = false := by (rw [h0]; simp only [brT]; simp at hy ⊢; first | exact hy | omega)
    refine do_go (s' := r.s) ?_ ?_
    · unfold exec
      dsimp only
      repeat (first | rw [if_pos (by simp; omega)] | rw [if_neg (by simp; omega)])
      try rw [hb]
      try rfl
    · unfold jumps
      rw [hb]
      simp [h0]
  have hi0 := hi
  unfold Ins.cells
  obtain ⟨d0, d1⟩ := hi.rd
  obtain ⟨a0, a1⟩ := hi.rs1
  obtain ⟨c0, c1⟩ := hi.rs2
  obtain ⟨m0, m1⟩ := hi.imm
  obtain ⟨v0, v1⟩ := hs.regs i.rs1.toNat
  obtain ⟨y0, y1⟩ := hs.regs i.rs2.toNat
  obtain ⟨p0, p1⟩ := hs.pc
  have hr1 := h.mac.reg i.rs1.toNat (by omega)
  have hr2 := h.mac.reg i.rs2.toNat (by omega)
  have hp := h.mac.pc
  have hst := h.mac.steps
  have f1 := h.mac.free 1
  have f37 := h.mac.free 37
  have hsz := h.mac.lt
  have H := Lib.hid h
  have HD := Lib.hid hd
  clear h hd
  go_enter Tryz.func63, Tryz.ntmps63
  go_wp2_with fail
  go_quiet (fail)
  go_wp2_with fail
  go_quiet (fail)
  go_wp2_with fail
  first | go_end0 | refine bodyPost_ret (results_none rfl _ _ _) rfl ?_
  refine RP.alloc (RM.end2 (H.out.no ?_) (Only.up0 ?_) rfl HD.out) _
  all_goals repeat (first | with_reducible exact Only.refl _ _ | with_reducible refine Only.alloc ?_ _ | with_reducible refine Only.drewN ?_ _ | with_reducible refine Only.drew ?_)
set_option maxRecDepth 100000 in
set_option maxHeartbeats 400000 in
theorem rdo_6_no (B b : Nat) (i : Ins) (hi : i.Ok) (r : RS) (hs : r.s.Ok) (st0 : 0 ≤ r.s.steps) (st1 : r.s.steps ≤ 10000) (x : RRaw) (w : World) (h : RMach B w b r x) (h0 : i.op = 6) (hy : decide (wrap32 (r.s.regs i.rs1.toNat) < wrap32 (r.s.regs i.rs2.toNat)) = true) (ht : ¬ (u32 (r.s.pc + i.imm)) % 4 = 0) :
    Calls Tryz.prog 63 #[.pointer (some ⟨b, 0, none⟩), .agg i.cells] w (RP B b w (.tuple #[]) (r.do_ i)) := by
  have hd : r.do_ i = r.end_ 3 := by
    have hb : brT i.op (r.s.regs i.rs1.toNat) (r.s.regs i.rs2.toNat) = true := by (rw [h0]; simp only [brT]; simp at hy ⊢; first | exact hy | omega)
    refine do_trap (s' := r.s) ?_
    unfold exec
    dsimp only
    repeat (first | rw [if_pos (by simp; omega)] | rw [if_neg (by simp; omega)])
    try rw [hb]
    simp [goesTo, ht]
  have hi0 := hi
  unfold Ins.cells
  obtain ⟨d0, d1⟩ := hi.rd
  obtain ⟨a0, a1⟩ := hi.rs1
  obtain ⟨c0, c1⟩ := hi.rs2
  obtain ⟨m0, m1⟩ := hi.imm
  obtain ⟨v0, v1⟩ := hs.regs i.rs1.toNat
  obtain ⟨y0, y1⟩ := hs.regs i.rs2.toNat
  obtain ⟨p0, p1⟩ := hs.pc
  have hr1 := h.mac.reg i.rs1.toNat (by omega)
  have hr2 := h.mac.reg i.rs2.toNat (by omega)
  have hp := h.mac.pc
  have hst := h.mac.steps
  have f1 := h.mac.free 1
  have f37 := h.mac.free 37
  have hsz := h.mac.lt
  have H := Lib.hid h
  have HD := Lib.hid hd
  clear h hd
  have TO0 : 0 ≤ (u32 (r.s.pc + i.imm)) := by unfold u32; omega
  have ht' : ((u32 (r.s.pc + i.imm)) % 4 != 0) = true := by rw [bne_iff_ne]; exact ht
  have HT := Lib.hid ht'
  clear ht ht'
  go_enter Tryz.func63, Tryz.ntmps63
  go_wp2_with fail
  go_quiet (fail)
  go_wp2_with fail
  go_quiet (fail)
  go_wp2_with fail
  refine (rgoes_no b (u32 (r.s.pc + i.imm)) r x _ ?_ TO0 HT.out).mono ?_
  · repeat (first | with_reducible refine RAt.drew ?_ | with_reducible refine RAt.drewN ?_ _ | with_reducible refine RAt.alloc ?_ _)
    exact H.out.mac
  rintro e w1 ⟨rfl, h1, ho1⟩
  go_wp2_with fail
  first | go_end0 | refine bodyPost_ret (results_none rfl _ _ _) rfl ?_
  refine RM.endT (H.out.no ?_) ?_ h1 ho1 HD.out rfl rfl rfl rfl rfl
  all_goals repeat (first | with_reducible exact Only.refl _ _ | with_reducible refine Only.alloc ?_ _ | with_reducible refine Only.drewN ?_ _ | with_reducible refine Only.drew ?_)
set_option maxRecDepth 100000 in
set_option maxHeartbeats 400000 in
theorem rdo_6_yes (B b : Nat) (i : Ins) (hi : i.Ok) (r : RS) (hs : r.s.Ok) (st0 : 0 ≤ r.s.steps) (st1 : r.s.steps ≤ 10000) (x : RRaw) (w : World) (h : RMach B w b r x) (h0 : i.op = 6) (hy : decide (wrap32 (r.s.regs i.rs1.toNat) < wrap32 (r.s.regs i.rs2.toNat)) = true) (ht : (u32 (r.s.pc + i.imm)) % 4 = 0) :
    Calls Tryz.prog 63 #[.pointer (some ⟨b, 0, none⟩), .agg i.cells] w (RP B b w (.tuple #[]) (r.do_ i)) := by
  have hd : r.do_ i = r.gone (u32 (r.s.pc + i.imm)) := by
    have hb : brT i.op (r.s.regs i.rs1.toNat) (r.s.regs i.rs2.toNat) = true := by (rw [h0]; simp only [brT]; simp at hy ⊢; first | exact hy | omega)
    refine rdo_jump (s' := r.s) (next := (u32 (r.s.pc + i.imm))) ?_ ?_
    · unfold exec
      dsimp only
      repeat (first | rw [if_pos (by simp; omega)] | rw [if_neg (by simp; omega)])
      try rw [hb]
      simp [goesTo, ht]
    · unfold jumps
      rw [hb]
      simp [h0]
  have hi0 := hi
  unfold Ins.cells
  obtain ⟨d0, d1⟩ := hi.rd
  obtain ⟨a0, a1⟩ := hi.rs1
  obtain ⟨c0, c1⟩ := hi.rs2
  obtain ⟨m0, m1⟩ := hi.imm
  obtain ⟨v0, v1⟩ := hs.regs i.rs1.toNat
  obtain ⟨y0, y1⟩ := hs.regs i.rs2.toNat
  obtain ⟨p0, p1⟩ := hs.pc
  have hr1 := h.mac.reg i.rs1.toNat (by omega)
  have hr2 := h.mac.reg i.rs2.toNat (by omega)
  have hp := h.mac.pc
  have hst := h.mac.steps
  have f1 := h.mac.free 1
  have f37 := h.mac.free 37
  have hsz := h.mac.lt
  have H := Lib.hid h
  have HD := Lib.hid hd
  clear h hd
  have TO0 : 0 ≤ (u32 (r.s.pc + i.imm)) := by unfold u32; omega
  have ht' : ((u32 (r.s.pc + i.imm)) % 4 != 0) = false := by rw [ht]; rfl
  have HT := Lib.hid ht'
  clear ht ht'
  go_enter Tryz.func63, Tryz.ntmps63
  go_wp2_with fail
  go_quiet (fail)
  go_wp2_with fail
  go_quiet (fail)
  go_wp2_with fail
  refine (rgoes_yes b (u32 (r.s.pc + i.imm)) r x _ ?_ TO0 HT.out st0 st1).mono ?_
  · repeat (first | with_reducible refine RAt.drew ?_ | with_reducible refine RAt.drewN ?_ _ | with_reducible refine RAt.alloc ?_ _)
    exact H.out.mac
  rintro e w1 ⟨rfl, h1, ho1⟩
  go_wp2_with fail
  first | go_end0 | refine bodyPost_ret (results_none rfl _ _ _) rfl ?_
  refine RM.endT (H.out.no ?_) ?_ h1 ho1 HD.out rfl rfl rfl rfl rfl
  all_goals repeat (first | with_reducible exact Only.refl _ _ | with_reducible refine Only.alloc ?_ _ | with_reducible refine Only.drewN ?_ _ | with_reducible refine Only.drew ?_)
set_option maxRecDepth 100000 in
set_option maxHeartbeats 400000 in
theorem rdo_6_f (B b : Nat) (i : Ins) (hi : i.Ok) (r : RS) (hs : r.s.Ok) (st0 : 0 ≤ r.s.steps) (st1 : r.s.steps ≤ 10000) (x : RRaw) (w : World) (h : RMach B w b r x) (h0 : i.op = 6) (hy : decide (wrap32 (r.s.regs i.rs1.toNat) < wrap32 (r.s.regs i.rs2.toNat)) = false) :
    Calls Tryz.prog 63 #[.pointer (some ⟨b, 0, none⟩), .agg i.cells] w (RP B b w (.tuple #[]) (r.do_ i)) := by
  have hd : r.do_ i = { r with s := r.s.step (u32 (r.s.pc + 4)) } := by
    have hb : brT i.op (r.s.regs i.rs1.toNat) (r.s.regs i.rs2.toNat) = false := by (rw [h0]; simp only [brT]; simp at hy ⊢; first | exact hy | omega)
    refine do_go (s' := r.s) ?_ ?_
    · unfold exec
      dsimp only
      repeat (first | rw [if_pos (by simp; omega)] | rw [if_neg (by simp; omega)])
      try rw [hb]
      try rfl
    · unfold jumps
      rw [hb]
      simp [h0]
  have hi0 := hi
  unfold Ins.cells
  obtain ⟨d0, d1⟩ := hi.rd
  obtain ⟨a0, a1⟩ := hi.rs1
  obtain ⟨c0, c1⟩ := hi.rs2
  obtain ⟨m0, m1⟩ := hi.imm
  obtain ⟨v0, v1⟩ := hs.regs i.rs1.toNat
  obtain ⟨y0, y1⟩ := hs.regs i.rs2.toNat
  obtain ⟨p0, p1⟩ := hs.pc
  have hr1 := h.mac.reg i.rs1.toNat (by omega)
  have hr2 := h.mac.reg i.rs2.toNat (by omega)
  have hp := h.mac.pc
  have hst := h.mac.steps
  have f1 := h.mac.free 1
  have f37 := h.mac.free 37
  have hsz := h.mac.lt
  have H := Lib.hid h
  have HD := Lib.hid hd
  clear h hd
  go_enter Tryz.func63, Tryz.ntmps63
  go_wp2_with fail
  go_quiet (fail)
  go_wp2_with fail
  go_quiet (fail)
  go_wp2_with fail
  first | go_end0 | refine bodyPost_ret (results_none rfl _ _ _) rfl ?_
  refine RP.alloc (RM.end2 (H.out.no ?_) (Only.up0 ?_) rfl HD.out) _
  all_goals repeat (first | with_reducible exact Only.refl _ _ | with_reducible refine Only.alloc ?_ _ | with_reducible refine Only.drewN ?_ _ | with_reducible refine Only.drew ?_)
set_option maxRecDepth 100000 in
set_option maxHeartbeats 400000 in
theorem rdo_7_no (B b : Nat) (i : Ins) (hi : i.Ok) (r : RS) (hs : r.s.Ok) (st0 : 0 ≤ r.s.steps) (st1 : r.s.steps ≤ 10000) (x : RRaw) (w : World) (h : RMach B w b r x) (h0 : i.op = 7) (hy : decide (wrap32 (r.s.regs i.rs2.toNat) ≤ wrap32 (r.s.regs i.rs1.toNat)) = true) (ht : ¬ (u32 (r.s.pc + i.imm)) % 4 = 0) :
    Calls Tryz.prog 63 #[.pointer (some ⟨b, 0, none⟩), .agg i.cells] w (RP B b w (.tuple #[]) (r.do_ i)) := by
  have hd : r.do_ i = r.end_ 3 := by
    have hb : brT i.op (r.s.regs i.rs1.toNat) (r.s.regs i.rs2.toNat) = true := by (rw [h0]; simp only [brT]; simp at hy ⊢; first | exact hy | omega)
    refine do_trap (s' := r.s) ?_
    unfold exec
    dsimp only
    repeat (first | rw [if_pos (by simp; omega)] | rw [if_neg (by simp; omega)])
    try rw [hb]
    simp [goesTo, ht]
  have hi0 := hi
  unfold Ins.cells
  obtain ⟨d0, d1⟩ := hi.rd
  obtain ⟨a0, a1⟩ := hi.rs1
  obtain ⟨c0, c1⟩ := hi.rs2
  obtain ⟨m0, m1⟩ := hi.imm
  obtain ⟨v0, v1⟩ := hs.regs i.rs1.toNat
  obtain ⟨y0, y1⟩ := hs.regs i.rs2.toNat
  obtain ⟨p0, p1⟩ := hs.pc
  have hr1 := h.mac.reg i.rs1.toNat (by omega)
  have hr2 := h.mac.reg i.rs2.toNat (by omega)
  have hp := h.mac.pc
  have hst := h.mac.steps
  have f1 := h.mac.free 1
  have f37 := h.mac.free 37
  have hsz := h.mac.lt
  have H := Lib.hid h
  have HD := Lib.hid hd
  clear h hd
  have TO0 : 0 ≤ (u32 (r.s.pc + i.imm)) := by unfold u32; omega
  have ht' : ((u32 (r.s.pc + i.imm)) % 4 != 0) = true := by rw [bne_iff_ne]; exact ht
  have HT := Lib.hid ht'
  clear ht ht'
  go_enter Tryz.func63, Tryz.ntmps63
  go_wp2_with fail
  go_quiet (fail)
  go_wp2_with fail
  go_quiet (fail)
  go_wp2_with fail
  refine (rgoes_no b (u32 (r.s.pc + i.imm)) r x _ ?_ TO0 HT.out).mono ?_
  · repeat (first | with_reducible refine RAt.drew ?_ | with_reducible refine RAt.drewN ?_ _ | with_reducible refine RAt.alloc ?_ _)
    exact H.out.mac
  rintro e w1 ⟨rfl, h1, ho1⟩
  go_wp2_with fail
  first | go_end0 | refine bodyPost_ret (results_none rfl _ _ _) rfl ?_
  refine RM.endT (H.out.no ?_) ?_ h1 ho1 HD.out rfl rfl rfl rfl rfl
  all_goals repeat (first | with_reducible exact Only.refl _ _ | with_reducible refine Only.alloc ?_ _ | with_reducible refine Only.drewN ?_ _ | with_reducible refine Only.drew ?_)
set_option maxRecDepth 100000 in
set_option maxHeartbeats 400000 in
theorem rdo_7_yes (B b : Nat) (i : Ins) (hi : i.Ok) (r : RS) (hs : r.s.Ok) (st0 : 0 ≤ r.s.steps) (st1 : r.s.steps ≤ 10000) (x : RRaw) (w : World) (h : RMach B w b r x) (h0 : i.op = 7) (hy : decide (wrap32 (r.s.regs i.rs2.toNat) ≤ wrap32 (r.s.regs i.rs1.toNat)) = true) (ht : (u32 (r.s.pc + i.imm)) % 4 = 0) :
    Calls Tryz.prog 63 #[.pointer (some ⟨b, 0, none⟩), .agg i.cells] w (RP B b w (.tuple #[]) (r.do_ i)) := by
  have hd : r.do_ i = r.gone (u32 (r.s.pc + i.imm)) := by
    have hb : brT i.op (r.s.regs i.rs1.toNat) (r.s.regs i.rs2.toNat) = true := by (rw [h0]; simp only [brT]; simp at hy ⊢; first | exact hy | omega)
    refine rdo_jump (s' := r.s) (next := (u32 (r.s.pc + i.imm))) ?_ ?_
    · unfold exec
      dsimp only
      repeat (first | rw [if_pos (by simp; omega)] | rw [if_neg (by simp; omega)])
      try rw [hb]
      simp [goesTo, ht]
    · unfold jumps
      rw [hb]
      simp [h0]
  have hi0 := hi
  unfold Ins.cells
  obtain ⟨d0, d1⟩ := hi.rd
  obtain ⟨a0, a1⟩ := hi.rs1
  obtain ⟨c0, c1⟩ := hi.rs2
  obtain ⟨m0, m1⟩ := hi.imm
  obtain ⟨v0, v1⟩ := hs.regs i.rs1.toNat
  obtain ⟨y0, y1⟩ := hs.regs i.rs2.toNat
  obtain ⟨p0, p1⟩ := hs.pc
  have hr1 := h.mac.reg i.rs1.toNat (by omega)
  have hr2 := h.mac.reg i.rs2.toNat (by omega)
  have hp := h.mac.pc
  have hst := h.mac.steps
  have f1 := h.mac.free 1
  have f37 := h.mac.free 37
  have hsz := h.mac.lt
  have H := Lib.hid h
  have HD := Lib.hid hd
  clear h hd
  have TO0 : 0 ≤ (u32 (r.s.pc + i.imm)) := by unfold u32; omega
  have ht' : ((u32 (r.s.pc + i.imm)) % 4 != 0) = false := by rw [ht]; rfl
  have HT := Lib.hid ht'
  clear ht ht'
  go_enter Tryz.func63, Tryz.ntmps63
  go_wp2_with fail
  go_quiet (fail)
  go_wp2_with fail
  go_quiet (fail)
  go_wp2_with fail
  refine (rgoes_yes b (u32 (r.s.pc + i.imm)) r x _ ?_ TO0 HT.out st0 st1).mono ?_
  · repeat (first | with_reducible refine RAt.drew ?_ | with_reducible refine RAt.drewN ?_ _ | with_reducible refine RAt.alloc ?_ _)
    exact H.out.mac
  rintro e w1 ⟨rfl, h1, ho1⟩
  go_wp2_with fail
  first | go_end0 | refine bodyPost_ret (results_none rfl _ _ _) rfl ?_
  refine RM.endT (H.out.no ?_) ?_ h1 ho1 HD.out rfl rfl rfl rfl rfl
  all_goals repeat (first | with_reducible exact Only.refl _ _ | with_reducible refine Only.alloc ?_ _ | with_reducible refine Only.drewN ?_ _ | with_reducible refine Only.drew ?_)
set_option maxRecDepth 100000 in
set_option maxHeartbeats 400000 in
theorem rdo_7_f (B b : Nat) (i : Ins) (hi : i.Ok) (r : RS) (hs : r.s.Ok) (st0 : 0 ≤ r.s.steps) (st1 : r.s.steps ≤ 10000) (x : RRaw) (w : World) (h : RMach B w b r x) (h0 : i.op = 7) (hy : decide (wrap32 (r.s.regs i.rs2.toNat) ≤ wrap32 (r.s.regs i.rs1.toNat)) = false) :
    Calls Tryz.prog 63 #[.pointer (some ⟨b, 0, none⟩), .agg i.cells] w (RP B b w (.tuple #[]) (r.do_ i)) := by
  have hd : r.do_ i = { r with s := r.s.step (u32 (r.s.pc + 4)) } := by
    have hb : brT i.op (r.s.regs i.rs1.toNat) (r.s.regs i.rs2.toNat) = false := by (rw [h0]; simp only [brT]; simp at hy ⊢; first | exact hy | omega)
    refine do_go (s' := r.s) ?_ ?_
    · unfold exec
      dsimp only
      repeat (first | rw [if_pos (by simp; omega)] | rw [if_neg (by simp; omega)])
      try rw [hb]
      try rfl
    · unfold jumps
      rw [hb]
      simp [h0]
  have hi0 := hi
  unfold Ins.cells
  obtain ⟨d0, d1⟩ := hi.rd
  obtain ⟨a0, a1⟩ := hi.rs1
  obtain ⟨c0, c1⟩ := hi.rs2
  obtain ⟨m0, m1⟩ := hi.imm
  obtain ⟨v0, v1⟩ := hs.regs i.rs1.toNat
  obtain ⟨y0, y1⟩ := hs.regs i.rs2.toNat
  obtain ⟨p0, p1⟩ := hs.pc
  have hr1 := h.mac.reg i.rs1.toNat (by omega)
  have hr2 := h.mac.reg i.rs2.toNat (by omega)
  have hp := h.mac.pc
  have hst := h.mac.steps
  have f1 := h.mac.free 1
  have f37 := h.mac.free 37
  have hsz := h.mac.lt
  have H := Lib.hid h
  have HD := Lib.hid hd
  clear h hd
  go_enter Tryz.func63, Tryz.ntmps63
  go_wp2_with fail
  go_quiet (fail)
  go_wp2_with fail
  go_quiet (fail)
  go_wp2_with fail
  first | go_end0 | refine bodyPost_ret (results_none rfl _ _ _) rfl ?_
  refine RP.alloc (RM.end2 (H.out.no ?_) (Only.up0 ?_) rfl HD.out) _
  all_goals repeat (first | with_reducible exact Only.refl _ _ | with_reducible refine Only.alloc ?_ _ | with_reducible refine Only.drewN ?_ _ | with_reducible refine Only.drew ?_)
set_option maxRecDepth 100000 in
set_option maxHeartbeats 400000 in
theorem rdo_8_no (B b : Nat) (i : Ins) (hi : i.Ok) (r : RS) (hs : r.s.Ok) (st0 : 0 ≤ r.s.steps) (st1 : r.s.steps ≤ 10000) (x : RRaw) (w : World) (h : RMach B w b r x) (h0 : i.op = 8) (hy : decide (r.s.regs i.rs1.toNat < r.s.regs i.rs2.toNat) = true) (ht : ¬ (u32 (r.s.pc + i.imm)) % 4 = 0) :
    Calls Tryz.prog 63 #[.pointer (some ⟨b, 0, none⟩), .agg i.cells] w (RP B b w (.tuple #[]) (r.do_ i)) := by
  have hd : r.do_ i = r.end_ 3 := by
    have hb : brT i.op (r.s.regs i.rs1.toNat) (r.s.regs i.rs2.toNat) = true := by (rw [h0]; simp only [brT]; simp at hy ⊢; first | exact hy | omega)
    refine do_trap (s' := r.s) ?_
    unfold exec
    dsimp only
    repeat (first | rw [if_pos (by simp; omega)] | rw [if_neg (by simp; omega)])
    try rw [hb]
    simp [goesTo, ht]
  have hi0 := hi
  unfold Ins.cells
  obtain ⟨d0, d1⟩ := hi.rd
  obtain ⟨a0, a1⟩ := hi.rs1
  obtain ⟨c0, c1⟩ := hi.rs2
  obtain ⟨m0, m1⟩ := hi.imm
  obtain ⟨v0, v1⟩ := hs.regs i.rs1.toNat
  obtain ⟨y0, y1⟩ := hs.regs i.rs2.toNat
  obtain ⟨p0, p1⟩ := hs.pc
  have hr1 := h.mac.reg i.rs1.toNat (by omega)
  have hr2 := h.mac.reg i.rs2.toNat (by omega)
  have hp := h.mac.pc
  have hst := h.mac.steps
  have f1 := h.mac.free 1
  have f37 := h.mac.free 37
  have hsz := h.mac.lt
  have H := Lib.hid h
  have HD := Lib.hid hd
  clear h hd
  have TO0 : 0 ≤ (u32 (r.s.pc + i.imm)) := by unfold u32; omega
  have ht' : ((u32 (r.s.pc + i.imm)) % 4 != 0) = true := by rw [bne_iff_ne]; exact ht
  have HT := Lib.hid ht'
  clear ht ht'
  go_enter Tryz.func63, Tryz.ntmps63
  go_wp2_with fail
  go_quiet (fail)
  go_wp2_with fail
  go_quiet (fail)
  go_wp2_with fail
  refine (rgoes_no b (u32 (r.s.pc + i.imm)) r x _ ?_ TO0 HT.out).mono ?_
  · repeat (first | with_reducible refine RAt.drew ?_ | with_reducible refine RAt.drewN ?_ _ | with_reducible refine RAt.alloc ?_ _)
    exact H.out.mac
  rintro e w1 ⟨rfl, h1, ho1⟩
  go_wp2_with fail
  first | go_end0 | refine bodyPost_ret (results_none rfl _ _ _) rfl ?_
  refine RM.endT (H.out.no ?_) ?_ h1 ho1 HD.out rfl rfl rfl rfl rfl
  all_goals repeat (first | with_reducible exact Only.refl _ _ | with_reducible refine Only.alloc ?_ _ | with_reducible refine Only.drewN ?_ _ | with_reducible refine Only.drew ?_)
set_option maxRecDepth 100000 in
set_option maxHeartbeats 400000 in
theorem rdo_8_yes (B b : Nat) (i : Ins) (hi : i.Ok) (r : RS) (hs : r.s.Ok) (st0 : 0 ≤ r.s.steps) (st1 : r.s.steps ≤ 10000) (x : RRaw) (w : World) (h : RMach B w b r x) (h0 : i.op = 8) (hy : decide (r.s.regs i.rs1.toNat < r.s.regs i.rs2.toNat) = true) (ht : (u32 (r.s.pc + i.imm)) % 4 = 0) :
    Calls Tryz.prog 63 #[.pointer (some ⟨b, 0, none⟩), .agg i.cells] w (RP B b w (.tuple #[]) (r.do_ i)) := by
  have hd : r.do_ i = r.gone (u32 (r.s.pc + i.imm)) := by
    have hb : brT i.op (r.s.regs i.rs1.toNat) (r.s.regs i.rs2.toNat) = true := by (rw [h0]; simp only [brT]; simp at hy ⊢; first | exact hy | omega)
    refine rdo_jump (s' := r.s) (next := (u32 (r.s.pc + i.imm))) ?_ ?_
    · unfold exec
      dsimp only
      repeat (first | rw [if_pos (by simp; omega)] | rw [if_neg (by simp; omega)])
      try rw [hb]
      simp [goesTo, ht]
    · unfold jumps
      rw [hb]
      simp [h0]
  have hi0 := hi
  unfold Ins.cells
  obtain ⟨d0, d1⟩ := hi.rd
  obtain ⟨a0, a1⟩ := hi.rs1
  obtain ⟨c0, c1⟩ := hi.rs2
  obtain ⟨m0, m1⟩ := hi.imm
  obtain ⟨v0, v1⟩ := hs.regs i.rs1.toNat
  obtain ⟨y0, y1⟩ := hs.regs i.rs2.toNat
  obtain ⟨p0, p1⟩ := hs.pc
  have hr1 := h.mac.reg i.rs1.toNat (by omega)
  have hr2 := h.mac.reg i.rs2.toNat (by omega)
  have hp := h.mac.pc
  have hst := h.mac.steps
  have f1 := h.mac.free 1
  have f37 := h.mac.free 37
  have hsz := h.mac.lt
  have H := Lib.hid h
  have HD := Lib.hid hd
  clear h hd
  have TO0 : 0 ≤ (u32 (r.s.pc + i.imm)) := by unfold u32; omega
  have ht' : ((u32 (r.s.pc + i.imm)) % 4 != 0) = false := by rw [ht]; rfl
  have HT := Lib.hid ht'
  clear ht ht'
  go_enter Tryz.func63, Tryz.ntmps63
  go_wp2_with fail
  go_quiet (fail)
  go_wp2_with fail
  go_quiet (fail)
  go_wp2_with fail
  refine (rgoes_yes b (u32 (r.s.pc + i.imm)) r x _ ?_ TO0 HT.out st0 st1).mono ?_
  · repeat (first | with_reducible refine RAt.drew ?_ | with_reducible refine RAt.drewN ?_ _ | with_reducible refine RAt.alloc ?_ _)
    exact H.out.mac
  rintro e w1 ⟨rfl, h1, ho1⟩
  go_wp2_with fail
  first | go_end0 | refine bodyPost_ret (results_none rfl _ _ _) rfl ?_
  refine RM.endT (H.out.no ?_) ?_ h1 ho1 HD.out rfl rfl rfl rfl rfl
  all_goals repeat (first | with_reducible exact Only.refl _ _ | with_reducible refine Only.alloc ?_ _ | with_reducible refine Only.drewN ?_ _ | with_reducible refine Only.drew ?_)
set_option maxRecDepth 100000 in
set_option maxHeartbeats 400000 in
theorem rdo_8_f (B b : Nat) (i : Ins) (hi : i.Ok) (r : RS) (hs : r.s.Ok) (st0 : 0 ≤ r.s.steps) (st1 : r.s.steps ≤ 10000) (x : RRaw) (w : World) (h : RMach B w b r x) (h0 : i.op = 8) (hy : decide (r.s.regs i.rs1.toNat < r.s.regs i.rs2.toNat) = false) :
    Calls Tryz.prog 63 #[.pointer (some ⟨b, 0, none⟩), .agg i.cells] w (RP B b w (.tuple #[]) (r.do_ i)) := by
  have hd : r.do_ i = { r with s := r.s.step (u32 (r.s.pc + 4)) } := by
    have hb : brT i.op (r.s.regs i.rs1.toNat) (r.s.regs i.rs2.toNat) = false := by (rw [h0]; simp only [brT]; simp at hy ⊢; first | exact hy | omega)
    refine do_go (s' := r.s) ?_ ?_
    · unfold exec
      dsimp only
      repeat (first | rw [if_pos (by simp; omega)] | rw [if_neg (by simp; omega)])
      try rw [hb]
      try rfl
    · unfold jumps
      rw [hb]
      simp [h0]
  have hi0 := hi
  unfold Ins.cells
  obtain ⟨d0, d1⟩ := hi.rd
  obtain ⟨a0, a1⟩ := hi.rs1
  obtain ⟨c0, c1⟩ := hi.rs2
  obtain ⟨m0, m1⟩ := hi.imm
  obtain ⟨v0, v1⟩ := hs.regs i.rs1.toNat
  obtain ⟨y0, y1⟩ := hs.regs i.rs2.toNat
  obtain ⟨p0, p1⟩ := hs.pc
  have hr1 := h.mac.reg i.rs1.toNat (by omega)
  have hr2 := h.mac.reg i.rs2.toNat (by omega)
  have hp := h.mac.pc
  have hst := h.mac.steps
  have f1 := h.mac.free 1
  have f37 := h.mac.free 37
  have hsz := h.mac.lt
  have H := Lib.hid h
  have HD := Lib.hid hd
  clear h hd
  go_enter Tryz.func63, Tryz.ntmps63
  go_wp2_with fail
  go_quiet (fail)
  go_wp2_with fail
  go_quiet (fail)
  go_wp2_with fail
  first | go_end0 | refine bodyPost_ret (results_none rfl _ _ _) rfl ?_
  refine RP.alloc (RM.end2 (H.out.no ?_) (Only.up0 ?_) rfl HD.out) _
  all_goals repeat (first | with_reducible exact Only.refl _ _ | with_reducible refine Only.alloc ?_ _ | with_reducible refine Only.drewN ?_ _ | with_reducible refine Only.drew ?_)
set_option maxRecDepth 100000 in
set_option maxHeartbeats 400000 in
theorem rdo_9_no (B b : Nat) (i : Ins) (hi : i.Ok) (r : RS) (hs : r.s.Ok) (st0 : 0 ≤ r.s.steps) (st1 : r.s.steps ≤ 10000) (x : RRaw) (w : World) (h : RMach B w b r x) (h0 : i.op = 9) (hy : decide (r.s.regs i.rs2.toNat ≤ r.s.regs i.rs1.toNat) = true) (ht : ¬ (u32 (r.s.pc + i.imm)) % 4 = 0) :
    Calls Tryz.prog 63 #[.pointer (some ⟨b, 0, none⟩), .agg i.cells] w (RP B b w (.tuple #[]) (r.do_ i)) := by
  have hd : r.do_ i = r.end_ 3 := by
    have hb : brT i.op (r.s.regs i.rs1.toNat) (r.s.regs i.rs2.toNat) = true := by (rw [h0]; simp only [brT]; simp at hy ⊢; first | exact hy | omega)
    refine do_trap (s' := r.s) ?_
    unfold exec
    dsimp only
    repeat (first | rw [if_pos (by simp; omega)] | rw [if_neg (by simp; omega)])
    try rw [hb]
    simp [goesTo, ht]
  have hi0 := hi
  unfold Ins.cells
  obtain ⟨d0, d1⟩ := hi.rd
  obtain ⟨a0, a1⟩ := hi.rs1
  obtain ⟨c0, c1⟩ := hi.rs2
  obtain ⟨m0, m1⟩ := hi.imm
  obtain ⟨v0, v1⟩ := hs.regs i.rs1.toNat
  obtain ⟨y0, y1⟩ := hs.regs i.rs2.toNat
  obtain ⟨p0, p1⟩ := hs.pc
  have hr1 := h.mac.reg i.rs1.toNat (by omega)
  have hr2 := h.mac.reg i.rs2.toNat (by omega)
  have hp := h.mac.pc
  have hst := h.mac.steps
  have f1 := h.mac.free 1
  have f37 := h.mac.free 37
  have hsz := h.mac.lt
  have H := Lib.hid h
  have HD := Lib.hid hd
  clear h hd
  have TO0 : 0 ≤ (u32 (r.s.pc + i.imm)) := by unfold u32; omega
  have ht' : ((u32 (r.s.pc + i.imm)) % 4 != 0) = true := by rw [bne_iff_ne]; exact ht
  have HT := Lib.hid ht'
  clear ht ht'
  go_enter Tryz.func63, Tryz.ntmps63
  go_wp2_with fail
  go_quiet (fail)
  go_wp2_with fail
  go_quiet (fail)
  go_wp2_with fail
  refine (rgoes_no b (u32 (r.s.pc + i.imm)) r x _ ?_ TO0 HT.out).mono ?_
  · repeat (first | with_reducible refine RAt.drew ?_ | with_reducible refine RAt.drewN ?_ _ | with_reducible refine RAt.alloc ?_ _)
    exact H.out.mac
  rintro e w1 ⟨rfl, h1, ho1⟩
  go_wp2_with fail
  first | go_end0 | refine bodyPost_ret (results_none rfl _ _ _) rfl ?_
  refine RM.endT (H.out.no ?_) ?_ h1 ho1 HD.out rfl rfl rfl rfl rfl
  all_goals repeat (first | with_reducible exact Only.refl _ _ | with_reducible refine Only.alloc ?_ _ | with_reducible refine Only.drewN ?_ _ | with_reducible refine Only.drew ?_)
set_option maxRecDepth 100000 in
set_option maxHeartbeats 400000 in
theorem rdo_9_yes (B b : Nat) (i : Ins) (hi : i.Ok) (r : RS) (hs : r.s.Ok) (st0 : 0 ≤ r.s.steps) (st1 : r.s.steps ≤ 10000) (x : RRaw) (w : World) (h : RMach B w b r x) (h0 : i.op = 9) (hy : decide (r.s.regs i.rs2.toNat ≤ r.s.regs i.rs1.toNat) = true) (ht : (u32 (r.s.pc + i.imm)) % 4 = 0) :
    Calls Tryz.prog 63 #[.pointer (some ⟨b, 0, none⟩), .agg i.cells] w (RP B b w (.tuple #[]) (r.do_ i)) := by
  have hd : r.do_ i = r.gone (u32 (r.s.pc + i.imm)) := by
    have hb : brT i.op (r.s.regs i.rs1.toNat) (r.s.regs i.rs2.toNat) = true := by (rw [h0]; simp only [brT]; simp at hy ⊢; first | exact hy | omega)
    refine rdo_jump (s' := r.s) (next := (u32 (r.s.pc + i.imm))) ?_ ?_
    · unfold exec
      dsimp only
      repeat (first | rw [if_pos (by simp; omega)] | rw [if_neg (by simp; omega)])
      try rw [hb]
      simp [goesTo, ht]
    · unfold jumps
      rw [hb]
      simp [h0]
  have hi0 := hi
  unfold Ins.cells
  obtain ⟨d0, d1⟩ := hi.rd
  obtain ⟨a0, a1⟩ := hi.rs1
  obtain ⟨c0, c1⟩ := hi.rs2
  obtain ⟨m0, m1⟩ := hi.imm
  obtain ⟨v0, v1⟩ := hs.regs i.rs1.toNat
  obtain ⟨y0, y1⟩ := hs.regs i.rs2.toNat
  obtain ⟨p0, p1⟩ := hs.pc
  have hr1 := h.mac.reg i.rs1.toNat (by omega)
  have hr2 := h.mac.reg i.rs2.toNat (by omega)
  have hp := h.mac.pc
  have hst := h.mac.steps
  have f1 := h.mac.free 1
  have f37 := h.mac.free 37
  have hsz := h.mac.lt
  have H := Lib.hid h
  have HD := Lib.hid hd
  clear h hd
  have TO0 : 0 ≤ (u32 (r.s.pc + i.imm)) := by unfold u32; omega
  have ht' : ((u32 (r.s.pc + i.imm)) % 4 != 0) = false := by rw [ht]; rfl
  have HT := Lib.hid ht'
  clear ht ht'
  go_enter Tryz.func63, Tryz.ntmps63
  go_wp2_with fail
  go_quiet (fail)
  go_wp2_with fail
  go_quiet (fail)
  go_wp2_with fail
  refine (rgoes_yes b (u32 (r.s.pc + i.imm)) r x _ ?_ TO0 HT.out st0 st1).mono ?_
  · repeat (first | with_reducible refine RAt.drew ?_ | with_reducible refine RAt.drewN ?_ _ | with_reducible refine RAt.alloc ?_ _)
    exact H.out.mac
  rintro e w1 ⟨rfl, h1, ho1⟩
  go_wp2_with fail
  first | go_end0 | refine bodyPost_ret (results_none rfl _ _ _) rfl ?_
  refine RM.endT (H.out.no ?_) ?_ h1 ho1 HD.out rfl rfl rfl rfl rfl
  all_goals repeat (first | with_reducible exact Only.refl _ _ | with_reducible refine Only.alloc ?_ _ | with_reducible refine Only.drewN ?_ _ | with_reducible refine Only.drew ?_)
set_option maxRecDepth 100000 in
set_option maxHeartbeats 400000 in
theorem rdo_9_f (B b : Nat) (i : Ins) (hi : i.Ok) (r : RS) (hs : r.s.Ok) (st0 : 0 ≤ r.s.steps) (st1 : r.s.steps ≤ 10000) (x : RRaw) (w : World) (h : RMach B w b r x) (h0 : i.op = 9) (hy : decide (r.s.regs i.rs2.toNat ≤ r.s.regs i.rs1.toNat) = false) :
    Calls Tryz.prog 63 #[.pointer (some ⟨b, 0, none⟩), .agg i.cells] w (RP B b w (.tuple #[]) (r.do_ i)) := by
  have hd : r.do_ i = { r with s := r.s.step (u32 (r.s.pc + 4)) } := by
    have hb : brT i.op (r.s.regs i.rs1.toNat) (r.s.regs i.rs2.toNat) = false := by (rw [h0]; simp only [brT]; simp at hy ⊢; first | exact hy | omega)
    refine do_go (s' := r.s) ?_ ?_
    · unfold exec
      dsimp only
      repeat (first | rw [if_pos (by simp; omega)] | rw [if_neg (by simp; omega)])
      try rw [hb]
      try rfl
    · unfold jumps
      rw [hb]
      simp [h0]
  have hi0 := hi
  unfold Ins.cells
  obtain ⟨d0, d1⟩ := hi.rd
  obtain ⟨a0, a1⟩ := hi.rs1
  obtain ⟨c0, c1⟩ := hi.rs2
  obtain ⟨m0, m1⟩ := hi.imm
  obtain ⟨v0, v1⟩ := hs.regs i.rs1.toNat
  obtain ⟨y0, y1⟩ := hs.regs i.rs2.toNat
  obtain ⟨p0, p1⟩ := hs.pc
  have hr1 := h.mac.reg i.rs1.toNat (by omega)
  have hr2 := h.mac.reg i.rs2.toNat (by omega)
  have hp := h.mac.pc
  have hst := h.mac.steps
  have f1 := h.mac.free 1
  have f37 := h.mac.free 37
  have hsz := h.mac.lt
  have H := Lib.hid h
  have HD := Lib.hid hd
  clear h hd
  go_enter Tryz.func63, Tryz.ntmps63
  go_wp2_with fail
  go_quiet (fail)
  go_wp2_with fail
  go_quiet (fail)
  go_wp2_with fail
  first | go_end0 | refine bodyPost_ret (results_none rfl _ _ _) rfl ?_
  refine RP.alloc (RM.end2 (H.out.no ?_) (Only.up0 ?_) rfl HD.out) _
  all_goals repeat (first | with_reducible exact Only.refl _ _ | with_reducible refine Only.alloc ?_ _ | with_reducible refine Only.drewN ?_ _ | with_reducible refine Only.drew ?_)
theorem rmem_any (B b : Nat) (i : Ins) (hi : i.Ok) (r : RS) (hs : r.s.Ok) (x : RRaw) (w : World) (h : RMach B w b r x) (hns : r.slots.length ≤ 64) (hqs : ∀ q ∈ r.slots, SlotOk q) (hcu : SlotOk r.cur) (h0 : 10 ≤ i.op) (h9 : i.op ≤ 17) :
    Calls Tryz.prog 79 #[.pointer (some ⟨b, 0, none⟩), .agg i.cells, .int .u32 (u32 (r.s.regs i.rs1.toNat + i.imm)), .int .u32 (r.s.regs i.rs2.toNat)] w (RP B b w (.bool (exec r.s i).isGo) (r.part (exec r.s i))) := by
  have a0 := (u32_bd (r.s.regs i.rs1.toNat + i.imm)).1
  have a1 := (u32_bd (r.s.regs i.rs1.toNat + i.imm)).2
  have v0 := (hs.regs i.rs2.toNat).1
  have v1 := (hs.regs i.rs2.toNat).2
  have hops : i.op = 10 ∨ i.op = 11 ∨ i.op = 12 ∨ i.op = 13 ∨ i.op = 14 ∨ i.op = 15 ∨ i.op = 16 ∨ i.op = 17 := by omega
  rcases hops with ho | ho | ho | ho | ho | ho | ho | ho
  · have hw : wide i.op = 1 := by rw [ho]; rfl
    have he := exec_load r.s i (by omega) (by omega)
    rw [hw] at he
    rw [if_neg (by omega)] at he
    cases hl : lies r.s (u32 (r.s.regs i.rs1.toNat + i.imm)) 1
    · rw [if_neg (by rw [hl]; decide)] at he
      rw [he]
      exact rmem_10_fault B b i hi r hs (u32 (r.s.regs i.rs1.toNat + i.imm)) _ a0 a1 v0 v1 x w h ho hl
    · rw [if_pos hl] at he
      rw [he, ho]
      exact rmem_10_ok B b i hi r hs (u32 (r.s.regs i.rs1.toNat + i.imm)) _ a0 a1 v0 v1 x w h ho hl
  · have hw : wide i.op = 2 := by rw [ho]; rfl
    have he := exec_load r.s i (by omega) (by omega)
    rw [hw] at he
    by_cases ha : (u32 (r.s.regs i.rs1.toNat + i.imm)) % 2 = 0
    · rw [if_neg (by simpa using ha)] at he
      cases hl : lies r.s (u32 (r.s.regs i.rs1.toNat + i.imm)) 2
      · rw [if_neg (by rw [hl]; decide)] at he
        rw [he]
        exact rmem_11_fault B b i hi r hs (u32 (r.s.regs i.rs1.toNat + i.imm)) _ a0 a1 v0 v1 x w h ho (by rw [ha]; rfl) hl
      · rw [if_pos hl] at he
        rw [he, ho]
        exact rmem_11_ok B b i hi r hs (u32 (r.s.regs i.rs1.toNat + i.imm)) _ a0 a1 v0 v1 x w h ho (by rw [ha]; rfl) hl
    · rw [if_pos (by simpa using ha)] at he
      rw [he]
      exact rmem_11_align B b i hi r hs (u32 (r.s.regs i.rs1.toNat + i.imm)) _ a0 a1 v0 v1 x w h ho (by rw [bne_iff_ne]; exact ha)
  · have hw : wide i.op = 4 := by rw [ho]; rfl
    have he := exec_load r.s i (by omega) (by omega)
    rw [hw] at he
    by_cases ha : (u32 (r.s.regs i.rs1.toNat + i.imm)) % 4 = 0
    · rw [if_neg (by simpa using ha)] at he
      cases hl : lies r.s (u32 (r.s.regs i.rs1.toNat + i.imm)) 4
      · rw [if_neg (by rw [hl]; decide)] at he
        rw [he]
        exact rmem_12_fault B b i hi r hs (u32 (r.s.regs i.rs1.toNat + i.imm)) _ a0 a1 v0 v1 x w h ho (by rw [ha]; rfl) hl
      · rw [if_pos hl] at he
        rw [he, ho]
        exact rmem_12_ok B b i hi r hs (u32 (r.s.regs i.rs1.toNat + i.imm)) _ a0 a1 v0 v1 x w h ho (by rw [ha]; rfl) hl
    · rw [if_pos (by simpa using ha)] at he
      rw [he]
      exact rmem_12_align B b i hi r hs (u32 (r.s.regs i.rs1.toNat + i.imm)) _ a0 a1 v0 v1 x w h ho (by rw [bne_iff_ne]; exact ha)
  · have hw : wide i.op = 1 := by rw [ho]; rfl
    have he := exec_load r.s i (by omega) (by omega)
    rw [hw] at he
    rw [if_neg (by omega)] at he
    cases hl : lies r.s (u32 (r.s.regs i.rs1.toNat + i.imm)) 1
    · rw [if_neg (by rw [hl]; decide)] at he
      rw [he]
      exact rmem_13_fault B b i hi r hs (u32 (r.s.regs i.rs1.toNat + i.imm)) _ a0 a1 v0 v1 x w h ho hl
    · rw [if_pos hl] at he
      rw [he, ho]
      exact rmem_13_ok B b i hi r hs (u32 (r.s.regs i.rs1.toNat + i.imm)) _ a0 a1 v0 v1 x w h ho hl
  · have hw : wide i.op = 2 := by rw [ho]; rfl
    have he := exec_load r.s i (by omega) (by omega)
    rw [hw] at he
    by_cases ha : (u32 (r.s.regs i.rs1.toNat + i.imm)) % 2 = 0
    · rw [if_neg (by simpa using ha)] at he
      cases hl : lies r.s (u32 (r.s.regs i.rs1.toNat + i.imm)) 2
      · rw [if_neg (by rw [hl]; decide)] at he
        rw [he]
        exact rmem_14_fault B b i hi r hs (u32 (r.s.regs i.rs1.toNat + i.imm)) _ a0 a1 v0 v1 x w h ho (by rw [ha]; rfl) hl
      · rw [if_pos hl] at he
        rw [he, ho]
        exact rmem_14_ok B b i hi r hs (u32 (r.s.regs i.rs1.toNat + i.imm)) _ a0 a1 v0 v1 x w h ho (by rw [ha]; rfl) hl
    · rw [if_pos (by simpa using ha)] at he
      rw [he]
      exact rmem_14_align B b i hi r hs (u32 (r.s.regs i.rs1.toNat + i.imm)) _ a0 a1 v0 v1 x w h ho (by rw [bne_iff_ne]; exact ha)
  · have hw : wide i.op = 1 := by rw [ho]; rfl
    have he := exec_store r.s i (by omega) (by omega)
    rw [hw] at he
    rw [if_neg (by omega)] at he
    cases hl : lies r.s (u32 (r.s.regs i.rs1.toNat + i.imm)) 1
    · rw [if_neg (by rw [hl]; decide)] at he
      rw [he]
      exact rmem_15_fault B b i hi r hs (u32 (r.s.regs i.rs1.toNat + i.imm)) _ a0 a1 v0 v1 x w h ho hl
    · rw [if_pos hl] at he
      rw [he, ho]
      exact rmem_15_ok B b i hi r hs (u32 (r.s.regs i.rs1.toNat + i.imm)) _ a0 a1 v0 v1 x w h ho hl hns hqs hcu
  · have hw : wide i.op = 2 := by rw [ho]; rfl
    have he := exec_store r.s i (by omega) (by omega)
    rw [hw] at he
    by_cases ha : (u32 (r.s.regs i.rs1.toNat + i.imm)) % 2 = 0
    · rw [if_neg (by simpa using ha)] at he
      cases hl : lies r.s (u32 (r.s.regs i.rs1.toNat + i.imm)) 2
      · rw [if_neg (by rw [hl]; decide)] at he
        rw [he]
        exact rmem_16_fault B b i hi r hs (u32 (r.s.regs i.rs1.toNat + i.imm)) _ a0 a1 v0 v1 x w h ho (by rw [ha]; rfl) hl
      · rw [if_pos hl] at he
        rw [he, ho]
        exact rmem_16_ok B b i hi r hs (u32 (r.s.regs i.rs1.toNat + i.imm)) _ a0 a1 v0 v1 x w h ho (by rw [ha]; rfl) hl hns hqs hcu
    · rw [if_pos (by simpa using ha)] at he
      rw [he]
      exact rmem_16_align B b i hi r hs (u32 (r.s.regs i.rs1.toNat + i.imm)) _ a0 a1 v0 v1 x w h ho (by rw [bne_iff_ne]; exact ha)
  · have hw : wide i.op = 4 := by rw [ho]; rfl
    have he := exec_store r.s i (by omega) (by omega)
    rw [hw] at he
    by_cases ha : (u32 (r.s.regs i.rs1.toNat + i.imm)) % 4 = 0
    · rw [if_neg (by simpa using ha)] at he
      cases hl : lies r.s (u32 (r.s.regs i.rs1.toNat + i.imm)) 4
      · rw [if_neg (by rw [hl]; decide)] at he
        rw [he]
        exact rmem_17_fault B b i hi r hs (u32 (r.s.regs i.rs1.toNat + i.imm)) _ a0 a1 v0 v1 x w h ho (by rw [ha]; rfl) hl
      · rw [if_pos hl] at he
        rw [he, ho]
        exact rmem_17_ok B b i hi r hs (u32 (r.s.regs i.rs1.toNat + i.imm)) _ a0 a1 v0 v1 x w h ho (by rw [ha]; rfl) hl hns hqs hcu
    · rw [if_pos (by simpa using ha)] at he
      rw [he]
      exact rmem_17_align B b i hi r hs (u32 (r.s.regs i.rs1.toNat + i.imm)) _ a0 a1 v0 v1 x w h ho (by rw [bne_iff_ne]; exact ha)
set_option maxRecDepth 100000 in
set_option maxHeartbeats 400000 in
theorem rdo_mem_trap (B b : Nat) (i : Ins) (hi : i.Ok) (r : RS) (hs : r.s.Ok) (st0 : 0 ≤ r.s.steps) (st1 : r.s.steps ≤ 10000) (x : RRaw) (w : World) (h : RMach B w b r x) (hns : r.slots.length ≤ 64) (hqs : ∀ q ∈ r.slots, SlotOk q) (hcu : SlotOk r.cur) (h0 : 10 ≤ i.op) (h9 : i.op ≤ 17) (s' : St) (o : Int) (hx : exec r.s i = .trap s' o) :
    Calls Tryz.prog 63 #[.pointer (some ⟨b, 0, none⟩), .agg i.cells] w (RP B b w (.tuple #[]) (r.do_ i)) := by
  have hd : r.do_ i = r.part (exec r.s i) := do_partT hx
  have hv : (exec r.s i).isGo = false := by rw [hx]; rfl
  have hi0 := hi
  unfold Ins.cells
  obtain ⟨d0, d1⟩ := hi.rd
  obtain ⟨a0, a1⟩ := hi.rs1
  obtain ⟨c0, c1⟩ := hi.rs2
  obtain ⟨m0, m1⟩ := hi.imm
  obtain ⟨v0, v1⟩ := hs.regs i.rs1.toNat
  obtain ⟨y0, y1⟩ := hs.regs i.rs2.toNat
  obtain ⟨p0, p1⟩ := hs.pc
  have hr1 := h.mac.reg i.rs1.toNat (by omega)
  have hr2 := h.mac.reg i.rs2.toNat (by omega)
  have hp := h.mac.pc
  have hst := h.mac.steps
  have f1 := h.mac.free 1
  have f37 := h.mac.free 37
  have hsz := h.mac.lt
  have H := Lib.hid h
  have HD := Lib.hid hd
  clear h hd
  have n2 : (i.op == 2) = false := by simp; omega
  have n3 : (i.op == 3) = false := by simp; omega
  have n46 : (i.op == 46) = false := by simp; omega
  have n47 : (i.op == 47) = false := by simp; omega
  have m9 : ¬ i.op ≤ 9 := by omega
  have m4 : 4 ≤ i.op := by omega
  have m18 : i.op < 18 := by omega
  go_enter Tryz.func63, Tryz.ntmps63
  go_wp2_with fail
  go_quiet (fail)
  go_wp2_with fail
  go_quiet (fail)
  go_wp2_with fail
  refine (rmem_any B b i hi0 r hs x _ (H.out.no ?_) hns hqs hcu h0 h9).mono ?_
  all_goals repeat (first | with_reducible exact Only.refl _ _ | with_reducible refine Only.alloc ?_ _ | with_reducible refine Only.drewN ?_ _ | with_reducible refine Only.drew ?_)
  rw [hv]
  rintro e w1 ⟨rfl, hM1, ho1⟩
  go_wp2_with fail
  first | go_end0 | refine bodyPost_ret (results_none rfl _ _ _) rfl ?_
  rw [HD.out]
  refine ⟨rfl, hM1, Only.then (Only.up0 ?_) ho1⟩
  all_goals repeat (first | with_reducible exact Only.refl _ _ | with_reducible refine Only.alloc ?_ _ | with_reducible refine Only.drewN ?_ _ | with_reducible refine Only.drew ?_)
set_option maxRecDepth 100000 in
set_option maxHeartbeats 400000 in
theorem rdo_mem_go (B b : Nat) (i : Ins) (hi : i.Ok) (r : RS) (hs : r.s.Ok) (st0 : 0 ≤ r.s.steps) (st1 : r.s.steps ≤ 10000) (x : RRaw) (w : World) (h : RMach B w b r x) (hns : r.slots.length ≤ 64) (hqs : ∀ q ∈ r.slots, SlotOk q) (hcu : SlotOk r.cur) (h0 : 10 ≤ i.op) (h9 : i.op ≤ 17) (s' : St) (next : Int) (wr : Option (Int × Int)) (hx : exec r.s i = .go s' next wr) :
    Calls Tryz.prog 63 #[.pointer (some ⟨b, 0, none⟩), .agg i.cells] w (RP B b w (.tuple #[]) (r.do_ i)) := by
  have hn : next = u32 (r.s.pc + 4) := mem_next h0 h9 hx
  have hd : r.do_ i = { r.part (exec r.s i) with s := (r.part (exec r.s i)).s.step next } := do_part hx (nojump _ _ (by omega))
  rw [hn] at hd
  have hv : (exec r.s i).isGo = true := by rw [hx]; rfl
  have hst0 : (r.part (exec r.s i)).s.steps = r.s.steps := by
    rw [hx, part_steps.1]
    exact (exec_mem hs hi hx).2.1
  have HST := Lib.hid hst0
  have HN := Lib.hid hn
  have HX := Lib.hid hx
  clear hn hx hst0
  have hi0 := hi
  unfold Ins.cells
  obtain ⟨d0, d1⟩ := hi.rd
  obtain ⟨a0, a1⟩ := hi.rs1
  obtain ⟨c0, c1⟩ := hi.rs2
  obtain ⟨m0, m1⟩ := hi.imm
  obtain ⟨v0, v1⟩ := hs.regs i.rs1.toNat
  obtain ⟨y0, y1⟩ := hs.regs i.rs2.toNat
  obtain ⟨p0, p1⟩ := hs.pc
  have hr1 := h.mac.reg i.rs1.toNat (by omega)
  have hr2 := h.mac.reg i.rs2.toNat (by omega)
  have hp := h.mac.pc
  have hst := h.mac.steps
  have f1 := h.mac.free 1
  have f37 := h.mac.free 37
  have hsz := h.mac.lt
  have H := Lib.hid h
  have HD := Lib.hid hd
  clear h hd
  have n2 : (i.op == 2) = false := by simp; omega
  have n3 : (i.op == 3) = false := by simp; omega
  have n46 : (i.op == 46) = false := by simp; omega
  have n47 : (i.op == 47) = false := by simp; omega
  have m9 : ¬ i.op ≤ 9 := by omega
  have m4 : 4 ≤ i.op := by omega
  have m18 : i.op < 18 := by omega
  go_enter Tryz.func63, Tryz.ntmps63
  go_wp2_with fail
  go_quiet (fail)
  go_wp2_with fail
  go_quiet (fail)
  go_wp2_with fail
  refine (rmem_any B b i hi0 r hs x _ (H.out.no ?_) hns hqs hcu h0 h9).mono ?_
  all_goals repeat (first | with_reducible exact Only.refl _ _ | with_reducible refine Only.alloc ?_ _ | with_reducible refine Only.drewN ?_ _ | with_reducible refine Only.drew ?_)
  rw [hv]
  rintro e w1 ⟨rfl, ⟨x1, hM1⟩, ho1⟩
  have e37 : (r.part (exec r.s i)).s.steps = r.s.steps := HST.out
  have q1 := hM1.mac.pc
  have q37 := hM1.mac.steps
  rw [e37] at q37
  have g1 := hM1.mac.free 1
  have g37 := hM1.mac.free 37
  have s1 := hM1.mac.lt
  have HM1 := Lib.hid hM1
  have HO1 := Lib.hid ho1
  clear hr1 hr2 hp hst f1 f37 hM1 ho1
  go_wp2_with fail
  first | go_end0 | refine bodyPost_ret (results_none rfl _ _ _) rfl ?_
  refine RM.end2 HM1.out (Only.then (Only.up0 ?_) HO1.out) (by rw [e37]) HD.out
  all_goals repeat (first | with_reducible exact Only.refl _ _ | with_reducible refine Only.alloc ?_ _ | with_reducible refine Only.drewN ?_ _ | with_reducible refine Only.drew ?_)
set_option maxRecDepth 100000 in
set_option maxHeartbeats 400000 in
theorem rdo_call_trap (B b : Nat) (i : Ins) (hi : i.Ok) (r : RS) (hs : r.s.Ok) (st0 : 0 ≤ r.s.steps) (st1 : r.s.steps ≤ 10000) (x : RRaw) (w : World) (h : RMach B w b r x) (hns : r.slots.length ≤ 64) (hqs : ∀ q ∈ r.slots, SlotOk q) (hcu : SlotOk r.cur) (hev : r.s.evs.length ≤ 1000000) (hend : r.ended = false) (h0 : i.op = 46) (s' : St) (o : Int) (hx : exec r.s i = .trap s' o) :
    Calls Tryz.prog 63 #[.pointer (some ⟨b, 0, none⟩), .agg i.cells] w (RP B b w (.tuple #[]) (r.do_ i)) := by
  have hd : r.do_ i = r.part (exec r.s i) := do_partT hx
  have hv : (r.part (exec r.s i)).ended = true := by rw [hx]; rfl
  have hcx : exec r.s i = doCall r.s (u32 (r.s.pc + 4)) := exec_call _ _ h0
  have HX := Lib.hid hx
  have HV := Lib.hid hv
  have HCX := Lib.hid hcx
  clear hx hv hcx
  have hi0 := hi
  unfold Ins.cells
  obtain ⟨d0, d1⟩ := hi.rd
  obtain ⟨a0, a1⟩ := hi.rs1
  obtain ⟨c0, c1⟩ := hi.rs2
  obtain ⟨m0, m1⟩ := hi.imm
  obtain ⟨v0, v1⟩ := hs.regs i.rs1.toNat
  obtain ⟨y0, y1⟩ := hs.regs i.rs2.toNat
  obtain ⟨p0, p1⟩ := hs.pc
  have hr1 := h.mac.reg i.rs1.toNat (by omega)
  have hr2 := h.mac.reg i.rs2.toNat (by omega)
  have hp := h.mac.pc
  have hst := h.mac.steps
  have f1 := h.mac.free 1
  have f37 := h.mac.free 37
  have hsz := h.mac.lt
  have H := Lib.hid h
  have HD := Lib.hid hd
  clear h hd
  go_enter Tryz.func63, Tryz.ntmps63
  go_wp2_with fail
  go_quiet (fail)
  go_wp2_with fail
  go_quiet (fail)
  go_wp2_with fail
  refine (rcall_any B b r hs (u32 (r.s.pc + 4)) hev st0 st1 hns hqs hcu x _ (H.out.no ?_)).mono ?_
  all_goals repeat (first | with_reducible exact Only.refl _ _ | with_reducible refine Only.alloc ?_ _ | with_reducible refine Only.drewN ?_ _ | with_reducible refine Only.drew ?_)
  rw [← HCX.out]
  rintro e w1 ⟨rfl, ⟨x1, hM1⟩, ho1⟩
  have q43 := hM1.mac.ended
  rw [HV.out] at q43
  go_wp2_with fail
  first | go_end0 | refine bodyPost_ret (results_none rfl _ _ _) rfl ?_
  rw [HD.out]
  refine ⟨rfl, ⟨x1, hM1⟩, Only.then (Only.up0 ?_) ho1⟩
  all_goals repeat (first | with_reducible exact Only.refl _ _ | with_reducible refine Only.alloc ?_ _ | with_reducible refine Only.drewN ?_ _ | with_reducible refine Only.drew ?_)
set_option maxRecDepth 100000 in
set_option maxHeartbeats 400000 in
theorem rdo_call_go (B b : Nat) (i : Ins) (hi : i.Ok) (r : RS) (hs : r.s.Ok) (st0 : 0 ≤ r.s.steps) (st1 : r.s.steps ≤ 10000) (x : RRaw) (w : World) (h : RMach B w b r x) (hns : r.slots.length ≤ 64) (hqs : ∀ q ∈ r.slots, SlotOk q) (hcu : SlotOk r.cur) (hev : r.s.evs.length ≤ 1000000) (hend : r.ended = false) (h0 : i.op = 46) (s' : St) (next : Int) (wr : Option (Int × Int)) (hx : exec r.s i = .go s' next wr) :
    Calls Tryz.prog 63 #[.pointer (some ⟨b, 0, none⟩), .agg i.cells] w (RP B b w (.tuple #[]) (r.do_ i)) := by
  have hcx : exec r.s i = doCall r.s (u32 (r.s.pc + 4)) := exec_call _ _ h0
  have hn : next = u32 (r.s.pc + 4) := call_next (hcx.symm.trans hx)
  have hd : r.do_ i = { r.part (exec r.s i) with s := (r.part (exec r.s i)).s.step next } := do_part hx (nojump _ _ (by omega))
  rw [hn] at hd
  have hv : (r.part (exec r.s i)).ended = false := by rw [hx, part_steps.2, hend]
  have hst0 : (r.part (exec r.s i)).s.steps = r.s.steps := by
    rw [hx, part_steps.1]
    exact (exec_mem hs hi hx).2.1
  have HST := Lib.hid hst0
  have HN := Lib.hid hn
  have HX := Lib.hid hx
  have HV := Lib.hid hv
  have HCX := Lib.hid hcx
  clear hn hx hst0 hv hcx
  have hi0 := hi
  unfold Ins.cells
  obtain ⟨d0, d1⟩ := hi.rd
  obtain ⟨a0, a1⟩ := hi.rs1
  obtain ⟨c0, c1⟩ := hi.rs2
  obtain ⟨m0, m1⟩ := hi.imm
  obtain ⟨v0, v1⟩ := hs.regs i.rs1.toNat
  obtain ⟨y0, y1⟩ := hs.regs i.rs2.toNat
  obtain ⟨p0, p1⟩ := hs.pc
  have hr1 := h.mac.reg i.rs1.toNat (by omega)
  have hr2 := h.mac.reg i.rs2.toNat (by omega)
  have hp := h.mac.pc
  have hst := h.mac.steps
  have f1 := h.mac.free 1
  have f37 := h.mac.free 37
  have hsz := h.mac.lt
  have H := Lib.hid h
  have HD := Lib.hid hd
  clear h hd
  go_enter Tryz.func63, Tryz.ntmps63
  go_wp2_with fail
  go_quiet (fail)
  go_wp2_with fail
  go_quiet (fail)
  go_wp2_with fail
  refine (rcall_any B b r hs (u32 (r.s.pc + 4)) hev st0 st1 hns hqs hcu x _ (H.out.no ?_)).mono ?_
  all_goals repeat (first | with_reducible exact Only.refl _ _ | with_reducible refine Only.alloc ?_ _ | with_reducible refine Only.drewN ?_ _ | with_reducible refine Only.drew ?_)
  rw [← HCX.out]
  rintro e w1 ⟨rfl, ⟨x1, hM1⟩, ho1⟩
  have q43 := hM1.mac.ended
  rw [HV.out] at q43
  have e37 : (r.part (exec r.s i)).s.steps = r.s.steps := HST.out
  have q1 := hM1.mac.pc
  have q37 := hM1.mac.steps
  rw [e37] at q37
  have g1 := hM1.mac.free 1
  have g37 := hM1.mac.free 37
  have s1 := hM1.mac.lt
  have HM1 := Lib.hid hM1
  have HO1 := Lib.hid ho1
  clear hr1 hr2 hp hst f1 f37 hM1 ho1
  go_wp2_with fail
  first | go_end0 | refine bodyPost_ret (results_none rfl _ _ _) rfl ?_
  refine RM.end2 HM1.out (Only.then (Only.up0 ?_) HO1.out) (by rw [e37]) HD.out
  all_goals repeat (first | with_reducible exact Only.refl _ _ | with_reducible refine Only.alloc ?_ _ | with_reducible refine Only.drewN ?_ _ | with_reducible refine Only.drew ?_)
theorem rdo_any (B b : Nat) (i : Ins) (hi : i.Ok) (r : RS) (hs : r.s.Ok) (st0 : 0 ≤ r.s.steps) (st1 : r.s.steps ≤ 10000) (x : RRaw) (w : World) (h : RMach B w b r x) (hns : r.slots.length ≤ 64) (hqs : ∀ q ∈ r.slots, SlotOk q) (hcu : SlotOk r.cur) (hev : r.s.evs.length ≤ 1000000) (hend : r.ended = false) :
    Calls Tryz.prog 63 #[.pointer (some ⟨b, 0, none⟩), .agg i.cells] w (RP B b w (.tuple #[]) (r.do_ i)) := by
  obtain ⟨o0, o1⟩ := hi.op
  by_cases h0 : i.op = 0
  · exact rdo_0 B b i hi r hs st0 st1 x w h h0
  by_cases h1 : i.op = 1
  · exact rdo_1 B b i hi r hs st0 st1 x w h h1
  by_cases h2 : i.op = 2
  · by_cases ht : (u32 (r.s.pc + i.imm)) % 4 = 0
    · exact rdo_2_yes B b i hi r hs st0 st1 x w h h2 ht
    · exact rdo_2_no B b i hi r hs st0 st1 x w h h2 ht
  by_cases h2 : i.op = 3
  · by_cases ht : (u32 (r.s.regs i.rs1.toNat + i.imm) / 2 * 2) % 4 = 0
    · exact rdo_3_yes B b i hi r hs st0 st1 x w h h2 ht
    · exact rdo_3_no B b i hi r hs st0 st1 x w h h2 ht
  by_cases h2 : i.op = 4
  · cases hy : (r.s.regs i.rs1.toNat == r.s.regs i.rs2.toNat)
    · exact rdo_4_f B b i hi r hs st0 st1 x w h h2 hy
    · by_cases ht : (u32 (r.s.pc + i.imm)) % 4 = 0
      · exact rdo_4_yes B b i hi r hs st0 st1 x w h h2 hy ht
      · exact rdo_4_no B b i hi r hs st0 st1 x w h h2 hy ht
  by_cases h2 : i.op = 5
  · cases hy : (r.s.regs i.rs1.toNat != r.s.regs i.rs2.toNat)
    · exact rdo_5_f B b i hi r hs st0 st1 x w h h2 hy
    · by_cases ht : (u32 (r.s.pc + i.imm)) % 4 = 0
      · exact rdo_5_yes B b i hi r hs st0 st1 x w h h2 hy ht
      · exact rdo_5_no B b i hi r hs st0 st1 x w h h2 hy ht
  by_cases h2 : i.op = 6
  · cases hy : decide (wrap32 (r.s.regs i.rs1.toNat) < wrap32 (r.s.regs i.rs2.toNat))
    · exact rdo_6_f B b i hi r hs st0 st1 x w h h2 hy
    · by_cases ht : (u32 (r.s.pc + i.imm)) % 4 = 0
      · exact rdo_6_yes B b i hi r hs st0 st1 x w h h2 hy ht
      · exact rdo_6_no B b i hi r hs st0 st1 x w h h2 hy ht
  by_cases h2 : i.op = 7
  · cases hy : decide (wrap32 (r.s.regs i.rs2.toNat) ≤ wrap32 (r.s.regs i.rs1.toNat))
    · exact rdo_7_f B b i hi r hs st0 st1 x w h h2 hy
    · by_cases ht : (u32 (r.s.pc + i.imm)) % 4 = 0
      · exact rdo_7_yes B b i hi r hs st0 st1 x w h h2 hy ht
      · exact rdo_7_no B b i hi r hs st0 st1 x w h h2 hy ht
  by_cases h2 : i.op = 8
  · cases hy : decide (r.s.regs i.rs1.toNat < r.s.regs i.rs2.toNat)
    · exact rdo_8_f B b i hi r hs st0 st1 x w h h2 hy
    · by_cases ht : (u32 (r.s.pc + i.imm)) % 4 = 0
      · exact rdo_8_yes B b i hi r hs st0 st1 x w h h2 hy ht
      · exact rdo_8_no B b i hi r hs st0 st1 x w h h2 hy ht
  by_cases h2 : i.op = 9
  · cases hy : decide (r.s.regs i.rs2.toNat ≤ r.s.regs i.rs1.toNat)
    · exact rdo_9_f B b i hi r hs st0 st1 x w h h2 hy
    · by_cases ht : (u32 (r.s.pc + i.imm)) % 4 = 0
      · exact rdo_9_yes B b i hi r hs st0 st1 x w h h2 hy ht
      · exact rdo_9_no B b i hi r hs st0 st1 x w h h2 hy ht
  by_cases h17 : i.op ≤ 17
  · cases hx : exec r.s i with
    | trap s' o => exact rdo_mem_trap B b i hi r hs st0 st1 x w h hns hqs hcu (by omega) h17 s' o hx
    | go s' next wr => exact rdo_mem_go B b i hi r hs st0 st1 x w h hns hqs hcu (by omega) h17 s' next wr hx
  by_cases h26 : i.op ≤ 26
  · exact rdo_num B b i hi r hs st0 st1 x w h (by omega) h26
  by_cases h44 : i.op ≤ 44
  · exact rdo_reg B b i hi r hs st0 st1 x w h (by omega) h44
  by_cases h45 : i.op = 45
  · exact rdo_45 B b i hi r hs st0 st1 x w h h45
  by_cases h46 : i.op = 46
  · cases hx : exec r.s i with
    | trap s' o => exact rdo_call_trap B b i hi r hs st0 st1 x w h hns hqs hcu hev hend h46 s' o hx
    | go s' next wr => exact rdo_call_go B b i hi r hs st0 st1 x w h hns hqs hcu hev hend h46 s' next wr hx
  exact rdo_47 B b i hi r hs st0 st1 x w h (by omega)
end Go.Proofs.YtanccjaikocefaaGreatDoor
