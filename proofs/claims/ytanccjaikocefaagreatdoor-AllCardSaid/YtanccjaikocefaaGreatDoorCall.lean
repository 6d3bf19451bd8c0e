/-
  The contract of 'call' (ECALL), a case at a time: as the plain machine has it. Conditions: the machine lies in memory; the events are fewer than a million; 'write' does what it says ('WriteSpec').
-/
import Derived.Test.YtanccjaikocefaaGreatDoorStore
import Derived.Lib.ConvBytes
namespace Go.Proofs.YtanccjaikocefaaGreatDoor
open Go.ChangeShapes Go.WideShapes Go.ChangeAt Go.RowKit
set_option linter.unusedVariables false

theorem Keep.back {w w1 : World} {x y : Raw} {S : Nat → Prop} (h : Keep w1 x y) (ho : Only S w w1) : Keep w x y :=
  ⟨h.1, h.2.1, h.2.2.1, h.2.2.2.imp id (fun ⟨g, e, l⟩ => ⟨g, e, Nat.le_trans ho.size l⟩)⟩
theorem Mach.no {w w1 : World} {b : Nat} {s : St} {x : Raw} (h : Mach w b s x) (ho : Only (fun _ => False) w w1) : Mach w1 b s x := h.only ho (fun h => h) (fun h => h) (fun h => h) (fun _ _ h => h)
theorem Only.no {S : Nat → Prop} {w w1 : World} (h : Only (fun _ => False) w w1) : Only S w w1 := h.mono (fun _ _ k => k.elim)
theorem does_tell {eff : Int → Int → World → World → Prop} {b : Nat} {s s2 s' : St} {x x2 : Raw} {i : Ins} {w w1 w' : World} {next : Int} {e : Ev} (he : exec s i = .go s' next none) (hM : Mach w1 b { s with evs := s.evs ++ [e] } x2) (hx : x2.next = next) (hK : Keep w x x2) (hO : Only (Mb b x) w w1)
    (ho : Only (· = b) w1 w') (hc : MacAt w' b s2 x2) (hs : s2.clr = s') (e1 : s2.mem = s.mem) (e2 : s2.ans = s.ans) (e3 : s2.evs = s.evs ++ [e]) : DoesQ eff b s x i w (.returned (.tuple #[])) w' := by
  unfold DoesQ
  rw [he]
  exact ⟨rfl, s2, x2, hM.struct ho hc rfl rfl rfl rfl e1 e2 e3, hs, hx, hK, hO.then ho.mb⟩
set_option maxRecDepth 100000 in
set_option maxHeartbeats 400000 in
theorem call_exit (eff : Int → Int → World → World → Prop) (b : Nat) (i : Ins) (hi : i.Ok) (s : St) (hs : s.Ok) (x : Raw) (w : World) (h : Mach w b s x) (ho : i.op = 46) (hn : x.next = u32 (s.pc + 4)) (hev : s.evs.length ≤ 1000000) (hst0 : 0 ≤ s.steps) (hst1 : s.steps ≤ 10000) (hc : s.regs 17 = 93) :
    Calls Tryz.prog 56 #[.pointer (some ⟨b, 0, none⟩), .agg i.cells] w (DoesQ eff b s x i w) := by
  have he : exec s i = .trap { s with evs := s.evs ++ [Ev.mk 93 (s.regs 10) ByteArray.empty], steps := s.steps + 1 } 1 := by simp [exec, ho, doCall, hc]
  unfold Ins.cells
  obtain ⟨v0, v1⟩ := hs.regs 10
  obtain ⟨at0, at1⟩ := hs.regs 11
  obtain ⟨n0, n1⟩ := hs.regs 12
  have h10 := h.mac.reg 10 (by omega)
  have h11 := h.mac.reg 11 (by omega)
  have h12 := h.mac.reg 12 (by omega)
  have h17 := h.mac.reg 17 (by omega)
  have f10 := h.mac.free 10
  have hsz := h.mac.lt
  have hlen := hs.len
  rw [hc] at h17
  clear hc
  have HN := Lib.hid hn
  have HE := Lib.hid he
  clear hn he
  go_enter Tryz.func56, Tryz.ntmps56
  go_wp2_with fail
  go_quiet (fail)
  go_wp2_with fail
  have hno : Only (fun _ => False) w _ := ((Only.refl _ w).alloc (.cells #[.int .i64 46, .int .i64 i.rd, .int .i64 i.rs1, .int .i64 i.rs2, .int .i32 i.imm] 32)).drewN nq
  refine (tell_any b s x 93 (s.regs 10) ⟨#[]⟩ _ (h.no hno) hev).mono ?_
  rintro e w1 ⟨rfl, v, hM1, hK, hO1⟩
  have g34 := hM1.mac.steps
  have gf34 := hM1.mac.free 34
  go_wp2_with fail
  refine (trap_any _ _ _).mono ?_
  rintro e w' ⟨rfl, rfl⟩
  go_wp2_with fail
  refine ⟨rfl, ?_⟩
  unfold DoesQ
  rw [HE.out]
  refine ⟨rfl, _, hM1.struct ((Only.refl _ _).set1 _ _) (hM1.mac.putSteps _) rfl rfl rfl rfl rfl rfl rfl, hK.back hno, (hno.no.then hO1).then (Only.mb ((Only.refl _ _).set1 _ _))⟩
set_option maxRecDepth 100000 in
set_option maxHeartbeats 400000 in
theorem call_nosys (eff : Int → Int → World → World → Prop) (b : Nat) (i : Ins) (hi : i.Ok) (s : St) (hs : s.Ok) (x : Raw) (w : World) (h : Mach w b s x) (ho : i.op = 46) (hn : x.next = u32 (s.pc + 4)) (hev : s.evs.length ≤ 1000000) (hc : (s.regs 17 == 93) = false) (hc2 : (s.regs 17 == 64) = false) (hc3 : (s.regs 17 == 63) = false) (hc4 : (s.regs 17 == 214) = false) :
    Calls Tryz.prog 56 #[.pointer (some ⟨b, 0, none⟩), .agg i.cells] w (DoesQ eff b s x i w) := by
  have he : exec s i = .go (s.set 10 4294967258) (u32 (s.pc + 4)) none := by simp [exec, ho, doCall, hc, hc2, hc3, hc4]
  unfold Ins.cells
  obtain ⟨v0, v1⟩ := hs.regs 10
  obtain ⟨at0, at1⟩ := hs.regs 11
  obtain ⟨n0, n1⟩ := hs.regs 12
  have h10 := h.mac.reg 10 (by omega)
  have h11 := h.mac.reg 11 (by omega)
  have h12 := h.mac.reg 12 (by omega)
  have h17 := h.mac.reg 17 (by omega)
  have f10 := h.mac.free 10
  have hsz := h.mac.lt
  have hlen := hs.len
  have HN := Lib.hid hn
  have HE := Lib.hid he
  clear hn he
  go_enter Tryz.func56, Tryz.ntmps56
  go_wp2_with fail
  go_quiet (fail)
  go_wp2_with fail
  go_end0
  refine does_set (d := 10) h hs.zero HE.out HN.out ?_ ?_
  · repeat (first | with_reducible refine MacAt.drew ?_ | with_reducible refine MacAt.drewN ?_ _ | with_reducible refine MacAt.alloc ?_ _)
    refine MacAt.putReg ?_ 10 _ (by omega)
    repeat (first | with_reducible refine MacAt.drew ?_ | with_reducible refine MacAt.drewN ?_ _ | with_reducible refine MacAt.alloc ?_ _)
    exact h.mac
  · repeat (first | with_reducible exact Only.refl _ _ | with_reducible refine Only.set1 ?_ _ _ | with_reducible refine Only.alloc ?_ _ | with_reducible refine Only.drewN ?_ _ | with_reducible refine Only.drew ?_)
set_option maxRecDepth 100000 in
set_option maxHeartbeats 400000 in
theorem call_write_f (eff : Int → Int → World → World → Prop) (b : Nat) (i : Ins) (hi : i.Ok) (s : St) (hs : s.Ok) (x : Raw) (w : World) (h : Mach w b s x) (ho : i.op = 46) (hn : x.next = u32 (s.pc + 4)) (hev : s.evs.length ≤ 1000000) (hc : s.regs 17 = 64) (hl : lies s (s.regs 11) (s.regs 12) = false) :
    Calls Tryz.prog 56 #[.pointer (some ⟨b, 0, none⟩), .agg i.cells] w (DoesQ eff b s x i w) := by
  have he : exec s i = .go (s.set 10 4294967282) (u32 (s.pc + 4)) none := by simp [exec, ho, doCall, hc, hl]
  unfold Ins.cells
  obtain ⟨v0, v1⟩ := hs.regs 10
  obtain ⟨at0, at1⟩ := hs.regs 11
  obtain ⟨n0, n1⟩ := hs.regs 12
  have h10 := h.mac.reg 10 (by omega)
  have h11 := h.mac.reg 11 (by omega)
  have h12 := h.mac.reg 12 (by omega)
  have h17 := h.mac.reg 17 (by omega)
  have f10 := h.mac.free 10
  have hsz := h.mac.lt
  have hlen := hs.len
  rw [hc] at h17
  have HL := Lib.hid hl
  clear hc hl
  have HN := Lib.hid hn
  have HE := Lib.hid he
  clear hn he
  go_enter Tryz.func56, Tryz.ntmps56
  go_wp2_with fail
  go_quiet (fail)
  go_wp2_with fail
  refine (lies_any b _ _ s x _ ?_ (by omega) (by omega) (by omega) (by omega) hs.len).mono ?_
  · repeat (first | with_reducible refine MacAt.drew ?_ | with_reducible refine MacAt.drewN ?_ _ | with_reducible refine MacAt.alloc ?_ _)
    exact h.mac
  rintro e w' ⟨rfl, rfl⟩
  rw [HL.out]
  go_wp2_with fail
  first | go_end0 | refine bodyPost_ret (results_none rfl _ _ _) rfl ?_
  refine does_set (d := 10) h hs.zero HE.out HN.out ?_ ?_
  · repeat (first | with_reducible refine MacAt.drew ?_ | with_reducible refine MacAt.drewN ?_ _ | with_reducible refine MacAt.alloc ?_ _)
    refine MacAt.putReg ?_ 10 _ (by omega)
    repeat (first | with_reducible refine MacAt.drew ?_ | with_reducible refine MacAt.drewN ?_ _ | with_reducible refine MacAt.alloc ?_ _)
    exact h.mac
  · repeat (first | with_reducible exact Only.refl _ _ | with_reducible refine Only.set1 ?_ _ _ | with_reducible refine Only.alloc ?_ _ | with_reducible refine Only.drewN ?_ _ | with_reducible refine Only.drew ?_)
set_option maxRecDepth 100000 in
set_option maxHeartbeats 400000 in
theorem call_read_f (eff : Int → Int → World → World → Prop) (b : Nat) (i : Ins) (hi : i.Ok) (s : St) (hs : s.Ok) (x : Raw) (w : World) (h : Mach w b s x) (ho : i.op = 46) (hn : x.next = u32 (s.pc + 4)) (hev : s.evs.length ≤ 1000000) (hc : s.regs 17 = 63) (hl : lies s (s.regs 11) (s.regs 12) = false) :
    Calls Tryz.prog 56 #[.pointer (some ⟨b, 0, none⟩), .agg i.cells] w (DoesQ eff b s x i w) := by
  have he : exec s i = .go (s.set 10 4294967282) (u32 (s.pc + 4)) none := by simp [exec, ho, doCall, hc, hl]
  unfold Ins.cells
  obtain ⟨v0, v1⟩ := hs.regs 10
  obtain ⟨at0, at1⟩ := hs.regs 11
  obtain ⟨n0, n1⟩ := hs.regs 12
  have h10 := h.mac.reg 10 (by omega)
  have h11 := h.mac.reg 11 (by omega)
  have h12 := h.mac.reg 12 (by omega)
  have h17 := h.mac.reg 17 (by omega)
  have f10 := h.mac.free 10
  have hsz := h.mac.lt
  have hlen := hs.len
  rw [hc] at h17
  have HL := Lib.hid hl
  clear hc hl
  have HN := Lib.hid hn
  have HE := Lib.hid he
  clear hn he
  go_enter Tryz.func56, Tryz.ntmps56
  go_wp2_with fail
  go_quiet (fail)
  go_wp2_with fail
  refine (lies_any b _ _ s x _ ?_ (by omega) (by omega) (by omega) (by omega) hs.len).mono ?_
  · repeat (first | with_reducible refine MacAt.drew ?_ | with_reducible refine MacAt.drewN ?_ _ | with_reducible refine MacAt.alloc ?_ _)
    exact h.mac
  rintro e w' ⟨rfl, rfl⟩
  rw [HL.out]
  go_wp2_with fail
  first | go_end0 | refine bodyPost_ret (results_none rfl _ _ _) rfl ?_
  refine does_set (d := 10) h hs.zero HE.out HN.out ?_ ?_
  · repeat (first | with_reducible refine MacAt.drew ?_ | with_reducible refine MacAt.drewN ?_ _ | with_reducible refine MacAt.alloc ?_ _)
    refine MacAt.putReg ?_ 10 _ (by omega)
    repeat (first | with_reducible refine MacAt.drew ?_ | with_reducible refine MacAt.drewN ?_ _ | with_reducible refine MacAt.alloc ?_ _)
    exact h.mac
  · repeat (first | with_reducible exact Only.refl _ _ | with_reducible refine Only.set1 ?_ _ _ | with_reducible refine Only.alloc ?_ _ | with_reducible refine Only.drewN ?_ _ | with_reducible refine Only.drew ?_)
theorem lies_q (b : Nat) (at_ n : Int) (s : St) (x : Raw) (w : World) (h : MacAt w b s x) (h0 : 0 ≤ at_) (h1 : at_ < 4294967296) (g0 : 0 ≤ n) (g1 : n < 4294967296) (hl : s.mem.length ≤ 512) (r : Bool) (hr : lies s at_ n = r) :
    Calls Tryz.prog 47 #[.pointer (some ⟨b, 0, none⟩), .int .u32 at_, .int .u32 n] w fun e w' => e = .returned (.bool r) ∧ w' = w :=
  (lies_any b at_ n s x w h h0 h1 g0 g1 hl).mono (fun _ _ k => ⟨hr ▸ k.1, k.2.symm⟩)
set_option maxRecDepth 100000 in
set_option maxHeartbeats 400000 in
theorem call_brk_n (eff : Int → Int → World → World → Prop) (b : Nat) (i : Ins) (hi : i.Ok) (s : St) (hs : s.Ok) (x : Raw) (w : World) (h : Mach w b s x) (ho : i.op = 46) (hn : x.next = u32 (s.pc + 4)) (hev : s.evs.length ≤ 1000000) (hc : s.regs 17 = 214) (hl : ¬ s.low ≤ s.regs 10) :
    Calls Tryz.prog 56 #[.pointer (some ⟨b, 0, none⟩), .agg i.cells] w (DoesQ eff b s x i w) := by
  have he : exec s i = .go (s.set 10 s.brk) (u32 (s.pc + 4)) none := by simp [exec, ho, doCall, hc, hl]
  unfold Ins.cells
  obtain ⟨v0, v1⟩ := hs.regs 10
  obtain ⟨at0, at1⟩ := hs.regs 11
  obtain ⟨n0, n1⟩ := hs.regs 12
  have h10 := h.mac.reg 10 (by omega)
  have h11 := h.mac.reg 11 (by omega)
  have h12 := h.mac.reg 12 (by omega)
  have h17 := h.mac.reg 17 (by omega)
  have f10 := h.mac.free 10
  have hsz := h.mac.lt
  have hlen := hs.len
  rw [hc] at h17
  clear hc
  have h37 := h.mac.low
  have h38 := h.mac.brk
  have f38 := h.mac.free 38
  obtain ⟨l0, l1⟩ := hs.low
  have hd : decide (s.low ≤ s.regs 10) = false := by simpa using hl
  have HN := Lib.hid hn
  have HE := Lib.hid he
  clear hn he
  go_enter Tryz.func56, Tryz.ntmps56
  go_wp2_with fail
  go_quiet (fail)
  go_wp2_with fail
  go_quiet (fail)
  go_wp2_with fail
  go_end0
  refine does_set (d := 10) h hs.zero HE.out HN.out ?_ ?_
  · repeat (first | with_reducible refine MacAt.drew ?_ | with_reducible refine MacAt.drewN ?_ _ | with_reducible refine MacAt.alloc ?_ _)
    refine MacAt.putReg ?_ 10 _ (by omega)
    repeat (first | with_reducible refine MacAt.drew ?_ | with_reducible refine MacAt.drewN ?_ _ | with_reducible refine MacAt.alloc ?_ _)
    exact h.mac
  · repeat (first | with_reducible exact Only.refl _ _ | with_reducible refine Only.set1 ?_ _ _ | with_reducible refine Only.alloc ?_ _ | with_reducible refine Only.drewN ?_ _ | with_reducible refine Only.drew ?_)
set_option maxRecDepth 100000 in
set_option maxHeartbeats 400000 in
theorem call_brk_f (eff : Int → Int → World → World → Prop) (b : Nat) (i : Ins) (hi : i.Ok) (s : St) (hs : s.Ok) (x : Raw) (w : World) (h : Mach w b s x) (ho : i.op = 46) (hn : x.next = u32 (s.pc + 4)) (hev : s.evs.length ≤ 1000000) (hc : s.regs 17 = 214) (hg : s.low ≤ s.regs 10) (hl : lies s (s.regs 10) 0 = false) :
    Calls Tryz.prog 56 #[.pointer (some ⟨b, 0, none⟩), .agg i.cells] w (DoesQ eff b s x i w) := by
  have he : exec s i = .go (s.set 10 s.brk) (u32 (s.pc + 4)) none := by simp [lies] at hl; simp [exec, ho, doCall, hc, hg]; rw [if_neg (by omega)]
  unfold Ins.cells
  obtain ⟨v0, v1⟩ := hs.regs 10
  obtain ⟨at0, at1⟩ := hs.regs 11
  obtain ⟨n0, n1⟩ := hs.regs 12
  have h10 := h.mac.reg 10 (by omega)
  have h11 := h.mac.reg 11 (by omega)
  have h12 := h.mac.reg 12 (by omega)
  have h17 := h.mac.reg 17 (by omega)
  have f10 := h.mac.free 10
  have hsz := h.mac.lt
  have hlen := hs.len
  rw [hc] at h17
  have HL := Lib.hid hl
  clear hc hl
  have h37 := h.mac.low
  have h38 := h.mac.brk
  have f38 := h.mac.free 38
  obtain ⟨l0, l1⟩ := hs.low
  have HN := Lib.hid hn
  have HE := Lib.hid he
  clear hn he
  go_enter Tryz.func56, Tryz.ntmps56
  go_wp2_with fail
  go_quiet (fail)
  go_wp2_with fail
  go_quiet ((go_at_call 47; exact (lies_q b _ _ s x _ ((h.mac.alloc _).drewN _) (by omega) (by omega) (by omega) (by omega) hs.len _ HL.out).mono (fun _ _ h => ⟨h.1, _, h.2⟩)))
  go_wp2_with fail
  go_end0
  refine does_set (d := 10) h hs.zero HE.out HN.out ?_ ?_
  · repeat (first | with_reducible refine MacAt.drew ?_ | with_reducible refine MacAt.drewN ?_ _ | with_reducible refine MacAt.alloc ?_ _)
    refine MacAt.putReg ?_ 10 _ (by omega)
    repeat (first | with_reducible refine MacAt.drew ?_ | with_reducible refine MacAt.drewN ?_ _ | with_reducible refine MacAt.alloc ?_ _)
    exact h.mac
  · repeat (first | with_reducible exact Only.refl _ _ | with_reducible refine Only.set1 ?_ _ _ | with_reducible refine Only.alloc ?_ _ | with_reducible refine Only.drewN ?_ _ | with_reducible refine Only.drew ?_)
set_option maxRecDepth 100000 in
set_option maxHeartbeats 400000 in
theorem call_brk_y (eff : Int → Int → World → World → Prop) (b : Nat) (i : Ins) (hi : i.Ok) (s : St) (hs : s.Ok) (x : Raw) (w : World) (h : Mach w b s x) (ho : i.op = 46) (hn : x.next = u32 (s.pc + 4)) (hev : s.evs.length ≤ 1000000) (hc : s.regs 17 = 214) (hg : s.low ≤ s.regs 10) (hl : lies s (s.regs 10) 0 = true) :
    Calls Tryz.prog 56 #[.pointer (some ⟨b, 0, none⟩), .agg i.cells] w (DoesQ eff b s x i w) := by
  have he : exec s i = .go ({ s with brk := s.regs 10 }.set 10 (s.regs 10)) (u32 (s.pc + 4)) none := by simp [lies] at hl; simp [exec, ho, doCall, hc, hg]; rw [if_pos (by omega)]
  unfold Ins.cells
  obtain ⟨v0, v1⟩ := hs.regs 10
  obtain ⟨at0, at1⟩ := hs.regs 11
  obtain ⟨n0, n1⟩ := hs.regs 12
  have h10 := h.mac.reg 10 (by omega)
  have h11 := h.mac.reg 11 (by omega)
  have h12 := h.mac.reg 12 (by omega)
  have h17 := h.mac.reg 17 (by omega)
  have f10 := h.mac.free 10
  have hsz := h.mac.lt
  have hlen := hs.len
  rw [hc] at h17
  have HL := Lib.hid hl
  clear hc hl
  have h37 := h.mac.low
  have h38 := h.mac.brk
  have f38 := h.mac.free 38
  obtain ⟨l0, l1⟩ := hs.low
  have HN := Lib.hid hn
  have HE := Lib.hid he
  clear hn he
  go_enter Tryz.func56, Tryz.ntmps56
  go_wp2_with fail
  go_quiet (fail)
  go_wp2_with fail
  go_quiet ((go_at_call 47; exact (lies_q b _ _ s x _ ((h.mac.alloc _).drewN _) (by omega) (by omega) (by omega) (by omega) hs.len _ HL.out).mono (fun _ _ h => ⟨h.1, _, h.2⟩)))
  go_wp2_with fail
  go_end0
  refine does_go (s2 := { s with brk := s.regs 10, regs := rset s.regs 10 (s.regs 10) }) h HE.out ?_ ?_ rfl rfl rfl ?_
  · repeat (first | with_reducible refine MacAt.drew ?_ | with_reducible refine MacAt.drewN ?_ _ | with_reducible refine MacAt.alloc ?_ _)
    refine MacAt.putReg (s := { s with brk := s.regs 10 }) ?_ 10 _ (by omega)
    repeat (first | with_reducible refine MacAt.drew ?_ | with_reducible refine MacAt.drewN ?_ _ | with_reducible refine MacAt.alloc ?_ _)
    refine MacAt.putBrk ?_ _
    repeat (first | with_reducible refine MacAt.drew ?_ | with_reducible refine MacAt.drewN ?_ _ | with_reducible refine MacAt.alloc ?_ _)
    have : x = { x with next := u32 (s.pc + 4) } := by rw [← HN.out]
    rw [← this]
    exact h.mac
  · exact clr_rset { s with brk := s.regs 10 } 10 _ hs.zero
  · repeat (first | with_reducible exact Only.refl _ _ | with_reducible refine Only.set1 ?_ _ _ | with_reducible refine Only.alloc ?_ _ | with_reducible refine Only.drewN ?_ _ | with_reducible refine Only.drew ?_)
end Go.Proofs.YtanccjaikocefaaGreatDoor
