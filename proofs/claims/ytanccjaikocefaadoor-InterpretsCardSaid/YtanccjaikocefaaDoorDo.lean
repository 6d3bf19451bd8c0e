/-
  The contract of 'Do' and of 'Find': 'Do' with the method that 'Find' gives does one step of the plain machine. Conditions: the machine lies in memory; numbers and fields are in their ranges; 'write' does what it says ('WriteSpec').
-/
import Derived.Test.YtanccjaikocefaaDoorDoes
import Derived.Test.YtanccjaikocefaaDoorKept
namespace Go.Proofs.YtanccjaikocefaaDoor
open Go.ChangeShapes Go.WideShapes Go.ChangeAt Go.RowKit
set_option linter.unusedVariables false

/-- What 'Do' comes to. -/
def StepP (eff : Int → Int → World → World → Prop) (b : Nat) (s : St) (x : Raw) (w : World) (e : Ending) (w' : World) : Out → Prop
  | .go s' next wr => e = .returned (.tuple #[]) ∧ ∃ x2, Mach w' b (s'.step next) x2 ∧ Keep w x x2 ∧ Eff eff b x wr w w'
  | .trap s' o => e = trapE o ∧ ∃ x2, Mach w' b s' x2 ∧ Keep w x x2 ∧ Only (Mb b x) w w'
def StepQ (eff : Int → Int → World → World → Prop) (b : Nat) (s : St) (x : Raw) (i : Ins) (w : World) (e : Ending) (w' : World) : Prop := StepP eff b s x w e w' (exec s i)
theorem Eff.pre {eff : Int → Int → World → World → Prop} {b : Nat} {x : Raw} {wr : Option (Int × Int)} {w w1 w2 : World} (h : Eff eff b x wr w1 w2) (ho : Only (Mb b x) w w1) : Eff eff b x wr w w2 := by
  cases wr with
  | none => exact ho.then h
  | some p => obtain ⟨u, v, a, c, d⟩ := h; exact ⟨u, v, ho.then a, c, d⟩
theorem Eff.post {eff : Int → Int → World → World → Prop} {b : Nat} {x : Raw} {wr : Option (Int × Int)} {w w1 w2 : World} (h : Eff eff b x wr w w1) (ho : Only (Mb b x) w1 w2) : Eff eff b x wr w w2 := by
  cases wr with
  | none => exact Only.then h ho
  | some p => obtain ⟨u, v, a, c, d⟩ := h; exact ⟨u, v, a, c, d.then ho⟩
theorem clr_put {s : St} {n t : Int} : ({ s with regs := rset s.regs 0 0, pc := n, steps := t } : St) = { s.clr with pc := n, steps := t } := by
  unfold St.clr rset
  rfl
set_option maxRecDepth 100000 in
set_option maxHeartbeats 400000 in
theorem do_upper (eff : Int → Int → World → World → Prop) (b : Nat) (clo : Value) (pre : World → Prop) (hW : WriteSpec eff b clo pre) (hst : Stable pre b) (i : Ins) (hi : i.Ok) (s : St) (hs : s.Ok) (hev : s.evs.length ≤ 1000000) (hs0 : 0 ≤ s.steps) (hs1 : s.steps ≤ 10000) (x : Raw) (hclo : x.wrote = clo) (w : World) (h : Mach w b s x) (hpre : pre w) (h0 : 0 ≤ i.op) (h1 : i.op ≤ 1) :
    Calls Tryd.prog 36 #[.pointer (some ⟨b, 0, none⟩), .func (.func 50) #[] #[], .agg i.cells] w (StepQ eff b s x i w) := by
  have hO0 : Only (· = b) w ((w.setCell ⟨b, 35, none⟩ (.int .u32 (u32 (s.pc + 4)))).alloc (.cells #[.int .i64 i.op, .int .i64 i.rd, .int .i64 i.rs1, .int .i64 i.rs2, .int .i32 i.imm] 25)) := ((Only.refl _ w).set1 35 _).alloc _
  have hM0 := h.struct (x' := { x with next := u32 (s.pc + 4) }) hO0 ((h.mac.putNext _).alloc _) rfl rfl rfl rfl rfl rfl rfl
  have hd := does_upper eff b clo pre hW hst i hi s hs hev hs0 hs1 { x with next := u32 (s.pc + 4) } hclo _ hM0 (hst x s w _ h hpre hO0.mb) rfl h0 h1
  have hx := exec_ok hs hi
  have p0 := h.mac.pc
  have n35 := h.mac.next
  have f35 := h.mac.free 35
  have hsz := h.mac.lt
  obtain ⟨pc0, pc1⟩ := hs.pc
  have HO0 := Lib.hid hO0
  have HD := Lib.hid hd
  have HX := Lib.hid hx
  clear hO0 hM0 hd hx h0 h1
  unfold Ins.cells at *
  go_enter Tryd.func36, Tryd.ntmps36
  go_wp2_with fail
  refine HD.out.mono ?_
  intro e w1 hq
  unfold DoesQ at hq
  unfold StepQ
  have hx := HX.out
  clear HD HX p0 f35 n35
  cases he : exec s i with
  | go s' next wr =>
    rw [he] at hq hx
    obtain ⟨rfl, s2, x2, hM, hclr, hnx, hK, hE⟩ := hq
    obtain ⟨hT, hst', m0, m1⟩ := hx
    have hst2 : s2.steps = s.steps := by rw [← hst', ← hclr]; rfl
    have k0 := hM.mac.reg 0 (by omega)
    have k32 := hM.mac.pc
    have k34 := hM.mac.steps
    have k35 := hM.mac.next
    have r0 := hM.mac.free 0
    have r32 := hM.mac.free 32
    have r34 := hM.mac.free 34
    rw [hst2] at k34
    rw [hnx] at k35
    have HM := Lib.hid hM
    have HC := Lib.hid hclr
    have HK := Lib.hid hK
    have HE := Lib.hid hE
    have HT := Lib.hid hT
    have HS := Lib.hid hst2
    have HX := Lib.hid he
    clear hM hclr hnx hK hE hT he hst' hst2 hsz
    go_wp2_with fail
    go_end0
    have hO : Only (· = b) w1 (((w1.setCell ⟨b, 0, none⟩ (.int .u32 0)).setCell ⟨b, 32, none⟩ (.int .u32 next)).setCell ⟨b, 34, none⟩ (.int .i64 (s.steps + 1))) := (((Only.refl _ w1).set1 0 _).set1 32 _).set1 34 _
    have hc : MacAt (((w1.setCell ⟨b, 0, none⟩ (.int .u32 0)).setCell ⟨b, 32, none⟩ (.int .u32 next)).setCell ⟨b, 34, none⟩ (.int .i64 (s.steps + 1))) b { s2 with regs := rset s2.regs 0 0, pc := next, steps := s.steps + 1 } x2 :=
      ((HM.out.mac.putReg 0 0 (by omega)).putPc next).putSteps (s.steps + 1)
    have he : ({ s2 with regs := rset s2.regs 0 0, pc := next, steps := s.steps + 1 } : St) = s'.step next := by
      rw [clr_put, HC.out]
      unfold St.step
      congr 1
      rw [← HS.out, ← HC.out]
      rfl
    rw [he] at hc
    have hs' : s' = s2.clr := HC.out.symm
    unfold StepQ
    rw [HX.out]
    refine ⟨rfl, x2, HM.out.struct hO hc rfl rfl rfl rfl ?_ ?_ ?_, HK.out.back HO0.out, (HE.out.pre HO0.out.mb).post ?_⟩
    · rw [hs']; rfl
    · rw [hs']; rfl
    · rw [hs']; rfl
    · exact hO.mb
  | trap s' o =>
    rw [he] at hq hx
    obtain ⟨rfl, x2, hM, hK, hE⟩ := hq
    refine ⟨rfl, rfl, x2, hM, hK.back HO0.out, HO0.out.mb.then hE⟩
set_option maxRecDepth 100000 in
set_option maxHeartbeats 400000 in
theorem do_jump (eff : Int → Int → World → World → Prop) (b : Nat) (clo : Value) (pre : World → Prop) (hW : WriteSpec eff b clo pre) (hst : Stable pre b) (i : Ins) (hi : i.Ok) (s : St) (hs : s.Ok) (hev : s.evs.length ≤ 1000000) (hs0 : 0 ≤ s.steps) (hs1 : s.steps ≤ 10000) (x : Raw) (hclo : x.wrote = clo) (w : World) (h : Mach w b s x) (hpre : pre w) (h0 : 2 ≤ i.op) (h1 : i.op ≤ 3) :
    Calls Tryd.prog 36 #[.pointer (some ⟨b, 0, none⟩), .func (.func 51) #[] #[], .agg i.cells] w (StepQ eff b s x i w) := by
  have hO0 : Only (· = b) w ((w.setCell ⟨b, 35, none⟩ (.int .u32 (u32 (s.pc + 4)))).alloc (.cells #[.int .i64 i.op, .int .i64 i.rd, .int .i64 i.rs1, .int .i64 i.rs2, .int .i32 i.imm] 25)) := ((Only.refl _ w).set1 35 _).alloc _
  have hM0 := h.struct (x' := { x with next := u32 (s.pc + 4) }) hO0 ((h.mac.putNext _).alloc _) rfl rfl rfl rfl rfl rfl rfl
  have hd := does_jump eff b clo pre hW hst i hi s hs hev hs0 hs1 { x with next := u32 (s.pc + 4) } hclo _ hM0 (hst x s w _ h hpre hO0.mb) rfl h0 h1
  have hx := exec_ok hs hi
  have p0 := h.mac.pc
  have n35 := h.mac.next
  have f35 := h.mac.free 35
  have hsz := h.mac.lt
  obtain ⟨pc0, pc1⟩ := hs.pc
  have HO0 := Lib.hid hO0
  have HD := Lib.hid hd
  have HX := Lib.hid hx
  clear hO0 hM0 hd hx h0 h1
  unfold Ins.cells at *
  go_enter Tryd.func36, Tryd.ntmps36
  go_wp2_with fail
  refine HD.out.mono ?_
  intro e w1 hq
  unfold DoesQ at hq
  unfold StepQ
  have hx := HX.out
  clear HD HX p0 f35 n35
  cases he : exec s i with
  | go s' next wr =>
    rw [he] at hq hx
    obtain ⟨rfl, s2, x2, hM, hclr, hnx, hK, hE⟩ := hq
    obtain ⟨hT, hst', m0, m1⟩ := hx
    have hst2 : s2.steps = s.steps := by rw [← hst', ← hclr]; rfl
    have k0 := hM.mac.reg 0 (by omega)
    have k32 := hM.mac.pc
    have k34 := hM.mac.steps
    have k35 := hM.mac.next
    have r0 := hM.mac.free 0
    have r32 := hM.mac.free 32
    have r34 := hM.mac.free 34
    rw [hst2] at k34
    rw [hnx] at k35
    have HM := Lib.hid hM
    have HC := Lib.hid hclr
    have HK := Lib.hid hK
    have HE := Lib.hid hE
    have HT := Lib.hid hT
    have HS := Lib.hid hst2
    have HX := Lib.hid he
    clear hM hclr hnx hK hE hT he hst' hst2 hsz
    go_wp2_with fail
    go_end0
    have hO : Only (· = b) w1 (((w1.setCell ⟨b, 0, none⟩ (.int .u32 0)).setCell ⟨b, 32, none⟩ (.int .u32 next)).setCell ⟨b, 34, none⟩ (.int .i64 (s.steps + 1))) := (((Only.refl _ w1).set1 0 _).set1 32 _).set1 34 _
    have hc : MacAt (((w1.setCell ⟨b, 0, none⟩ (.int .u32 0)).setCell ⟨b, 32, none⟩ (.int .u32 next)).setCell ⟨b, 34, none⟩ (.int .i64 (s.steps + 1))) b { s2 with regs := rset s2.regs 0 0, pc := next, steps := s.steps + 1 } x2 :=
      ((HM.out.mac.putReg 0 0 (by omega)).putPc next).putSteps (s.steps + 1)
    have he : ({ s2 with regs := rset s2.regs 0 0, pc := next, steps := s.steps + 1 } : St) = s'.step next := by
      rw [clr_put, HC.out]
      unfold St.step
      congr 1
      rw [← HS.out, ← HC.out]
      rfl
    rw [he] at hc
    have hs' : s' = s2.clr := HC.out.symm
    unfold StepQ
    rw [HX.out]
    refine ⟨rfl, x2, HM.out.struct hO hc rfl rfl rfl rfl ?_ ?_ ?_, HK.out.back HO0.out, (HE.out.pre HO0.out.mb).post ?_⟩
    · rw [hs']; rfl
    · rw [hs']; rfl
    · rw [hs']; rfl
    · exact hO.mb
  | trap s' o =>
    rw [he] at hq hx
    obtain ⟨rfl, x2, hM, hK, hE⟩ := hq
    refine ⟨rfl, rfl, x2, hM, hK.back HO0.out, HO0.out.mb.then hE⟩
set_option maxRecDepth 100000 in
set_option maxHeartbeats 400000 in
theorem do_branch (eff : Int → Int → World → World → Prop) (b : Nat) (clo : Value) (pre : World → Prop) (hW : WriteSpec eff b clo pre) (hst : Stable pre b) (i : Ins) (hi : i.Ok) (s : St) (hs : s.Ok) (hev : s.evs.length ≤ 1000000) (hs0 : 0 ≤ s.steps) (hs1 : s.steps ≤ 10000) (x : Raw) (hclo : x.wrote = clo) (w : World) (h : Mach w b s x) (hpre : pre w) (h0 : 4 ≤ i.op) (h1 : i.op ≤ 9) :
    Calls Tryd.prog 36 #[.pointer (some ⟨b, 0, none⟩), .func (.func 52) #[] #[], .agg i.cells] w (StepQ eff b s x i w) := by
  have hO0 : Only (· = b) w ((w.setCell ⟨b, 35, none⟩ (.int .u32 (u32 (s.pc + 4)))).alloc (.cells #[.int .i64 i.op, .int .i64 i.rd, .int .i64 i.rs1, .int .i64 i.rs2, .int .i32 i.imm] 25)) := ((Only.refl _ w).set1 35 _).alloc _
  have hM0 := h.struct (x' := { x with next := u32 (s.pc + 4) }) hO0 ((h.mac.putNext _).alloc _) rfl rfl rfl rfl rfl rfl rfl
  have hd := does_branch eff b clo pre hW hst i hi s hs hev hs0 hs1 { x with next := u32 (s.pc + 4) } hclo _ hM0 (hst x s w _ h hpre hO0.mb) rfl h0 h1
  have hx := exec_ok hs hi
  have p0 := h.mac.pc
  have n35 := h.mac.next
  have f35 := h.mac.free 35
  have hsz := h.mac.lt
  obtain ⟨pc0, pc1⟩ := hs.pc
  have HO0 := Lib.hid hO0
  have HD := Lib.hid hd
  have HX := Lib.hid hx
  clear hO0 hM0 hd hx h0 h1
  unfold Ins.cells at *
  go_enter Tryd.func36, Tryd.ntmps36
  go_wp2_with fail
  refine HD.out.mono ?_
  intro e w1 hq
  unfold DoesQ at hq
  unfold StepQ
  have hx := HX.out
  clear HD HX p0 f35 n35
  cases he : exec s i with
  | go s' next wr =>
    rw [he] at hq hx
    obtain ⟨rfl, s2, x2, hM, hclr, hnx, hK, hE⟩ := hq
    obtain ⟨hT, hst', m0, m1⟩ := hx
    have hst2 : s2.steps = s.steps := by rw [← hst', ← hclr]; rfl
    have k0 := hM.mac.reg 0 (by omega)
    have k32 := hM.mac.pc
    have k34 := hM.mac.steps
    have k35 := hM.mac.next
    have r0 := hM.mac.free 0
    have r32 := hM.mac.free 32
    have r34 := hM.mac.free 34
    rw [hst2] at k34
    rw [hnx] at k35
    have HM := Lib.hid hM
    have HC := Lib.hid hclr
    have HK := Lib.hid hK
    have HE := Lib.hid hE
    have HT := Lib.hid hT
    have HS := Lib.hid hst2
    have HX := Lib.hid he
    clear hM hclr hnx hK hE hT he hst' hst2 hsz
    go_wp2_with fail
    go_end0
    have hO : Only (· = b) w1 (((w1.setCell ⟨b, 0, none⟩ (.int .u32 0)).setCell ⟨b, 32, none⟩ (.int .u32 next)).setCell ⟨b, 34, none⟩ (.int .i64 (s.steps + 1))) := (((Only.refl _ w1).set1 0 _).set1 32 _).set1 34 _
    have hc : MacAt (((w1.setCell ⟨b, 0, none⟩ (.int .u32 0)).setCell ⟨b, 32, none⟩ (.int .u32 next)).setCell ⟨b, 34, none⟩ (.int .i64 (s.steps + 1))) b { s2 with regs := rset s2.regs 0 0, pc := next, steps := s.steps + 1 } x2 :=
      ((HM.out.mac.putReg 0 0 (by omega)).putPc next).putSteps (s.steps + 1)
    have he : ({ s2 with regs := rset s2.regs 0 0, pc := next, steps := s.steps + 1 } : St) = s'.step next := by
      rw [clr_put, HC.out]
      unfold St.step
      congr 1
      rw [← HS.out, ← HC.out]
      rfl
    rw [he] at hc
    have hs' : s' = s2.clr := HC.out.symm
    unfold StepQ
    rw [HX.out]
    refine ⟨rfl, x2, HM.out.struct hO hc rfl rfl rfl rfl ?_ ?_ ?_, HK.out.back HO0.out, (HE.out.pre HO0.out.mb).post ?_⟩
    · rw [hs']; rfl
    · rw [hs']; rfl
    · rw [hs']; rfl
    · exact hO.mb
  | trap s' o =>
    rw [he] at hq hx
    obtain ⟨rfl, x2, hM, hK, hE⟩ := hq
    refine ⟨rfl, rfl, x2, hM, hK.back HO0.out, HO0.out.mb.then hE⟩
set_option maxRecDepth 100000 in
set_option maxHeartbeats 400000 in
theorem do_load (eff : Int → Int → World → World → Prop) (b : Nat) (clo : Value) (pre : World → Prop) (hW : WriteSpec eff b clo pre) (hst : Stable pre b) (i : Ins) (hi : i.Ok) (s : St) (hs : s.Ok) (hev : s.evs.length ≤ 1000000) (hs0 : 0 ≤ s.steps) (hs1 : s.steps ≤ 10000) (x : Raw) (hclo : x.wrote = clo) (w : World) (h : Mach w b s x) (hpre : pre w) (h0 : 10 ≤ i.op) (h1 : i.op ≤ 14) :
    Calls Tryd.prog 36 #[.pointer (some ⟨b, 0, none⟩), .func (.func 53) #[] #[], .agg i.cells] w (StepQ eff b s x i w) := by
  have hO0 : Only (· = b) w ((w.setCell ⟨b, 35, none⟩ (.int .u32 (u32 (s.pc + 4)))).alloc (.cells #[.int .i64 i.op, .int .i64 i.rd, .int .i64 i.rs1, .int .i64 i.rs2, .int .i32 i.imm] 25)) := ((Only.refl _ w).set1 35 _).alloc _
  have hM0 := h.struct (x' := { x with next := u32 (s.pc + 4) }) hO0 ((h.mac.putNext _).alloc _) rfl rfl rfl rfl rfl rfl rfl
  have hd := does_load eff b clo pre hW hst i hi s hs hev hs0 hs1 { x with next := u32 (s.pc + 4) } hclo _ hM0 (hst x s w _ h hpre hO0.mb) rfl h0 h1
  have hx := exec_ok hs hi
  have p0 := h.mac.pc
  have n35 := h.mac.next
  have f35 := h.mac.free 35
  have hsz := h.mac.lt
  obtain ⟨pc0, pc1⟩ := hs.pc
  have HO0 := Lib.hid hO0
  have HD := Lib.hid hd
  have HX := Lib.hid hx
  clear hO0 hM0 hd hx h0 h1
  unfold Ins.cells at *
  go_enter Tryd.func36, Tryd.ntmps36
  go_wp2_with fail
  refine HD.out.mono ?_
  intro e w1 hq
  unfold DoesQ at hq
  unfold StepQ
  have hx := HX.out
  clear HD HX p0 f35 n35
  cases he : exec s i with
  | go s' next wr =>
    rw [he] at hq hx
    obtain ⟨rfl, s2, x2, hM, hclr, hnx, hK, hE⟩ := hq
    obtain ⟨hT, hst', m0, m1⟩ := hx
    have hst2 : s2.steps = s.steps := by rw [← hst', ← hclr]; rfl
    have k0 := hM.mac.reg 0 (by omega)
    have k32 := hM.mac.pc
    have k34 := hM.mac.steps
    have k35 := hM.mac.next
    have r0 := hM.mac.free 0
    have r32 := hM.mac.free 32
    have r34 := hM.mac.free 34
    rw [hst2] at k34
    rw [hnx] at k35
    have HM := Lib.hid hM
    have HC := Lib.hid hclr
    have HK := Lib.hid hK
    have HE := Lib.hid hE
    have HT := Lib.hid hT
    have HS := Lib.hid hst2
    have HX := Lib.hid he
    clear hM hclr hnx hK hE hT he hst' hst2 hsz
    go_wp2_with fail
    go_end0
    have hO : Only (· = b) w1 (((w1.setCell ⟨b, 0, none⟩ (.int .u32 0)).setCell ⟨b, 32, none⟩ (.int .u32 next)).setCell ⟨b, 34, none⟩ (.int .i64 (s.steps + 1))) := (((Only.refl _ w1).set1 0 _).set1 32 _).set1 34 _
    have hc : MacAt (((w1.setCell ⟨b, 0, none⟩ (.int .u32 0)).setCell ⟨b, 32, none⟩ (.int .u32 next)).setCell ⟨b, 34, none⟩ (.int .i64 (s.steps + 1))) b { s2 with regs := rset s2.regs 0 0, pc := next, steps := s.steps + 1 } x2 :=
      ((HM.out.mac.putReg 0 0 (by omega)).putPc next).putSteps (s.steps + 1)
    have he : ({ s2 with regs := rset s2.regs 0 0, pc := next, steps := s.steps + 1 } : St) = s'.step next := by
      rw [clr_put, HC.out]
      unfold St.step
      congr 1
      rw [← HS.out, ← HC.out]
      rfl
    rw [he] at hc
    have hs' : s' = s2.clr := HC.out.symm
    unfold StepQ
    rw [HX.out]
    refine ⟨rfl, x2, HM.out.struct hO hc rfl rfl rfl rfl ?_ ?_ ?_, HK.out.back HO0.out, (HE.out.pre HO0.out.mb).post ?_⟩
    · rw [hs']; rfl
    · rw [hs']; rfl
    · rw [hs']; rfl
    · exact hO.mb
  | trap s' o =>
    rw [he] at hq hx
    obtain ⟨rfl, x2, hM, hK, hE⟩ := hq
    refine ⟨rfl, rfl, x2, hM, hK.back HO0.out, HO0.out.mb.then hE⟩
set_option maxRecDepth 100000 in
set_option maxHeartbeats 400000 in
theorem do_store (eff : Int → Int → World → World → Prop) (b : Nat) (clo : Value) (pre : World → Prop) (hW : WriteSpec eff b clo pre) (hst : Stable pre b) (i : Ins) (hi : i.Ok) (s : St) (hs : s.Ok) (hev : s.evs.length ≤ 1000000) (hs0 : 0 ≤ s.steps) (hs1 : s.steps ≤ 10000) (x : Raw) (hclo : x.wrote = clo) (w : World) (h : Mach w b s x) (hpre : pre w) (h0 : 15 ≤ i.op) (h1 : i.op ≤ 17) :
    Calls Tryd.prog 36 #[.pointer (some ⟨b, 0, none⟩), .func (.func 54) #[] #[], .agg i.cells] w (StepQ eff b s x i w) := by
  have hO0 : Only (· = b) w ((w.setCell ⟨b, 35, none⟩ (.int .u32 (u32 (s.pc + 4)))).alloc (.cells #[.int .i64 i.op, .int .i64 i.rd, .int .i64 i.rs1, .int .i64 i.rs2, .int .i32 i.imm] 25)) := ((Only.refl _ w).set1 35 _).alloc _
  have hM0 := h.struct (x' := { x with next := u32 (s.pc + 4) }) hO0 ((h.mac.putNext _).alloc _) rfl rfl rfl rfl rfl rfl rfl
  have hd := does_store eff b clo pre hW hst i hi s hs hev hs0 hs1 { x with next := u32 (s.pc + 4) } hclo _ hM0 (hst x s w _ h hpre hO0.mb) rfl h0 h1
  have hx := exec_ok hs hi
  have p0 := h.mac.pc
  have n35 := h.mac.next
  have f35 := h.mac.free 35
  have hsz := h.mac.lt
  obtain ⟨pc0, pc1⟩ := hs.pc
  have HO0 := Lib.hid hO0
  have HD := Lib.hid hd
  have HX := Lib.hid hx
  clear hO0 hM0 hd hx h0 h1
  unfold Ins.cells at *
  go_enter Tryd.func36, Tryd.ntmps36
  go_wp2_with fail
  refine HD.out.mono ?_
  intro e w1 hq
  unfold DoesQ at hq
  unfold StepQ
  have hx := HX.out
  clear HD HX p0 f35 n35
  cases he : exec s i with
  | go s' next wr =>
    rw [he] at hq hx
    obtain ⟨rfl, s2, x2, hM, hclr, hnx, hK, hE⟩ := hq
    obtain ⟨hT, hst', m0, m1⟩ := hx
    have hst2 : s2.steps = s.steps := by rw [← hst', ← hclr]; rfl
    have k0 := hM.mac.reg 0 (by omega)
    have k32 := hM.mac.pc
    have k34 := hM.mac.steps
    have k35 := hM.mac.next
    have r0 := hM.mac.free 0
    have r32 := hM.mac.free 32
    have r34 := hM.mac.free 34
    rw [hst2] at k34
    rw [hnx] at k35
    have HM := Lib.hid hM
    have HC := Lib.hid hclr
    have HK := Lib.hid hK
    have HE := Lib.hid hE
    have HT := Lib.hid hT
    have HS := Lib.hid hst2
    have HX := Lib.hid he
    clear hM hclr hnx hK hE hT he hst' hst2 hsz
    go_wp2_with fail
    go_end0
    have hO : Only (· = b) w1 (((w1.setCell ⟨b, 0, none⟩ (.int .u32 0)).setCell ⟨b, 32, none⟩ (.int .u32 next)).setCell ⟨b, 34, none⟩ (.int .i64 (s.steps + 1))) := (((Only.refl _ w1).set1 0 _).set1 32 _).set1 34 _
    have hc : MacAt (((w1.setCell ⟨b, 0, none⟩ (.int .u32 0)).setCell ⟨b, 32, none⟩ (.int .u32 next)).setCell ⟨b, 34, none⟩ (.int .i64 (s.steps + 1))) b { s2 with regs := rset s2.regs 0 0, pc := next, steps := s.steps + 1 } x2 :=
      ((HM.out.mac.putReg 0 0 (by omega)).putPc next).putSteps (s.steps + 1)
    have he : ({ s2 with regs := rset s2.regs 0 0, pc := next, steps := s.steps + 1 } : St) = s'.step next := by
      rw [clr_put, HC.out]
      unfold St.step
      congr 1
      rw [← HS.out, ← HC.out]
      rfl
    rw [he] at hc
    have hs' : s' = s2.clr := HC.out.symm
    unfold StepQ
    rw [HX.out]
    refine ⟨rfl, x2, HM.out.struct hO hc rfl rfl rfl rfl ?_ ?_ ?_, HK.out.back HO0.out, (HE.out.pre HO0.out.mb).post ?_⟩
    · rw [hs']; rfl
    · rw [hs']; rfl
    · rw [hs']; rfl
    · exact hO.mb
  | trap s' o =>
    rw [he] at hq hx
    obtain ⟨rfl, x2, hM, hK, hE⟩ := hq
    refine ⟨rfl, rfl, x2, hM, hK.back HO0.out, HO0.out.mb.then hE⟩
set_option maxRecDepth 100000 in
set_option maxHeartbeats 400000 in
theorem do_number (eff : Int → Int → World → World → Prop) (b : Nat) (clo : Value) (pre : World → Prop) (hW : WriteSpec eff b clo pre) (hst : Stable pre b) (i : Ins) (hi : i.Ok) (s : St) (hs : s.Ok) (hev : s.evs.length ≤ 1000000) (hs0 : 0 ≤ s.steps) (hs1 : s.steps ≤ 10000) (x : Raw) (hclo : x.wrote = clo) (w : World) (h : Mach w b s x) (hpre : pre w) (h0 : 18 ≤ i.op) (h1 : i.op ≤ 26) :
    Calls Tryd.prog 36 #[.pointer (some ⟨b, 0, none⟩), .func (.func 55) #[] #[], .agg i.cells] w (StepQ eff b s x i w) := by
  have hO0 : Only (· = b) w ((w.setCell ⟨b, 35, none⟩ (.int .u32 (u32 (s.pc + 4)))).alloc (.cells #[.int .i64 i.op, .int .i64 i.rd, .int .i64 i.rs1, .int .i64 i.rs2, .int .i32 i.imm] 25)) := ((Only.refl _ w).set1 35 _).alloc _
  have hM0 := h.struct (x' := { x with next := u32 (s.pc + 4) }) hO0 ((h.mac.putNext _).alloc _) rfl rfl rfl rfl rfl rfl rfl
  have hd := does_number eff b clo pre hW hst i hi s hs hev hs0 hs1 { x with next := u32 (s.pc + 4) } hclo _ hM0 (hst x s w _ h hpre hO0.mb) rfl h0 h1
  have hx := exec_ok hs hi
  have p0 := h.mac.pc
  have n35 := h.mac.next
  have f35 := h.mac.free 35
  have hsz := h.mac.lt
  obtain ⟨pc0, pc1⟩ := hs.pc
  have HO0 := Lib.hid hO0
  have HD := Lib.hid hd
  have HX := Lib.hid hx
  clear hO0 hM0 hd hx h0 h1
  unfold Ins.cells at *
  go_enter Tryd.func36, Tryd.ntmps36
  go_wp2_with fail
  refine HD.out.mono ?_
  intro e w1 hq
  unfold DoesQ at hq
  unfold StepQ
  have hx := HX.out
  clear HD HX p0 f35 n35
  cases he : exec s i with
  | go s' next wr =>
    rw [he] at hq hx
    obtain ⟨rfl, s2, x2, hM, hclr, hnx, hK, hE⟩ := hq
    obtain ⟨hT, hst', m0, m1⟩ := hx
    have hst2 : s2.steps = s.steps := by rw [← hst', ← hclr]; rfl
    have k0 := hM.mac.reg 0 (by omega)
    have k32 := hM.mac.pc
    have k34 := hM.mac.steps
    have k35 := hM.mac.next
    have r0 := hM.mac.free 0
    have r32 := hM.mac.free 32
    have r34 := hM.mac.free 34
    rw [hst2] at k34
    rw [hnx] at k35
    have HM := Lib.hid hM
    have HC := Lib.hid hclr
    have HK := Lib.hid hK
    have HE := Lib.hid hE
    have HT := Lib.hid hT
    have HS := Lib.hid hst2
    have HX := Lib.hid he
    clear hM hclr hnx hK hE hT he hst' hst2 hsz
    go_wp2_with fail
    go_end0
    have hO : Only (· = b) w1 (((w1.setCell ⟨b, 0, none⟩ (.int .u32 0)).setCell ⟨b, 32, none⟩ (.int .u32 next)).setCell ⟨b, 34, none⟩ (.int .i64 (s.steps + 1))) := (((Only.refl _ w1).set1 0 _).set1 32 _).set1 34 _
    have hc : MacAt (((w1.setCell ⟨b, 0, none⟩ (.int .u32 0)).setCell ⟨b, 32, none⟩ (.int .u32 next)).setCell ⟨b, 34, none⟩ (.int .i64 (s.steps + 1))) b { s2 with regs := rset s2.regs 0 0, pc := next, steps := s.steps + 1 } x2 :=
      ((HM.out.mac.putReg 0 0 (by omega)).putPc next).putSteps (s.steps + 1)
    have he : ({ s2 with regs := rset s2.regs 0 0, pc := next, steps := s.steps + 1 } : St) = s'.step next := by
      rw [clr_put, HC.out]
      unfold St.step
      congr 1
      rw [← HS.out, ← HC.out]
      rfl
    rw [he] at hc
    have hs' : s' = s2.clr := HC.out.symm
    unfold StepQ
    rw [HX.out]
    refine ⟨rfl, x2, HM.out.struct hO hc rfl rfl rfl rfl ?_ ?_ ?_, HK.out.back HO0.out, (HE.out.pre HO0.out.mb).post ?_⟩
    · rw [hs']; rfl
    · rw [hs']; rfl
    · rw [hs']; rfl
    · exact hO.mb
  | trap s' o =>
    rw [he] at hq hx
    obtain ⟨rfl, x2, hM, hK, hE⟩ := hq
    refine ⟨rfl, rfl, x2, hM, hK.back HO0.out, HO0.out.mb.then hE⟩
set_option maxRecDepth 100000 in
set_option maxHeartbeats 400000 in
theorem do_registers (eff : Int → Int → World → World → Prop) (b : Nat) (clo : Value) (pre : World → Prop) (hW : WriteSpec eff b clo pre) (hst : Stable pre b) (i : Ins) (hi : i.Ok) (s : St) (hs : s.Ok) (hev : s.evs.length ≤ 1000000) (hs0 : 0 ≤ s.steps) (hs1 : s.steps ≤ 10000) (x : Raw) (hclo : x.wrote = clo) (w : World) (h : Mach w b s x) (hpre : pre w) (h0 : 27 ≤ i.op) (h1 : i.op ≤ 44) :
    Calls Tryd.prog 36 #[.pointer (some ⟨b, 0, none⟩), .func (.func 56) #[] #[], .agg i.cells] w (StepQ eff b s x i w) := by
  have hO0 : Only (· = b) w ((w.setCell ⟨b, 35, none⟩ (.int .u32 (u32 (s.pc + 4)))).alloc (.cells #[.int .i64 i.op, .int .i64 i.rd, .int .i64 i.rs1, .int .i64 i.rs2, .int .i32 i.imm] 25)) := ((Only.refl _ w).set1 35 _).alloc _
  have hM0 := h.struct (x' := { x with next := u32 (s.pc + 4) }) hO0 ((h.mac.putNext _).alloc _) rfl rfl rfl rfl rfl rfl rfl
  have hd := does_registers eff b clo pre hW hst i hi s hs hev hs0 hs1 { x with next := u32 (s.pc + 4) } hclo _ hM0 (hst x s w _ h hpre hO0.mb) rfl h0 h1
  have hx := exec_ok hs hi
  have p0 := h.mac.pc
  have n35 := h.mac.next
  have f35 := h.mac.free 35
  have hsz := h.mac.lt
  obtain ⟨pc0, pc1⟩ := hs.pc
  have HO0 := Lib.hid hO0
  have HD := Lib.hid hd
  have HX := Lib.hid hx
  clear hO0 hM0 hd hx h0 h1
  unfold Ins.cells at *
  go_enter Tryd.func36, Tryd.ntmps36
  go_wp2_with fail
  refine HD.out.mono ?_
  intro e w1 hq
  unfold DoesQ at hq
  unfold StepQ
  have hx := HX.out
  clear HD HX p0 f35 n35
  cases he : exec s i with
  | go s' next wr =>
    rw [he] at hq hx
    obtain ⟨rfl, s2, x2, hM, hclr, hnx, hK, hE⟩ := hq
    obtain ⟨hT, hst', m0, m1⟩ := hx
    have hst2 : s2.steps = s.steps := by rw [← hst', ← hclr]; rfl
    have k0 := hM.mac.reg 0 (by omega)
    have k32 := hM.mac.pc
    have k34 := hM.mac.steps
    have k35 := hM.mac.next
    have r0 := hM.mac.free 0
    have r32 := hM.mac.free 32
    have r34 := hM.mac.free 34
    rw [hst2] at k34
    rw [hnx] at k35
    have HM := Lib.hid hM
    have HC := Lib.hid hclr
    have HK := Lib.hid hK
    have HE := Lib.hid hE
    have HT := Lib.hid hT
    have HS := Lib.hid hst2
    have HX := Lib.hid he
    clear hM hclr hnx hK hE hT he hst' hst2 hsz
    go_wp2_with fail
    go_end0
    have hO : Only (· = b) w1 (((w1.setCell ⟨b, 0, none⟩ (.int .u32 0)).setCell ⟨b, 32, none⟩ (.int .u32 next)).setCell ⟨b, 34, none⟩ (.int .i64 (s.steps + 1))) := (((Only.refl _ w1).set1 0 _).set1 32 _).set1 34 _
    have hc : MacAt (((w1.setCell ⟨b, 0, none⟩ (.int .u32 0)).setCell ⟨b, 32, none⟩ (.int .u32 next)).setCell ⟨b, 34, none⟩ (.int .i64 (s.steps + 1))) b { s2 with regs := rset s2.regs 0 0, pc := next, steps := s.steps + 1 } x2 :=
      ((HM.out.mac.putReg 0 0 (by omega)).putPc next).putSteps (s.steps + 1)
    have he : ({ s2 with regs := rset s2.regs 0 0, pc := next, steps := s.steps + 1 } : St) = s'.step next := by
      rw [clr_put, HC.out]
      unfold St.step
      congr 1
      rw [← HS.out, ← HC.out]
      rfl
    rw [he] at hc
    have hs' : s' = s2.clr := HC.out.symm
    unfold StepQ
    rw [HX.out]
    refine ⟨rfl, x2, HM.out.struct hO hc rfl rfl rfl rfl ?_ ?_ ?_, HK.out.back HO0.out, (HE.out.pre HO0.out.mb).post ?_⟩
    · rw [hs']; rfl
    · rw [hs']; rfl
    · rw [hs']; rfl
    · exact hO.mb
  | trap s' o =>
    rw [he] at hq hx
    obtain ⟨rfl, x2, hM, hK, hE⟩ := hq
    refine ⟨rfl, rfl, x2, hM, hK.back HO0.out, HO0.out.mb.then hE⟩
set_option maxRecDepth 100000 in
set_option maxHeartbeats 400000 in
theorem do_nothing (eff : Int → Int → World → World → Prop) (b : Nat) (clo : Value) (pre : World → Prop) (hW : WriteSpec eff b clo pre) (hst : Stable pre b) (i : Ins) (hi : i.Ok) (s : St) (hs : s.Ok) (hev : s.evs.length ≤ 1000000) (hs0 : 0 ≤ s.steps) (hs1 : s.steps ≤ 10000) (x : Raw) (hclo : x.wrote = clo) (w : World) (h : Mach w b s x) (hpre : pre w) (h0 : i.op = 45) :
    Calls Tryd.prog 36 #[.pointer (some ⟨b, 0, none⟩), .func (.func 59) #[] #[], .agg i.cells] w (StepQ eff b s x i w) := by
  have hO0 : Only (· = b) w ((w.setCell ⟨b, 35, none⟩ (.int .u32 (u32 (s.pc + 4)))).alloc (.cells #[.int .i64 i.op, .int .i64 i.rd, .int .i64 i.rs1, .int .i64 i.rs2, .int .i32 i.imm] 25)) := ((Only.refl _ w).set1 35 _).alloc _
  have hM0 := h.struct (x' := { x with next := u32 (s.pc + 4) }) hO0 ((h.mac.putNext _).alloc _) rfl rfl rfl rfl rfl rfl rfl
  have hd := does_nothing eff b clo pre hW hst i hi s hs hev hs0 hs1 { x with next := u32 (s.pc + 4) } hclo _ hM0 (hst x s w _ h hpre hO0.mb) rfl h0
  have hx := exec_ok hs hi
  have p0 := h.mac.pc
  have n35 := h.mac.next
  have f35 := h.mac.free 35
  have hsz := h.mac.lt
  obtain ⟨pc0, pc1⟩ := hs.pc
  have HO0 := Lib.hid hO0
  have HD := Lib.hid hd
  have HX := Lib.hid hx
  clear hO0 hM0 hd hx h0
  unfold Ins.cells at *
  go_enter Tryd.func36, Tryd.ntmps36
  go_wp2_with fail
  refine HD.out.mono ?_
  intro e w1 hq
  unfold DoesQ at hq
  unfold StepQ
  have hx := HX.out
  clear HD HX p0 f35 n35
  cases he : exec s i with
  | go s' next wr =>
    rw [he] at hq hx
    obtain ⟨rfl, s2, x2, hM, hclr, hnx, hK, hE⟩ := hq
    obtain ⟨hT, hst', m0, m1⟩ := hx
    have hst2 : s2.steps = s.steps := by rw [← hst', ← hclr]; rfl
    have k0 := hM.mac.reg 0 (by omega)
    have k32 := hM.mac.pc
    have k34 := hM.mac.steps
    have k35 := hM.mac.next
    have r0 := hM.mac.free 0
    have r32 := hM.mac.free 32
    have r34 := hM.mac.free 34
    rw [hst2] at k34
    rw [hnx] at k35
    have HM := Lib.hid hM
    have HC := Lib.hid hclr
    have HK := Lib.hid hK
    have HE := Lib.hid hE
    have HT := Lib.hid hT
    have HS := Lib.hid hst2
    have HX := Lib.hid he
    clear hM hclr hnx hK hE hT he hst' hst2 hsz
    go_wp2_with fail
    go_end0
    have hO : Only (· = b) w1 (((w1.setCell ⟨b, 0, none⟩ (.int .u32 0)).setCell ⟨b, 32, none⟩ (.int .u32 next)).setCell ⟨b, 34, none⟩ (.int .i64 (s.steps + 1))) := (((Only.refl _ w1).set1 0 _).set1 32 _).set1 34 _
    have hc : MacAt (((w1.setCell ⟨b, 0, none⟩ (.int .u32 0)).setCell ⟨b, 32, none⟩ (.int .u32 next)).setCell ⟨b, 34, none⟩ (.int .i64 (s.steps + 1))) b { s2 with regs := rset s2.regs 0 0, pc := next, steps := s.steps + 1 } x2 :=
      ((HM.out.mac.putReg 0 0 (by omega)).putPc next).putSteps (s.steps + 1)
    have he : ({ s2 with regs := rset s2.regs 0 0, pc := next, steps := s.steps + 1 } : St) = s'.step next := by
      rw [clr_put, HC.out]
      unfold St.step
      congr 1
      rw [← HS.out, ← HC.out]
      rfl
    rw [he] at hc
    have hs' : s' = s2.clr := HC.out.symm
    unfold StepQ
    rw [HX.out]
    refine ⟨rfl, x2, HM.out.struct hO hc rfl rfl rfl rfl ?_ ?_ ?_, HK.out.back HO0.out, (HE.out.pre HO0.out.mb).post ?_⟩
    · rw [hs']; rfl
    · rw [hs']; rfl
    · rw [hs']; rfl
    · exact hO.mb
  | trap s' o =>
    rw [he] at hq hx
    obtain ⟨rfl, x2, hM, hK, hE⟩ := hq
    refine ⟨rfl, rfl, x2, hM, hK.back HO0.out, HO0.out.mb.then hE⟩
set_option maxRecDepth 100000 in
set_option maxHeartbeats 400000 in
theorem do_stop (eff : Int → Int → World → World → Prop) (b : Nat) (clo : Value) (pre : World → Prop) (hW : WriteSpec eff b clo pre) (hst : Stable pre b) (i : Ins) (hi : i.Ok) (s : St) (hs : s.Ok) (hev : s.evs.length ≤ 1000000) (hs0 : 0 ≤ s.steps) (hs1 : s.steps ≤ 10000) (x : Raw) (hclo : x.wrote = clo) (w : World) (h : Mach w b s x) (hpre : pre w) (h0 : i.op = 47) :
    Calls Tryd.prog 36 #[.pointer (some ⟨b, 0, none⟩), .func (.func 58) #[] #[], .agg i.cells] w (StepQ eff b s x i w) := by
  have hO0 : Only (· = b) w ((w.setCell ⟨b, 35, none⟩ (.int .u32 (u32 (s.pc + 4)))).alloc (.cells #[.int .i64 i.op, .int .i64 i.rd, .int .i64 i.rs1, .int .i64 i.rs2, .int .i32 i.imm] 25)) := ((Only.refl _ w).set1 35 _).alloc _
  have hM0 := h.struct (x' := { x with next := u32 (s.pc + 4) }) hO0 ((h.mac.putNext _).alloc _) rfl rfl rfl rfl rfl rfl rfl
  have hd := does_stop eff b clo pre hW hst i hi s hs hev hs0 hs1 { x with next := u32 (s.pc + 4) } hclo _ hM0 (hst x s w _ h hpre hO0.mb) rfl h0
  have hx := exec_ok hs hi
  have p0 := h.mac.pc
  have n35 := h.mac.next
  have f35 := h.mac.free 35
  have hsz := h.mac.lt
  obtain ⟨pc0, pc1⟩ := hs.pc
  have HO0 := Lib.hid hO0
  have HD := Lib.hid hd
  have HX := Lib.hid hx
  clear hO0 hM0 hd hx h0
  unfold Ins.cells at *
  go_enter Tryd.func36, Tryd.ntmps36
  go_wp2_with fail
  refine HD.out.mono ?_
  intro e w1 hq
  unfold DoesQ at hq
  unfold StepQ
  have hx := HX.out
  clear HD HX p0 f35 n35
  cases he : exec s i with
  | go s' next wr =>
    rw [he] at hq hx
    obtain ⟨rfl, s2, x2, hM, hclr, hnx, hK, hE⟩ := hq
    obtain ⟨hT, hst', m0, m1⟩ := hx
    have hst2 : s2.steps = s.steps := by rw [← hst', ← hclr]; rfl
    have k0 := hM.mac.reg 0 (by omega)
    have k32 := hM.mac.pc
    have k34 := hM.mac.steps
    have k35 := hM.mac.next
    have r0 := hM.mac.free 0
    have r32 := hM.mac.free 32
    have r34 := hM.mac.free 34
    rw [hst2] at k34
    rw [hnx] at k35
    have HM := Lib.hid hM
    have HC := Lib.hid hclr
    have HK := Lib.hid hK
    have HE := Lib.hid hE
    have HT := Lib.hid hT
    have HS := Lib.hid hst2
    have HX := Lib.hid he
    clear hM hclr hnx hK hE hT he hst' hst2 hsz
    go_wp2_with fail
    go_end0
    have hO : Only (· = b) w1 (((w1.setCell ⟨b, 0, none⟩ (.int .u32 0)).setCell ⟨b, 32, none⟩ (.int .u32 next)).setCell ⟨b, 34, none⟩ (.int .i64 (s.steps + 1))) := (((Only.refl _ w1).set1 0 _).set1 32 _).set1 34 _
    have hc : MacAt (((w1.setCell ⟨b, 0, none⟩ (.int .u32 0)).setCell ⟨b, 32, none⟩ (.int .u32 next)).setCell ⟨b, 34, none⟩ (.int .i64 (s.steps + 1))) b { s2 with regs := rset s2.regs 0 0, pc := next, steps := s.steps + 1 } x2 :=
      ((HM.out.mac.putReg 0 0 (by omega)).putPc next).putSteps (s.steps + 1)
    have he : ({ s2 with regs := rset s2.regs 0 0, pc := next, steps := s.steps + 1 } : St) = s'.step next := by
      rw [clr_put, HC.out]
      unfold St.step
      congr 1
      rw [← HS.out, ← HC.out]
      rfl
    rw [he] at hc
    have hs' : s' = s2.clr := HC.out.symm
    unfold StepQ
    rw [HX.out]
    refine ⟨rfl, x2, HM.out.struct hO hc rfl rfl rfl rfl ?_ ?_ ?_, HK.out.back HO0.out, (HE.out.pre HO0.out.mb).post ?_⟩
    · rw [hs']; rfl
    · rw [hs']; rfl
    · rw [hs']; rfl
    · exact hO.mb
  | trap s' o =>
    rw [he] at hq hx
    obtain ⟨rfl, x2, hM, hK, hE⟩ := hq
    refine ⟨rfl, rfl, x2, hM, hK.back HO0.out, HO0.out.mb.then hE⟩
set_option maxRecDepth 100000 in
set_option maxHeartbeats 400000 in
theorem do_call (eff : Int → Int → World → World → Prop) (b : Nat) (clo : Value) (pre : World → Prop) (hW : WriteSpec eff b clo pre) (hst : Stable pre b) (i : Ins) (hi : i.Ok) (s : St) (hs : s.Ok) (hev : s.evs.length ≤ 1000000) (hs0 : 0 ≤ s.steps) (hs1 : s.steps ≤ 10000) (x : Raw) (hclo : x.wrote = clo) (w : World) (h : Mach w b s x) (hpre : pre w) (h0 : i.op = 46) :
    Calls Tryd.prog 36 #[.pointer (some ⟨b, 0, none⟩), .func (.func 57) #[] #[], .agg i.cells] w (StepQ eff b s x i w) := by
  have hO0 : Only (· = b) w ((w.setCell ⟨b, 35, none⟩ (.int .u32 (u32 (s.pc + 4)))).alloc (.cells #[.int .i64 i.op, .int .i64 i.rd, .int .i64 i.rs1, .int .i64 i.rs2, .int .i32 i.imm] 25)) := ((Only.refl _ w).set1 35 _).alloc _
  have hM0 := h.struct (x' := { x with next := u32 (s.pc + 4) }) hO0 ((h.mac.putNext _).alloc _) rfl rfl rfl rfl rfl rfl rfl
  have hd := does_call eff b clo pre hW hst i hi s hs hev hs0 hs1 { x with next := u32 (s.pc + 4) } hclo _ hM0 (hst x s w _ h hpre hO0.mb) rfl h0
  have hx := exec_ok hs hi
  have p0 := h.mac.pc
  have n35 := h.mac.next
  have f35 := h.mac.free 35
  have hsz := h.mac.lt
  obtain ⟨pc0, pc1⟩ := hs.pc
  have HO0 := Lib.hid hO0
  have HD := Lib.hid hd
  have HX := Lib.hid hx
  clear hO0 hM0 hd hx h0
  unfold Ins.cells at *
  go_enter Tryd.func36, Tryd.ntmps36
  go_wp2_with fail
  refine HD.out.mono ?_
  intro e w1 hq
  unfold DoesQ at hq
  unfold StepQ
  have hx := HX.out
  clear HD HX p0 f35 n35
  cases he : exec s i with
  | go s' next wr =>
    rw [he] at hq hx
    obtain ⟨rfl, s2, x2, hM, hclr, hnx, hK, hE⟩ := hq
    obtain ⟨hT, hst', m0, m1⟩ := hx
    have hst2 : s2.steps = s.steps := by rw [← hst', ← hclr]; rfl
    have k0 := hM.mac.reg 0 (by omega)
    have k32 := hM.mac.pc
    have k34 := hM.mac.steps
    have k35 := hM.mac.next
    have r0 := hM.mac.free 0
    have r32 := hM.mac.free 32
    have r34 := hM.mac.free 34
    rw [hst2] at k34
    rw [hnx] at k35
    have HM := Lib.hid hM
    have HC := Lib.hid hclr
    have HK := Lib.hid hK
    have HE := Lib.hid hE
    have HT := Lib.hid hT
    have HS := Lib.hid hst2
    have HX := Lib.hid he
    clear hM hclr hnx hK hE hT he hst' hst2 hsz
    go_wp2_with fail
    go_end0
    have hO : Only (· = b) w1 (((w1.setCell ⟨b, 0, none⟩ (.int .u32 0)).setCell ⟨b, 32, none⟩ (.int .u32 next)).setCell ⟨b, 34, none⟩ (.int .i64 (s.steps + 1))) := (((Only.refl _ w1).set1 0 _).set1 32 _).set1 34 _
    have hc : MacAt (((w1.setCell ⟨b, 0, none⟩ (.int .u32 0)).setCell ⟨b, 32, none⟩ (.int .u32 next)).setCell ⟨b, 34, none⟩ (.int .i64 (s.steps + 1))) b { s2 with regs := rset s2.regs 0 0, pc := next, steps := s.steps + 1 } x2 :=
      ((HM.out.mac.putReg 0 0 (by omega)).putPc next).putSteps (s.steps + 1)
    have he : ({ s2 with regs := rset s2.regs 0 0, pc := next, steps := s.steps + 1 } : St) = s'.step next := by
      rw [clr_put, HC.out]
      unfold St.step
      congr 1
      rw [← HS.out, ← HC.out]
      rfl
    rw [he] at hc
    have hs' : s' = s2.clr := HC.out.symm
    unfold StepQ
    rw [HX.out]
    refine ⟨rfl, x2, HM.out.struct hO hc rfl rfl rfl rfl ?_ ?_ ?_, HK.out.back HO0.out, (HE.out.pre HO0.out.mb).post ?_⟩
    · rw [hs']; rfl
    · rw [hs']; rfl
    · rw [hs']; rfl
    · exact hO.mb
  | trap s' o =>
    rw [he] at hq hx
    obtain ⟨rfl, x2, hM, hK, hE⟩ := hq
    refine ⟨rfl, rfl, x2, hM, hK.back HO0.out, HO0.out.mb.then hE⟩
/-- What 'Find' gives. -/
def findV (op : Int) : Value := if decide (op ≤ 1) then .func (.func 50) #[] #[] else if decide (op ≤ 3) then .func (.func 51) #[] #[] else if decide (op ≤ 9) then .func (.func 52) #[] #[] else if decide (op ≤ 14) then .func (.func 53) #[] #[] else if decide (op ≤ 17) then .func (.func 54) #[] #[] else if decide (op ≤ 26) then .func (.func 55) #[] #[] else if decide (op ≤ 44) then .func (.func 56) #[] #[] else if op == 46 then .func (.func 57) #[] #[] else if op == 47 then .func (.func 58) #[] #[] else .func (.func 59) #[] #[]
theorem find_any (op : Int) (w : World) : Calls Tryd.prog 37 #[.int .i64 op] w fun e w' => e = .returned (findV op) ∧ w = w' := by
  unfold findV
  cases h0 : decide (op ≤ 1)
  case true =>
    go_enter Tryd.func37, Tryd.ntmps37
    go_wp2
    go_ret
    exact ⟨rfl, rfl⟩
  cases h1 : decide (op ≤ 3)
  case true =>
    go_enter Tryd.func37, Tryd.ntmps37
    go_wp2
    go_ret
    exact ⟨rfl, rfl⟩
  cases h2 : decide (op ≤ 9)
  case true =>
    go_enter Tryd.func37, Tryd.ntmps37
    go_wp2
    go_ret
    exact ⟨rfl, rfl⟩
  cases h3 : decide (op ≤ 14)
  case true =>
    go_enter Tryd.func37, Tryd.ntmps37
    go_wp2
    go_ret
    exact ⟨rfl, rfl⟩
  cases h4 : decide (op ≤ 17)
  case true =>
    go_enter Tryd.func37, Tryd.ntmps37
    go_wp2
    go_ret
    exact ⟨rfl, rfl⟩
  cases h5 : decide (op ≤ 26)
  case true =>
    go_enter Tryd.func37, Tryd.ntmps37
    go_wp2
    go_ret
    exact ⟨rfl, rfl⟩
  cases h6 : decide (op ≤ 44)
  case true =>
    go_enter Tryd.func37, Tryd.ntmps37
    go_wp2
    go_ret
    exact ⟨rfl, rfl⟩
  cases h7 : op == 46
  case true =>
    go_enter Tryd.func37, Tryd.ntmps37
    go_wp2
    go_ret
    exact ⟨rfl, rfl⟩
  cases h8 : op == 47
  case true =>
    go_enter Tryd.func37, Tryd.ntmps37
    go_wp2
    go_ret
    exact ⟨rfl, rfl⟩
  go_enter Tryd.func37, Tryd.ntmps37
  go_wp2
  go_ret
  exact ⟨rfl, rfl⟩
theorem do_any (eff : Int → Int → World → World → Prop) (b : Nat) (clo : Value) (pre : World → Prop) (hW : WriteSpec eff b clo pre) (hst : Stable pre b) (i : Ins) (hi : i.Ok) (s : St) (hs : s.Ok) (hev : s.evs.length ≤ 1000000) (hs0 : 0 ≤ s.steps) (hs1 : s.steps ≤ 10000) (x : Raw) (hclo : x.wrote = clo) (w : World) (h : Mach w b s x) (hpre : pre w) :
    Calls Tryd.prog 36 #[.pointer (some ⟨b, 0, none⟩), findV i.op, .agg i.cells] w (StepQ eff b s x i w) := by
  obtain ⟨o0, o1⟩ := hi.op
  unfold findV
  by_cases g0 : i.op ≤ 1
  · rw [if_pos (decide_eq_true g0)]
    exact do_upper eff b clo pre hW hst i hi s hs hev hs0 hs1 x hclo w h hpre (by omega) g0
  rw [if_neg (by simpa using g0)]
  by_cases g1 : i.op ≤ 3
  · rw [if_pos (decide_eq_true g1)]
    exact do_jump eff b clo pre hW hst i hi s hs hev hs0 hs1 x hclo w h hpre (by omega) g1
  rw [if_neg (by simpa using g1)]
  by_cases g2 : i.op ≤ 9
  · rw [if_pos (decide_eq_true g2)]
    exact do_branch eff b clo pre hW hst i hi s hs hev hs0 hs1 x hclo w h hpre (by omega) g2
  rw [if_neg (by simpa using g2)]
  by_cases g3 : i.op ≤ 14
  · rw [if_pos (decide_eq_true g3)]
    exact do_load eff b clo pre hW hst i hi s hs hev hs0 hs1 x hclo w h hpre (by omega) g3
  rw [if_neg (by simpa using g3)]
  by_cases g4 : i.op ≤ 17
  · rw [if_pos (decide_eq_true g4)]
    exact do_store eff b clo pre hW hst i hi s hs hev hs0 hs1 x hclo w h hpre (by omega) g4
  rw [if_neg (by simpa using g4)]
  by_cases g5 : i.op ≤ 26
  · rw [if_pos (decide_eq_true g5)]
    exact do_number eff b clo pre hW hst i hi s hs hev hs0 hs1 x hclo w h hpre (by omega) g5
  rw [if_neg (by simpa using g5)]
  by_cases g6 : i.op ≤ 44
  · rw [if_pos (decide_eq_true g6)]
    exact do_registers eff b clo pre hW hst i hi s hs hev hs0 hs1 x hclo w h hpre (by omega) g6
  rw [if_neg (by simpa using g6)]
  by_cases g46 : i.op = 46
  · rw [if_pos (by simpa using g46)]
    exact do_call eff b clo pre hW hst i hi s hs hev hs0 hs1 x hclo w h hpre g46
  rw [if_neg (by simpa using g46)]
  by_cases g47 : i.op = 47
  · rw [if_pos (by simpa using g47)]
    exact do_stop eff b clo pre hW hst i hi s hs hev hs0 hs1 x hclo w h hpre g47
  rw [if_neg (by simpa using g47)]
  exact do_nothing eff b clo pre hW hst i hi s hs hev hs0 hs1 x hclo w h hpre (by omega)
end Go.Proofs.YtanccjaikocefaaDoor
