/-
  The contract of 'call' (ECALL) at a write and at a read that lie in memory. Conditions: as the other cases have them.
-/
import Derived.Test.YtanccjaikocefaaGreatDoorCall
namespace Go.Proofs.YtanccjaikocefaaGreatDoor
open Go.ChangeShapes Go.WideShapes Go.ChangeAt Go.RowKit
set_option linter.unusedVariables false

theorem take_getD (mem : List Int) (A N j : Nat) (hj : j < N) : ((mem.drop A).take N).getD j 0 = byteAt mem ((A + j : Nat) : Int) := by
  simp only [byteAt, List.getD_eq_getElem?_getD, List.getElem?_take, hj, if_true, List.getElem?_drop]
  rw [show (((A + j : Nat) : Int)).toNat = A + j by omega]
theorem empty_extract (k : Nat) : ByteArray.empty.extract 0 k = ByteArray.empty := by
  apply ByteArray.ext
  simp
theorem Only.bytes {S : Nat → Prop} {a W : World} (h : Only S a W) (e : TypeId) (t : ByteArray) : Only S a (Lib.bytesWorld W e t) :=
  h.then ⟨rfl, rfl, rfl, by rw [Lib.bytesWorld_size]; omega, fun k hk _ => Lib.bytesWorld_at_old W e t k hk⟩
set_option maxRecDepth 100000 in
set_option maxHeartbeats 400000 in
theorem call_write_y (eff : Int → Int → World → World → Prop) (b : Nat) (i : Ins) (hi : i.Ok) (s : St) (hs : s.Ok) (x : Raw) (w : World) (h : Mach w b s x) (ho : i.op = 46) (hn : x.next = u32 (s.pc + 4)) (hev : s.evs.length ≤ 1000000) (hc : s.regs 17 = 64) (hl : lies s (s.regs 11) (s.regs 12) = true) (hlt : s.regs 11 < (s.mem.length : Int)) :
    Calls Tryz.prog 56 #[.pointer (some ⟨b, 0, none⟩), .agg i.cells] w (DoesQ eff b s x i w) := by
  have he : exec s i = .go ({ s with evs := s.evs ++ [Ev.mk 64 (s.regs 12) (strOfNums ((s.mem.drop (s.regs 11).toNat).take (s.regs 12).toNat))] }.set 10 (s.regs 12)) (u32 (s.pc + 4)) none := by simp [exec, ho, doCall, hc, hl]
  unfold Ins.cells
  obtain ⟨v0, v1⟩ := hs.regs 10
  obtain ⟨at0, at1⟩ := hs.regs 11
  obtain ⟨n0, n1⟩ := hs.regs 12
  have h10 := h.mac.reg 10 (by omega)
  have h11 := h.mac.reg 11 (by omega)
  have h12 := h.mac.reg 12 (by omega)
  have h17 := h.mac.reg 17 (by omega)
  have f10 := h.mac.free 10
  have hsz := h.mac.lt
  have hlen := hs.len
  rw [hc] at h17
  clear hc
  obtain ⟨A, hAd⟩ : ∃ A : Nat, s.regs 11 = A := ⟨(s.regs 11).toNat, by omega⟩
  obtain ⟨N, hNd⟩ : ∃ N : Nat, s.regs 12 = N := ⟨(s.regs 12).toNat, by omega⟩
  rw [hAd, hNd] at hl
  rw [hAd] at h11 at0 at1 hlt
  rw [hNd] at h12 n0 n1
  have hfit : A + N ≤ s.mem.length := by unfold lies at hl; simp at hl; omega
  have HAd := Lib.hid hAd
  have HNd := Lib.hid hNd
  clear hAd hNd at1 n1
  have HL := Lib.hid hl
  clear hl
  have HN := Lib.hid hn
  have HE := Lib.hid he
  clear hn he
  go_enter Tryz.func56, Tryz.ntmps56
  go_wp2_with fail
  go_quiet (fail)
  go_wp2_with fail
  have hno : Only (fun _ => False) w ((w.alloc (.cells #[.int .i64 46, .int .i64 i.rd, .int .i64 i.rs1, .int .i64 i.rs2, .int .i32 i.imm] 32)).drewN nq) := ((Only.refl _ w).alloc _).drewN nq
  have hMw := h.no hno
  have hcv : ∀ l c : Nat, l = N → (convert 67 9 (.slice (some ⟨x.mb, A, none⟩) l c)).run Tryz.prog ((w.alloc (.cells #[.int .i64 46, .int .i64 i.rd, .int .i64 i.rs1, .int .i64 i.rs2, .int .i32 i.imm] 32)).drewN nq) = .ok (.string (strOfNums ((s.mem.drop A).take N))) ((w.alloc (.cells #[.int .i64 46, .int .i64 i.rd, .int .i64 i.rs1, .int .i64 i.rs2, .int .i32 i.imm] 32)).drewN nq) := by
    intro l c hl
    subst hl
    exact run_convert_bytes_arg (P := Tryz.prog) _ 67 5 Tryz.underlying67 Tryz.underlying5 x.mb A l c ((s.mem.drop A).take l) (by simp; omega) (fun j hj => by rw [mem_cell hMw.mem (A + j) (by omega), take_getD _ _ _ _ hj]) 9 Tryz.underlying9
  have h33 := h.mac.mem
  have HNO := Lib.hid hno
  have HMW := Lib.hid hMw
  clear hno hMw
  refine (lies_any b _ _ s x _ ?_ (by omega) (by omega) (by omega) (by omega) hs.len).mono ?_
  · repeat (first | with_reducible refine MacAt.drew ?_ | with_reducible refine MacAt.drewN ?_ _ | with_reducible refine MacAt.alloc ?_ _)
    exact h.mac
  rintro e w' ⟨rfl, rfl⟩
  rw [HL.out]
  go_wp2_with fail
  refine (tell_any b s x 64 N (strOfNums ((s.mem.drop A).take N)) _ HMW.out hev).mono ?_
  rintro e w1 ⟨rfl, v, hM1, hK, hO1⟩
  have g10 := hM1.mac.reg 10 (by omega)
  have gf10 := hM1.mac.free 10
  go_wp2_with fail
  first | go_end0 | refine bodyPost_ret (results_none rfl _ _ _) rfl ?_
  refine does_tell (s2 := { s with evs := s.evs ++ [Ev.mk 64 N (strOfNums ((s.mem.drop A).take N))], regs := rset s.regs (10 : Int).toNat N }) (x2 := { x with evs := v }) (w1 := w1) HE.out hM1 HN.out (hK.back HNO.out) (HNO.out.no.then hO1) ?_ ?_ ?_ rfl rfl rfl
  · repeat (first | with_reducible exact Only.refl _ _ | with_reducible refine Only.set1 ?_ _ _ | with_reducible refine Only.alloc ?_ _ | with_reducible refine Only.drewN ?_ _ | with_reducible refine Only.drew ?_)
  · repeat (first | with_reducible refine MacAt.drew ?_ | with_reducible refine MacAt.drewN ?_ _ | with_reducible refine MacAt.alloc ?_ _)
    exact hM1.mac.putReg 10 _ (by omega)
  · rw [HAd.out, HNd.out, Int.toNat_natCast, Int.toNat_natCast]
    exact clr_rset { s with evs := s.evs ++ [Ev.mk 64 N (strOfNums ((s.mem.drop A).take N))] } 10 _ hs.zero
set_option maxRecDepth 100000 in
set_option maxHeartbeats 400000 in
theorem call_write_e (eff : Int → Int → World → World → Prop) (b : Nat) (i : Ins) (hi : i.Ok) (s : St) (hs : s.Ok) (x : Raw) (w : World) (h : Mach w b s x) (ho : i.op = 46) (hn : x.next = u32 (s.pc + 4)) (hev : s.evs.length ≤ 1000000) (hc : s.regs 17 = 64) (hA : s.regs 11 = (s.mem.length : Int)) (hN : s.regs 12 = 0) :
    Calls Tryz.prog 56 #[.pointer (some ⟨b, 0, none⟩), .agg i.cells] w (DoesQ eff b s x i w) := by
  have he : exec s i = .go ({ s with evs := s.evs ++ [Ev.mk 64 0 (strOfNums [])] }.set 10 0) (u32 (s.pc + 4)) none := by simp [exec, ho, doCall, hc, hA, hN, lies]
  unfold Ins.cells
  obtain ⟨v0, v1⟩ := hs.regs 10
  obtain ⟨at0, at1⟩ := hs.regs 11
  obtain ⟨n0, n1⟩ := hs.regs 12
  have h10 := h.mac.reg 10 (by omega)
  have h11 := h.mac.reg 11 (by omega)
  have h12 := h.mac.reg 12 (by omega)
  have h17 := h.mac.reg 17 (by omega)
  have f10 := h.mac.free 10
  have hsz := h.mac.lt
  have hlen := hs.len
  rw [hc] at h17
  rw [hA] at h11 at0 at1
  rw [hN] at h12
  have hl : lies s (s.mem.length : Int) 0 = true := by simp [lies]
  have HL := Lib.hid hl
  clear hc hA hN hl n0 n1 at1
  have HN := Lib.hid hn
  have HE := Lib.hid he
  clear hn he
  go_enter Tryz.func56, Tryz.ntmps56
  go_wp2_with fail
  go_quiet (fail)
  go_wp2_with fail
  have hno : Only (fun _ => False) w ((w.alloc (.cells #[.int .i64 46, .int .i64 i.rd, .int .i64 i.rs1, .int .i64 i.rs2, .int .i32 i.imm] 32)).drewN nq) := ((Only.refl _ w).alloc _).drewN nq
  have hMw := h.no hno
  have hcv : ∀ (g o l c : Nat), l = 0 → (convert 67 9 (.slice (some ⟨g, o, none⟩) l c)).run Tryz.prog ((w.alloc (.cells #[.int .i64 46, .int .i64 i.rd, .int .i64 i.rs1, .int .i64 i.rs2, .int .i32 i.imm] 32)).drewN nq) = .ok (.string (strOfNums [])) ((w.alloc (.cells #[.int .i64 46, .int .i64 i.rd, .int .i64 i.rs1, .int .i64 i.rs2, .int .i32 i.imm] 32)).drewN nq) := by
    intro g o l c hl
    subst hl
    exact run_convert_bytes_arg (P := Tryz.prog) _ 67 5 Tryz.underlying67 Tryz.underlying5 g o 0 c [] rfl (fun j hj => absurd hj (Nat.not_lt_zero _)) 9 Tryz.underlying9
  have h33 := h.mac.mem
  have HNO := Lib.hid hno
  have HMW := Lib.hid hMw
  clear hno hMw
  refine (lies_any b _ _ s x _ ?_ (by omega) (by omega) (by omega) (by omega) hs.len).mono ?_
  · repeat (first | with_reducible refine MacAt.drew ?_ | with_reducible refine MacAt.drewN ?_ _ | with_reducible refine MacAt.alloc ?_ _)
    exact h.mac
  rintro e w' ⟨rfl, rfl⟩
  rw [HL.out]
  go_wp2_with fail
  refine (tell_any b s x 64 0 (strOfNums []) _ HMW.out hev).mono ?_
  rintro e w1 ⟨rfl, v, hM1, hK, hO1⟩
  have g10 := hM1.mac.reg 10 (by omega)
  have gf10 := hM1.mac.free 10
  go_wp2_with fail
  first | go_end0 | refine bodyPost_ret (results_none rfl _ _ _) rfl ?_
  refine does_tell (s2 := { s with evs := s.evs ++ [Ev.mk 64 0 (strOfNums [])], regs := rset s.regs (10 : Int).toNat 0 }) (x2 := { x with evs := v }) (w1 := w1) HE.out hM1 HN.out (hK.back HNO.out) (HNO.out.no.then hO1) ?_ ?_ ?_ rfl rfl rfl
  · repeat (first | with_reducible exact Only.refl _ _ | with_reducible refine Only.set1 ?_ _ _ | with_reducible refine Only.alloc ?_ _ | with_reducible refine Only.drewN ?_ _ | with_reducible refine Only.drew ?_)
  · repeat (first | with_reducible refine MacAt.drew ?_ | with_reducible refine MacAt.drewN ?_ _ | with_reducible refine MacAt.alloc ?_ _)
    exact hM1.mac.putReg 10 _ (by omega)
  · skip
    exact clr_rset { s with evs := s.evs ++ [Ev.mk 64 0 (strOfNums [])] } 10 _ hs.zero
set_option maxRecDepth 100000 in
set_option maxHeartbeats 400000 in
theorem call_read_0 (eff : Int → Int → World → World → Prop) (b : Nat) (i : Ins) (hi : i.Ok) (s : St) (hs : s.Ok) (x : Raw) (w : World) (h : Mach w b s x) (ho : i.op = 46) (hn : x.next = u32 (s.pc + 4)) (hev : s.evs.length ≤ 1000000) (clo : Value) (pre : World → Prop) (hW : WriteSpec eff b clo pre) (hst : Stable pre b) (hclo : x.wrote = clo) (hpre : pre w) (hc : s.regs 17 = 63) (ha : s.ans = []) (hl : lies s (s.regs 11) (s.regs 12) = true) :
    Calls Tryz.prog 56 #[.pointer (some ⟨b, 0, none⟩), .agg i.cells] w (DoesQ eff b s x i w) := by
  have he : exec s i = .go ({ s with evs := s.evs ++ [Ev.mk 63 0 ByteArray.empty], mem := putAt s.mem (s.regs 11) [] }.set 10 0) (u32 (s.pc + 4)) none := by simp [exec, ho, doCall, hc, hl, ha, bytesOf, wrOf, empty_extract]
  unfold Ins.cells
  obtain ⟨v0, v1⟩ := hs.regs 10
  obtain ⟨at0, at1⟩ := hs.regs 11
  obtain ⟨n0, n1⟩ := hs.regs 12
  have h10 := h.mac.reg 10 (by omega)
  have h11 := h.mac.reg 11 (by omega)
  have h12 := h.mac.reg 12 (by omega)
  have h17 := h.mac.reg 17 (by omega)
  have f10 := h.mac.free 10
  have hsz := h.mac.lt
  have hlen := hs.len
  obtain ⟨A, hAd⟩ : ∃ A : Nat, s.regs 11 = A := ⟨(s.regs 11).toNat, by omega⟩
  obtain ⟨N, hNd⟩ : ∃ N : Nat, s.regs 12 = N := ⟨(s.regs 12).toNat, by omega⟩
  rw [hAd, hNd] at hl
  rw [hAd] at h11 at0 at1
  rw [hNd] at h12 n0 n1
  have hfit : A + N ≤ s.mem.length := by unfold lies at hl; simp at hl; omega
  have HAd := Lib.hid hAd
  have HNd := Lib.hid hNd
  clear hAd hNd at1 n1
  have hfit2 : A ≤ s.mem.length := by omega
  rw [hc] at h17
  have HL := Lib.hid hl
  have HC := Lib.hid hclo
  clear hc hl hclo
  obtain ⟨aa, cc, hans, hcc, hcm, _⟩ := h.ans
  have h39 := h.mac.ans
  rw [hans, ha] at h39
  have hans0 := hans
  have HANS := Lib.hid hans0
  clear hans hans0
  have HN := Lib.hid hn
  have HE := Lib.hid he
  clear hn he
  go_enter Tryz.func56, Tryz.ntmps56
  go_wp2_with fail
  go_quiet (fail)
  go_wp2_with fail
  have hno : Only (fun _ => False) w ((w.alloc (.cells #[.int .i64 46, .int .i64 i.rd, .int .i64 i.rs1, .int .i64 i.rs2, .int .i32 i.imm] 32)).drewN nq) := ((Only.refl _ w).alloc _).drewN nq
  have hMw := h.no hno
  have hcs := fun (W : World) (t : ByteArray) => Lib.run_convert_string_bytes (P := Tryz.prog) W 9 67 5 t (u := .string) Tryz.underlying9 Tryz.underlying67 Tryz.underlying5
  have HNO := Lib.hid hno
  have HMW := Lib.hid hMw
  clear hno hMw
  refine (lies_any b _ _ s x _ ?_ (by omega) (by omega) (by omega) (by omega) hs.len).mono ?_
  · repeat (first | with_reducible refine MacAt.drew ?_ | with_reducible refine MacAt.drewN ?_ _ | with_reducible refine MacAt.alloc ?_ _)
    exact h.mac
  rintro e w' ⟨rfl, rfl⟩
  rw [HL.out]
  go_wp2_with fail
  have hb0 : Only (fun _ => False) w (Lib.bytesWorld ((w.alloc (.cells #[.int .i64 46, .int .i64 i.rd, .int .i64 i.rs1, .int .i64 i.rs2, .int .i32 i.imm] 32)).drewN nq) 5 ⟨#[]⟩) := HNO.out.bytes _ _
  have hMb := h.no hb0
  refine (hW s x A [] (w.heap.size + 1) 0 _ _ hMb HC.out (hst x s w _ h hpre hb0.no) hlen (by simpa using hfit2) (fun j v hj => by simp at hj) (Nat.zero_le _)).mono ?_
  rintro e w2 ⟨rfl, hM2, _, hw2, _⟩
  have e2 := hw2 rfl
  have hO2 : Only (fun _ => False) w w2 := by rw [e2]; exact hb0
  clear hb0 hMb hw2 e2
  have g10 := hM2.mac.reg 10 (by omega)
  have gf10 := hM2.mac.free 10
  clear h10 h11 h12 h17 h39 f10 hcs
  go_wp2_with fail
  have hM3 := hM2.struct ((Only.refl _ w2).set1 10 (.int .u32 0)) (hM2.mac.putReg 10 0 (by omega)) rfl rfl rfl rfl rfl rfl rfl
  refine (tell_any b _ x 63 0 ByteArray.empty _ hM3 hev).mono ?_
  rintro e w3 ⟨rfl, v, hM4, hK, hO4⟩
  go_wp2_with fail
  first | go_end0 | refine bodyPost_ret (results_none rfl _ _ _) rfl ?_
  have hO3 : Only (Mb b x) w (w2.setCell ⟨b, 10, none⟩ (.int .u32 0)) := hO2.no.then (Only.mb ((Only.refl _ w2).set1 10 (.int .u32 0)))
  unfold DoesQ
  rw [HE.out, HAd.out]
  refine ⟨rfl, _, _, hM4, ?_, HN.out, hK.back hO3, hO3.then hO4⟩
  exact clr_rset { s with evs := s.evs ++ [Ev.mk 63 0 ByteArray.empty], mem := putAt s.mem A [] } 10 0 hs.zero
theorem extract_all (t : ByteArray) (N : Nat) (h : t.size ≤ N) : t.extract 0 N = t := by
  apply ByteArray.ext
  simp
  exact Or.inr h
theorem bytesOf_len (u : ByteArray) : (bytesOf u).length = u.size := by simp [bytesOf]
theorem eff_mk {eff : Int → Int → World → World → Prop} {b : Nat} {x : Raw} {A n : Nat} {bs : List Int} {w wa w2 w' : World} (hn : bs.length = n) (h0 : Only (Mb b x) w wa) (h1 : bs = [] → w2 = wa) (h2 : bs ≠ [] → ∃ w1, Only (Mb b x) wa w1 ∧ eff ((A : Int) / 64) (((A : Int) + bs.length - 1) / 64) w1 w2) (h3 : Only (Mb b x) w2 w') :
    Eff eff b x (wrOf A n) w w' := by
  unfold wrOf
  by_cases e : (n : Int) = 0
  · rw [if_pos e]
    have hb : bs = [] := List.eq_nil_of_length_eq_zero (by omega)
    have := h1 hb
    subst this
    exact h0.then h3
  · rw [if_neg e]
    obtain ⟨w1, a, c⟩ := h2 (fun hb => by rw [hb] at hn; simp at hn; omega)
    rw [hn] at c
    exact ⟨w1, w2, h0.then a, c, h3⟩
theorem bytes_src (W : World) (e : TypeId) (u : ByteArray) : ∀ j v, ((bytesOf u).map (Value.int .u8))[j]? = some v → (Lib.bytesWorld W e u).cell? ⟨W.heap.size, 0 + j, none⟩ = some v := by
  intro j v hj
  have hlt : j < u.size := by
    rcases Nat.lt_or_ge j u.size with h | h
    · exact h
    · rw [List.getElem?_eq_none (by rw [List.length_map, bytesOf_len]; exact h)] at hj; cases hj
  rw [Nat.zero_add, Lib.bytesWorld_cell W e u j hlt]
  rw [← hj]
  have hl : j < u.data.size := hlt
  simp [bytesOf, List.getD_eq_getElem?_getD]
  rw [Array.getElem?_eq_getElem hl]
  rfl
set_option maxRecDepth 100000 in
set_option maxHeartbeats 400000 in
theorem call_read_1 (eff : Int → Int → World → World → Prop) (b : Nat) (i : Ins) (hi : i.Ok) (s : St) (hs : s.Ok) (x : Raw) (w : World) (h : Mach w b s x) (ho : i.op = 46) (hn : x.next = u32 (s.pc + 4)) (hev : s.evs.length ≤ 1000000) (clo : Value) (pre : World → Prop) (hW : WriteSpec eff b clo pre) (hst : Stable pre b) (hclo : x.wrote = clo) (hpre : pre w) (hc : s.regs 17 = 63) (t : ByteArray) (rest : List ByteArray) (ha : s.ans = t :: rest) (htl : t.size ≤ maxLen) (off cc : Nat) (hans : x.ans = .slice (some ⟨x.ab, off, none⟩) (rest.length + 1) cc) (hcm : cc ≤ 9223372036854775807) (hc1 : 1 < cc) (hrl : rest.length + 1 ≤ cc) (hle : t.size ≤ (s.regs 12).toNat) (h0c : w.cell? ⟨x.ab, off, none⟩ = some (.string t)) (hnew : ∀ W, Only (Mb b x) w W → TextsAt W x.ab (.slice (some ⟨x.ab, off + 1, none⟩) rest.length (cc - 1)) rest) (hl : lies s (s.regs 11) (s.regs 12) = true) :
    Calls Tryz.prog 56 #[.pointer (some ⟨b, 0, none⟩), .agg i.cells] w (DoesQ eff b s x i w) := by
  have he : exec s i = .go ({ s with evs := s.evs ++ [Ev.mk 63 (t.extract 0 (s.regs 12).toNat).size (t.extract 0 (s.regs 12).toNat)], ans := rest, mem := putAt s.mem (s.regs 11) (bytesOf (t.extract 0 (s.regs 12).toNat)) }.set 10 (t.extract 0 (s.regs 12).toNat).size) (u32 (s.pc + 4)) (wrOf (s.regs 11) (t.extract 0 (s.regs 12).toNat).size) := by simp [exec, ho, doCall, hc, hl, ha]
  unfold Ins.cells
  obtain ⟨v0, v1⟩ := hs.regs 10
  obtain ⟨at0, at1⟩ := hs.regs 11
  obtain ⟨n0, n1⟩ := hs.regs 12
  have h10 := h.mac.reg 10 (by omega)
  have h11 := h.mac.reg 11 (by omega)
  have h12 := h.mac.reg 12 (by omega)
  have h17 := h.mac.reg 17 (by omega)
  have f10 := h.mac.free 10
  have hsz := h.mac.lt
  have hlen := hs.len
  obtain ⟨A, hAd⟩ : ∃ A : Nat, s.regs 11 = A := ⟨(s.regs 11).toNat, by omega⟩
  obtain ⟨N, hNd⟩ : ∃ N : Nat, s.regs 12 = N := ⟨(s.regs 12).toNat, by omega⟩
  rw [hAd, hNd] at hl
  rw [hAd] at h11 at0 at1
  rw [hNd] at h12 n0 n1
  have hfit : A + N ≤ s.mem.length := by unfold lies at hl; simp at hl; omega
  have HAd := Lib.hid hAd
  have HNd := Lib.hid hNd
  clear hAd hNd at1 n1
  have hfit2 : A ≤ s.mem.length := by omega
  rw [hc] at h17
  have HL := Lib.hid hl
  have HC := Lib.hid hclo
  clear hc hl hclo
  have h39 := h.mac.ans
  rw [hans] at h39
  have HANS := Lib.hid hans
  have HA2 := Lib.hid ha
  clear hans ha
  have f39 := h.mac.free 39
  have hab := h.abLt
  have hnab := h.nea.1
  have hst0 : t.size ≤ maxLen := htl
  unfold maxLen at hst0
  obtain ⟨M, hM⟩ : ∃ M : Nat, M = min t.size N := ⟨_, rfl⟩
  have HNEW := Lib.hid hnew
  clear hnew
  rw [HNd.out, Int.toNat_natCast] at hle
  have HSZ := Lib.hid (show A + t.size ≤ s.mem.length by omega)
  have HUE := Lib.hid (extract_all t N hle)
  have HN := Lib.hid hn
  have HE := Lib.hid he
  clear hn he
  go_enter Tryz.func56, Tryz.ntmps56
  go_wp2_with fail
  go_quiet (fail)
  go_wp2_with fail
  have hno : Only (fun _ => False) w ((w.alloc (.cells #[.int .i64 46, .int .i64 i.rd, .int .i64 i.rs1, .int .i64 i.rs2, .int .i32 i.imm] 32)).drewN nq) := ((Only.refl _ w).alloc _).drewN nq
  have hMw := h.no hno
  have hcs := fun (W : World) (t : ByteArray) => Lib.run_convert_string_bytes (P := Tryz.prog) W 9 67 5 t (u := .string) Tryz.underlying9 Tryz.underlying67 Tryz.underlying5
  have HNO := Lib.hid hno
  have HMW := Lib.hid hMw
  clear hno hMw
  refine (lies_any b _ _ s x _ ?_ (by omega) (by omega) (by omega) (by omega) hs.len).mono ?_
  · repeat (first | with_reducible refine MacAt.drew ?_ | with_reducible refine MacAt.drewN ?_ _ | with_reducible refine MacAt.alloc ?_ _)
    exact h.mac
  rintro e w' ⟨rfl, rfl⟩
  rw [HL.out]
  go_wp2_with fail
  go_region
  go_wp2_with fail
  have hO0 : Only (Mb b x) w (((w.alloc (.cells #[.int .i64 46, .int .i64 i.rd, .int .i64 i.rs1, .int .i64 i.rs2, .int .i32 i.imm] 32)).drewN (nq + 1)).setCell ⟨b, 39, none⟩ (.slice (some ⟨x.ab, off + 1, none⟩) rest.length (cc - 1))) := ((((Only.refl _ w).alloc _).drewN _).setS (Or.inl rfl) _ _)
  have hM0 : Mach (((w.alloc (.cells #[.int .i64 46, .int .i64 i.rd, .int .i64 i.rs1, .int .i64 i.rs2, .int .i32 i.imm] 32)).drewN (nq + 1)).setCell ⟨b, 39, none⟩ (.slice (some ⟨x.ab, off + 1, none⟩) rest.length (cc - 1))) b { s with ans := rest } { x with ans := .slice (some ⟨x.ab, off + 1, none⟩) rest.length (cc - 1) } := by
    have hc0 : MacAt (((w.alloc (.cells #[.int .i64 46, .int .i64 i.rd, .int .i64 i.rs1, .int .i64 i.rs2, .int .i32 i.imm] 32)).drewN (nq + 1)).setCell ⟨b, 39, none⟩ (.slice (some ⟨x.ab, off + 1, none⟩) rest.length (cc - 1))) b s { x with ans := .slice (some ⟨x.ab, off + 1, none⟩) rest.length (cc - 1) } := MacAt.putAns (s := s) (x := x) ((h.mac.alloc _).drewN _) _
    have hob : Only (· = b) w (((w.alloc (.cells #[.int .i64 46, .int .i64 i.rd, .int .i64 i.rs1, .int .i64 i.rs2, .int .i32 i.imm] 32)).drewN (nq + 1)).setCell ⟨b, 39, none⟩ (.slice (some ⟨x.ab, off + 1, none⟩) rest.length (cc - 1))) := (((Only.refl _ w).alloc _).drewN _).set1 _ _
    exact ⟨hc0, hob.heap (Ne.symm h.ne) h.mem, h.ne, HNEW.out _ hO0, Nat.lt_of_lt_of_le h.abLt hO0.size, h.nea, ownsRow_only h.evs hob (fun g hg => (h.nee g hg).1), h.nee⟩
  have hbw : Only (fun _ => False) (((w.alloc (.cells #[.int .i64 46, .int .i64 i.rd, .int .i64 i.rs1, .int .i64 i.rs2, .int .i32 i.imm] 32)).drewN (nq + 1)).setCell ⟨b, 39, none⟩ (.slice (some ⟨x.ab, off + 1, none⟩) rest.length (cc - 1))) (Lib.bytesWorld (((w.alloc (.cells #[.int .i64 46, .int .i64 i.rd, .int .i64 i.rs1, .int .i64 i.rs2, .int .i32 i.imm] 32)).drewN (nq + 1)).setCell ⟨b, 39, none⟩ (.slice (some ⟨x.ab, off + 1, none⟩) rest.length (cc - 1))) 5 (t)) := (Only.refl _ _).bytes _ _
  have hO1 : Only (Mb b x) w (Lib.bytesWorld (((w.alloc (.cells #[.int .i64 46, .int .i64 i.rd, .int .i64 i.rs1, .int .i64 i.rs2, .int .i32 i.imm] 32)).drewN (nq + 1)).setCell ⟨b, 39, none⟩ (.slice (some ⟨x.ab, off + 1, none⟩) rest.length (cc - 1))) 5 (t)) := hO0.then hbw.no
  have hcap := fun (C : Nat) (hC : (t).size ≤ C) => hW { s with ans := rest } { x with ans := .slice (some ⟨x.ab, off + 1, none⟩) rest.length (cc - 1) } A (bytesOf (t)) (w.heap.size + 1) 0 C _ (hM0.no hbw) HC.out (hst x s w _ h hpre hO1) hlen (by rw [bytesOf_len]; exact HSZ.out) (by
    have := bytes_src (((w.alloc (.cells #[.int .i64 46, .int .i64 i.rd, .int .i64 i.rs1, .int .i64 i.rs2, .int .i32 i.imm] 32)).drewN (nq + 1)).setCell ⟨b, 39, none⟩ (.slice (some ⟨x.ab, off + 1, none⟩) rest.length (cc - 1))) 5 (t)
    have e : (((w.alloc (.cells #[.int .i64 46, .int .i64 i.rd, .int .i64 i.rs1, .int .i64 i.rs2, .int .i32 i.imm] 32)).drewN (nq + 1)).setCell ⟨b, 39, none⟩ (.slice (some ⟨x.ab, off + 1, none⟩) rest.length (cc - 1))).heap.size = w.heap.size + 1 := by simp
    rw [e] at this
    exact this) (by rw [bytesOf_len]; exact hC)
  rw [bytesOf_len] at hcap
  skip
  refine (hcap _ (by exact grownCap_ge _ _ _ _)).mono ?_
  rintro e w2 ⟨rfl, hM2, hsz2, hw2, hw3⟩
  have g10 := hM2.mac.reg 10 (by omega)
  have gf10 := hM2.mac.free 10
  clear h10 h11 h12 h17 h39 f10 hcs h0c f39 hcap
  go_wp2_with fail
  have hM3 := hM2.struct ((Only.refl _ w2).set1 10 (.int .u32 ((t.size : Int)))) (hM2.mac.putReg 10 ((t.size : Int)) (by omega)) rfl rfl rfl rfl rfl rfl rfl
  refine (tell_any b _ _ 63 ((t.size : Int)) (t) _ hM3 hev).mono ?_
  rintro e w3 ⟨rfl, v, hM4, hK, hO4⟩
  go_wp2_with fail
  first | go_end0 | refine bodyPost_ret (results_none rfl _ _ _) rfl ?_
  unfold DoesQ
  rw [HE.out, HAd.out, HNd.out, Int.toNat_natCast, HUE.out]
  have hO3 : Only (Mb b x) w2 w3 := (Only.mb (x := x) ((Only.refl _ w2).set1 10 (.int .u32 ((t.size : Int))))).then hO4
  have hszw : w.heap.size ≤ w2.heap.size := Nat.le_trans hO1.size hsz2
  refine ⟨rfl, _, _, hM4, ?_, HN.out, ⟨rfl, rfl, rfl, ?_⟩, eff_mk (bytesOf_len _) hO1 hw2 hw3 hO3⟩
  · exact clr_rset { s with evs := s.evs ++ [Ev.mk 63 ((t.size : Int)) (t)], ans := rest, mem := putAt s.mem A (bytesOf (t)) } 10 ((t.size : Int)) hs.zero
  · exact hK.2.2.2.imp id (fun ⟨g, e, l⟩ => ⟨g, e, Nat.le_trans hszw (by simpa using l)⟩)
set_option maxRecDepth 100000 in
set_option maxHeartbeats 400000 in
theorem call_read_2 (eff : Int → Int → World → World → Prop) (b : Nat) (i : Ins) (hi : i.Ok) (s : St) (hs : s.Ok) (x : Raw) (w : World) (h : Mach w b s x) (ho : i.op = 46) (hn : x.next = u32 (s.pc + 4)) (hev : s.evs.length ≤ 1000000) (clo : Value) (pre : World → Prop) (hW : WriteSpec eff b clo pre) (hst : Stable pre b) (hclo : x.wrote = clo) (hpre : pre w) (hc : s.regs 17 = 63) (t : ByteArray) (rest : List ByteArray) (ha : s.ans = t :: rest) (htl : t.size ≤ maxLen) (off cc : Nat) (hans : x.ans = .slice (some ⟨x.ab, off, none⟩) (rest.length + 1) cc) (hcm : cc ≤ 9223372036854775807) (hc1 : 1 < cc) (hrl : rest.length + 1 ≤ cc) (hgt : (s.regs 12).toNat < t.size) (h0c : w.cell? ⟨x.ab, off, none⟩ = some (.string t)) (hnew : ∀ W, Only (Mb b x) w W → TextsAt W x.ab (.slice (some ⟨x.ab, off + 1, none⟩) rest.length (cc - 1)) rest) (hl : lies s (s.regs 11) (s.regs 12) = true) :
    Calls Tryz.prog 56 #[.pointer (some ⟨b, 0, none⟩), .agg i.cells] w (DoesQ eff b s x i w) := by
  have he : exec s i = .go ({ s with evs := s.evs ++ [Ev.mk 63 (t.extract 0 (s.regs 12).toNat).size (t.extract 0 (s.regs 12).toNat)], ans := rest, mem := putAt s.mem (s.regs 11) (bytesOf (t.extract 0 (s.regs 12).toNat)) }.set 10 (t.extract 0 (s.regs 12).toNat).size) (u32 (s.pc + 4)) (wrOf (s.regs 11) (t.extract 0 (s.regs 12).toNat).size) := by simp [exec, ho, doCall, hc, hl, ha]
  unfold Ins.cells
  obtain ⟨v0, v1⟩ := hs.regs 10
  obtain ⟨at0, at1⟩ := hs.regs 11
  obtain ⟨n0, n1⟩ := hs.regs 12
  have h10 := h.mac.reg 10 (by omega)
  have h11 := h.mac.reg 11 (by omega)
  have h12 := h.mac.reg 12 (by omega)
  have h17 := h.mac.reg 17 (by omega)
  have f10 := h.mac.free 10
  have hsz := h.mac.lt
  have hlen := hs.len
  obtain ⟨A, hAd⟩ : ∃ A : Nat, s.regs 11 = A := ⟨(s.regs 11).toNat, by omega⟩
  obtain ⟨N, hNd⟩ : ∃ N : Nat, s.regs 12 = N := ⟨(s.regs 12).toNat, by omega⟩
  rw [hAd, hNd] at hl
  rw [hAd] at h11 at0 at1
  rw [hNd] at h12 n0 n1
  have hfit : A + N ≤ s.mem.length := by unfold lies at hl; simp at hl; omega
  have HAd := Lib.hid hAd
  have HNd := Lib.hid hNd
  clear hAd hNd at1 n1
  have hfit2 : A ≤ s.mem.length := by omega
  rw [hc] at h17
  have HL := Lib.hid hl
  have HC := Lib.hid hclo
  clear hc hl hclo
  have h39 := h.mac.ans
  rw [hans] at h39
  have HANS := Lib.hid hans
  have HA2 := Lib.hid ha
  clear hans ha
  have f39 := h.mac.free 39
  have hab := h.abLt
  have hnab := h.nea.1
  have hst0 : t.size ≤ maxLen := htl
  unfold maxLen at hst0
  obtain ⟨M, hM⟩ : ∃ M : Nat, M = min t.size N := ⟨_, rfl⟩
  have HNEW := Lib.hid hnew
  clear hnew
  rw [HNd.out, Int.toNat_natCast] at hgt
  have HSZ := Lib.hid (show A + (t.extract 0 N).size ≤ s.mem.length by rw [ByteArray.size_extract]; omega)
  have HSE := Lib.hid (show (t.extract 0 N).size = min N t.size by rw [ByteArray.size_extract]; rfl)
  have HN := Lib.hid hn
  have HE := Lib.hid he
  clear hn he
  go_enter Tryz.func56, Tryz.ntmps56
  go_wp2_with fail
  go_quiet (fail)
  go_wp2_with fail
  have hno : Only (fun _ => False) w ((w.alloc (.cells #[.int .i64 46, .int .i64 i.rd, .int .i64 i.rs1, .int .i64 i.rs2, .int .i32 i.imm] 32)).drewN nq) := ((Only.refl _ w).alloc _).drewN nq
  have hMw := h.no hno
  have hcs := fun (W : World) (t : ByteArray) => Lib.run_convert_string_bytes (P := Tryz.prog) W 9 67 5 t (u := .string) Tryz.underlying9 Tryz.underlying67 Tryz.underlying5
  have HNO := Lib.hid hno
  have HMW := Lib.hid hMw
  clear hno hMw
  refine (lies_any b _ _ s x _ ?_ (by omega) (by omega) (by omega) (by omega) hs.len).mono ?_
  · repeat (first | with_reducible refine MacAt.drew ?_ | with_reducible refine MacAt.drewN ?_ _ | with_reducible refine MacAt.alloc ?_ _)
    exact h.mac
  rintro e w' ⟨rfl, rfl⟩
  rw [HL.out]
  go_wp2_with fail
  go_region
  go_wp2_with fail
  have hO0 : Only (Mb b x) w (((w.alloc (.cells #[.int .i64 46, .int .i64 i.rd, .int .i64 i.rs1, .int .i64 i.rs2, .int .i32 i.imm] 32)).drewN (nq + 1)).setCell ⟨b, 39, none⟩ (.slice (some ⟨x.ab, off + 1, none⟩) rest.length (cc - 1))) := ((((Only.refl _ w).alloc _).drewN _).setS (Or.inl rfl) _ _)
  have hM0 : Mach (((w.alloc (.cells #[.int .i64 46, .int .i64 i.rd, .int .i64 i.rs1, .int .i64 i.rs2, .int .i32 i.imm] 32)).drewN (nq + 1)).setCell ⟨b, 39, none⟩ (.slice (some ⟨x.ab, off + 1, none⟩) rest.length (cc - 1))) b { s with ans := rest } { x with ans := .slice (some ⟨x.ab, off + 1, none⟩) rest.length (cc - 1) } := by
    have hc0 : MacAt (((w.alloc (.cells #[.int .i64 46, .int .i64 i.rd, .int .i64 i.rs1, .int .i64 i.rs2, .int .i32 i.imm] 32)).drewN (nq + 1)).setCell ⟨b, 39, none⟩ (.slice (some ⟨x.ab, off + 1, none⟩) rest.length (cc - 1))) b s { x with ans := .slice (some ⟨x.ab, off + 1, none⟩) rest.length (cc - 1) } := MacAt.putAns (s := s) (x := x) ((h.mac.alloc _).drewN _) _
    have hob : Only (· = b) w (((w.alloc (.cells #[.int .i64 46, .int .i64 i.rd, .int .i64 i.rs1, .int .i64 i.rs2, .int .i32 i.imm] 32)).drewN (nq + 1)).setCell ⟨b, 39, none⟩ (.slice (some ⟨x.ab, off + 1, none⟩) rest.length (cc - 1))) := (((Only.refl _ w).alloc _).drewN _).set1 _ _
    exact ⟨hc0, hob.heap (Ne.symm h.ne) h.mem, h.ne, HNEW.out _ hO0, Nat.lt_of_lt_of_le h.abLt hO0.size, h.nea, ownsRow_only h.evs hob (fun g hg => (h.nee g hg).1), h.nee⟩
  have hbw : Only (fun _ => False) (((w.alloc (.cells #[.int .i64 46, .int .i64 i.rd, .int .i64 i.rs1, .int .i64 i.rs2, .int .i32 i.imm] 32)).drewN (nq + 1)).setCell ⟨b, 39, none⟩ (.slice (some ⟨x.ab, off + 1, none⟩) rest.length (cc - 1))) (Lib.bytesWorld (((w.alloc (.cells #[.int .i64 46, .int .i64 i.rd, .int .i64 i.rs1, .int .i64 i.rs2, .int .i32 i.imm] 32)).drewN (nq + 1)).setCell ⟨b, 39, none⟩ (.slice (some ⟨x.ab, off + 1, none⟩) rest.length (cc - 1))) 5 (t.extract 0 N)) := (Only.refl _ _).bytes _ _
  have hO1 : Only (Mb b x) w (Lib.bytesWorld (((w.alloc (.cells #[.int .i64 46, .int .i64 i.rd, .int .i64 i.rs1, .int .i64 i.rs2, .int .i32 i.imm] 32)).drewN (nq + 1)).setCell ⟨b, 39, none⟩ (.slice (some ⟨x.ab, off + 1, none⟩) rest.length (cc - 1))) 5 (t.extract 0 N)) := hO0.then hbw.no
  have hcap := fun (C : Nat) (hC : (t.extract 0 N).size ≤ C) => hW { s with ans := rest } { x with ans := .slice (some ⟨x.ab, off + 1, none⟩) rest.length (cc - 1) } A (bytesOf (t.extract 0 N)) (w.heap.size + 1) 0 C _ (hM0.no hbw) HC.out (hst x s w _ h hpre hO1) hlen (by rw [bytesOf_len]; exact HSZ.out) (by
    have := bytes_src (((w.alloc (.cells #[.int .i64 46, .int .i64 i.rd, .int .i64 i.rs1, .int .i64 i.rs2, .int .i32 i.imm] 32)).drewN (nq + 1)).setCell ⟨b, 39, none⟩ (.slice (some ⟨x.ab, off + 1, none⟩) rest.length (cc - 1))) 5 (t.extract 0 N)
    have e : (((w.alloc (.cells #[.int .i64 46, .int .i64 i.rd, .int .i64 i.rs1, .int .i64 i.rs2, .int .i32 i.imm] 32)).drewN (nq + 1)).setCell ⟨b, 39, none⟩ (.slice (some ⟨x.ab, off + 1, none⟩) rest.length (cc - 1))).heap.size = w.heap.size + 1 := by simp
    rw [e] at this
    exact this) (by rw [bytesOf_len]; exact hC)
  rw [bytesOf_len] at hcap
  rw [HSE.out] at hcap
  refine (hcap _ (by rw [← HSE.out]; exact grownCap_ge _ _ _ _)).mono ?_
  rintro e w2 ⟨rfl, hM2, hsz2, hw2, hw3⟩
  have g10 := hM2.mac.reg 10 (by omega)
  have gf10 := hM2.mac.free 10
  clear h10 h11 h12 h17 h39 f10 hcs h0c f39 hcap
  go_wp2_with fail
  have hM3 := hM2.struct ((Only.refl _ w2).set1 10 (.int .u32 (((min N t.size : Nat) : Int)))) (hM2.mac.putReg 10 (((min N t.size : Nat) : Int)) (by omega)) rfl rfl rfl rfl rfl rfl rfl
  refine (tell_any b _ _ 63 (((min N t.size : Nat) : Int)) (t.extract 0 N) _ hM3 hev).mono ?_
  rintro e w3 ⟨rfl, v, hM4, hK, hO4⟩
  go_wp2_with fail
  first | go_end0 | refine bodyPost_ret (results_none rfl _ _ _) rfl ?_
  unfold DoesQ
  rw [HE.out, HAd.out, HNd.out, Int.toNat_natCast, HSE.out]
  have hO3 : Only (Mb b x) w2 w3 := (Only.mb (x := x) ((Only.refl _ w2).set1 10 (.int .u32 (((min N t.size : Nat) : Int))))).then hO4
  have hszw : w.heap.size ≤ w2.heap.size := Nat.le_trans hO1.size hsz2
  refine ⟨rfl, _, _, hM4, ?_, HN.out, ⟨rfl, rfl, rfl, ?_⟩, eff_mk ((bytesOf_len _).trans HSE.out) hO1 hw2 hw3 hO3⟩
  · exact clr_rset { s with evs := s.evs ++ [Ev.mk 63 (((min N t.size : Nat) : Int)) (t.extract 0 N)], ans := rest, mem := putAt s.mem A (bytesOf (t.extract 0 N)) } 10 (((min N t.size : Nat) : Int)) hs.zero
  · exact hK.2.2.2.imp id (fun ⟨g, e, l⟩ => ⟨g, e, Nat.le_trans hszw (by simpa using l)⟩)
set_option maxRecDepth 100000 in
set_option maxHeartbeats 400000 in
theorem call_read_3 (eff : Int → Int → World → World → Prop) (b : Nat) (i : Ins) (hi : i.Ok) (s : St) (hs : s.Ok) (x : Raw) (w : World) (h : Mach w b s x) (ho : i.op = 46) (hn : x.next = u32 (s.pc + 4)) (hev : s.evs.length ≤ 1000000) (clo : Value) (pre : World → Prop) (hW : WriteSpec eff b clo pre) (hst : Stable pre b) (hclo : x.wrote = clo) (hpre : pre w) (hc : s.regs 17 = 63) (t : ByteArray) (ha : s.ans = [t]) (htl : t.size ≤ maxLen) (off : Nat) (hans : x.ans = .slice (some ⟨x.ab, off, none⟩) 1 1) (hle : t.size ≤ (s.regs 12).toNat) (h0c : w.cell? ⟨x.ab, off, none⟩ = some (.string t)) (hnew : ∀ W, Only (Mb b x) w W → TextsAt W x.ab (.slice (some ⟨x.ab, off, none⟩) 0 0) []) (hl : lies s (s.regs 11) (s.regs 12) = true) :
    Calls Tryz.prog 56 #[.pointer (some ⟨b, 0, none⟩), .agg i.cells] w (DoesQ eff b s x i w) := by
  have he : exec s i = .go ({ s with evs := s.evs ++ [Ev.mk 63 (t.extract 0 (s.regs 12).toNat).size (t.extract 0 (s.regs 12).toNat)], ans := [], mem := putAt s.mem (s.regs 11) (bytesOf (t.extract 0 (s.regs 12).toNat)) }.set 10 (t.extract 0 (s.regs 12).toNat).size) (u32 (s.pc + 4)) (wrOf (s.regs 11) (t.extract 0 (s.regs 12).toNat).size) := by simp [exec, ho, doCall, hc, hl, ha]
  unfold Ins.cells
  obtain ⟨v0, v1⟩ := hs.regs 10
  obtain ⟨at0, at1⟩ := hs.regs 11
  obtain ⟨n0, n1⟩ := hs.regs 12
  have h10 := h.mac.reg 10 (by omega)
  have h11 := h.mac.reg 11 (by omega)
  have h12 := h.mac.reg 12 (by omega)
  have h17 := h.mac.reg 17 (by omega)
  have f10 := h.mac.free 10
  have hsz := h.mac.lt
  have hlen := hs.len
  obtain ⟨A, hAd⟩ : ∃ A : Nat, s.regs 11 = A := ⟨(s.regs 11).toNat, by omega⟩
  obtain ⟨N, hNd⟩ : ∃ N : Nat, s.regs 12 = N := ⟨(s.regs 12).toNat, by omega⟩
  rw [hAd, hNd] at hl
  rw [hAd] at h11 at0 at1
  rw [hNd] at h12 n0 n1
  have hfit : A + N ≤ s.mem.length := by unfold lies at hl; simp at hl; omega
  have HAd := Lib.hid hAd
  have HNd := Lib.hid hNd
  clear hAd hNd at1 n1
  have hfit2 : A ≤ s.mem.length := by omega
  rw [hc] at h17
  have HL := Lib.hid hl
  have HC := Lib.hid hclo
  clear hc hl hclo
  have h39 := h.mac.ans
  rw [hans] at h39
  have HANS := Lib.hid hans
  have HA2 := Lib.hid ha
  clear hans ha
  have f39 := h.mac.free 39
  have hab := h.abLt
  have hnab := h.nea.1
  have hst0 : t.size ≤ maxLen := htl
  unfold maxLen at hst0
  obtain ⟨M, hM⟩ : ∃ M : Nat, M = min t.size N := ⟨_, rfl⟩
  have HNEW := Lib.hid hnew
  clear hnew
  rw [HNd.out, Int.toNat_natCast] at hle
  have HSZ := Lib.hid (show A + t.size ≤ s.mem.length by omega)
  have HUE := Lib.hid (extract_all t N hle)
  have HN := Lib.hid hn
  have HE := Lib.hid he
  clear hn he
  go_enter Tryz.func56, Tryz.ntmps56
  go_wp2_with fail
  go_quiet (fail)
  go_wp2_with fail
  have hno : Only (fun _ => False) w ((w.alloc (.cells #[.int .i64 46, .int .i64 i.rd, .int .i64 i.rs1, .int .i64 i.rs2, .int .i32 i.imm] 32)).drewN nq) := ((Only.refl _ w).alloc _).drewN nq
  have hMw := h.no hno
  have hcs := fun (W : World) (t : ByteArray) => Lib.run_convert_string_bytes (P := Tryz.prog) W 9 67 5 t (u := .string) Tryz.underlying9 Tryz.underlying67 Tryz.underlying5
  have HNO := Lib.hid hno
  have HMW := Lib.hid hMw
  clear hno hMw
  refine (lies_any b _ _ s x _ ?_ (by omega) (by omega) (by omega) (by omega) hs.len).mono ?_
  · repeat (first | with_reducible refine MacAt.drew ?_ | with_reducible refine MacAt.drewN ?_ _ | with_reducible refine MacAt.alloc ?_ _)
    exact h.mac
  rintro e w' ⟨rfl, rfl⟩
  rw [HL.out]
  go_wp2_with fail
  go_region
  go_wp2_with fail
  have hO0 : Only (Mb b x) w (((w.alloc (.cells #[.int .i64 46, .int .i64 i.rd, .int .i64 i.rs1, .int .i64 i.rs2, .int .i32 i.imm] 32)).drewN (nq + 1)).setCell ⟨b, 39, none⟩ (.slice (some ⟨x.ab, off, none⟩) 0 0)) := ((((Only.refl _ w).alloc _).drewN _).setS (Or.inl rfl) _ _)
  have hM0 : Mach (((w.alloc (.cells #[.int .i64 46, .int .i64 i.rd, .int .i64 i.rs1, .int .i64 i.rs2, .int .i32 i.imm] 32)).drewN (nq + 1)).setCell ⟨b, 39, none⟩ (.slice (some ⟨x.ab, off, none⟩) 0 0)) b { s with ans := [] } { x with ans := .slice (some ⟨x.ab, off, none⟩) 0 0 } := by
    have hc0 : MacAt (((w.alloc (.cells #[.int .i64 46, .int .i64 i.rd, .int .i64 i.rs1, .int .i64 i.rs2, .int .i32 i.imm] 32)).drewN (nq + 1)).setCell ⟨b, 39, none⟩ (.slice (some ⟨x.ab, off, none⟩) 0 0)) b s { x with ans := .slice (some ⟨x.ab, off, none⟩) 0 0 } := MacAt.putAns (s := s) (x := x) ((h.mac.alloc _).drewN _) _
    have hob : Only (· = b) w (((w.alloc (.cells #[.int .i64 46, .int .i64 i.rd, .int .i64 i.rs1, .int .i64 i.rs2, .int .i32 i.imm] 32)).drewN (nq + 1)).setCell ⟨b, 39, none⟩ (.slice (some ⟨x.ab, off, none⟩) 0 0)) := (((Only.refl _ w).alloc _).drewN _).set1 _ _
    exact ⟨hc0, hob.heap (Ne.symm h.ne) h.mem, h.ne, HNEW.out _ hO0, Nat.lt_of_lt_of_le h.abLt hO0.size, h.nea, ownsRow_only h.evs hob (fun g hg => (h.nee g hg).1), h.nee⟩
  have hbw : Only (fun _ => False) (((w.alloc (.cells #[.int .i64 46, .int .i64 i.rd, .int .i64 i.rs1, .int .i64 i.rs2, .int .i32 i.imm] 32)).drewN (nq + 1)).setCell ⟨b, 39, none⟩ (.slice (some ⟨x.ab, off, none⟩) 0 0)) (Lib.bytesWorld (((w.alloc (.cells #[.int .i64 46, .int .i64 i.rd, .int .i64 i.rs1, .int .i64 i.rs2, .int .i32 i.imm] 32)).drewN (nq + 1)).setCell ⟨b, 39, none⟩ (.slice (some ⟨x.ab, off, none⟩) 0 0)) 5 (t)) := (Only.refl _ _).bytes _ _
  have hO1 : Only (Mb b x) w (Lib.bytesWorld (((w.alloc (.cells #[.int .i64 46, .int .i64 i.rd, .int .i64 i.rs1, .int .i64 i.rs2, .int .i32 i.imm] 32)).drewN (nq + 1)).setCell ⟨b, 39, none⟩ (.slice (some ⟨x.ab, off, none⟩) 0 0)) 5 (t)) := hO0.then hbw.no
  have hcap := fun (C : Nat) (hC : (t).size ≤ C) => hW { s with ans := [] } { x with ans := .slice (some ⟨x.ab, off, none⟩) 0 0 } A (bytesOf (t)) (w.heap.size + 1) 0 C _ (hM0.no hbw) HC.out (hst x s w _ h hpre hO1) hlen (by rw [bytesOf_len]; exact HSZ.out) (by
    have := bytes_src (((w.alloc (.cells #[.int .i64 46, .int .i64 i.rd, .int .i64 i.rs1, .int .i64 i.rs2, .int .i32 i.imm] 32)).drewN (nq + 1)).setCell ⟨b, 39, none⟩ (.slice (some ⟨x.ab, off, none⟩) 0 0)) 5 (t)
    have e : (((w.alloc (.cells #[.int .i64 46, .int .i64 i.rd, .int .i64 i.rs1, .int .i64 i.rs2, .int .i32 i.imm] 32)).drewN (nq + 1)).setCell ⟨b, 39, none⟩ (.slice (some ⟨x.ab, off, none⟩) 0 0)).heap.size = w.heap.size + 1 := by simp
    rw [e] at this
    exact this) (by rw [bytesOf_len]; exact hC)
  rw [bytesOf_len] at hcap
  skip
  refine (hcap _ (by exact grownCap_ge _ _ _ _)).mono ?_
  rintro e w2 ⟨rfl, hM2, hsz2, hw2, hw3⟩
  have g10 := hM2.mac.reg 10 (by omega)
  have gf10 := hM2.mac.free 10
  clear h10 h11 h12 h17 h39 f10 hcs h0c f39 hcap
  go_wp2_with fail
  have hM3 := hM2.struct ((Only.refl _ w2).set1 10 (.int .u32 ((t.size : Int)))) (hM2.mac.putReg 10 ((t.size : Int)) (by omega)) rfl rfl rfl rfl rfl rfl rfl
  refine (tell_any b _ _ 63 ((t.size : Int)) (t) _ hM3 hev).mono ?_
  rintro e w3 ⟨rfl, v, hM4, hK, hO4⟩
  go_wp2_with fail
  first | go_end0 | refine bodyPost_ret (results_none rfl _ _ _) rfl ?_
  unfold DoesQ
  rw [HE.out, HAd.out, HNd.out, Int.toNat_natCast, HUE.out]
  have hO3 : Only (Mb b x) w2 w3 := (Only.mb (x := x) ((Only.refl _ w2).set1 10 (.int .u32 ((t.size : Int))))).then hO4
  have hszw : w.heap.size ≤ w2.heap.size := Nat.le_trans hO1.size hsz2
  refine ⟨rfl, _, _, hM4, ?_, HN.out, ⟨rfl, rfl, rfl, ?_⟩, eff_mk (bytesOf_len _) hO1 hw2 hw3 hO3⟩
  · exact clr_rset { s with evs := s.evs ++ [Ev.mk 63 ((t.size : Int)) (t)], ans := [], mem := putAt s.mem A (bytesOf (t)) } 10 ((t.size : Int)) hs.zero
  · exact hK.2.2.2.imp id (fun ⟨g, e, l⟩ => ⟨g, e, Nat.le_trans hszw (by simpa using l)⟩)
set_option maxRecDepth 100000 in
set_option maxHeartbeats 400000 in
theorem call_read_4 (eff : Int → Int → World → World → Prop) (b : Nat) (i : Ins) (hi : i.Ok) (s : St) (hs : s.Ok) (x : Raw) (w : World) (h : Mach w b s x) (ho : i.op = 46) (hn : x.next = u32 (s.pc + 4)) (hev : s.evs.length ≤ 1000000) (clo : Value) (pre : World → Prop) (hW : WriteSpec eff b clo pre) (hst : Stable pre b) (hclo : x.wrote = clo) (hpre : pre w) (hc : s.regs 17 = 63) (t : ByteArray) (ha : s.ans = [t]) (htl : t.size ≤ maxLen) (off : Nat) (hans : x.ans = .slice (some ⟨x.ab, off, none⟩) 1 1) (hgt : (s.regs 12).toNat < t.size) (h0c : w.cell? ⟨x.ab, off, none⟩ = some (.string t)) (hnew : ∀ W, Only (Mb b x) w W → TextsAt W x.ab (.slice (some ⟨x.ab, off, none⟩) 0 0) []) (hl : lies s (s.regs 11) (s.regs 12) = true) :
    Calls Tryz.prog 56 #[.pointer (some ⟨b, 0, none⟩), .agg i.cells] w (DoesQ eff b s x i w) := by
  have he : exec s i = .go ({ s with evs := s.evs ++ [Ev.mk 63 (t.extract 0 (s.regs 12).toNat).size (t.extract 0 (s.regs 12).toNat)], ans := [], mem := putAt s.mem (s.regs 11) (bytesOf (t.extract 0 (s.regs 12).toNat)) }.set 10 (t.extract 0 (s.regs 12).toNat).size) (u32 (s.pc + 4)) (wrOf (s.regs 11) (t.extract 0 (s.regs 12).toNat).size) := by simp [exec, ho, doCall, hc, hl, ha]
  unfold Ins.cells
  obtain ⟨v0, v1⟩ := hs.regs 10
  obtain ⟨at0, at1⟩ := hs.regs 11
  obtain ⟨n0, n1⟩ := hs.regs 12
  have h10 := h.mac.reg 10 (by omega)
  have h11 := h.mac.reg 11 (by omega)
  have h12 := h.mac.reg 12 (by omega)
  have h17 := h.mac.reg 17 (by omega)
  have f10 := h.mac.free 10
  have hsz := h.mac.lt
  have hlen := hs.len
  obtain ⟨A, hAd⟩ : ∃ A : Nat, s.regs 11 = A := ⟨(s.regs 11).toNat, by omega⟩
  obtain ⟨N, hNd⟩ : ∃ N : Nat, s.regs 12 = N := ⟨(s.regs 12).toNat, by omega⟩
  rw [hAd, hNd] at hl
  rw [hAd] at h11 at0 at1
  rw [hNd] at h12 n0 n1
  have hfit : A + N ≤ s.mem.length := by unfold lies at hl; simp at hl; omega
  have HAd := Lib.hid hAd
  have HNd := Lib.hid hNd
  clear hAd hNd at1 n1
  have hfit2 : A ≤ s.mem.length := by omega
  rw [hc] at h17
  have HL := Lib.hid hl
  have HC := Lib.hid hclo
  clear hc hl hclo
  have h39 := h.mac.ans
  rw [hans] at h39
  have HANS := Lib.hid hans
  have HA2 := Lib.hid ha
  clear hans ha
  have f39 := h.mac.free 39
  have hab := h.abLt
  have hnab := h.nea.1
  have hst0 : t.size ≤ maxLen := htl
  unfold maxLen at hst0
  obtain ⟨M, hM⟩ : ∃ M : Nat, M = min t.size N := ⟨_, rfl⟩
  have HNEW := Lib.hid hnew
  clear hnew
  rw [HNd.out, Int.toNat_natCast] at hgt
  have HSZ := Lib.hid (show A + (t.extract 0 N).size ≤ s.mem.length by rw [ByteArray.size_extract]; omega)
  have HSE := Lib.hid (show (t.extract 0 N).size = min N t.size by rw [ByteArray.size_extract]; rfl)
  have HN := Lib.hid hn
  have HE := Lib.hid he
  clear hn he
  go_enter Tryz.func56, Tryz.ntmps56
  go_wp2_with fail
  go_quiet (fail)
  go_wp2_with fail
  have hno : Only (fun _ => False) w ((w.alloc (.cells #[.int .i64 46, .int .i64 i.rd, .int .i64 i.rs1, .int .i64 i.rs2, .int .i32 i.imm] 32)).drewN nq) := ((Only.refl _ w).alloc _).drewN nq
  have hMw := h.no hno
  have hcs := fun (W : World) (t : ByteArray) => Lib.run_convert_string_bytes (P := Tryz.prog) W 9 67 5 t (u := .string) Tryz.underlying9 Tryz.underlying67 Tryz.underlying5
  have HNO := Lib.hid hno
  have HMW := Lib.hid hMw
  clear hno hMw
  refine (lies_any b _ _ s x _ ?_ (by omega) (by omega) (by omega) (by omega) hs.len).mono ?_
  · repeat (first | with_reducible refine MacAt.drew ?_ | with_reducible refine MacAt.drewN ?_ _ | with_reducible refine MacAt.alloc ?_ _)
    exact h.mac
  rintro e w' ⟨rfl, rfl⟩
  rw [HL.out]
  go_wp2_with fail
  go_region
  go_wp2_with fail
  have hO0 : Only (Mb b x) w (((w.alloc (.cells #[.int .i64 46, .int .i64 i.rd, .int .i64 i.rs1, .int .i64 i.rs2, .int .i32 i.imm] 32)).drewN (nq + 1)).setCell ⟨b, 39, none⟩ (.slice (some ⟨x.ab, off, none⟩) 0 0)) := ((((Only.refl _ w).alloc _).drewN _).setS (Or.inl rfl) _ _)
  have hM0 : Mach (((w.alloc (.cells #[.int .i64 46, .int .i64 i.rd, .int .i64 i.rs1, .int .i64 i.rs2, .int .i32 i.imm] 32)).drewN (nq + 1)).setCell ⟨b, 39, none⟩ (.slice (some ⟨x.ab, off, none⟩) 0 0)) b { s with ans := [] } { x with ans := .slice (some ⟨x.ab, off, none⟩) 0 0 } := by
    have hc0 : MacAt (((w.alloc (.cells #[.int .i64 46, .int .i64 i.rd, .int .i64 i.rs1, .int .i64 i.rs2, .int .i32 i.imm] 32)).drewN (nq + 1)).setCell ⟨b, 39, none⟩ (.slice (some ⟨x.ab, off, none⟩) 0 0)) b s { x with ans := .slice (some ⟨x.ab, off, none⟩) 0 0 } := MacAt.putAns (s := s) (x := x) ((h.mac.alloc _).drewN _) _
    have hob : Only (· = b) w (((w.alloc (.cells #[.int .i64 46, .int .i64 i.rd, .int .i64 i.rs1, .int .i64 i.rs2, .int .i32 i.imm] 32)).drewN (nq + 1)).setCell ⟨b, 39, none⟩ (.slice (some ⟨x.ab, off, none⟩) 0 0)) := (((Only.refl _ w).alloc _).drewN _).set1 _ _
    exact ⟨hc0, hob.heap (Ne.symm h.ne) h.mem, h.ne, HNEW.out _ hO0, Nat.lt_of_lt_of_le h.abLt hO0.size, h.nea, ownsRow_only h.evs hob (fun g hg => (h.nee g hg).1), h.nee⟩
  have hbw : Only (fun _ => False) (((w.alloc (.cells #[.int .i64 46, .int .i64 i.rd, .int .i64 i.rs1, .int .i64 i.rs2, .int .i32 i.imm] 32)).drewN (nq + 1)).setCell ⟨b, 39, none⟩ (.slice (some ⟨x.ab, off, none⟩) 0 0)) (Lib.bytesWorld (((w.alloc (.cells #[.int .i64 46, .int .i64 i.rd, .int .i64 i.rs1, .int .i64 i.rs2, .int .i32 i.imm] 32)).drewN (nq + 1)).setCell ⟨b, 39, none⟩ (.slice (some ⟨x.ab, off, none⟩) 0 0)) 5 (t.extract 0 N)) := (Only.refl _ _).bytes _ _
  have hO1 : Only (Mb b x) w (Lib.bytesWorld (((w.alloc (.cells #[.int .i64 46, .int .i64 i.rd, .int .i64 i.rs1, .int .i64 i.rs2, .int .i32 i.imm] 32)).drewN (nq + 1)).setCell ⟨b, 39, none⟩ (.slice (some ⟨x.ab, off, none⟩) 0 0)) 5 (t.extract 0 N)) := hO0.then hbw.no
  have hcap := fun (C : Nat) (hC : (t.extract 0 N).size ≤ C) => hW { s with ans := [] } { x with ans := .slice (some ⟨x.ab, off, none⟩) 0 0 } A (bytesOf (t.extract 0 N)) (w.heap.size + 1) 0 C _ (hM0.no hbw) HC.out (hst x s w _ h hpre hO1) hlen (by rw [bytesOf_len]; exact HSZ.out) (by
    have := bytes_src (((w.alloc (.cells #[.int .i64 46, .int .i64 i.rd, .int .i64 i.rs1, .int .i64 i.rs2, .int .i32 i.imm] 32)).drewN (nq + 1)).setCell ⟨b, 39, none⟩ (.slice (some ⟨x.ab, off, none⟩) 0 0)) 5 (t.extract 0 N)
    have e : (((w.alloc (.cells #[.int .i64 46, .int .i64 i.rd, .int .i64 i.rs1, .int .i64 i.rs2, .int .i32 i.imm] 32)).drewN (nq + 1)).setCell ⟨b, 39, none⟩ (.slice (some ⟨x.ab, off, none⟩) 0 0)).heap.size = w.heap.size + 1 := by simp
    rw [e] at this
    exact this) (by rw [bytesOf_len]; exact hC)
  rw [bytesOf_len] at hcap
  rw [HSE.out] at hcap
  refine (hcap _ (by rw [← HSE.out]; exact grownCap_ge _ _ _ _)).mono ?_
  rintro e w2 ⟨rfl, hM2, hsz2, hw2, hw3⟩
  have g10 := hM2.mac.reg 10 (by omega)
  have gf10 := hM2.mac.free 10
  clear h10 h11 h12 h17 h39 f10 hcs h0c f39 hcap
  go_wp2_with fail
  have hM3 := hM2.struct ((Only.refl _ w2).set1 10 (.int .u32 (((min N t.size : Nat) : Int)))) (hM2.mac.putReg 10 (((min N t.size : Nat) : Int)) (by omega)) rfl rfl rfl rfl rfl rfl rfl
  refine (tell_any b _ _ 63 (((min N t.size : Nat) : Int)) (t.extract 0 N) _ hM3 hev).mono ?_
  rintro e w3 ⟨rfl, v, hM4, hK, hO4⟩
  go_wp2_with fail
  first | go_end0 | refine bodyPost_ret (results_none rfl _ _ _) rfl ?_
  unfold DoesQ
  rw [HE.out, HAd.out, HNd.out, Int.toNat_natCast, HSE.out]
  have hO3 : Only (Mb b x) w2 w3 := (Only.mb (x := x) ((Only.refl _ w2).set1 10 (.int .u32 (((min N t.size : Nat) : Int))))).then hO4
  have hszw : w.heap.size ≤ w2.heap.size := Nat.le_trans hO1.size hsz2
  refine ⟨rfl, _, _, hM4, ?_, HN.out, ⟨rfl, rfl, rfl, ?_⟩, eff_mk ((bytesOf_len _).trans HSE.out) hO1 hw2 hw3 hO3⟩
  · exact clr_rset { s with evs := s.evs ++ [Ev.mk 63 (((min N t.size : Nat) : Int)) (t.extract 0 N)], ans := [], mem := putAt s.mem A (bytesOf (t.extract 0 N)) } 10 (((min N t.size : Nat) : Int)) hs.zero
  · exact hK.2.2.2.imp id (fun ⟨g, e, l⟩ => ⟨g, e, Nat.le_trans hszw (by simpa using l)⟩)
end Go.Proofs.YtanccjaikocefaaGreatDoor
