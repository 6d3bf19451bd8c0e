/-
  The contract of the document's 'Step': one step of the plain machine with its blocks. Conditions: the machine lies in memory and has not ended; its numbers are in their ranges; 'find' does what it says where it is needed.
-/
import Derived.Test.YtanccjaikocefaaGreatDoorRDo
import Derived.Test.YtanccjaikocefaaGreatDoorDecBoth
namespace Go.Proofs.YtanccjaikocefaaGreatDoor
open Go.ChangeShapes Go.WideShapes Go.ChangeAt Go.RowKit
set_option linter.unusedVariables false

/-- The blocks of the document's machine that its methods write into. -/
def Rb (b : Nat) (x : RRaw) : Nat → Prop := fun k => k = b ∨ k = x.mb ∨ k = x.sb ∨ x.evs.ownBlock = some k ∨ x.blv.ownBlock = some k
theorem Rb.up {B : Nat} {w : World} {b : Nat} {r : RS} {x : RRaw} (h : RMach B w b r x) : ∀ k, Rb b x k → B ≤ k := by
  rintro k (e | e | e | e | e)
  · rw [e]; exact h.from_.1
  · rw [e]; exact h.from_.2.1
  · rw [e]; exact h.from_.2.2
  · exact (h.evs.lt k e).1
  · exact (h.blocks.lt k e).1
theorem Rb.lt {B : Nat} {w : World} {b : Nat} {r : RS} {x : RRaw} (h : RMach B w b r x) : ∀ k, Rb b x k → k < w.heap.size := by
  rintro k (e | e | e | e | e)
  · rw [e]; exact h.mac.lt
  · rw [e]; exact heap_lt h.mem
  · rw [e]; exact h.sbLt
  · exact (h.evs.lt k e).2
  · exact (h.blocks.lt k e).2
def RFindP (B b : Nat) (w : World) (r' : RS) (x : RRaw) (e : Ending) (w' : World) : Prop := e = .returned (.tuple #[]) ∧ RM B w' b r' ∧ Only (Rb b x) w w'
/-- 'find' does what it says, where it is needed. -/
def FindOk (B b : Nat) (r : RS) : Prop := r.need = true → r.s.pc % 4 = 0 → lies r.s r.s.pc 4 = true → ∀ w x, RMach B w b r x → Calls Tryz.prog 62 #[.pointer (some ⟨b, 0, none⟩)] w (RFindP B b w r.find x)
theorem RMach.inc {B b : Nat} {r : RS} {x : RRaw} {w : World} (h : RMach B w b r x) : RMach B (w.setCell ⟨b, 49, none⟩ (.int .i64 (r.at_ + 1))) b r.inc x :=
  h.struct ((Only.refl _ _).set1 _ _) (h.mac.putAt_ _) rfl h.ans rfl rfl rfl rfl
theorem wd_bd (mem : List Int) (h : ∀ x ∈ mem, 0 ≤ x ∧ x < 256) (a : Int) : 0 ≤ leAt mem a 4 ∧ leAt mem a 4 < 4294967296 := by
  have := leAt_bd mem h 4 a
  exact ⟨this.1, by simpa using this.2⟩
theorem step_inl {r : RS} {o : Int} (hf : ¬ r.fuel ≤ r.s.steps) (h : fetch r.s = .inl o) : r.step = r.end_ o := by
  unfold RS.step
  rw [if_neg hf, h]
theorem step_inr {r : RS} {i : Ins} (hf : ¬ r.fuel ≤ r.s.steps) (h : fetch r.s = .inr i) : r.step = r.seek.inc.do_ i := by
  unfold RS.step
  rw [if_neg hf, h]
theorem fetch_3 {s : St} (h : s.pc % 4 ≠ 0) : fetch s = .inl 3 := by unfold fetch; rw [if_pos h]
theorem fetch_4 {s : St} (h : ¬ s.pc % 4 ≠ 0) (hl : lies s s.pc 4 = false) : fetch s = .inl 4 := by unfold fetch; rw [if_neg h, if_neg (by rw [hl]; decide)]
theorem fetch_2 {s : St} (h : ¬ s.pc % 4 ≠ 0) (hl : lies s s.pc 4 = true) (hd : decO (wordAt s.mem s.pc) = none) : fetch s = .inl 2 := by unfold fetch; rw [if_neg h, if_pos hl, hd]
theorem fetch_i {s : St} {i : Ins} (h : ¬ s.pc % 4 ≠ 0) (hl : lies s s.pc 4 = true) (hd : decO (wordAt s.mem s.pc) = some i) : fetch s = .inr i := by unfold fetch; rw [if_neg h, if_pos hl, hd]
set_option maxRecDepth 100000 in
set_option maxHeartbeats 1000000 in
theorem rstep_fuel (B b : Nat) (r : RS) (hh : r.Head) (hend : r.ended = false) (x : RRaw) (w : World) (h : RMach B w b r x) (hf : r.fuel ≤ r.s.steps) :
    Calls Tryz.prog 36 #[.pointer (some ⟨b, 0, none⟩)] w (RP B b w (.tuple #[]) r.step) := by
  have hd : r.step = r.end_ 0 := by unfold RS.step; rw [if_pos hf]
  have hs := hh.ok.s
  obtain ⟨p0, p1⟩ := hs.pc
  obtain ⟨f0, f1⟩ := hh.ok.fuel
  obtain ⟨s0, s1⟩ := hh.ok.steps
  have hlen := hs.len
  have k1 := h.mac.pc
  have k37 := h.mac.steps
  have k42 := h.mac.fuel
  have hsz := h.mac.lt
  have H := Lib.hid h
  have HD := Lib.hid hd
  have HH := Lib.hid hh
  clear h hd hh
  go_enter Tryz.func36, Tryz.ntmps36
  go_wp2_with fail
  go_quiet (fail)
  go_wp2_with fail
  refine (rstop_any b 0 r x _ ?_).mono ?_
  · repeat (first | with_reducible refine RAt.drew ?_ | with_reducible refine RAt.drewN ?_ _ | with_reducible refine RAt.alloc ?_ _)
    exact H.out.mac
  rintro e w1 ⟨rfl, h1, ho1⟩
  go_wp2_with fail
  first | go_end0 | refine bodyPost_ret (results_none rfl _ _ _) rfl ?_
  rw [HD.out]
  refine RSt.rp (H.out.no ?_) ?_ h1 ho1 rfl rfl rfl rfl rfl
  all_goals repeat (first | with_reducible exact Only.refl _ _ | with_reducible refine Only.alloc ?_ _ | with_reducible refine Only.drewN ?_ _ | with_reducible refine Only.drew ?_)
set_option maxRecDepth 100000 in
set_option maxHeartbeats 1000000 in
theorem rstep_3 (B b : Nat) (r : RS) (hh : r.Head) (hend : r.ended = false) (x : RRaw) (w : World) (h : RMach B w b r x) (hf : ¬ r.fuel ≤ r.s.steps) (hp : ¬ r.s.pc % 4 = 0) :
    Calls Tryz.prog 36 #[.pointer (some ⟨b, 0, none⟩)] w (RP B b w (.tuple #[]) r.step) := by
  have hd : r.step = r.end_ 3 := step_inl hf (fetch_3 hp)
  have hs := hh.ok.s
  obtain ⟨p0, p1⟩ := hs.pc
  obtain ⟨f0, f1⟩ := hh.ok.fuel
  obtain ⟨s0, s1⟩ := hh.ok.steps
  have hlen := hs.len
  have k1 := h.mac.pc
  have k37 := h.mac.steps
  have k42 := h.mac.fuel
  have hsz := h.mac.lt
  have H := Lib.hid h
  have HD := Lib.hid hd
  have HH := Lib.hid hh
  clear h hd hh
  go_enter Tryz.func36, Tryz.ntmps36
  go_wp2_with fail
  go_quiet (fail)
  go_wp2_with fail
  refine (rstop_any b 3 r x _ ?_).mono ?_
  · repeat (first | with_reducible refine RAt.drew ?_ | with_reducible refine RAt.drewN ?_ _ | with_reducible refine RAt.alloc ?_ _)
    exact H.out.mac
  rintro e w1 ⟨rfl, h1, ho1⟩
  go_wp2_with fail
  first | go_end0 | refine bodyPost_ret (results_none rfl _ _ _) rfl ?_
  rw [HD.out]
  refine RSt.rp (H.out.no ?_) ?_ h1 ho1 rfl rfl rfl rfl rfl
  all_goals repeat (first | with_reducible exact Only.refl _ _ | with_reducible refine Only.alloc ?_ _ | with_reducible refine Only.drewN ?_ _ | with_reducible refine Only.drew ?_)
set_option maxRecDepth 100000 in
set_option maxHeartbeats 1000000 in
theorem rstep_4 (B b : Nat) (r : RS) (hh : r.Head) (hend : r.ended = false) (x : RRaw) (w : World) (h : RMach B w b r x) (hf : ¬ r.fuel ≤ r.s.steps) (hp : r.s.pc % 4 = 0) (hl : lies r.s r.s.pc 4 = false) :
    Calls Tryz.prog 36 #[.pointer (some ⟨b, 0, none⟩)] w (RP B b w (.tuple #[]) r.step) := by
  have hd : r.step = r.end_ 4 := step_inl hf (fetch_4 (by simpa using hp) hl)
  have HL := Lib.hid hl
  clear hl
  have hs := hh.ok.s
  obtain ⟨p0, p1⟩ := hs.pc
  obtain ⟨f0, f1⟩ := hh.ok.fuel
  obtain ⟨s0, s1⟩ := hh.ok.steps
  have hlen := hs.len
  have k1 := h.mac.pc
  have k37 := h.mac.steps
  have k42 := h.mac.fuel
  have hsz := h.mac.lt
  have H := Lib.hid h
  have HD := Lib.hid hd
  have HH := Lib.hid hh
  clear h hd hh
  go_enter Tryz.func36, Tryz.ntmps36
  go_wp2_with fail
  go_quiet (fail)
  go_wp2_with fail
  refine (rlies_any b r.s.pc 4 r x _ ?_ p0 p1 (by omega) (by omega) hlen).mono ?_
  · repeat (first | with_reducible refine RAt.drew ?_ | with_reducible refine RAt.drewN ?_ _ | with_reducible refine RAt.alloc ?_ _)
    exact H.out.mac
  rintro e w1 ⟨rfl, rfl⟩
  rw [HL.out]
  go_wp2_with fail
  refine (rstop_any b 4 r x _ ?_).mono ?_
  · repeat (first | with_reducible refine RAt.drew ?_ | with_reducible refine RAt.drewN ?_ _ | with_reducible refine RAt.alloc ?_ _)
    exact H.out.mac
  rintro e w1 ⟨rfl, h1, ho1⟩
  go_wp2_with fail
  first | go_end0 | refine bodyPost_ret (results_none rfl _ _ _) rfl ?_
  rw [HD.out]
  refine RSt.rp (H.out.no ?_) ?_ h1 ho1 rfl rfl rfl rfl rfl
  all_goals repeat (first | with_reducible exact Only.refl _ _ | with_reducible refine Only.alloc ?_ _ | with_reducible refine Only.drewN ?_ _ | with_reducible refine Only.drew ?_)
set_option maxRecDepth 100000 in
set_option maxHeartbeats 1000000 in
theorem rstep_2 (B b : Nat) (r : RS) (hh : r.Head) (hend : r.ended = false) (x : RRaw) (w : World) (h : RMach B w b r x) (hf : ¬ r.fuel ≤ r.s.steps) (hp : r.s.pc % 4 = 0) (hl : lies r.s r.s.pc 4 = true) (hde : decO (wordAt r.s.mem r.s.pc) = none) :
    Calls Tryz.prog 36 #[.pointer (some ⟨b, 0, none⟩)] w (RP B b w (.tuple #[]) r.step) := by
  have hd : r.step = r.end_ 2 := step_inl hf (fetch_2 (by simpa using hp) hl hde)
  have hde2 : decP (leAt r.s.mem r.s.pc 4) = .tuple #[.agg Ins.zero.cells, .bool false] := by
    have e : decO (leAt r.s.mem r.s.pc 4) = none := hde
    unfold decP
    rw [e]
  unfold Ins.cells Ins.zero at hde2
  have HDE := Lib.hid hde2
  have HL := Lib.hid hl
  have hi4 : r.s.pc + (4 : Nat) ≤ (r.s.mem.length : Int) := by simpa [lies] using hl
  have HI := Lib.hid hi4
  clear hi4
  clear hl hde hde2
  have hs := hh.ok.s
  obtain ⟨p0, p1⟩ := hs.pc
  obtain ⟨f0, f1⟩ := hh.ok.fuel
  obtain ⟨s0, s1⟩ := hh.ok.steps
  have hlen := hs.len
  have k1 := h.mac.pc
  have k37 := h.mac.steps
  have k42 := h.mac.fuel
  have hsz := h.mac.lt
  have H := Lib.hid h
  have HD := Lib.hid hd
  have HH := Lib.hid hh
  clear h hd hh
  go_enter Tryz.func36, Tryz.ntmps36
  go_wp2_with fail
  go_quiet (fail)
  go_wp2_with fail
  refine (rlies_any b r.s.pc 4 r x _ ?_ p0 p1 (by omega) (by omega) hlen).mono ?_
  · repeat (first | with_reducible refine RAt.drew ?_ | with_reducible refine RAt.drewN ?_ _ | with_reducible refine RAt.alloc ?_ _)
    exact H.out.mac
  rintro e w1 ⟨rfl, rfl⟩
  rw [HL.out]
  go_wp2_with fail
  refine (rload_any b r hs x r.s.pc 4 (by omega) p0 HI.out _ ?_ ?_).mono ?_
  · repeat (first | with_reducible refine RAt.drew ?_ | with_reducible refine RAt.drewN ?_ _ | with_reducible refine RAt.alloc ?_ _)
    exact H.out.mac
  · exact H.out.mem
  rintro e w1 ⟨rfl, rfl⟩
  go_wp2_with fail
  refine (rdecode_any _ (wd_bd _ hs.mem _).1 (wd_bd _ hs.mem _).2 _).mono ?_
  rintro e w1 ⟨rfl, ho0⟩
  have ho1 : Only (fun _ => False) w w1 := Only.then ((Only.refl _ w).drewN _) ho0
  clear ho0
  rw [HDE.out]
  have hm1 := H.out.no ho1
  go_wp2_with fail
  refine (rstop_any b 2 r x _ ?_).mono ?_
  · repeat (first | with_reducible refine RAt.drew ?_ | with_reducible refine RAt.drewN ?_ _ | with_reducible refine RAt.alloc ?_ _)
    exact hm1.mac
  rintro e w2 ⟨rfl, h1, ho2⟩
  go_wp2_with fail
  first | go_end0 | refine bodyPost_ret (results_none rfl _ _ _) rfl ?_
  rw [HD.out]
  refine RSt.rp (hm1.no ?_) (ho1.then ?_) h1 ho2 rfl rfl rfl rfl rfl
  all_goals repeat (first | with_reducible exact Only.refl _ _ | with_reducible refine Only.alloc ?_ _ | with_reducible refine Only.drewN ?_ _ | with_reducible refine Only.drew ?_)
set_option maxRecDepth 100000 in
set_option maxHeartbeats 1000000 in
theorem rstep_i_n (B b : Nat) (r : RS) (hh : r.Head) (hend : r.ended = false) (x : RRaw) (w : World) (h : RMach B w b r x) (hf : ¬ r.fuel ≤ r.s.steps) (hp : r.s.pc % 4 = 0) (hl : lies r.s r.s.pc 4 = true) (i : Ins) (hde : decO (wordAt r.s.mem r.s.pc) = some i) (hsl : r.slots.length = 0) :
    Calls Tryz.prog 36 #[.pointer (some ⟨b, 0, none⟩)] w (RP B b w (.tuple #[]) r.step) := by
  have hneed : r.need = false := by unfold RS.need; rw [hsl]; rfl
  have hseek : r.seek = r := by unfold RS.seek; rw [hneed]; rfl
  have hd : r.step = r.inc.do_ i := by rw [step_inr hf (fetch_i (by simpa using hp) hl hde), hseek]
  have hiOk : i.Ok := fetch_ok hh.ok.s (fetch_i (by simpa using hp) hl hde)
  have hde2 : decP (leAt r.s.mem r.s.pc 4) = .tuple #[.agg i.cells, .bool true] := by
    have e : decO (leAt r.s.mem r.s.pc 4) = some i := hde
    unfold decP
    rw [e]
  unfold Ins.cells at hde2
  have HDE := Lib.hid hde2
  have HL := Lib.hid hl
  have k44 := h.mac.slots
  have k47 := h.mac.cur1
  have k48 := h.mac.cur2
  have k49 := h.mac.at_
  have f49 := h.mac.free 49
  have hnsl := hh.cnt.nslots
  obtain ⟨u0, u1, u2, u3⟩ := hh.cnt.cur
  obtain ⟨t0, t1⟩ := hh.cnt.at_
  have hslv : x.slv = .slice none 0 0 := by
    rcases h.slots with ⟨_, e⟩ | ⟨e, _⟩
    · exact e
    · omega
  rw [hslv] at k44
  have hi4 : r.s.pc + (4 : Nat) ≤ (r.s.mem.length : Int) := by simpa [lies] using hl
  have HI := Lib.hid hi4
  clear hi4
  clear hl hde hde2 hneed hseek hslv
  have hs := hh.ok.s
  obtain ⟨p0, p1⟩ := hs.pc
  obtain ⟨f0, f1⟩ := hh.ok.fuel
  obtain ⟨s0, s1⟩ := hh.ok.steps
  have hlen := hs.len
  have k1 := h.mac.pc
  have k37 := h.mac.steps
  have k42 := h.mac.fuel
  have hsz := h.mac.lt
  have H := Lib.hid h
  have HD := Lib.hid hd
  have HH := Lib.hid hh
  clear h hd hh
  go_enter Tryz.func36, Tryz.ntmps36
  go_wp2_with fail
  go_quiet (fail)
  go_wp2_with fail
  refine (rlies_any b r.s.pc 4 r x _ ?_ p0 p1 (by omega) (by omega) hlen).mono ?_
  · repeat (first | with_reducible refine RAt.drew ?_ | with_reducible refine RAt.drewN ?_ _ | with_reducible refine RAt.alloc ?_ _)
    exact H.out.mac
  rintro e w1 ⟨rfl, rfl⟩
  rw [HL.out]
  go_wp2_with fail
  refine (rload_any b r hs x r.s.pc 4 (by omega) p0 HI.out _ ?_ ?_).mono ?_
  · repeat (first | with_reducible refine RAt.drew ?_ | with_reducible refine RAt.drewN ?_ _ | with_reducible refine RAt.alloc ?_ _)
    exact H.out.mac
  · exact H.out.mem
  rintro e w1 ⟨rfl, rfl⟩
  go_wp2_with fail
  refine (rdecode_any _ (wd_bd _ hs.mem _).1 (wd_bd _ hs.mem _).2 _).mono ?_
  rintro e w1 ⟨rfl, ho0⟩
  have ho1 : Only (fun _ => False) w w1 := Only.then ((Only.refl _ w).drewN _) ho0
  clear ho0
  rw [HDE.out]
  have hm1 := H.out.no ho1
  have j44 := ho1.cell (fun h => h) k44
  have j47 := ho1.cell (fun h => h) k47
  have j48 := ho1.cell (fun h => h) k48
  have j49 := ho1.cell (fun h => h) k49
  have g49 := ho1.free (fun h => h) hsz f49
  have hsz1 : b < w1.heap.size := hm1.mac.lt
  have HM1 := Lib.hid hm1
  have HO1 := Lib.hid ho1
  clear k1 k37 k42 k44 k47 k48 k49 f49 hm1 ho1
  go_wp2_with fail
  go_quiet (fail)
  go_wp2_with fail
  refine (rdo_any B b i hiOk r.inc hs s0 (by show r.s.steps ≤ 10000; omega) x _ (RMach.inc (HM1.out.no ?_)) HH.out.cnt.nslots HH.out.cnt.slots HH.out.cnt.cur (by have := HH.out.ok.evs; show r.s.evs.length ≤ 1000000; omega) hend).mono ?_
  · repeat (first | with_reducible exact Only.refl _ _ | with_reducible refine Only.alloc ?_ _ | with_reducible refine Only.drewN ?_ _ | with_reducible refine Only.drew ?_)
  rintro e w3 ⟨rfl, hM3, ho3⟩
  go_wp2_with fail
  first | go_end0 | refine bodyPost_ret (results_none rfl _ _ _) rfl ?_
  rw [HD.out]
  refine ⟨rfl, hM3, (HO1.out.up0.then ?_).then ho3⟩
  repeat (first | with_reducible exact Only.refl _ _ | with_reducible refine Only.setS ?_ H.out.from_.1 _ _ | with_reducible refine Only.alloc ?_ _ | with_reducible refine Only.drewN ?_ _ | with_reducible refine Only.drew ?_)
set_option maxRecDepth 100000 in
set_option maxHeartbeats 1000000 in
theorem rstep_i_a (B b : Nat) (r : RS) (hh : r.Head) (hend : r.ended = false) (x : RRaw) (w : World) (h : RMach B w b r x) (hf : ¬ r.fuel ≤ r.s.steps) (hp : r.s.pc % 4 = 0) (hl : lies r.s r.s.pc 4 = true) (i : Ins) (hde : decO (wordAt r.s.mem r.s.pc) = some i) (hsl : 0 < r.slots.length) (c1 : r.cur.2 = 0) (hfind : FindOk B b r) :
    Calls Tryz.prog 36 #[.pointer (some ⟨b, 0, none⟩)] w (RP B b w (.tuple #[]) r.step) := by
  have hneed : r.need = true := by unfold RS.need; simp [hsl, c1]
  have hseek : r.seek = r.find := by unfold RS.seek; rw [hneed]; rfl
  have hd : r.step = r.find.inc.do_ i := by rw [step_inr hf (fetch_i (by simpa using hp) hl hde), hseek]
  have hiOk : i.Ok := fetch_ok hh.ok.s (fetch_i (by simpa using hp) hl hde)
  have hde2 : decP (leAt r.s.mem r.s.pc 4) = .tuple #[.agg i.cells, .bool true] := by
    have e : decO (leAt r.s.mem r.s.pc 4) = some i := hde
    unfold decP
    rw [e]
  unfold Ins.cells at hde2
  have HDE := Lib.hid hde2
  have HL := Lib.hid hl
  have k44 := h.mac.slots
  have k47 := h.mac.cur1
  have k48 := h.mac.cur2
  have k49 := h.mac.at_
  have f49 := h.mac.free 49
  have hnsl := hh.cnt.nslots
  obtain ⟨u0, u1, u2, u3⟩ := hh.cnt.cur
  obtain ⟨t0, t1⟩ := hh.cnt.at_
  have hfi := hfind hneed hp hl
  have HFI := Lib.hid hfi
  clear hfi hfind
  have hslv : x.slv = .slice (some ⟨x.sb, 0, none⟩) r.slots.length r.slots.length := by
    rcases h.slots with ⟨e, _⟩ | ⟨_, e, _⟩
    · rw [e] at hsl; simp at hsl
    · exact e
  have hsl2 : ¬ (r.slots.length : Int) ≤ 0 := by omega
  rw [hslv] at k44
  have hi4 : r.s.pc + (4 : Nat) ≤ (r.s.mem.length : Int) := by simpa [lies] using hl
  have HI := Lib.hid hi4
  clear hi4
  clear hl hde hde2 hneed hseek hslv
  have hs := hh.ok.s
  obtain ⟨p0, p1⟩ := hs.pc
  obtain ⟨f0, f1⟩ := hh.ok.fuel
  obtain ⟨s0, s1⟩ := hh.ok.steps
  have hlen := hs.len
  have k1 := h.mac.pc
  have k37 := h.mac.steps
  have k42 := h.mac.fuel
  have hsz := h.mac.lt
  have H := Lib.hid h
  have HD := Lib.hid hd
  have HH := Lib.hid hh
  clear h hd hh
  go_enter Tryz.func36, Tryz.ntmps36
  go_wp2_with fail
  go_quiet (fail)
  go_wp2_with fail
  refine (rlies_any b r.s.pc 4 r x _ ?_ p0 p1 (by omega) (by omega) hlen).mono ?_
  · repeat (first | with_reducible refine RAt.drew ?_ | with_reducible refine RAt.drewN ?_ _ | with_reducible refine RAt.alloc ?_ _)
    exact H.out.mac
  rintro e w1 ⟨rfl, rfl⟩
  rw [HL.out]
  go_wp2_with fail
  refine (rload_any b r hs x r.s.pc 4 (by omega) p0 HI.out _ ?_ ?_).mono ?_
  · repeat (first | with_reducible refine RAt.drew ?_ | with_reducible refine RAt.drewN ?_ _ | with_reducible refine RAt.alloc ?_ _)
    exact H.out.mac
  · exact H.out.mem
  rintro e w1 ⟨rfl, rfl⟩
  go_wp2_with fail
  refine (rdecode_any _ (wd_bd _ hs.mem _).1 (wd_bd _ hs.mem _).2 _).mono ?_
  rintro e w1 ⟨rfl, ho0⟩
  have ho1 : Only (fun _ => False) w w1 := Only.then ((Only.refl _ w).drewN _) ho0
  clear ho0
  rw [HDE.out]
  have hm1 := H.out.no ho1
  have j44 := ho1.cell (fun h => h) k44
  have j47 := ho1.cell (fun h => h) k47
  have j48 := ho1.cell (fun h => h) k48
  have j49 := ho1.cell (fun h => h) k49
  have g49 := ho1.free (fun h => h) hsz f49
  have hsz1 : b < w1.heap.size := hm1.mac.lt
  have HM1 := Lib.hid hm1
  have HO1 := Lib.hid ho1
  clear k1 k37 k42 k44 k47 k48 k49 f49 hm1 ho1
  go_wp2_with fail
  go_quiet (fail)
  go_wp2_with fail
  refine (HFI.out _ x (HM1.out.no ?_)).mono ?_
  · repeat (first | with_reducible exact Only.refl _ _ | with_reducible refine Only.alloc ?_ _ | with_reducible refine Only.drewN ?_ _ | with_reducible refine Only.drew ?_)
  rintro e w3 ⟨rfl, ⟨x3, hM3⟩, ho3⟩
  have hnb : ¬ Rb b x w1.heap.size := fun h => by
    have := Rb.lt HM1.out _ h
    omega
  have kb0 : w3.cell? ⟨w1.heap.size, 0, none⟩ = some (.int .i64 i.op) := ho3.cell hnb (cell_of_row (w1.alloc (.cells #[.int .i64 i.op, .int .i64 i.rd, .int .i64 i.rs1, .int .i64 i.rs2, .int .i32 i.imm] 32)) w1.heap.size 0 _ _ _ (heap_alloc_new w1 _))
  have kb1 : w3.cell? ⟨w1.heap.size, 1, none⟩ = some (.int .i64 i.rd) := ho3.cell hnb (cell_of_row (w1.alloc (.cells #[.int .i64 i.op, .int .i64 i.rd, .int .i64 i.rs1, .int .i64 i.rs2, .int .i32 i.imm] 32)) w1.heap.size 1 _ _ _ (heap_alloc_new w1 _))
  have kb2 : w3.cell? ⟨w1.heap.size, 2, none⟩ = some (.int .i64 i.rs1) := ho3.cell hnb (cell_of_row (w1.alloc (.cells #[.int .i64 i.op, .int .i64 i.rd, .int .i64 i.rs1, .int .i64 i.rs2, .int .i32 i.imm] 32)) w1.heap.size 2 _ _ _ (heap_alloc_new w1 _))
  have kb3 : w3.cell? ⟨w1.heap.size, 3, none⟩ = some (.int .i64 i.rs2) := ho3.cell hnb (cell_of_row (w1.alloc (.cells #[.int .i64 i.op, .int .i64 i.rd, .int .i64 i.rs1, .int .i64 i.rs2, .int .i32 i.imm] 32)) w1.heap.size 3 _ _ _ (heap_alloc_new w1 _))
  have kb4 : w3.cell? ⟨w1.heap.size, 4, none⟩ = some (.int .i32 i.imm) := ho3.cell hnb (cell_of_row (w1.alloc (.cells #[.int .i64 i.op, .int .i64 i.rd, .int .i64 i.rs1, .int .i64 i.rs2, .int .i32 i.imm] 32)) w1.heap.size 4 _ _ _ (heap_alloc_new w1 _))
  have hfs := find_s r
  have hcf := HH.out.cnt.find hs hsl s0 s0 s0
  have q49 : w3.cell? ⟨b, 49, none⟩ = some (.int .i64 0) := hM3.mac.at_
  have z49 := hM3.mac.free 49
  have hsz3 : b < w3.heap.size := hM3.mac.lt
  have hw1 : w1.heap.size < w3.heap.size := block_lt_of_cell kb0
  have hbn : ¬ b = w1.heap.size := by omega
  have HM3 := Lib.hid hM3
  have HO3 := Lib.hid ho3
  have HFS := Lib.hid hfs
  have HCF := Lib.hid hcf
  clear j44 j47 j48 j49 g49 hM3 ho3 hfs hcf hnb
  go_wp2_with fail
  refine (rdo_any B b i hiOk r.find.inc (by show r.find.s.Ok; rw [HFS.out.1]; exact hs) (by show 0 ≤ r.find.s.steps; rw [HFS.out.1]; exact s0) (by show r.find.s.steps ≤ 10000; rw [HFS.out.1]; omega) x3 _ (RMach.inc HM3.out) HCF.out.nslots HCF.out.slots HCF.out.cur (by have := HH.out.ok.evs; show r.find.s.evs.length ≤ 1000000; rw [HFS.out.1]; omega) (HFS.out.2.2.1.trans hend)).mono ?_
  rintro e w4 ⟨rfl, hM4, ho4⟩
  go_wp2_with fail
  first | go_end0 | refine bodyPost_ret (results_none rfl _ _ _) rfl ?_
  rw [HD.out]
  refine ⟨rfl, hM4, ((HO1.out.up0.then (?_ : Only (RUp B) w1 w3)).then (Only.setS (Only.refl _ _) H.out.from_.1 _ _)).then ho4⟩
  refine Only.then ?_ (HO3.out.up (Rb.up H.out))
  repeat (first | with_reducible exact Only.refl _ _ | with_reducible refine Only.alloc ?_ _ | with_reducible refine Only.drewN ?_ _ | with_reducible refine Only.drew ?_)
set_option maxRecDepth 100000 in
set_option maxHeartbeats 1000000 in
theorem rstep_i_b (B b : Nat) (r : RS) (hh : r.Head) (hend : r.ended = false) (x : RRaw) (w : World) (h : RMach B w b r x) (hf : ¬ r.fuel ≤ r.s.steps) (hp : r.s.pc % 4 = 0) (hl : lies r.s r.s.pc 4 = true) (i : Ins) (hde : decO (wordAt r.s.mem r.s.pc) = some i) (hsl : 0 < r.slots.length) (c1 : ¬ r.cur.2 = 0) (c2 : r.cur.2 ≤ r.at_) (hfind : FindOk B b r) :
    Calls Tryz.prog 36 #[.pointer (some ⟨b, 0, none⟩)] w (RP B b w (.tuple #[]) r.step) := by
  have hneed : r.need = true := by unfold RS.need; simp [hsl, c2]
  have hseek : r.seek = r.find := by unfold RS.seek; rw [hneed]; rfl
  have hd : r.step = r.find.inc.do_ i := by rw [step_inr hf (fetch_i (by simpa using hp) hl hde), hseek]
  have hiOk : i.Ok := fetch_ok hh.ok.s (fetch_i (by simpa using hp) hl hde)
  have hde2 : decP (leAt r.s.mem r.s.pc 4) = .tuple #[.agg i.cells, .bool true] := by
    have e : decO (leAt r.s.mem r.s.pc 4) = some i := hde
    unfold decP
    rw [e]
  unfold Ins.cells at hde2
  have HDE := Lib.hid hde2
  have HL := Lib.hid hl
  have k44 := h.mac.slots
  have k47 := h.mac.cur1
  have k48 := h.mac.cur2
  have k49 := h.mac.at_
  have f49 := h.mac.free 49
  have hnsl := hh.cnt.nslots
  obtain ⟨u0, u1, u2, u3⟩ := hh.cnt.cur
  obtain ⟨t0, t1⟩ := hh.cnt.at_
  have hfi := hfind hneed hp hl
  have HFI := Lib.hid hfi
  clear hfi hfind
  have hslv : x.slv = .slice (some ⟨x.sb, 0, none⟩) r.slots.length r.slots.length := by
    rcases h.slots with ⟨e, _⟩ | ⟨_, e, _⟩
    · rw [e] at hsl; simp at hsl
    · exact e
  have hsl2 : ¬ (r.slots.length : Int) ≤ 0 := by omega
  rw [hslv] at k44
  have c1b : (r.cur.2 == 0) = false := by simpa using c1
  have hi4 : r.s.pc + (4 : Nat) ≤ (r.s.mem.length : Int) := by simpa [lies] using hl
  have HI := Lib.hid hi4
  clear hi4
  clear hl hde hde2 hneed hseek hslv
  have hs := hh.ok.s
  obtain ⟨p0, p1⟩ := hs.pc
  obtain ⟨f0, f1⟩ := hh.ok.fuel
  obtain ⟨s0, s1⟩ := hh.ok.steps
  have hlen := hs.len
  have k1 := h.mac.pc
  have k37 := h.mac.steps
  have k42 := h.mac.fuel
  have hsz := h.mac.lt
  have H := Lib.hid h
  have HD := Lib.hid hd
  have HH := Lib.hid hh
  clear h hd hh
  go_enter Tryz.func36, Tryz.ntmps36
  go_wp2_with fail
  go_quiet (fail)
  go_wp2_with fail
  refine (rlies_any b r.s.pc 4 r x _ ?_ p0 p1 (by omega) (by omega) hlen).mono ?_
  · repeat (first | with_reducible refine RAt.drew ?_ | with_reducible refine RAt.drewN ?_ _ | with_reducible refine RAt.alloc ?_ _)
    exact H.out.mac
  rintro e w1 ⟨rfl, rfl⟩
  rw [HL.out]
  go_wp2_with fail
  refine (rload_any b r hs x r.s.pc 4 (by omega) p0 HI.out _ ?_ ?_).mono ?_
  · repeat (first | with_reducible refine RAt.drew ?_ | with_reducible refine RAt.drewN ?_ _ | with_reducible refine RAt.alloc ?_ _)
    exact H.out.mac
  · exact H.out.mem
  rintro e w1 ⟨rfl, rfl⟩
  go_wp2_with fail
  refine (rdecode_any _ (wd_bd _ hs.mem _).1 (wd_bd _ hs.mem _).2 _).mono ?_
  rintro e w1 ⟨rfl, ho0⟩
  have ho1 : Only (fun _ => False) w w1 := Only.then ((Only.refl _ w).drewN _) ho0
  clear ho0
  rw [HDE.out]
  have hm1 := H.out.no ho1
  have j44 := ho1.cell (fun h => h) k44
  have j47 := ho1.cell (fun h => h) k47
  have j48 := ho1.cell (fun h => h) k48
  have j49 := ho1.cell (fun h => h) k49
  have g49 := ho1.free (fun h => h) hsz f49
  have hsz1 : b < w1.heap.size := hm1.mac.lt
  have HM1 := Lib.hid hm1
  have HO1 := Lib.hid ho1
  clear k1 k37 k42 k44 k47 k48 k49 f49 hm1 ho1
  go_wp2_with fail
  go_quiet (fail)
  go_wp2_with fail
  refine (HFI.out _ x (HM1.out.no ?_)).mono ?_
  · repeat (first | with_reducible exact Only.refl _ _ | with_reducible refine Only.alloc ?_ _ | with_reducible refine Only.drewN ?_ _ | with_reducible refine Only.drew ?_)
  rintro e w3 ⟨rfl, ⟨x3, hM3⟩, ho3⟩
  have hnb : ¬ Rb b x w1.heap.size := fun h => by
    have := Rb.lt HM1.out _ h
    omega
  have kb0 : w3.cell? ⟨w1.heap.size, 0, none⟩ = some (.int .i64 i.op) := ho3.cell hnb (cell_of_row (w1.alloc (.cells #[.int .i64 i.op, .int .i64 i.rd, .int .i64 i.rs1, .int .i64 i.rs2, .int .i32 i.imm] 32)) w1.heap.size 0 _ _ _ (heap_alloc_new w1 _))
  have kb1 : w3.cell? ⟨w1.heap.size, 1, none⟩ = some (.int .i64 i.rd) := ho3.cell hnb (cell_of_row (w1.alloc (.cells #[.int .i64 i.op, .int .i64 i.rd, .int .i64 i.rs1, .int .i64 i.rs2, .int .i32 i.imm] 32)) w1.heap.size 1 _ _ _ (heap_alloc_new w1 _))
  have kb2 : w3.cell? ⟨w1.heap.size, 2, none⟩ = some (.int .i64 i.rs1) := ho3.cell hnb (cell_of_row (w1.alloc (.cells #[.int .i64 i.op, .int .i64 i.rd, .int .i64 i.rs1, .int .i64 i.rs2, .int .i32 i.imm] 32)) w1.heap.size 2 _ _ _ (heap_alloc_new w1 _))
  have kb3 : w3.cell? ⟨w1.heap.size, 3, none⟩ = some (.int .i64 i.rs2) := ho3.cell hnb (cell_of_row (w1.alloc (.cells #[.int .i64 i.op, .int .i64 i.rd, .int .i64 i.rs1, .int .i64 i.rs2, .int .i32 i.imm] 32)) w1.heap.size 3 _ _ _ (heap_alloc_new w1 _))
  have kb4 : w3.cell? ⟨w1.heap.size, 4, none⟩ = some (.int .i32 i.imm) := ho3.cell hnb (cell_of_row (w1.alloc (.cells #[.int .i64 i.op, .int .i64 i.rd, .int .i64 i.rs1, .int .i64 i.rs2, .int .i32 i.imm] 32)) w1.heap.size 4 _ _ _ (heap_alloc_new w1 _))
  have hfs := find_s r
  have hcf := HH.out.cnt.find hs hsl s0 s0 s0
  have q49 : w3.cell? ⟨b, 49, none⟩ = some (.int .i64 0) := hM3.mac.at_
  have z49 := hM3.mac.free 49
  have hsz3 : b < w3.heap.size := hM3.mac.lt
  have hw1 : w1.heap.size < w3.heap.size := block_lt_of_cell kb0
  have hbn : ¬ b = w1.heap.size := by omega
  have HM3 := Lib.hid hM3
  have HO3 := Lib.hid ho3
  have HFS := Lib.hid hfs
  have HCF := Lib.hid hcf
  clear j44 j47 j48 j49 g49 hM3 ho3 hfs hcf hnb
  go_wp2_with fail
  refine (rdo_any B b i hiOk r.find.inc (by show r.find.s.Ok; rw [HFS.out.1]; exact hs) (by show 0 ≤ r.find.s.steps; rw [HFS.out.1]; exact s0) (by show r.find.s.steps ≤ 10000; rw [HFS.out.1]; omega) x3 _ (RMach.inc HM3.out) HCF.out.nslots HCF.out.slots HCF.out.cur (by have := HH.out.ok.evs; show r.find.s.evs.length ≤ 1000000; rw [HFS.out.1]; omega) (HFS.out.2.2.1.trans hend)).mono ?_
  rintro e w4 ⟨rfl, hM4, ho4⟩
  go_wp2_with fail
  first | go_end0 | refine bodyPost_ret (results_none rfl _ _ _) rfl ?_
  rw [HD.out]
  refine ⟨rfl, hM4, ((HO1.out.up0.then (?_ : Only (RUp B) w1 w3)).then (Only.setS (Only.refl _ _) H.out.from_.1 _ _)).then ho4⟩
  refine Only.then ?_ (HO3.out.up (Rb.up H.out))
  repeat (first | with_reducible exact Only.refl _ _ | with_reducible refine Only.alloc ?_ _ | with_reducible refine Only.drewN ?_ _ | with_reducible refine Only.drew ?_)
set_option maxRecDepth 100000 in
set_option maxHeartbeats 1000000 in
theorem rstep_i_c (B b : Nat) (r : RS) (hh : r.Head) (hend : r.ended = false) (x : RRaw) (w : World) (h : RMach B w b r x) (hf : ¬ r.fuel ≤ r.s.steps) (hp : r.s.pc % 4 = 0) (hl : lies r.s r.s.pc 4 = true) (i : Ins) (hde : decO (wordAt r.s.mem r.s.pc) = some i) (hsl : 0 < r.slots.length) (c1 : ¬ r.cur.2 = 0) (c2 : ¬ r.cur.2 ≤ r.at_) (c3 : ¬ u32 (r.cur.1 + 4 * r.at_) = r.s.pc) (hfind : FindOk B b r) :
    Calls Tryz.prog 36 #[.pointer (some ⟨b, 0, none⟩)] w (RP B b w (.tuple #[]) r.step) := by
  have hneed : r.need = true := by unfold RS.need; simp [hsl, c3]
  have hseek : r.seek = r.find := by unfold RS.seek; rw [hneed]; rfl
  have hd : r.step = r.find.inc.do_ i := by rw [step_inr hf (fetch_i (by simpa using hp) hl hde), hseek]
  have hiOk : i.Ok := fetch_ok hh.ok.s (fetch_i (by simpa using hp) hl hde)
  have hde2 : decP (leAt r.s.mem r.s.pc 4) = .tuple #[.agg i.cells, .bool true] := by
    have e : decO (leAt r.s.mem r.s.pc 4) = some i := hde
    unfold decP
    rw [e]
  unfold Ins.cells at hde2
  have HDE := Lib.hid hde2
  have HL := Lib.hid hl
  have k44 := h.mac.slots
  have k47 := h.mac.cur1
  have k48 := h.mac.cur2
  have k49 := h.mac.at_
  have f49 := h.mac.free 49
  have hnsl := hh.cnt.nslots
  obtain ⟨u0, u1, u2, u3⟩ := hh.cnt.cur
  obtain ⟨t0, t1⟩ := hh.cnt.at_
  have hfi := hfind hneed hp hl
  have HFI := Lib.hid hfi
  clear hfi hfind
  have hslv : x.slv = .slice (some ⟨x.sb, 0, none⟩) r.slots.length r.slots.length := by
    rcases h.slots with ⟨e, _⟩ | ⟨_, e, _⟩
    · rw [e] at hsl; simp at hsl
    · exact e
  have hsl2 : ¬ (r.slots.length : Int) ≤ 0 := by omega
  rw [hslv] at k44
  have cw : (IntKind.u32.wrap (r.cur.1 + IntKind.u32.wrap (4 * IntKind.u32.wrap r.at_)) != r.s.pc) = true := by
    have e : IntKind.u32.wrap (r.cur.1 + IntKind.u32.wrap (4 * IntKind.u32.wrap r.at_)) = u32 (r.cur.1 + 4 * r.at_) := by
      rw [u32w, u32w, u32w]; unfold u32; omega
    rw [e]
    rw [bne_iff_ne]; exact c3
  clear c3
  have c1b : (r.cur.2 == 0) = false := by simpa using c1
  have hi4 : r.s.pc + (4 : Nat) ≤ (r.s.mem.length : Int) := by simpa [lies] using hl
  have HI := Lib.hid hi4
  clear hi4
  clear hl hde hde2 hneed hseek hslv
  have hs := hh.ok.s
  obtain ⟨p0, p1⟩ := hs.pc
  obtain ⟨f0, f1⟩ := hh.ok.fuel
  obtain ⟨s0, s1⟩ := hh.ok.steps
  have hlen := hs.len
  have k1 := h.mac.pc
  have k37 := h.mac.steps
  have k42 := h.mac.fuel
  have hsz := h.mac.lt
  have H := Lib.hid h
  have HD := Lib.hid hd
  have HH := Lib.hid hh
  clear h hd hh
  go_enter Tryz.func36, Tryz.ntmps36
  go_wp2_with fail
  go_quiet (fail)
  go_wp2_with fail
  refine (rlies_any b r.s.pc 4 r x _ ?_ p0 p1 (by omega) (by omega) hlen).mono ?_
  · repeat (first | with_reducible refine RAt.drew ?_ | with_reducible refine RAt.drewN ?_ _ | with_reducible refine RAt.alloc ?_ _)
    exact H.out.mac
  rintro e w1 ⟨rfl, rfl⟩
  rw [HL.out]
  go_wp2_with fail
  refine (rload_any b r hs x r.s.pc 4 (by omega) p0 HI.out _ ?_ ?_).mono ?_
  · repeat (first | with_reducible refine RAt.drew ?_ | with_reducible refine RAt.drewN ?_ _ | with_reducible refine RAt.alloc ?_ _)
    exact H.out.mac
  · exact H.out.mem
  rintro e w1 ⟨rfl, rfl⟩
  go_wp2_with fail
  refine (rdecode_any _ (wd_bd _ hs.mem _).1 (wd_bd _ hs.mem _).2 _).mono ?_
  rintro e w1 ⟨rfl, ho0⟩
  have ho1 : Only (fun _ => False) w w1 := Only.then ((Only.refl _ w).drewN _) ho0
  clear ho0
  rw [HDE.out]
  have hm1 := H.out.no ho1
  have j44 := ho1.cell (fun h => h) k44
  have j47 := ho1.cell (fun h => h) k47
  have j48 := ho1.cell (fun h => h) k48
  have j49 := ho1.cell (fun h => h) k49
  have g49 := ho1.free (fun h => h) hsz f49
  have hsz1 : b < w1.heap.size := hm1.mac.lt
  have HM1 := Lib.hid hm1
  have HO1 := Lib.hid ho1
  clear k1 k37 k42 k44 k47 k48 k49 f49 hm1 ho1
  go_wp2_with fail
  go_quiet (fail)
  go_wp2_with fail
  refine (HFI.out _ x (HM1.out.no ?_)).mono ?_
  · repeat (first | with_reducible exact Only.refl _ _ | with_reducible refine Only.alloc ?_ _ | with_reducible refine Only.drewN ?_ _ | with_reducible refine Only.drew ?_)
  rintro e w3 ⟨rfl, ⟨x3, hM3⟩, ho3⟩
  have hnb : ¬ Rb b x w1.heap.size := fun h => by
    have := Rb.lt HM1.out _ h
    omega
  have kb0 : w3.cell? ⟨w1.heap.size, 0, none⟩ = some (.int .i64 i.op) := ho3.cell hnb (cell_of_row (w1.alloc (.cells #[.int .i64 i.op, .int .i64 i.rd, .int .i64 i.rs1, .int .i64 i.rs2, .int .i32 i.imm] 32)) w1.heap.size 0 _ _ _ (heap_alloc_new w1 _))
  have kb1 : w3.cell? ⟨w1.heap.size, 1, none⟩ = some (.int .i64 i.rd) := ho3.cell hnb (cell_of_row (w1.alloc (.cells #[.int .i64 i.op, .int .i64 i.rd, .int .i64 i.rs1, .int .i64 i.rs2, .int .i32 i.imm] 32)) w1.heap.size 1 _ _ _ (heap_alloc_new w1 _))
  have kb2 : w3.cell? ⟨w1.heap.size, 2, none⟩ = some (.int .i64 i.rs1) := ho3.cell hnb (cell_of_row (w1.alloc (.cells #[.int .i64 i.op, .int .i64 i.rd, .int .i64 i.rs1, .int .i64 i.rs2, .int .i32 i.imm] 32)) w1.heap.size 2 _ _ _ (heap_alloc_new w1 _))
  have kb3 : w3.cell? ⟨w1.heap.size, 3, none⟩ = some (.int .i64 i.rs2) := ho3.cell hnb (cell_of_row (w1.alloc (.cells #[.int .i64 i.op, .int .i64 i.rd, .int .i64 i.rs1, .int .i64 i.rs2, .int .i32 i.imm] 32)) w1.heap.size 3 _ _ _ (heap_alloc_new w1 _))
  have kb4 : w3.cell? ⟨w1.heap.size, 4, none⟩ = some (.int .i32 i.imm) := ho3.cell hnb (cell_of_row (w1.alloc (.cells #[.int .i64 i.op, .int .i64 i.rd, .int .i64 i.rs1, .int .i64 i.rs2, .int .i32 i.imm] 32)) w1.heap.size 4 _ _ _ (heap_alloc_new w1 _))
  have hfs := find_s r
  have hcf := HH.out.cnt.find hs hsl s0 s0 s0
  have q49 : w3.cell? ⟨b, 49, none⟩ = some (.int .i64 0) := hM3.mac.at_
  have z49 := hM3.mac.free 49
  have hsz3 : b < w3.heap.size := hM3.mac.lt
  have hw1 : w1.heap.size < w3.heap.size := block_lt_of_cell kb0
  have hbn : ¬ b = w1.heap.size := by omega
  have HM3 := Lib.hid hM3
  have HO3 := Lib.hid ho3
  have HFS := Lib.hid hfs
  have HCF := Lib.hid hcf
  clear j44 j47 j48 j49 g49 hM3 ho3 hfs hcf hnb
  go_wp2_with fail
  refine (rdo_any B b i hiOk r.find.inc (by show r.find.s.Ok; rw [HFS.out.1]; exact hs) (by show 0 ≤ r.find.s.steps; rw [HFS.out.1]; exact s0) (by show r.find.s.steps ≤ 10000; rw [HFS.out.1]; omega) x3 _ (RMach.inc HM3.out) HCF.out.nslots HCF.out.slots HCF.out.cur (by have := HH.out.ok.evs; show r.find.s.evs.length ≤ 1000000; rw [HFS.out.1]; omega) (HFS.out.2.2.1.trans hend)).mono ?_
  rintro e w4 ⟨rfl, hM4, ho4⟩
  go_wp2_with fail
  first | go_end0 | refine bodyPost_ret (results_none rfl _ _ _) rfl ?_
  rw [HD.out]
  refine ⟨rfl, hM4, ((HO1.out.up0.then (?_ : Only (RUp B) w1 w3)).then (Only.setS (Only.refl _ _) H.out.from_.1 _ _)).then ho4⟩
  refine Only.then ?_ (HO3.out.up (Rb.up H.out))
  repeat (first | with_reducible exact Only.refl _ _ | with_reducible refine Only.alloc ?_ _ | with_reducible refine Only.drewN ?_ _ | with_reducible refine Only.drew ?_)
set_option maxRecDepth 100000 in
set_option maxHeartbeats 1000000 in
theorem rstep_i_d (B b : Nat) (r : RS) (hh : r.Head) (hend : r.ended = false) (x : RRaw) (w : World) (h : RMach B w b r x) (hf : ¬ r.fuel ≤ r.s.steps) (hp : r.s.pc % 4 = 0) (hl : lies r.s r.s.pc 4 = true) (i : Ins) (hde : decO (wordAt r.s.mem r.s.pc) = some i) (hsl : 0 < r.slots.length) (c1 : ¬ r.cur.2 = 0) (c2 : ¬ r.cur.2 ≤ r.at_) (c3 : u32 (r.cur.1 + 4 * r.at_) = r.s.pc) :
    Calls Tryz.prog 36 #[.pointer (some ⟨b, 0, none⟩)] w (RP B b w (.tuple #[]) r.step) := by
  have hneed : r.need = false := by unfold RS.need; simp [c1, c2, c3]
  have hseek : r.seek = r := by unfold RS.seek; rw [hneed]; rfl
  have hd : r.step = r.inc.do_ i := by rw [step_inr hf (fetch_i (by simpa using hp) hl hde), hseek]
  have hiOk : i.Ok := fetch_ok hh.ok.s (fetch_i (by simpa using hp) hl hde)
  have hde2 : decP (leAt r.s.mem r.s.pc 4) = .tuple #[.agg i.cells, .bool true] := by
    have e : decO (leAt r.s.mem r.s.pc 4) = some i := hde
    unfold decP
    rw [e]
  unfold Ins.cells at hde2
  have HDE := Lib.hid hde2
  have HL := Lib.hid hl
  have k44 := h.mac.slots
  have k47 := h.mac.cur1
  have k48 := h.mac.cur2
  have k49 := h.mac.at_
  have f49 := h.mac.free 49
  have hnsl := hh.cnt.nslots
  obtain ⟨u0, u1, u2, u3⟩ := hh.cnt.cur
  obtain ⟨t0, t1⟩ := hh.cnt.at_
  have hslv : x.slv = .slice (some ⟨x.sb, 0, none⟩) r.slots.length r.slots.length := by
    rcases h.slots with ⟨e, _⟩ | ⟨_, e, _⟩
    · rw [e] at hsl; simp at hsl
    · exact e
  have hsl2 : ¬ (r.slots.length : Int) ≤ 0 := by omega
  rw [hslv] at k44
  have cw : (IntKind.u32.wrap (r.cur.1 + IntKind.u32.wrap (4 * IntKind.u32.wrap r.at_)) != r.s.pc) = false := by
    have e : IntKind.u32.wrap (r.cur.1 + IntKind.u32.wrap (4 * IntKind.u32.wrap r.at_)) = u32 (r.cur.1 + 4 * r.at_) := by
      rw [u32w, u32w, u32w]; unfold u32; omega
    rw [e]
    rw [c3]; simp
  clear c3
  have c1b : (r.cur.2 == 0) = false := by simpa using c1
  have hi4 : r.s.pc + (4 : Nat) ≤ (r.s.mem.length : Int) := by simpa [lies] using hl
  have HI := Lib.hid hi4
  clear hi4
  clear hl hde hde2 hneed hseek hslv
  have hs := hh.ok.s
  obtain ⟨p0, p1⟩ := hs.pc
  obtain ⟨f0, f1⟩ := hh.ok.fuel
  obtain ⟨s0, s1⟩ := hh.ok.steps
  have hlen := hs.len
  have k1 := h.mac.pc
  have k37 := h.mac.steps
  have k42 := h.mac.fuel
  have hsz := h.mac.lt
  have H := Lib.hid h
  have HD := Lib.hid hd
  have HH := Lib.hid hh
  clear h hd hh
  go_enter Tryz.func36, Tryz.ntmps36
  go_wp2_with fail
  go_quiet (fail)
  go_wp2_with fail
  refine (rlies_any b r.s.pc 4 r x _ ?_ p0 p1 (by omega) (by omega) hlen).mono ?_
  · repeat (first | with_reducible refine RAt.drew ?_ | with_reducible refine RAt.drewN ?_ _ | with_reducible refine RAt.alloc ?_ _)
    exact H.out.mac
  rintro e w1 ⟨rfl, rfl⟩
  rw [HL.out]
  go_wp2_with fail
  refine (rload_any b r hs x r.s.pc 4 (by omega) p0 HI.out _ ?_ ?_).mono ?_
  · repeat (first | with_reducible refine RAt.drew ?_ | with_reducible refine RAt.drewN ?_ _ | with_reducible refine RAt.alloc ?_ _)
    exact H.out.mac
  · exact H.out.mem
  rintro e w1 ⟨rfl, rfl⟩
  go_wp2_with fail
  refine (rdecode_any _ (wd_bd _ hs.mem _).1 (wd_bd _ hs.mem _).2 _).mono ?_
  rintro e w1 ⟨rfl, ho0⟩
  have ho1 : Only (fun _ => False) w w1 := Only.then ((Only.refl _ w).drewN _) ho0
  clear ho0
  rw [HDE.out]
  have hm1 := H.out.no ho1
  have j44 := ho1.cell (fun h => h) k44
  have j47 := ho1.cell (fun h => h) k47
  have j48 := ho1.cell (fun h => h) k48
  have j49 := ho1.cell (fun h => h) k49
  have g49 := ho1.free (fun h => h) hsz f49
  have hsz1 : b < w1.heap.size := hm1.mac.lt
  have HM1 := Lib.hid hm1
  have HO1 := Lib.hid ho1
  clear k1 k37 k42 k44 k47 k48 k49 f49 hm1 ho1
  go_wp2_with fail
  go_quiet (fail)
  go_wp2_with fail
  refine (rdo_any B b i hiOk r.inc hs s0 (by show r.s.steps ≤ 10000; omega) x _ (RMach.inc (HM1.out.no ?_)) HH.out.cnt.nslots HH.out.cnt.slots HH.out.cnt.cur (by have := HH.out.ok.evs; show r.s.evs.length ≤ 1000000; omega) hend).mono ?_
  · repeat (first | with_reducible exact Only.refl _ _ | with_reducible refine Only.alloc ?_ _ | with_reducible refine Only.drewN ?_ _ | with_reducible refine Only.drew ?_)
  rintro e w3 ⟨rfl, hM3, ho3⟩
  go_wp2_with fail
  first | go_end0 | refine bodyPost_ret (results_none rfl _ _ _) rfl ?_
  rw [HD.out]
  refine ⟨rfl, hM3, (HO1.out.up0.then ?_).then ho3⟩
  repeat (first | with_reducible exact Only.refl _ _ | with_reducible refine Only.setS ?_ H.out.from_.1 _ _ | with_reducible refine Only.alloc ?_ _ | with_reducible refine Only.drewN ?_ _ | with_reducible refine Only.drew ?_)
/-- 'Step', whatever the machine. -/
theorem rstep_any (B b : Nat) (r : RS) (hh : r.Head) (hend : r.ended = false) (x : RRaw) (w : World) (h : RMach B w b r x) (hfind : FindOk B b r) :
    Calls Tryz.prog 36 #[.pointer (some ⟨b, 0, none⟩)] w (RP B b w (.tuple #[]) r.step) := by
  by_cases hf : r.fuel ≤ r.s.steps
  · exact rstep_fuel B b r hh hend x w h hf
  by_cases hp : r.s.pc % 4 = 0
  case neg => exact rstep_3 B b r hh hend x w h hf hp
  cases hl : lies r.s r.s.pc 4
  · exact rstep_4 B b r hh hend x w h hf hp hl
  cases hde : decO (wordAt r.s.mem r.s.pc) with
  | none => exact rstep_2 B b r hh hend x w h hf hp hl hde
  | some i =>
    by_cases hsl : r.slots.length = 0
    · exact rstep_i_n B b r hh hend x w h hf hp hl i hde hsl
    have hsl : 0 < r.slots.length := by omega
    by_cases c1 : r.cur.2 = 0
    · exact rstep_i_a B b r hh hend x w h hf hp hl i hde hsl c1 hfind
    by_cases c2 : r.cur.2 ≤ r.at_
    · exact rstep_i_b B b r hh hend x w h hf hp hl i hde hsl c1 c2 hfind
    by_cases c3 : u32 (r.cur.1 + 4 * r.at_) = r.s.pc
    · exact rstep_i_d B b r hh hend x w h hf hp hl i hde hsl c1 c2 c3
    · exact rstep_i_c B b r hh hend x w h hf hp hl i hde hsl c1 c2 c3 hfind
end Go.Proofs.YtanccjaikocefaaGreatDoor
