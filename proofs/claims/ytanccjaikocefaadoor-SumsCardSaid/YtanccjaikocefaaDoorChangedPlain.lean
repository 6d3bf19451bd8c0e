/-
  The program of 'Changed', plainly: how it ends, one by one and in blocks, whatever the word. No program in sight.
-/
import Derived.Test.YtanccjaikocefaaDoorKeepPlain
namespace Go.Proofs.YtanccjaikocefaaDoor
open Go.ChangeShapes Go.WideShapes Go.ChangeAt Go.RowKit
set_option linter.unusedVariables false

/-! ### What is built: a block is built where no slot holds it -/
def NoHit (P : Int) (l : List (Int × Int)) : Prop := ∀ q ∈ l, q.2 = 0 ∨ q.1 ≠ P
theorem getD_cases (l : List (Int × Int)) (k : Nat) : l.getD k (0, 0) ∈ l ∨ l.getD k (0, 0) = (0, 0) := by
  rw [List.getD_eq_getElem?_getD]
  cases h : l[k]? with
  | none => exact .inr rfl
  | some q => exact .inl (List.mem_of_getElem? h)
theorem make_new {r : RS} (h : NoHit r.s.pc r.slots) : r.make.built = r.built + 1 := by
  unfold RS.make
  dsimp only
  rw [if_pos]
  rcases getD_cases r.slots r.slotK with hm | he
  · rcases h _ hm with e | e
    · rw [e]; rfl
    · rw [Bool.or_eq_true]; right; simpa using e
  · rw [he]; rfl
theorem make_le (r : RS) : r.built ≤ r.make.built := by
  unfold RS.make
  dsimp only
  split
  · show r.built ≤ r.built + 1; omega
  · exact Int.le_refl _
theorem make_nohit {r : RS} {P : Int} (hp : r.s.pc ≠ P) (h : NoHit P r.slots) : NoHit P r.make.slots := by
  unfold RS.make
  dsimp only
  split
  · intro q hq
    rcases List.mem_or_eq_of_mem_set hq with hq | rfl
    · split at hq
      · rw [(List.mem_replicate.1 hq).2]; exact .inl rfl
      · exact h q hq
    · exact .inr hp
  · exact h
theorem seek_le (r : RS) : r.built ≤ r.seek.built := by
  unfold RS.seek
  split
  · exact make_le r
  · exact Int.le_refl _
theorem seek_nohit {r : RS} {P : Int} (hp : r.s.pc ≠ P) (h : NoHit P r.slots) : NoHit P r.seek.slots := by
  unfold RS.seek
  split
  · exact make_nohit hp h
  · exact h
theorem wrote_nohit {r : RS} {P : Int} (wr : Option (Int × Int)) (h : NoHit P r.slots) : NoHit P (r.wrote wr).slots := by
  cases wr with
  | none => exact h
  | some p =>
    intro q hq
    obtain ⟨q0, h0, rfl⟩ := List.mem_map.1 hq
    unfold forget1
    split
    · exact .inl rfl
    · exact h q0 h0
theorem leave_same (r : RS) (b : Bool) : (r.leave b).slots = r.slots ∧ (r.leave b).built = r.built := by
  unfold RS.leave; split <;> exact ⟨rfl, rfl⟩
theorem wrote_built (r : RS) (wr : Option (Int × Int)) : (r.wrote wr).built = r.built := by cases wr <;> rfl
theorem do_built (r : RS) (i : Ins) : (r.do_ i).built = r.built := by
  unfold RS.do_
  split
  · rfl
  · rw [(leave_same _ _).2, wrote_built]
theorem do_nohit {r : RS} {P : Int} (i : Ins) (h : NoHit P r.slots) : NoHit P (r.do_ i).slots := by
  unfold RS.do_
  split
  · exact h
  · rw [(leave_same _ _).1]; exact wrote_nohit _ h
theorem step_le (r : RS) : r.built ≤ r.step.built := by
  unfold RS.step
  split
  · exact Int.le_refl _
  · split
    · exact Int.le_refl _
    · rw [do_built]; exact seek_le r
theorem step_nohit {r : RS} {P : Int} (hp : r.s.pc ≠ P) (h : NoHit P r.slots) : NoHit P r.step.slots := by
  unfold RS.step
  split
  · exact h
  · split
    · exact h
    · exact do_nohit _ (seek_nohit hp h)
theorem runR_le (n : Nat) : ∀ r : RS, r.built ≤ (runR n r).built := by
  induction n with
  | zero => intro r; exact Int.le_refl _
  | succ n ih =>
    intro r
    rw [runR]
    split
    · exact Int.le_refl _
    · exact Int.le_trans (step_le r) (ih _)
/-- A step behind which something was written to the page of the pc. -/
theorem step_new {r : RS} {i : Ins} (hn : r.need = true) (h : NoHit r.s.pc r.slots) (hf : ¬ r.fuel ≤ r.s.steps) (hx : fetch r.s = .inr i) : r.step.built = r.built + 1 := by
  unfold RS.step
  rw [if_neg hf, hx]
  dsimp only
  rw [do_built]
  unfold RS.seek
  rw [hn]
  exact make_new h
/-- One step on. -/
theorem step_on {r : RS} {i : Ins} {t : St} {next : Int} {wr : Option (Int × Int)} (he : r.ended = false) (hf : ¬ r.fuel ≤ r.s.steps) (hx : fetch r.s = .inr i) (hr : exec r.s i = .go t next wr) :
    r.step.ended = false ∧ r.step.s = t.step next ∧ r.step.fuel = r.fuel ∧ ∀ n, runR (n + 1) r = runR n r.step := by
  have h := step_s r he
  rw [if_neg hf, hx] at h
  dsimp only at h
  rw [hr] at h
  exact ⟨h.2.1, h.2.2, h.1, fun n => by rw [runR, if_neg (by rw [he]; decide)]⟩
theorem runS_on {fuel : Int} {s : St} {i : Ins} {t : St} {next : Int} {wr : Option (Int × Int)} (hf : s.steps < fuel) (hx : fetch s = .inr i) (hr : exec s i = .go t next wr) (n : Nat) : runS fuel (n + 1) s = runS fuel n (t.step next) := by
  rw [runS, if_pos hf, hx]
  dsimp only
  rw [hr]

/-! ### All that is kept lies in the first page -/
def InP (q : Int × Int) : Prop := 0 ≤ q.1 ∧ q.1 < 64
structure Low (r : RS) : Prop where
  cur : InP r.cur
  slots : ∀ q ∈ r.slots, InP q
theorem inp_zero : InP (0, 0) := by unfold InP; decide
theorem forget_low {q : Int × Int} (h : InP q) : forget1 0 0 q = (0, 0) := by
  unfold InP at h
  unfold forget1 inPages
  rw [if_pos]
  have : q.1 / 64 = 0 := by omega
  rw [this]; rfl
theorem forget_inp {f l : Int} {q : Int × Int} (h : InP q) : InP (forget1 f l q) := by
  unfold forget1
  split
  · exact inp_zero
  · exact h
theorem make_low {r : RS} (hp : 0 ≤ r.s.pc ∧ r.s.pc < 64) (h : Low r) : Low r.make := by
  unfold RS.make
  dsimp only
  split
  · refine ⟨h.cur, fun q hq => ?_⟩
    rcases List.mem_or_eq_of_mem_set hq with hq | rfl
    · split at hq
      · rw [(List.mem_replicate.1 hq).2]; exact inp_zero
      · exact h.slots q hq
    · exact hp
  · exact h
theorem seek_low {r : RS} (hp : 0 ≤ r.s.pc ∧ r.s.pc < 64) (h : Low r) : Low r.seek := by
  unfold RS.seek
  split
  · have hm := make_low hp h
    refine ⟨?_, hm.slots⟩
    rcases getD_cases r.make.slots r.make.slotK with h1 | h1
    · exact hm.slots _ h1
    · show InP (r.make.slots.getD r.make.slotK (0, 0)); rw [h1]; exact inp_zero
  · exact h
theorem wrote_low {r : RS} (wr : Option (Int × Int)) (h : Low r) : Low (r.wrote wr) := by
  cases wr with
  | none => exact h
  | some p =>
    refine ⟨forget_inp h.cur, fun q hq => ?_⟩
    obtain ⟨q0, h0, rfl⟩ := List.mem_map.1 hq
    exact forget_inp (h.slots q0 h0)
theorem leave_low {r : RS} (b : Bool) (h : Low r) : Low (r.leave b) := by
  unfold RS.leave
  split
  · exact ⟨inp_zero, h.slots⟩
  · exact h
theorem do_low {r : RS} (i : Ins) (h : Low r) : Low (r.do_ i) := by
  unfold RS.do_
  split
  · exact ⟨h.cur, h.slots⟩
  · exact leave_low _ (wrote_low _ ⟨h.cur, h.slots⟩)
theorem step_low {r : RS} (hp : 0 ≤ r.s.pc ∧ r.s.pc < 64) (h : Low r) : Low r.step := by
  unfold RS.step
  split
  · exact ⟨h.cur, h.slots⟩
  · split
    · exact ⟨h.cur, h.slots⟩
    · have := seek_low hp h
      exact do_low _ ⟨this.cur, this.slots⟩
theorem step_len (r : RS) : r.step.slots.length = r.slots.length := by
  unfold RS.step
  split
  · rfl
  · split
    · rfl
    · have h := (seek_s r).2.2.2.2
      unfold RS.do_
      split
      · exact h
      · exact (leave_s _ _).2.2.2.2.trans ((wrote_s _ _).2.2.2.2.trans h)
/-- Behind a writing into the first page nothing is kept. -/
theorem step_wipe {r : RS} {i : Ins} {t : St} {next : Int} (hp : 0 ≤ r.s.pc ∧ r.s.pc < 64) (h : Low r) (hf : ¬ r.fuel ≤ r.s.steps) (hx : fetch r.s = .inr i) (hr : exec r.s i = .go t next (some (0, 0))) : r.step.cur = (0, 0) ∧ ∀ q ∈ r.step.slots, q = (0, 0) := by
  have hl := seek_low hp h
  unfold RS.step
  rw [if_neg hf, hx]
  dsimp only
  unfold RS.do_
  have e : r.seek.inc.s = r.s := (seek_s r).1
  rw [e, hr]
  dsimp only
  refine ⟨?_, fun q hq => ?_⟩
  · unfold RS.leave
    split
    · rfl
    · exact forget_low hl.cur
  · rw [(leave_same _ _).1] at hq
    obtain ⟨q0, h0, rfl⟩ := List.mem_map.1 hq
    exact forget_low (hl.slots q0 h0)
theorem step_jump {r : RS} {i : Ins} {t : St} {next : Int} {wr : Option (Int × Int)} (hf : ¬ r.fuel ≤ r.s.steps) (hx : fetch r.s = .inr i) (hr : exec r.s i = .go t next wr) (hj : jumps r.s i = true) : r.step.cur = (0, 0) := by
  unfold RS.step
  rw [if_neg hf, hx]
  dsimp only
  unfold RS.do_
  have e : r.seek.inc.s = r.s := (seek_s r).1
  rw [e, hr]
  dsimp only
  unfold RS.leave
  rw [if_pos hj]
theorem need_cur {r : RS} (h : 0 < r.slots.length) (hc : r.cur = (0, 0)) : r.need = true := by
  unfold RS.need
  rw [hc]
  simp [h]

/-! ### The program -/
def codeW : List Int := [67117699, 5252131, 1049875, 1245971, 2098067, 4268955363, 1048691]
def chS (r : Nat → Int) (pc : Int) (m : List Int) (st : Int) : St := { regs := r, pc := pc, mem := m, low := 68, brk := 68, ans := [], evs := [], steps := st }
def rZ : Nat → Int := fun _ => 0
def chM0 (w : Int) : List Int := textB codeW ++ (List.replicate 36 0 ++ (wordB w ++ List.replicate 60 0))
def chM1 (w : Int) : List Int := putAt (chM0 w) 8 (wordB w)
def chM2 (w : Int) : List Int := putAt (chM1 w) 8 (wordB w)
def chW (v : Int) : Int := 1299 + v * 1048576
theorem ch_le (w : Int) (h0 : 0 ≤ w) (h1 : w < 4294967296) : w % 256 + 256 * (w / 256 % 256 + 256 * (w / 65536 % 256 + 256 * (w / 16777216 % 256 + 256 * 0))) = w := by omega
theorem ch_ld0 (w : Int) (h0 : 0 ≤ w) (h1 : w < 4294967296) : loadV 12 (chM0 w) 64 = w := by
  have : loadV 12 (chM0 w) 64 = w % 256 + 256 * (w / 256 % 256 + 256 * (w / 65536 % 256 + 256 * (w / 16777216 % 256 + 256 * 0))) := by kernel_rfl
  rw [this, ch_le w h0 h1]
theorem ch_ld1 (w : Int) (h0 : 0 ≤ w) (h1 : w < 4294967296) : loadV 12 (chM1 w) 64 = w := by
  have : loadV 12 (chM1 w) 64 = w % 256 + 256 * (w / 256 % 256 + 256 * (w / 65536 % 256 + 256 * (w / 16777216 % 256 + 256 * 0))) := by kernel_rfl
  rw [this, ch_le w h0 h1]
theorem ch_wd1 (w : Int) (h0 : 0 ≤ w) (h1 : w < 4294967296) : wordAt (chM1 w) 8 = w := by
  have : wordAt (chM1 w) 8 = w % 256 + 256 * (w / 256 % 256 + 256 * (w / 65536 % 256 + 256 * (w / 16777216 % 256 + 256 * 0))) := by kernel_rfl
  rw [this, ch_le w h0 h1]
theorem ch_wd2 (w : Int) (h0 : 0 ≤ w) (h1 : w < 4294967296) : wordAt (chM2 w) 8 = w := by
  have : wordAt (chM2 w) 8 = w % 256 + 256 * (w / 256 % 256 + 256 * (w / 65536 % 256 + 256 * (w / 16777216 % 256 + 256 * 0))) := by kernel_rfl
  rw [this, ch_le w h0 h1]
def insIs (i : Option Ins) (a b c d e : Int) : Bool := match i with | some i => i.op == a && i.rd == b && i.rs1 == c && i.rs2 == d && i.imm == e | none => false
theorem insIs_eq {i : Option Ins} {a b c d e : Int} (h : insIs i a b c d e = true) : i = some ⟨a, b, c, d, e⟩ := by
  cases i with
  | none => cases h
  | some i =>
    obtain ⟨a', b', c', d', e'⟩ := i
    simp only [insIs, Bool.and_eq_true, beq_iff_eq] at h
    obtain ⟨⟨⟨⟨rfl, rfl⟩, rfl⟩, rfl⟩, rfl⟩ := h
    rfl
theorem dec_new_all : (List.range 2048).all (fun v => insIs (decO (chW v)) 18 10 0 0 v) = true := by kernel_rfl
theorem dec_new (v : Int) (h0 : 0 ≤ v) (h1 : v < 2048) : decO (chW v) = some ⟨18, 10, 0, 0, v⟩ := by
  obtain ⟨n, rfl⟩ : ∃ n : Nat, v = (n : Int) := ⟨v.toNat, by omega⟩
  exact insIs_eq (List.all_eq_true.1 dec_new_all n (List.mem_range.2 (by omega)))
def iLw : Ins := ⟨12, 5, 0, 0, 64⟩
def iSw : Ins := ⟨17, 0, 0, 5, 8⟩
def iNew (v : Int) : Ins := ⟨18, 10, 0, 0, v⟩
def iA6 : Ins := ⟨18, 6, 6, 0, 1⟩
def iA7 : Ins := ⟨18, 7, 0, 0, 2⟩
def iBn : Ins := ⟨5, 0, 6, 7, -20⟩
def iEb : Ins := ⟨47, 0, 0, 0, 0⟩
def r3 (w v : Int) : Nat → Int := setR (setR rZ 5 w) 10 v
def r4 (w v : Int) : Nat → Int := setR (r3 w v) 6 1
def r5 (w v : Int) : Nat → Int := setR (r4 w v) 7 2
def r7 (w v : Int) : Nat → Int := setR (r5 w v) 5 w
def r9 (w v : Int) : Nat → Int := setR (r7 w v) 10 v
def r10 (w v : Int) : Nat → Int := setR (r9 w v) 6 2
def r11 (w v : Int) : Nat → Int := setR (r10 w v) 7 2
theorem fe0 (w : Int) : fetch (chS rZ 0 (chM0 w) 0) = .inr iLw := by kernel_rfl
theorem fe1 (w : Int) : fetch (chS (setR rZ 5 w) 4 (chM0 w) 1) = .inr iSw := by kernel_rfl
theorem fetch_in {r : Nat → Int} {pc st : Int} {m : List Int} {i : Ins} (hp : pc % 4 = 0) (hl : pc + 4 ≤ (m.length : Int)) (h : decO (wordAt m pc) = some i) : fetch (chS r pc m st) = .inr i := by
  unfold fetch lies
  have e1 : (chS r pc m st).pc = pc := rfl
  have e2 : (chS r pc m st).mem = m := rfl
  rw [e1, e2, if_neg (by omega), if_pos (by simpa using hl), h]
theorem fe2 (v : Int) (h0 : 0 ≤ v) (h1 : v < 2048) : fetch (chS (setR rZ 5 (chW v)) 8 (chM1 (chW v)) 2) = .inr (iNew v) :=
  fetch_in (by decide) (by show (12 : Int) ≤ ((128 : Nat) : Int); decide) (by rw [ch_wd1 _ (by unfold chW; omega) (by unfold chW; omega)]; exact dec_new v h0 h1)
theorem fe3 (w v : Int) : fetch (chS (r3 w v) 12 (chM1 w) 3) = .inr iA6 := by kernel_rfl
theorem fe4 (w v : Int) : fetch (chS (r4 w v) 16 (chM1 w) 4) = .inr iA7 := by kernel_rfl
theorem fe5 (w v : Int) : fetch (chS (r5 w v) 20 (chM1 w) 5) = .inr iBn := by kernel_rfl
theorem fe6 (w v : Int) : fetch (chS (r5 w v) 0 (chM1 w) 6) = .inr iLw := by kernel_rfl
theorem fe7 (w v : Int) : fetch (chS (r7 w v) 4 (chM1 w) 7) = .inr iSw := by kernel_rfl
theorem fe8 (v : Int) (h0 : 0 ≤ v) (h1 : v < 2048) : fetch (chS (r7 (chW v) v) 8 (chM2 (chW v)) 8) = .inr (iNew v) :=
  fetch_in (by decide) (by show (12 : Int) ≤ ((128 : Nat) : Int); decide) (by rw [ch_wd2 _ (by unfold chW; omega) (by unfold chW; omega)]; exact dec_new v h0 h1)
theorem fe9 (w v : Int) : fetch (chS (r9 w v) 12 (chM2 w) 9) = .inr iA6 := by kernel_rfl
theorem fe10 (w v : Int) : fetch (chS (r10 w v) 16 (chM2 w) 10) = .inr iA7 := by kernel_rfl
theorem fe11 (w v : Int) : fetch (chS (r11 w v) 20 (chM2 w) 11) = .inr iBn := by kernel_rfl
theorem fe12 (w v : Int) : fetch (chS (r11 w v) 24 (chM2 w) 12) = .inr iEb := by kernel_rfl
theorem ex0 (w : Int) (h0 : 0 ≤ w) (h1 : w < 4294967296) : exec (chS rZ 0 (chM0 w) 0) iLw = .go (chS (setR rZ 5 w) 0 (chM0 w) 0) 4 none := by
  have : exec (chS rZ 0 (chM0 w) 0) iLw = .go (chS (setR rZ 5 (loadV 12 (chM0 w) 64)) 0 (chM0 w) 0) 4 none := by kernel_rfl
  rw [this, ch_ld0 w h0 h1]
theorem ex1 (w : Int) : exec (chS (setR rZ 5 w) 4 (chM0 w) 1) iSw = .go (chS (setR rZ 5 w) 4 (chM1 w) 1) 8 (some (0, 0)) := by kernel_rfl
theorem ex2 (w v : Int) (h0 : 0 ≤ v) (h1 : v < 2048) : exec (chS (setR rZ 5 w) 8 (chM1 w) 2) (iNew v) = .go (chS (r3 w v) 8 (chM1 w) 2) 12 none := by
  have : exec (chS (setR rZ 5 w) 8 (chM1 w) 2) (iNew v) = .go (chS (setR (setR rZ 5 w) 10 ((0 + v % 4294967296) % 4294967296)) 8 (chM1 w) 2) 12 none := by kernel_rfl
  rw [this, show (0 + v % 4294967296) % 4294967296 = v by omega]; rfl
theorem ex3 (w v : Int) : exec (chS (r3 w v) 12 (chM1 w) 3) iA6 = .go (chS (r4 w v) 12 (chM1 w) 3) 16 none := by kernel_rfl
theorem ex4 (w v : Int) : exec (chS (r4 w v) 16 (chM1 w) 4) iA7 = .go (chS (r5 w v) 16 (chM1 w) 4) 20 none := by kernel_rfl
theorem ex5 (w v : Int) : exec (chS (r5 w v) 20 (chM1 w) 5) iBn = .go (chS (r5 w v) 20 (chM1 w) 5) 0 none := by kernel_rfl
theorem ex6 (w v : Int) (h0 : 0 ≤ w) (h1 : w < 4294967296) : exec (chS (r5 w v) 0 (chM1 w) 6) iLw = .go (chS (r7 w v) 0 (chM1 w) 6) 4 none := by
  have : exec (chS (r5 w v) 0 (chM1 w) 6) iLw = .go (chS (setR (r5 w v) 5 (loadV 12 (chM1 w) 64)) 0 (chM1 w) 6) 4 none := by kernel_rfl
  rw [this, ch_ld1 w h0 h1]; rfl
theorem ex7 (w v : Int) : exec (chS (r7 w v) 4 (chM1 w) 7) iSw = .go (chS (r7 w v) 4 (chM2 w) 7) 8 (some (0, 0)) := by kernel_rfl
theorem ex8 (w v : Int) (h0 : 0 ≤ v) (h1 : v < 2048) : exec (chS (r7 w v) 8 (chM2 w) 8) (iNew v) = .go (chS (r9 w v) 8 (chM2 w) 8) 12 none := by
  have : exec (chS (r7 w v) 8 (chM2 w) 8) (iNew v) = .go (chS (setR (r7 w v) 10 ((0 + v % 4294967296) % 4294967296)) 8 (chM2 w) 8) 12 none := by kernel_rfl
  rw [this, show (0 + v % 4294967296) % 4294967296 = v by omega]; rfl
theorem ex9 (w v : Int) : exec (chS (r9 w v) 12 (chM2 w) 9) iA6 = .go (chS (r10 w v) 12 (chM2 w) 9) 16 none := by kernel_rfl
theorem ex10 (w v : Int) : exec (chS (r10 w v) 16 (chM2 w) 10) iA7 = .go (chS (r11 w v) 16 (chM2 w) 10) 20 none := by kernel_rfl
theorem ex11 (w v : Int) : exec (chS (r11 w v) 20 (chM2 w) 11) iBn = .go (chS (r11 w v) 20 (chM2 w) 11) 24 none := by kernel_rfl
theorem ex12 (w v : Int) : exec (chS (r11 w v) 24 (chM2 w) 12) iEb = .trap (chS (r11 w v) 24 (chM2 w) 12) 9 := by kernel_rfl
theorem chW_ok (v : Int) (h0 : 0 ≤ v) (h1 : v < 2048) : 0 ≤ chW v ∧ chW v < 4294967296 := by unfold chW; omega
theorem ch_run (v : Int) (h0 : 0 ≤ v) (h1 : v < 2048) : runS 100 100 (chS rZ 0 (chM0 (chW v)) 0) = (chS (r11 (chW v) v) 24 (chM2 (chW v)) 12, 9) := by
  obtain ⟨w0, w1⟩ := chW_ok v h0 h1
  have e0 : runS 100 100 (chS rZ 0 (chM0 (chW v)) 0) = runS 100 99 (chS (setR rZ 5 (chW v)) 4 (chM0 (chW v)) 1) := runS_on (by show (0 : Int) < 100; decide) (fe0 _) (ex0 _ w0 w1) 99
  have e1 : runS 100 99 (chS (setR rZ 5 (chW v)) 4 (chM0 (chW v)) 1) = runS 100 98 (chS (setR rZ 5 (chW v)) 8 (chM1 (chW v)) 2) := runS_on (by show (1 : Int) < 100; decide) (fe1 _) (ex1 _) 98
  have e2 : runS 100 98 (chS (setR rZ 5 (chW v)) 8 (chM1 (chW v)) 2) = runS 100 97 (chS (r3 (chW v) v) 12 (chM1 (chW v)) 3) := runS_on (by show (2 : Int) < 100; decide) (fe2 v h0 h1) (ex2 _ v h0 h1) 97
  have e3 : runS 100 97 (chS (r3 (chW v) v) 12 (chM1 (chW v)) 3) = runS 100 96 (chS (r4 (chW v) v) 16 (chM1 (chW v)) 4) := runS_on (by show (3 : Int) < 100; decide) (fe3 _ v) (ex3 _ v) 96
  have e4 : runS 100 96 (chS (r4 (chW v) v) 16 (chM1 (chW v)) 4) = runS 100 95 (chS (r5 (chW v) v) 20 (chM1 (chW v)) 5) := runS_on (by show (4 : Int) < 100; decide) (fe4 _ v) (ex4 _ v) 95
  have e5 : runS 100 95 (chS (r5 (chW v) v) 20 (chM1 (chW v)) 5) = runS 100 94 (chS (r5 (chW v) v) 0 (chM1 (chW v)) 6) := runS_on (by show (5 : Int) < 100; decide) (fe5 _ v) (ex5 _ v) 94
  have e6 : runS 100 94 (chS (r5 (chW v) v) 0 (chM1 (chW v)) 6) = runS 100 93 (chS (r7 (chW v) v) 4 (chM1 (chW v)) 7) := runS_on (by show (6 : Int) < 100; decide) (fe6 _ v) (ex6 _ v w0 w1) 93
  have e7 : runS 100 93 (chS (r7 (chW v) v) 4 (chM1 (chW v)) 7) = runS 100 92 (chS (r7 (chW v) v) 8 (chM2 (chW v)) 8) := runS_on (by show (7 : Int) < 100; decide) (fe7 _ v) (ex7 _ v) 92
  have e8 : runS 100 92 (chS (r7 (chW v) v) 8 (chM2 (chW v)) 8) = runS 100 91 (chS (r9 (chW v) v) 12 (chM2 (chW v)) 9) := runS_on (by show (8 : Int) < 100; decide) (fe8 v h0 h1) (ex8 _ v h0 h1) 91
  have e9 : runS 100 91 (chS (r9 (chW v) v) 12 (chM2 (chW v)) 9) = runS 100 90 (chS (r10 (chW v) v) 16 (chM2 (chW v)) 10) := runS_on (by show (9 : Int) < 100; decide) (fe9 _ v) (ex9 _ v) 90
  have e10 : runS 100 90 (chS (r10 (chW v) v) 16 (chM2 (chW v)) 10) = runS 100 89 (chS (r11 (chW v) v) 20 (chM2 (chW v)) 11) := runS_on (by show (10 : Int) < 100; decide) (fe10 _ v) (ex10 _ v) 89
  have e11 : runS 100 89 (chS (r11 (chW v) v) 20 (chM2 (chW v)) 11) = runS 100 88 (chS (r11 (chW v) v) 24 (chM2 (chW v)) 12) := runS_on (by show (11 : Int) < 100; decide) (fe11 _ v) (ex11 _ v) 88
  rw [e0, e1, e2, e3, e4, e5, e6, e7, e8, e9, e10, e11]
  rw [runS, if_pos (by show (12 : Int) < 100; decide), fe12]
  dsimp only
  rw [ex12]
theorem ch_built {q0 : RS} (v : Int) (h0 : 0 ≤ v) (h1 : v < 2048) (he : q0.ended = false) (hf : q0.fuel = 100) (hs : q0.s = chS rZ 0 (chM0 (chW v)) 0) (hsl : ∀ q ∈ q0.slots, q = (0, 0)) (hlen : 0 < q0.slots.length) (hc : q0.cur = (0, 0)) (hb : 0 ≤ q0.built) : 3 ≤ (runR 101 q0).built := by
  obtain ⟨w0, w1⟩ := chW_ok v h0 h1
  have hz : ∀ (l : List (Int × Int)) (P : Int), (∀ q ∈ l, q = (0, 0)) → NoHit P l := fun l P h q hq => .inl (by rw [h q hq])
  have l0 : Low q0 := ⟨by rw [hc]; exact inp_zero, fun q hq => by rw [hsl q hq]; exact inp_zero⟩
  have n0 : ¬ q0.fuel ≤ q0.s.steps := by rw [hf, hs]; show ¬ (100 : Int) ≤ 0; decide
  have x0 : fetch q0.s = .inr iLw := by rw [hs]; exact fe0 _
  obtain ⟨a1, s1', f1', g1⟩ := step_on he n0 x0 (by rw [hs]; exact ex0 _ w0 w1)
  have s1 : q0.step.s = chS (setR rZ 5 (chW v)) 4 (chM0 (chW v)) 1 := s1'
  have f1 : q0.step.fuel = 100 := f1'.trans hf
  have z1 := step_len q0
  have b1 := step_new (need_cur hlen hc) (hz _ _ hsl) n0 x0
  have l1 := step_low (by rw [hs]; show (0 : Int) ≤ 0 ∧ (0 : Int) < 64; decide) l0
  generalize q0.step = q1 at *
  have n1 : ¬ q1.fuel ≤ q1.s.steps := by rw [f1, s1]; show ¬ (100 : Int) ≤ 1; decide
  have x1 : fetch q1.s = .inr iSw := by rw [s1]; exact fe1 _
  obtain ⟨a2, s2', f2', g2⟩ := step_on a1 n1 x1 (by rw [s1]; exact ex1 _)
  have s2 : q1.step.s = chS (setR rZ 5 (chW v)) 8 (chM1 (chW v)) 2 := s2'
  have f2 : q1.step.fuel = 100 := f2'.trans f1
  have z2 := step_len q1
  obtain ⟨c2, w2⟩ := step_wipe (by rw [s1]; show (0 : Int) ≤ 4 ∧ (4 : Int) < 64; decide) l1 n1 x1 (by rw [s1]; exact ex1 _)
  have b2 := step_le q1
  generalize q1.step = q2 at *
  have n2 : ¬ q2.fuel ≤ q2.s.steps := by rw [f2, s2]; show ¬ (100 : Int) ≤ 2; decide
  have x2 : fetch q2.s = .inr (iNew v) := by rw [s2]; exact fe2 v h0 h1
  obtain ⟨a3, s3', f3', g3⟩ := step_on a2 n2 x2 (by rw [s2]; exact ex2 _ v h0 h1)
  have s3 : q2.step.s = chS (r3 (chW v) v) 12 (chM1 (chW v)) 3 := s3'
  have f3 : q2.step.fuel = 100 := f3'.trans f2
  have z3 := step_len q2
  have b3 := step_new (need_cur (by rw [z2, z1]; exact hlen) c2) (hz _ _ w2) n2 x2
  have t3 := step_nohit (P := 0) (by rw [s2]; show (8 : Int) ≠ 0; decide) (hz _ _ w2)
  generalize q2.step = q3 at *
  have n3 : ¬ q3.fuel ≤ q3.s.steps := by rw [f3, s3]; show ¬ (100 : Int) ≤ 3; decide
  have x3 : fetch q3.s = .inr iA6 := by rw [s3]; exact fe3 _ v
  obtain ⟨a4, s4', f4', g4⟩ := step_on a3 n3 x3 (by rw [s3]; exact ex3 _ v)
  have s4 : q3.step.s = chS (r4 (chW v) v) 16 (chM1 (chW v)) 4 := s4'
  have f4 : q3.step.fuel = 100 := f4'.trans f3
  have z4 := step_len q3
  have b4 := step_le q3
  have t4 := step_nohit (P := 0) (by rw [s3]; show (12 : Int) ≠ 0; decide) t3
  generalize q3.step = q4 at *
  have n4 : ¬ q4.fuel ≤ q4.s.steps := by rw [f4, s4]; show ¬ (100 : Int) ≤ 4; decide
  have x4 : fetch q4.s = .inr iA7 := by rw [s4]; exact fe4 _ v
  obtain ⟨a5, s5', f5', g5⟩ := step_on a4 n4 x4 (by rw [s4]; exact ex4 _ v)
  have s5 : q4.step.s = chS (r5 (chW v) v) 20 (chM1 (chW v)) 5 := s5'
  have f5 : q4.step.fuel = 100 := f5'.trans f4
  have z5 := step_len q4
  have b5 := step_le q4
  have t5 := step_nohit (P := 0) (by rw [s4]; show (16 : Int) ≠ 0; decide) t4
  generalize q4.step = q5 at *
  have n5 : ¬ q5.fuel ≤ q5.s.steps := by rw [f5, s5]; show ¬ (100 : Int) ≤ 5; decide
  have x5 : fetch q5.s = .inr iBn := by rw [s5]; exact fe5 _ v
  obtain ⟨a6, s6', f6', g6⟩ := step_on a5 n5 x5 (by rw [s5]; exact ex5 _ v)
  have s6 : q5.step.s = chS (r5 (chW v) v) 0 (chM1 (chW v)) 6 := s6'
  have f6 : q5.step.fuel = 100 := f6'.trans f5
  have z6 := step_len q5
  have b6 := step_le q5
  have t6 := step_nohit (P := 0) (by rw [s5]; show (20 : Int) ≠ 0; decide) t5
  have c6 := step_jump n5 x5 (by rw [s5]; exact ex5 _ v) (by rw [s5]; kernel_rfl)
  generalize q5.step = q6 at *
  have n6 : ¬ q6.fuel ≤ q6.s.steps := by rw [f6, s6]; show ¬ (100 : Int) ≤ 6; decide
  have x6 : fetch q6.s = .inr iLw := by rw [s6]; exact fe6 _ v
  obtain ⟨a7, s7', f7', g7⟩ := step_on a6 n6 x6 (by rw [s6]; exact ex6 _ v w0 w1)
  have s7 : q6.step.s = chS (r7 (chW v) v) 4 (chM1 (chW v)) 7 := s7'
  have f7 : q6.step.fuel = 100 := f7'.trans f6
  have z7 := step_len q6
  have b7 := step_new (need_cur (by rw [z6, z5, z4, z3, z2, z1]; exact hlen) c6) (by rw [s6]; exact t6) n6 x6
  generalize q6.step = q7 at *
  have e := runR_le 94 q7
  have h : runR 101 q0 = runR 94 q7 := by
    rw [g1 100, g2 99, g3 98, g4 97, g5 96, g6 95, g7 94]
  rw [h]
  omega

/-! ### The setup -/
def chL (w : Int) : List Int := textB codeW ++ (List.replicate 36 0 ++ wordB w)
def chP (v slots arena : Int) : Setup := { pages := 2, image := strOfNums (chL (chW v)), base := 0, entry := 0, ans := [], fuel := 100, slots := slots, arena := arena }
theorem chL_len (w : Int) : (chL w).length = 68 := rfl
theorem chL_ok (w : Int) : ∀ x ∈ chL w, 0 ≤ x ∧ x < 256 := by
  intro x hx
  unfold chL at hx
  rw [List.mem_append, List.mem_append] at hx
  rcases hx with h | h | h
  · exact textB_ok _ x h
  · rw [List.mem_replicate] at h; rw [h.2]; decide
  · exact wordB_ok w x h
theorem chP_st (v slots arena : Int) : (chP v slots arena).st = chS rZ 0 (chM0 (chW v)) 0 := by
  have hb : bytesOf (strOfNums (chL (chW v))) = chL (chW v) := str_bytes (chL_ok _)
  have hs : (strOfNums (chL (chW v))).size = 68 := by rw [strOfNums_size]; rfl
  have hm : (chP v slots arena).mem0 = chM0 (chW v) := by
    show putAt (List.replicate 128 0) 0 (bytesOf (strOfNums (chL (chW v)))) = _
    rw [hb]
    rfl
  unfold Setup.st
  rw [hm]
  unfold chS
  show ({ regs := fun _ => 0, pc := 0, mem := chM0 (chW v), low := (0 : Int) + ((strOfNums (chL (chW v))).size : Int), brk := (0 : Int) + ((strOfNums (chL (chW v))).size : Int), ans := [], evs := [], steps := 0 } : St) = _
  rw [hs]
  rfl
theorem chP_ok (v slots arena : Int) (hs : i64ok slots) (ha : i64ok arena) : (chP v slots arena).Ok := by
  refine ⟨?_, ?_, ?_, ?_, ?_, ?_, ?_, hs, ha⟩
  · show i64ok 2; unfold i64ok; decide
  · show (strOfNums (chL (chW v))).size ≤ 1048576; rw [strOfNums_size, chL_len]; decide
  · show (0 : Int) ≤ 0 ∧ (0 : Int) < 4294967296; decide
  · show (0 : Int) ≤ 0 ∧ (0 : Int) < 4294967296; decide
  · show ([] : List ByteArray).length ≤ 4096; decide
  · intro t h; cases h
  · show i64ok 100; unfold i64ok; decide
theorem chP_err (v slots arena : Int) (s0 : 1 ≤ slots) (s1 : slots ≤ 64) (a0 : 8 ≤ arena) (a1 : arena ≤ 256) : (chP v slots arena).err true = 0 ∧ (chP v slots arena).err false = 0 := by
  have h1 : (chP v slots arena).badP = false := by show (decide ((2 : Int) < 1) || decide ((8 : Int) < 2)) = false; decide
  have h2 : (chP v slots arena).badI = false := by
    show decide ((2 : Int) * 64 < 0 + ((strOfNums (chL (chW v))).size : Int)) = false
    rw [strOfNums_size, chL_len]; decide
  have h3 : (chP v slots arena).badF = false := by show (decide ((100 : Int) < 0) || decide ((2000 : Int) < 100)) = false; decide
  have h4 : (chP v slots arena).badC = false := by
    show (decide (slots < 1) || decide (64 < slots) || decide (arena < 8) || decide (256 < arena)) = false
    simp only [Bool.or_eq_false_iff, decide_eq_false_iff_not]
    omega
  unfold Setup.err
  rw [h1, h2, h3, h4]
  decide
theorem chP_run (v slots arena : Int) (h0 : 0 ≤ v) (h1 : v < 2048) : runS (chP v slots arena).fuel (chP v slots arena).fuel.toNat (chP v slots arena).st = (chS (r11 (chW v) v) 24 (chM2 (chW v)) 12, 9) := by
  rw [chP_st]
  exact ch_run v h0 h1
theorem chP_built (v slots arena : Int) (h0 : 0 ≤ v) (h1 : v < 2048) (s0 : 1 ≤ slots) : 3 ≤ (runR ((chP v slots arena).fuel.toNat + 1) ((chP v slots arena).rs true)).built := by
  have hs : ((chP v slots arena).rs true).slots = List.replicate slots.toNat (0, 0) := rfl
  refine ch_built (q0 := (chP v slots arena).rs true) v h0 h1 rfl rfl (chP_st v slots arena) (fun q hq => ?_) ?_ rfl (Int.le_refl 0)
  · rw [hs, List.mem_replicate] at hq
    exact hq.2
  · rw [hs, List.length_replicate]
    omega
theorem r11_regs (w v : Int) : r11 w v 10 = v ∧ r11 w v 6 = 2 := ⟨by kernel_rfl, by kernel_rfl⟩
end Go.Proofs.YtanccjaikocefaaDoor
