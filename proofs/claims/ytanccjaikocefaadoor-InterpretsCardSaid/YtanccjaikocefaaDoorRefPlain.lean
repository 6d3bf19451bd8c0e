/-
  The document's machine, plainly: the machine of 'Step', the slots, what was counted; one step of it, a run; that its run is the run one by one. No program in sight.
-/
import Derived.Test.YtanccjaikocefaaDoorKept
namespace Go.Proofs.YtanccjaikocefaaDoor
open Go.ChangeShapes Go.WideShapes Go.ChangeAt Go.RowKit
set_option linter.unusedVariables false

/-- A block that was counted. -/
structure Blk where
  pc : Int
  len : Int
  built : Int
  entered : Int
/-- A machine that counts blocks. -/
structure RS where
  s : St
  out : Int
  ended : Bool
  fuel : Int
  slots : List (Int × Int)
  arena : Int
  used : Int
  cur : Int × Int
  at_ : Int
  built : Int
  blocks : List Blk
def endsI (op : Int) : Bool := (decide (2 ≤ op) && decide (op ≤ 9)) || op == 46 || op == 47
/-- The instructions of the block at an address, at most so many. -/
def blockIns (mem : List Int) (pc : Int) : Nat → List Ins
  | 0 => []
  | n + 1 =>
    match decO (wordAt mem pc) with
    | none => []
    | some i => if endsI i.op || (pc + 4) % 64 == 0 then [i] else i :: blockIns mem (pc + 4) n
def inPages (p f l : Int) : Bool := decide (f ≤ p / 64) && decide (p / 64 ≤ l)
def forget1 (f l : Int) (q : Int × Int) : Int × Int := if inPages q.1 f l then (0, 0) else q
/-- Bytes were written: pages 'f' to 'l'. -/
def RS.wrote (r : RS) : Option (Int × Int) → RS
  | none => r
  | some (f, l) => { r with slots := r.slots.map (forget1 f l), cur := forget1 f l r.cur }
def bump (len bu en : Int) (x : Blk) : Blk := ⟨x.pc, if 0 < bu then len else x.len, x.built + bu, x.entered + en⟩
def countB (l : List Blk) (pc len bu en : Int) : List Blk :=
  match l.findIdx? (fun x => x.pc == pc) with
  | some i => l.modify i (bump len bu en)
  | none =>
    let k := (l.takeWhile (fun x => decide (x.pc < pc))).length
    l.take k ++ [⟨pc, len, bu, en⟩] ++ l.drop k
def RS.slotK (r : RS) : Nat := (r.s.pc / 4 % (r.slots.length : Int)).toNat
/-- The block at the pc is built, if it is not there. -/
def RS.make (r : RS) : RS :=
  let q := r.slots.getD r.slotK (0, 0)
  if q.2 == 0 || q.1 != r.s.pc then
    let n : Int := (blockIns r.s.mem r.s.pc 8).length
    let big := decide (r.arena < r.used + n)
    { r with slots := (if big then List.replicate r.slots.length (0, 0) else r.slots).set r.slotK (r.s.pc, n), used := (if big then 0 else r.used) + n, built := r.built + 1, blocks := countB r.blocks r.s.pc n 1 0 }
  else r
/-- The block at the pc is entered. -/
def RS.find (r : RS) : RS :=
  let r1 := r.make
  let c := r1.slots.getD r1.slotK (0, 0)
  { r1 with cur := c, at_ := 0, blocks := countB r1.blocks c.1 c.2 0 1 }
/-- Does an instruction jump? -/
def jumps (s : St) (i : Ins) : Bool := i.op == 2 || i.op == 3 || (decide (4 ≤ i.op) && decide (i.op ≤ 9) && brT i.op (s.regs i.rs1.toNat) (s.regs i.rs2.toNat))
def RS.leave (r : RS) (b : Bool) : RS := if b then { r with cur := (0, 0) } else r
def RS.end_ (r : RS) (o : Int) : RS := { r with out := o, ended := true }
def RS.do_ (r : RS) (i : Ins) : RS :=
  match exec r.s i with
  | .trap s' o => RS.end_ { r with s := s' } o
  | .go s' next wr => (RS.wrote { r with s := s'.step next } wr).leave (jumps r.s i)
/-- Is a block to be found? -/
def RS.need (r : RS) : Bool := decide (0 < r.slots.length) && (r.cur.2 == 0 || decide (r.cur.2 ≤ r.at_) || u32 (r.cur.1 + 4 * r.at_) != r.s.pc)
def RS.seek (r : RS) : RS := if r.need then r.find else r
def RS.inc (r : RS) : RS := { r with at_ := r.at_ + 1 }
def RS.step (r : RS) : RS :=
  if r.fuel ≤ r.s.steps then r.end_ 0
  else match fetch r.s with
    | .inl o => r.end_ o
    | .inr i => r.seek.inc.do_ i
def runR : Nat → RS → RS
  | 0, r => r
  | n + 1, r => if r.ended then r else runR n r.step

/-! ### The run is the run one by one -/
theorem make_s (r : RS) : r.make.s = r.s ∧ r.make.fuel = r.fuel ∧ r.make.ended = r.ended ∧ r.make.arena = r.arena ∧ r.make.slots.length = r.slots.length := by
  unfold RS.make
  dsimp only
  split
  · refine ⟨rfl, rfl, rfl, rfl, ?_⟩
    rw [List.length_set]
    split <;> simp
  · exact ⟨rfl, rfl, rfl, rfl, rfl⟩
theorem find_s (r : RS) : r.find.s = r.s ∧ r.find.fuel = r.fuel ∧ r.find.ended = r.ended ∧ r.find.arena = r.arena ∧ r.find.slots.length = r.slots.length := make_s r
theorem seek_s (r : RS) : r.seek.s = r.s ∧ r.seek.fuel = r.fuel ∧ r.seek.ended = r.ended ∧ r.seek.arena = r.arena ∧ r.seek.slots.length = r.slots.length := by
  unfold RS.seek
  split
  · exact find_s r
  · exact ⟨rfl, rfl, rfl, rfl, rfl⟩
theorem wrote_s (r : RS) (wr : Option (Int × Int)) : (r.wrote wr).s = r.s ∧ (r.wrote wr).fuel = r.fuel ∧ (r.wrote wr).ended = r.ended ∧ (r.wrote wr).arena = r.arena ∧ (r.wrote wr).slots.length = r.slots.length := by
  cases wr with
  | none => exact ⟨rfl, rfl, rfl, rfl, rfl⟩
  | some p => exact ⟨rfl, rfl, rfl, rfl, by simp [RS.wrote]⟩
theorem leave_s (r : RS) (b : Bool) : (r.leave b).s = r.s ∧ (r.leave b).fuel = r.fuel ∧ (r.leave b).ended = r.ended ∧ (r.leave b).arena = r.arena ∧ (r.leave b).slots.length = r.slots.length := by
  unfold RS.leave; split <;> exact ⟨rfl, rfl, rfl, rfl, rfl⟩
/-- What a step does to the machine without its blocks. -/
theorem step_s (r : RS) (he : r.ended = false) : r.step.fuel = r.fuel ∧
    (if r.fuel ≤ r.s.steps then r.step.ended = true ∧ r.step.s = r.s ∧ r.step.out = 0
     else match fetch r.s with
      | .inl o => r.step.ended = true ∧ r.step.s = r.s ∧ r.step.out = o
      | .inr i => match exec r.s i with
        | .trap s' o => r.step.ended = true ∧ r.step.s = s' ∧ r.step.out = o
        | .go s' next wr => r.step.ended = false ∧ r.step.s = s'.step next) := by
  unfold RS.step
  by_cases hf : r.fuel ≤ r.s.steps
  · rw [if_pos hf, if_pos hf]; exact ⟨rfl, rfl, rfl, rfl⟩
  · rw [if_neg hf, if_neg hf]
    cases hq : fetch r.s with
    | inl o => exact ⟨rfl, rfl, rfl, rfl⟩
    | inr i =>
      have hs := seek_s r
      have e : r.seek.inc.s = r.s := hs.1
      dsimp only
      unfold RS.do_
      rw [e]
      cases hx : exec r.s i with
      | trap s' o => exact ⟨hs.2.1, rfl, rfl, rfl⟩
      | go s' next wr =>
        have h1 := leave_s (RS.wrote { r.seek.inc with s := s'.step next } wr) (jumps r.s i)
        have h2 := wrote_s { r.seek.inc with s := s'.step next } wr
        exact ⟨h1.2.1.trans (h2.2.1.trans hs.2.1), h1.2.2.1.trans (h2.2.2.1.trans (hs.2.2.1.trans he)), h1.1.trans h2.1⟩
theorem runR_run (n : Nat) : ∀ (r : RS), r.ended = false → r.s.Ok → (n : Int) = r.fuel - r.s.steps → (runR (n + 1) r).ended = true ∧ (runR (n + 1) r).s = (runS r.fuel n r.s).1 ∧ (runR (n + 1) r).out = (runS r.fuel n r.s).2 := by
  induction n with
  | zero =>
    intro r he hs hn
    have h := (step_s r he).2
    rw [if_pos (by omega)] at h
    simp only [runR, he, Bool.false_eq_true, if_false, runS]
    exact h
  | succ n ih =>
    intro r he hs hn
    have h := step_s r he
    have hne : ¬ r.fuel ≤ r.s.steps := by omega
    rw [if_neg hne] at h
    rw [runR, if_neg (by rw [he]; decide)]
    rw [runS, if_pos (by omega)]
    have ends : ∀ q : RS, q.ended = true → runR (n + 1) q = q := by intro q hq; simp [runR, hq]
    cases hf : fetch r.s with
    | inl o =>
      rw [hf] at h
      dsimp only at h ⊢
      rw [ends _ h.2.1]
      exact h.2
    | inr i =>
      rw [hf] at h
      dsimp only at h ⊢
      have hx := exec_ok hs (fetch_ok hs hf)
      cases hq : exec r.s i with
      | trap s' o =>
        rw [hq] at h
        dsimp only at h ⊢
        rw [ends _ h.2.1]
        exact h.2
      | go s' next wr =>
        rw [hq] at h hx
        dsimp only at h ⊢
        obtain ⟨hT, hst, m0, m1⟩ := hx
        obtain ⟨e1, e2, e3⟩ := h
        have hst2 : (s'.step next).steps = r.s.steps + 1 := by show s'.steps + 1 = _; rw [hst]
        have := ih r.step e2 (by rw [e3]; exact step_ok hT.ok m0 m1) (by rw [e1, e3, hst2]; omega)
        rw [e1, e3] at this
        exact this
end Go.Proofs.YtanccjaikocefaaDoor
