/-
  A machine of package machine in memory: its struct's block, the memory's bytes, the answers, the events; and what the steps of a walk need of them. No further condition.
-/
import Derived.Test.YtanccjaikocefaaGreatDoorStep
import Derived.Test.YtanccjaikocefaaGreatDoorDec
import Derived.Maps.AppendAt
namespace Go.Proofs.YtanccjaikocefaaGreatDoor
open Go.ChangeShapes Go.WideShapes Go.ChangeAt Go.RowKit
set_option linter.unusedVariables false

def evCells (l : List Ev) : List Value := l.flatMap fun e => [.int .u32 e.call, .int .u32 e.result, .string e.data]
/-- What a state does not say of the struct: the memory's and the answers' blocks, the field Next, the field Wrote, the two slices. -/
structure Raw where
  mb : Nat
  ab : Nat
  next : Int
  wrote : Value
  ans : Value
  evs : Value
def mCells (s : St) (x : Raw) : List Value :=
  (List.range 32).map (fun j => Value.int .u32 (s.regs j)) ++ [.int .u32 s.pc, .slice (some ⟨x.mb, 0, none⟩) s.mem.length s.mem.length, .int .i64 s.steps, .int .u32 x.next, x.wrote, .int .u32 s.low, .int .u32 s.brk, x.ans, x.evs]
def MacAt (w : World) (b : Nat) (s : St) (x : Raw) : Prop := w.heap[b]? = some (.cells (mCells s x).toArray 70 (0, 0))
theorem mCells_len (s : St) (x : Raw) : (mCells s x).length = 41 := by simp [mCells]
theorem MacAt.cell {w : World} {b : Nat} {s : St} {x : Raw} (h : MacAt w b s x) (j : Nat) : w.cell? ⟨b, j, none⟩ = (mCells s x)[j]? := by
  rw [cell_of_row w b j _ _ _ h]; simp
theorem MacAt.free {w : World} {b : Nat} {s : St} {x : Raw} (h : MacAt w b s x) (j : Nat) : w.frozen? ⟨b, j, none⟩ = false := frozen_of_row w b j _ _ h
theorem MacAt.reg {w : World} {b : Nat} {s : St} {x : Raw} (h : MacAt w b s x) (j : Nat) (hj : j < 32) : w.cell? ⟨b, j, none⟩ = some (.int .u32 (s.regs j)) := by
  rw [h.cell j]
  unfold mCells
  rw [List.getElem?_append_left (by simpa using hj)]
  simp [hj]
theorem MacAt.pc {w : World} {b : Nat} {s : St} {x : Raw} (h : MacAt w b s x) : w.cell? ⟨b, 32, none⟩ = some (.int .u32 s.pc) := by rw [h.cell]; rfl
theorem MacAt.mem {w : World} {b : Nat} {s : St} {x : Raw} (h : MacAt w b s x) : w.cell? ⟨b, 33, none⟩ = some (.slice (some ⟨x.mb, 0, none⟩) s.mem.length s.mem.length) := by rw [h.cell]; rfl
theorem MacAt.steps {w : World} {b : Nat} {s : St} {x : Raw} (h : MacAt w b s x) : w.cell? ⟨b, 34, none⟩ = some (.int .i64 s.steps) := by rw [h.cell]; rfl
theorem MacAt.next {w : World} {b : Nat} {s : St} {x : Raw} (h : MacAt w b s x) : w.cell? ⟨b, 35, none⟩ = some (.int .u32 x.next) := by rw [h.cell]; rfl
theorem MacAt.wrote {w : World} {b : Nat} {s : St} {x : Raw} (h : MacAt w b s x) : w.cell? ⟨b, 36, none⟩ = some x.wrote := by rw [h.cell]; rfl
theorem MacAt.low {w : World} {b : Nat} {s : St} {x : Raw} (h : MacAt w b s x) : w.cell? ⟨b, 37, none⟩ = some (.int .u32 s.low) := by rw [h.cell]; rfl
theorem MacAt.brk {w : World} {b : Nat} {s : St} {x : Raw} (h : MacAt w b s x) : w.cell? ⟨b, 38, none⟩ = some (.int .u32 s.brk) := by rw [h.cell]; rfl
theorem MacAt.ans {w : World} {b : Nat} {s : St} {x : Raw} (h : MacAt w b s x) : w.cell? ⟨b, 39, none⟩ = some x.ans := by rw [h.cell]; rfl
theorem MacAt.evs {w : World} {b : Nat} {s : St} {x : Raw} (h : MacAt w b s x) : w.cell? ⟨b, 40, none⟩ = some x.evs := by rw [h.cell]; rfl
theorem MacAt.lt {w : World} {b : Nat} {s : St} {x : Raw} (h : MacAt w b s x) : b < w.heap.size := heap_lt h
def rset (r : Nat → Int) (d : Nat) (v : Int) : Nat → Int := fun j => if j = d then v else r j
theorem set_map (r : Nat → Int) (d : Nat) (v : Int) (hd : d < 32) (l : List Value) :
    ((List.range 32).map (fun j => Value.int .u32 (r j)) ++ l).set d (.int .u32 v) = (List.range 32).map (fun j => Value.int .u32 (rset r d v j)) ++ l := by
  apply List.ext_getElem?
  intro k
  rw [List.getElem?_set]
  by_cases hk : k < 32
  · rw [List.getElem?_append_left (by simpa using hk), List.getElem?_append_left (by simpa using hk)]
    by_cases e : d = k
    · subst e; simp [hk, rset]; omega
    · simp [hk, e, rset, Ne.symm e]
  · rw [if_neg (by omega), List.getElem?_append_right (by simpa using hk), List.getElem?_append_right (by simpa using hk)]
    simp
theorem MacAt.put {w : World} {b : Nat} {s s' : St} {x x' : Raw} (h : MacAt w b s x) (j : Nat) (v : Value) (he : (mCells s x).set j v = mCells s' x') : MacAt (w.setCell ⟨b, j, none⟩ v) b s' x' := by
  have := heap_setCell_same w b j _ _ v h
  unfold MacAt
  rw [this]
  congr 2
  rw [← he]
  simp
theorem MacAt.putReg {w : World} {b : Nat} {s : St} {x : Raw} (h : MacAt w b s x) (d : Nat) (v : Int) (hd : d < 32) : MacAt (w.setCell ⟨b, d, none⟩ (.int .u32 v)) b { s with regs := rset s.regs d v } x :=
  h.put d _ (by unfold mCells; exact set_map _ _ _ hd _)
theorem MacAt.putPc {w : World} {b : Nat} {s : St} {x : Raw} (h : MacAt w b s x) (v : Int) : MacAt (w.setCell ⟨b, 32, none⟩ (.int .u32 v)) b { s with pc := v } x := h.put 32 _ rfl
theorem MacAt.putSteps {w : World} {b : Nat} {s : St} {x : Raw} (h : MacAt w b s x) (v : Int) : MacAt (w.setCell ⟨b, 34, none⟩ (.int .i64 v)) b { s with steps := v } x := h.put 34 _ rfl
theorem MacAt.putNext {w : World} {b : Nat} {s : St} {x : Raw} (h : MacAt w b s x) (v : Int) : MacAt (w.setCell ⟨b, 35, none⟩ (.int .u32 v)) b s { x with next := v } := h.put 35 _ rfl
theorem MacAt.putWrote {w : World} {b : Nat} {s : St} {x : Raw} (h : MacAt w b s x) (v : Value) : MacAt (w.setCell ⟨b, 36, none⟩ v) b s { x with wrote := v } := h.put 36 _ rfl
theorem MacAt.putLow {w : World} {b : Nat} {s : St} {x : Raw} (h : MacAt w b s x) (v : Int) : MacAt (w.setCell ⟨b, 37, none⟩ (.int .u32 v)) b { s with low := v } x := h.put 37 _ rfl
theorem MacAt.putBrk {w : World} {b : Nat} {s : St} {x : Raw} (h : MacAt w b s x) (v : Int) : MacAt (w.setCell ⟨b, 38, none⟩ (.int .u32 v)) b { s with brk := v } x := h.put 38 _ rfl
theorem MacAt.putAns {w : World} {b : Nat} {s : St} {x : Raw} (h : MacAt w b s x) (v : Value) : MacAt (w.setCell ⟨b, 39, none⟩ v) b s { x with ans := v } := h.put 39 _ rfl
theorem MacAt.putEvs {w : World} {b : Nat} {s : St} {x : Raw} (h : MacAt w b s x) (v : Value) : MacAt (w.setCell ⟨b, 40, none⟩ v) b s { x with evs := v } := h.put 40 _ rfl

/-- A slice of texts that is only read: its cells lie in block 'ab'. -/
def TextsAt (w : World) (ab : Nat) (v : Value) (l : List ByteArray) : Prop :=
  ∃ a c, v = .slice a l.length c ∧ l.length ≤ c ∧ c ≤ 9223372036854775807 ∧ (l ≠ [] → ∃ off, a = some ⟨ab, off, none⟩ ∧ ∀ j t, l[j]? = some t → t.size ≤ maxLen ∧ w.cell? ⟨ab, off + j, none⟩ = some (.string t))
/-- All of a machine. -/
structure Mach (w : World) (b : Nat) (s : St) (x : Raw) : Prop where
  mac : MacAt w b s x
  mem : w.heap[x.mb]? = some (.cells (s.mem.map (Value.int .u8)).toArray 5 (0, 0))
  ne : b ≠ x.mb
  ans : TextsAt w x.ab x.ans s.ans
  abLt : x.ab < w.heap.size
  nea : x.ab ≠ b ∧ x.ab ≠ x.mb
  evs : w.ownsRow 0 86 3 x.evs s.evs.length (evCells s.evs)
  nee : ∀ g, x.evs.ownBlock = some g → g ≠ b ∧ g ≠ x.mb ∧ g ≠ x.ab
/-- The blocks of a machine that its methods write into. -/
def Mb (b : Nat) (x : Raw) : Nat → Prop := fun k => k = b ∨ k = x.mb ∨ x.evs.ownBlock = some k
theorem TextsAt.only {S : Nat → Prop} {w w' : World} {ab : Nat} {v : Value} {l : List ByteArray} (h : TextsAt w ab v l) (ho : Only S w w') (hS : ¬ S ab) : TextsAt w' ab v l := by
  obtain ⟨a, c, hv, hc, hm, hl⟩ := h
  exact ⟨a, c, hv, hc, hm, fun hne => by
    obtain ⟨off, ha, ht⟩ := hl hne
    exact ⟨off, ha, fun j t hj => ⟨(ht j t hj).1, ho.cell hS (ht j t hj).2⟩⟩⟩
theorem ownsRow_only {S : Nat → Prop} {w w' : World} {base : Nat} {e : TypeId} {n size : Nat} {v : Value} {xs : List Value} (h : w.ownsRow base e size v n xs) (ho : Only S w w') (hS : ∀ g, v.ownBlock = some g → ¬ S g) : w'.ownsRow base e size v n xs := by
  obtain ⟨hl, hr⟩ := h
  refine ⟨hl, ?_⟩
  rcases hr with hr | ⟨g, cap, cur, rfl, hb, hg, hn, hm, hc, ht⟩
  · exact .inl hr
  · exact .inr ⟨g, cap, cur, rfl, hb, ho.heap (hS g rfl) hg, hn, hm, hc, ht⟩
theorem Mach.only {S : Nat → Prop} {w w' : World} {b : Nat} {s : St} {x : Raw} (h : Mach w b s x) (ho : Only S w w') (hb : ¬ S b) (hm : ¬ S x.mb) (ha : ¬ S x.ab) (he : ∀ g, x.evs.ownBlock = some g → ¬ S g) : Mach w' b s x :=
  ⟨ho.heap hb h.mac, ho.heap hm h.mem, h.ne, h.ans.only ho ha, Nat.lt_of_lt_of_le h.abLt ho.size, h.nea, ownsRow_only h.evs ho he, h.nee⟩
/-- Behind a change of the struct's block alone. -/
theorem Mach.struct {w w' : World} {b : Nat} {s s' : St} {x x' : Raw} (h : Mach w b s x) (ho : Only (· = b) w w') (hc : MacAt w' b s' x') (h1 : x'.mb = x.mb) (h2 : x'.ab = x.ab) (h3 : x'.ans = x.ans) (h4 : x'.evs = x.evs) (e1 : s'.mem = s.mem) (e2 : s'.ans = s.ans) (e3 : s'.evs = s.evs) : Mach w' b s' x' := by
  refine ⟨hc, ?_, ?_, ?_, ?_, ?_, ?_, ?_⟩
  · rw [h1, e1]; exact ho.heap (Ne.symm h.ne) h.mem
  · rw [h1]; exact h.ne
  · rw [h2, h3, e2]; exact h.ans.only ho h.nea.1
  · rw [h2]; exact Nat.lt_of_lt_of_le h.abLt ho.size
  · rw [h1, h2]; exact h.nea
  · rw [h4, e3]; exact ownsRow_only h.evs ho (fun g hg => (h.nee g hg).1)
  · rw [h1, h2, h4]; exact h.nee
end Go.Proofs.YtanccjaikocefaaGreatDoor
