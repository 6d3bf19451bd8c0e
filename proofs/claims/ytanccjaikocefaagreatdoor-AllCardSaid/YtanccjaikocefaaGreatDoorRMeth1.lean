/-
  The document's machine in memory: its struct's block, the memory's bytes, the answers, the events, the slots, the blocks counted; and what the steps of a walk need of them. No further condition.
  The contracts of the document's machine's small methods: lies, load, set, stop, goes, ends. Conditions: the machine lies in memory; numbers are in their ranges.
-/
import Derived.Test.YtanccjaikocefaaGreatDoorKept
import Derived.Test.YtanccjaikocefaaGreatDoorWrite
import Derived.Deep.LoopGhost
namespace Go.Proofs.YtanccjaikocefaaGreatDoor
open Go.ChangeShapes Go.WideShapes Go.ChangeAt Go.RowKit
set_option linter.unusedVariables false

def slotCells (l : List (Int × Int)) : List Value := l.flatMap fun q => [.int .u32 q.1, .int .i64 q.2]
def blkCells (l : List Blk) : List Value := l.flatMap fun x => [.int .u32 x.pc, .int .i64 x.len, .int .i64 x.built, .int .i64 x.entered]
structure RRaw where
  mb : Nat
  ab : Nat
  sb : Nat
  ans : Value
  evs : Value
  slv : Value
  blv : Value
def rTail (r : RS) (x : RRaw) : List Value := [.int .u32 r.s.brk, .string ⟨#[]⟩, x.evs, .int .i64 r.s.steps, .int .i64 r.built, .slice (some ⟨x.mb, 0, none⟩) r.s.mem.length r.s.mem.length, .int .u32 r.s.low, x.ans, .int .i64 r.fuel, .bool r.ended, x.slv, .int .i64 r.arena, .int .i64 r.used, .int .u32 r.cur.1, .int .i64 r.cur.2, .int .i64 r.at_, x.blv]
def rCells (r : RS) (x : RRaw) : List Value := [.int .i64 r.out, .int .u32 r.s.pc] ++ ((List.range 32).map (fun j => Value.int .u32 (r.s.regs j)) ++ rTail r x)
def RAt (w : World) (b : Nat) (r : RS) (x : RRaw) : Prop := w.heap[b]? = some (.cells (rCells r x).toArray 84 (0, 0))
theorem rCells_len (r : RS) (x : RRaw) : (rCells r x).length = 51 := by simp [rCells, rTail]
theorem RAt.cell {w : World} {b : Nat} {r : RS} {x : RRaw} (h : RAt w b r x) (j : Nat) : w.cell? ⟨b, j, none⟩ = (rCells r x)[j]? := by
  rw [cell_of_row w b j _ _ _ h]; simp
theorem RAt.free {w : World} {b : Nat} {r : RS} {x : RRaw} (h : RAt w b r x) (j : Nat) : w.frozen? ⟨b, j, none⟩ = false := frozen_of_row w b j _ _ h
theorem RAt.lt {w : World} {b : Nat} {r : RS} {x : RRaw} (h : RAt w b r x) : b < w.heap.size := heap_lt h
theorem RAt.reg {w : World} {b : Nat} {r : RS} {x : RRaw} (h : RAt w b r x) (j : Nat) (hj : j < 32) : w.cell? ⟨b, 2 + j, none⟩ = some (.int .u32 (r.s.regs j)) := by
  rw [h.cell]
  unfold rCells
  rw [List.getElem?_append_right (by simp)]
  simp only [List.length_cons, List.length_nil]
  rw [show 2 + j - (0 + 1 + 1) = j by omega, List.getElem?_append_left (by simpa using hj)]
  simp [hj]
theorem RAt.out {w : World} {b : Nat} {r : RS} {x : RRaw} (h : RAt w b r x) : w.cell? ⟨b, 0, none⟩ = some (.int .i64 r.out) := by rw [h.cell]; rfl
theorem RAt.pc {w : World} {b : Nat} {r : RS} {x : RRaw} (h : RAt w b r x) : w.cell? ⟨b, 1, none⟩ = some (.int .u32 r.s.pc) := by rw [h.cell]; rfl
theorem RAt.tail {w : World} {b : Nat} {r : RS} {x : RRaw} (h : RAt w b r x) (j : Nat) : w.cell? ⟨b, 34 + j, none⟩ = (rTail r x)[j]? := by
  rw [h.cell]
  unfold rCells
  rw [List.getElem?_append_right (by simp; omega), List.getElem?_append_right (by simp; omega)]
  congr 1
  simp
  omega
theorem RAt.brk {w : World} {b : Nat} {r : RS} {x : RRaw} (h : RAt w b r x) : w.cell? ⟨b, 34, none⟩ = some (.int .u32 r.s.brk) := h.tail 0
theorem RAt.evs {w : World} {b : Nat} {r : RS} {x : RRaw} (h : RAt w b r x) : w.cell? ⟨b, 36, none⟩ = some x.evs := h.tail 2
theorem RAt.steps {w : World} {b : Nat} {r : RS} {x : RRaw} (h : RAt w b r x) : w.cell? ⟨b, 37, none⟩ = some (.int .i64 r.s.steps) := h.tail 3
theorem RAt.built {w : World} {b : Nat} {r : RS} {x : RRaw} (h : RAt w b r x) : w.cell? ⟨b, 38, none⟩ = some (.int .i64 r.built) := h.tail 4
theorem RAt.mem {w : World} {b : Nat} {r : RS} {x : RRaw} (h : RAt w b r x) : w.cell? ⟨b, 39, none⟩ = some (.slice (some ⟨x.mb, 0, none⟩) r.s.mem.length r.s.mem.length) := h.tail 5
theorem RAt.low {w : World} {b : Nat} {r : RS} {x : RRaw} (h : RAt w b r x) : w.cell? ⟨b, 40, none⟩ = some (.int .u32 r.s.low) := h.tail 6
theorem RAt.ans {w : World} {b : Nat} {r : RS} {x : RRaw} (h : RAt w b r x) : w.cell? ⟨b, 41, none⟩ = some x.ans := h.tail 7
theorem RAt.fuel {w : World} {b : Nat} {r : RS} {x : RRaw} (h : RAt w b r x) : w.cell? ⟨b, 42, none⟩ = some (.int .i64 r.fuel) := h.tail 8
theorem RAt.ended {w : World} {b : Nat} {r : RS} {x : RRaw} (h : RAt w b r x) : w.cell? ⟨b, 43, none⟩ = some (.bool r.ended) := h.tail 9
theorem RAt.slots {w : World} {b : Nat} {r : RS} {x : RRaw} (h : RAt w b r x) : w.cell? ⟨b, 44, none⟩ = some x.slv := h.tail 10
theorem RAt.arena {w : World} {b : Nat} {r : RS} {x : RRaw} (h : RAt w b r x) : w.cell? ⟨b, 45, none⟩ = some (.int .i64 r.arena) := h.tail 11
theorem RAt.used {w : World} {b : Nat} {r : RS} {x : RRaw} (h : RAt w b r x) : w.cell? ⟨b, 46, none⟩ = some (.int .i64 r.used) := h.tail 12
theorem RAt.cur1 {w : World} {b : Nat} {r : RS} {x : RRaw} (h : RAt w b r x) : w.cell? ⟨b, 47, none⟩ = some (.int .u32 r.cur.1) := h.tail 13
theorem RAt.cur2 {w : World} {b : Nat} {r : RS} {x : RRaw} (h : RAt w b r x) : w.cell? ⟨b, 48, none⟩ = some (.int .i64 r.cur.2) := h.tail 14
theorem RAt.at_ {w : World} {b : Nat} {r : RS} {x : RRaw} (h : RAt w b r x) : w.cell? ⟨b, 49, none⟩ = some (.int .i64 r.at_) := h.tail 15
theorem RAt.blocks {w : World} {b : Nat} {r : RS} {x : RRaw} (h : RAt w b r x) : w.cell? ⟨b, 50, none⟩ = some x.blv := h.tail 16
theorem RAt.put {w : World} {b : Nat} {r r' : RS} {x x' : RRaw} (h : RAt w b r x) (j : Nat) (v : Value) (he : (rCells r x).set j v = rCells r' x') : RAt (w.setCell ⟨b, j, none⟩ v) b r' x' := by
  have := heap_setCell_same w b j _ _ v h
  unfold RAt
  rw [this]
  congr 2
  rw [← he]
  simp
theorem RAt.putReg {w : World} {b : Nat} {r : RS} {x : RRaw} (h : RAt w b r x) (d : Nat) (v : Int) (hd : d < 32) : RAt (w.setCell ⟨b, 2 + d, none⟩ (.int .u32 v)) b { r with s := { r.s with regs := rset r.s.regs d v } } x :=
  h.put (2 + d) _ (by
    unfold rCells
    rw [List.set_append, if_neg (by simp)]
    congr 1
    simp only [List.length_cons, List.length_nil]
    rw [show 2 + d - (0 + 1 + 1) = d by omega]
    exact set_map _ _ _ hd _)
theorem RAt.putOut {w : World} {b : Nat} {r : RS} {x : RRaw} (h : RAt w b r x) (v : Int) : RAt (w.setCell ⟨b, 0, none⟩ (.int .i64 v)) b { r with out := v } x := h.put 0 _ rfl
theorem RAt.putPc {w : World} {b : Nat} {r : RS} {x : RRaw} (h : RAt w b r x) (v : Int) : RAt (w.setCell ⟨b, 1, none⟩ (.int .u32 v)) b { r with s := { r.s with pc := v } } x := h.put 1 _ rfl
theorem RAt.putT {w : World} {b : Nat} {r r' : RS} {x x' : RRaw} (h : RAt w b r x) (j : Nat) (v : Value) (e1 : r'.out = r.out) (e2 : r'.s.pc = r.s.pc) (e3 : r'.s.regs = r.s.regs) (he : (rTail r x).set j v = rTail r' x') : RAt (w.setCell ⟨b, 34 + j, none⟩ v) b r' x' := by
  refine h.put (34 + j) v ?_
  unfold rCells
  rw [List.set_append, if_neg (by simp; omega), List.set_append, if_neg (by simp; omega), e1, e2, e3]
  congr 2
  simp only [List.length_cons, List.length_nil, List.length_map, List.length_range]
  rw [show 34 + j - (0 + 1 + 1) - 32 = j by omega]
  exact he
theorem RAt.putBrk {w : World} {b : Nat} {r : RS} {x : RRaw} (h : RAt w b r x) (v : Int) : RAt (w.setCell ⟨b, 34, none⟩ (.int .u32 v)) b { r with s := { r.s with brk := v } } x := h.putT 0 _ rfl rfl rfl rfl
theorem RAt.putEvs {w : World} {b : Nat} {r : RS} {x : RRaw} (h : RAt w b r x) (v : Value) : RAt (w.setCell ⟨b, 36, none⟩ v) b r { x with evs := v } := h.putT 2 _ rfl rfl rfl rfl
theorem RAt.putSteps {w : World} {b : Nat} {r : RS} {x : RRaw} (h : RAt w b r x) (v : Int) : RAt (w.setCell ⟨b, 37, none⟩ (.int .i64 v)) b { r with s := { r.s with steps := v } } x := h.putT 3 _ rfl rfl rfl rfl
theorem RAt.putBuilt {w : World} {b : Nat} {r : RS} {x : RRaw} (h : RAt w b r x) (v : Int) : RAt (w.setCell ⟨b, 38, none⟩ (.int .i64 v)) b { r with built := v } x := h.putT 4 _ rfl rfl rfl rfl
theorem RAt.putAns {w : World} {b : Nat} {r : RS} {x : RRaw} (h : RAt w b r x) (v : Value) : RAt (w.setCell ⟨b, 41, none⟩ v) b r { x with ans := v } := h.putT 7 _ rfl rfl rfl rfl
theorem RAt.putEnded {w : World} {b : Nat} {r : RS} {x : RRaw} (h : RAt w b r x) (v : Bool) : RAt (w.setCell ⟨b, 43, none⟩ (.bool v)) b { r with ended := v } x := h.putT 9 _ rfl rfl rfl rfl
theorem RAt.putSlv {w : World} {b : Nat} {r : RS} {x : RRaw} (h : RAt w b r x) (v : Value) (n : Nat) : RAt (w.setCell ⟨b, 44, none⟩ v) b r { x with slv := v, sb := n } := h.putT 10 _ rfl rfl rfl rfl
theorem RAt.putUsed {w : World} {b : Nat} {r : RS} {x : RRaw} (h : RAt w b r x) (v : Int) : RAt (w.setCell ⟨b, 46, none⟩ (.int .i64 v)) b { r with used := v } x := h.putT 12 _ rfl rfl rfl rfl
theorem RAt.putCur1 {w : World} {b : Nat} {r : RS} {x : RRaw} (h : RAt w b r x) (v : Int) : RAt (w.setCell ⟨b, 47, none⟩ (.int .u32 v)) b { r with cur := (v, r.cur.2) } x := h.putT 13 _ rfl rfl rfl rfl
theorem RAt.putCur2 {w : World} {b : Nat} {r : RS} {x : RRaw} (h : RAt w b r x) (v : Int) : RAt (w.setCell ⟨b, 48, none⟩ (.int .i64 v)) b { r with cur := (r.cur.1, v) } x := h.putT 14 _ rfl rfl rfl rfl
theorem RAt.putAt_ {w : World} {b : Nat} {r : RS} {x : RRaw} (h : RAt w b r x) (v : Int) : RAt (w.setCell ⟨b, 49, none⟩ (.int .i64 v)) b { r with at_ := v } x := h.putT 15 _ rfl rfl rfl rfl
theorem RAt.putBlv {w : World} {b : Nat} {r : RS} {x : RRaw} (h : RAt w b r x) (v : Value) : RAt (w.setCell ⟨b, 50, none⟩ v) b r { x with blv := v } := h.putT 16 _ rfl rfl rfl rfl
theorem RAt.sub {w : World} {b : Nat} {r r' : RS} {x x' : RRaw} (h : RAt w b r x) (e : rCells r x = rCells r' x') : RAt w b r' x' := by unfold RAt at *; rw [← e]; exact h

/-- The slots in memory. -/
def SlotsAt (w : World) (sb : Nat) (v : Value) (l : List (Int × Int)) : Prop :=
  (l = [] ∧ v = .slice none 0 0) ∨ (0 < l.length ∧ v = .slice (some ⟨sb, 0, none⟩) l.length l.length ∧ w.heap[sb]? = some (.cells (slotCells l).toArray 82 (0, 0)))
theorem SlotsAt.only {S : Nat → Prop} {w w' : World} {sb : Nat} {v : Value} {l : List (Int × Int)} (h : SlotsAt w sb v l) (ho : Only S w w') (hS : ¬ S sb) : SlotsAt w' sb v l := by
  rcases h with h | ⟨a, c, d⟩
  · exact .inl h
  · exact .inr ⟨a, c, ho.heap hS d⟩
/-- All of the document's machine; what it writes lies from 'B' on. -/
structure RMach (B : Nat) (w : World) (b : Nat) (r : RS) (x : RRaw) : Prop where
  mac : RAt w b r x
  mem : w.heap[x.mb]? = some (.cells (r.s.mem.map (Value.int .u8)).toArray 5 (0, 0))
  slots : SlotsAt w x.sb x.slv r.slots
  ans : TextsAt w x.ab x.ans r.s.ans
  evs : w.ownsRow B 86 3 x.evs r.s.evs.length (evCells r.s.evs)
  blocks : w.ownsRow B 53 4 x.blv r.blocks.length (blkCells r.blocks)
  ab : x.ab < B
  from_ : B ≤ b ∧ B ≤ x.mb ∧ B ≤ x.sb
  sbLt : x.sb < w.heap.size
  ne : b ≠ x.mb ∧ b ≠ x.sb ∧ x.mb ≠ x.sb
  nee : ∀ g, x.evs.ownBlock = some g → g ≠ b ∧ g ≠ x.mb ∧ g ≠ x.sb ∧ x.blv.ownBlock ≠ some g
  neb : ∀ g, x.blv.ownBlock = some g → g ≠ b ∧ g ≠ x.mb ∧ g ≠ x.sb
/-- The document's machine lies in memory. -/
def RM (B : Nat) (w : World) (b : Nat) (r : RS) : Prop := ∃ x, RMach B w b r x
/-- Blocks from 'B' on. -/
abbrev RUp (B : Nat) : Nat → Prop := fun k => B ≤ k
theorem RMach.only {S : Nat → Prop} {B : Nat} {w w' : World} {b : Nat} {r : RS} {x : RRaw} (h : RMach B w b r x) (ho : Only S w w') (hb : ¬ S b) (hm : ¬ S x.mb) (hs : ¬ S x.sb) (ha : ¬ S x.ab) (he : ∀ g, x.evs.ownBlock = some g → ¬ S g) (hk : ∀ g, x.blv.ownBlock = some g → ¬ S g) : RMach B w' b r x :=
  ⟨ho.heap hb h.mac, ho.heap hm h.mem, h.slots.only ho hs, h.ans.only ho ha, ownsRow_only h.evs ho he, ownsRow_only h.blocks ho hk, h.ab, h.from_, Nat.lt_of_lt_of_le h.sbLt ho.size, h.ne, h.nee, h.neb⟩
theorem RMach.no {B : Nat} {w w' : World} {b : Nat} {r : RS} {x : RRaw} (h : RMach B w b r x) (ho : Only (fun _ => False) w w') : RMach B w' b r x :=
  h.only ho (fun h => h) (fun h => h) (fun h => h) (fun h => h) (fun _ _ h => h) (fun _ _ h => h)
/-- Behind a change of the struct's block alone. -/
theorem RMach.struct {B : Nat} {w w' : World} {b : Nat} {r r' : RS} {x x' : RRaw} (h : RMach B w b r x) (ho : Only (· = b) w w') (hc : RAt w' b r' x') (h1 : x' = { x with ans := x'.ans }) (ha : TextsAt w x.ab x'.ans r'.s.ans) (e1 : r'.s.mem = r.s.mem) (e3 : r'.s.evs = r.s.evs) (e4 : r'.slots = r.slots) (e5 : r'.blocks = r.blocks) : RMach B w' b r' x' := by
  rw [h1] at hc ⊢
  have hab : ¬ x.ab = b := by have := h.ab; have := h.from_.1; omega
  refine ⟨hc, ?_, ?_, ?_, ?_, ?_, h.ab, h.from_, Nat.lt_of_lt_of_le h.sbLt ho.size, h.ne, h.nee, h.neb⟩
  · rw [e1]; exact ho.heap (Ne.symm h.ne.1) h.mem
  · rw [e4]; exact h.slots.only ho (Ne.symm h.ne.2.1)
  · exact ha.only ho hab
  · rw [e3]; exact ownsRow_only h.evs ho (fun g hg => (h.nee g hg).1)
  · rw [e5]; exact ownsRow_only h.blocks ho (fun g hg => (h.neb g hg).1)
theorem Only.up {S : Nat → Prop} {B : Nat} {w w' : World} (h : Only S w w') (hS : ∀ k, S k → B ≤ k) : Only (RUp B) w w' := h.mono (fun k _ s => hS k s)
theorem Only.upb {B b : Nat} {w w' : World} (h : Only (· = b) w w') (hb : B ≤ b) : Only (RUp B) w w' := h.mono (fun k _ s => by subst s; exact hb)
theorem RAt.alloc {w : World} {b : Nat} {r : RS} {x : RRaw} (h : RAt w b r x) (o : Obj) : RAt (w.alloc o) b r x := heap_alloc_old' _ h
theorem RAt.drew {w : World} {b : Nat} {r : RS} {x : RRaw} (h : RAt w b r x) : RAt w.drew b r x := h
theorem RAt.drewN {w : World} {b : Nat} {r : RS} {x : RRaw} (h : RAt w b r x) (n : Nat) : RAt (w.drewN n) b r x := h
end Go.Proofs.YtanccjaikocefaaGreatDoor
namespace Go.Proofs.YtanccjaikocefaaGreatDoor
open Go.ChangeShapes Go.WideShapes Go.ChangeAt Go.RowKit
set_option linter.unusedVariables false

theorem rlies_any (b : Nat) (at_ n : Int) (r : RS) (x : RRaw) (w : World) (h : RAt w b r x) (h0 : 0 ≤ at_) (h1 : at_ < 4294967296) (g0 : 0 ≤ n) (g1 : n < 4294967296) (hl : r.s.mem.length ≤ 512) :
    Calls Tryz.prog 60 #[.pointer (some ⟨b, 0, none⟩), .int .u32 at_, .int .u32 n] w fun e w' => e = .returned (.bool (lies r.s at_ n)) ∧ w = w' := by
  have hm := h.mem
  go_enter Tryz.func60, Tryz.ntmps60
  go_wp2
  go_ret
  exact ⟨rfl, rfl⟩
set_option maxRecDepth 100000 in
theorem rload_any (b : Nat) (r : RS) (hs : r.s.Ok) (x : RRaw) (at_ : Int) (n : Nat) (hn : n ≤ 4) (h0 : 0 ≤ at_) (hl : at_ + n ≤ (r.s.mem.length : Int)) (w : World) (h : RAt w b r x) (hmem : w.heap[x.mb]? = some (.cells (r.s.mem.map (Value.int .u8)).toArray 5 (0, 0))) :
    Calls Tryz.prog 61 #[.pointer (some ⟨b, 0, none⟩), .int .u32 at_, .int .u32 n] w (fun e w' => e = .returned (.int .u32 (leAt r.s.mem at_ n)) ∧ w = w') := by
  obtain ⟨m, rfl⟩ := Int.eq_ofNat_of_zero_le h0
  have hlen := hs.len
  have h39 := h.mem
  have hfit : m + n ≤ r.s.mem.length := by omega
  have HM := Lib.hid hmem
  clear hmem
  go_enter Tryz.func61, Tryz.ntmps61
  go_wp2_with fail
  go_loop [7, 8] (fun v i => ∃ k : Nat, k ≤ n ∧ i = .int .u32 k ∧ v = .int .u32 (leAt r.s.mem m k)) (fun _ i => n - (intOf i).toNat)
  case atStart => exact ⟨0, Nat.zero_le _, rfl, rfl⟩
  case round =>
    obtain ⟨k, hk, rfl, rfl⟩ := hrel
    have hbd := leAt_bd r.s.mem hs.mem k m
    have hbb := byteAt_bd hs.mem ((m : Int) + k)
    by_cases hlt : k < n
    · have hcell : w.cell? ⟨x.mb, m + k, none⟩ = some (.int .u8 (byteAt r.s.mem ((m : Int) + k))) := by
        have := mem_cell HM.out (m + k) (by omega)
        simpa using this
      obtain ⟨q0, q1⟩ := hbb
      obtain ⟨r0, r1⟩ := hbd
      have R1 := Lib.hid r1
      clear r1
      go_wp2_with fail
      go_round
      case rel => exact ⟨k + 1, by omega, by go_num, by rw [word_or _ _ k (by omega) r0 R1.out q0 q1, leAt_snoc]⟩
      case measure => simp [intOf]; omega
    · have hk4 : k = n := by omega
      subst hk4
      go_wp2_with fail
      go_ret
      exact ⟨rfl, rfl⟩
/-- What a method that turns the struct's block alone comes to. -/
def RSt (b : Nat) (w : World) (v : Value) (r' : RS) (x : RRaw) (e : Ending) (w' : World) : Prop := e = .returned v ∧ RAt w' b r' x ∧ Only (· = b) w w'
def RS.setr (r : RS) (d v : Int) : RS := { r with s := r.s.set d v }
theorem setR_pos (f : Nat → Int) (d v : Int) (h : 0 < d) : rset f d.toNat v = setR f d v := by
  funext j
  unfold rset setR
  by_cases e : j = d.toNat
  · rw [if_pos e, if_pos ⟨e, by omega⟩]
  · rw [if_neg e, if_neg (fun h => e h.1)]
theorem setR_zero (f : Nat → Int) (v : Int) : setR f 0 v = f := by
  funext j
  unfold setR
  rw [if_neg]
  rintro ⟨a, b⟩
  exact b (by simpa using a)
theorem rset_any (b : Nat) (d v : Int) (hd0 : 0 ≤ d) (hd1 : d < 32) (r : RS) (x : RRaw) (w : World) (h : RAt w b r x) :
    Calls Tryz.prog 77 #[.pointer (some ⟨b, 0, none⟩), .int .i64 d, .int .u32 v] w (RSt b w (.tuple #[]) (r.setr d v) x) := by
  obtain ⟨n, rfl⟩ := Int.eq_ofNat_of_zero_le hd0
  have hr := h.reg n (by omega)
  have hf := h.free (2 + n)
  have hsz := h.lt
  cases hz : ((n : Int) != 0)
  · go_enter Tryz.func77, Tryz.ntmps77
    go_wp2
    have e0 : n = 0 := by simpa using hz
    subst e0
    first | go_end0 | refine bodyPost_ret (results_none rfl _ _ _) rfl ?_
    refine ⟨rfl, h.sub ?_, Only.refl _ _⟩
    unfold RS.setr St.set rCells rTail
    simp only [Int.natCast_zero, setR_zero]
  · have hp : 0 < n := by
      have : ¬ (n : Int) = 0 := by simpa using hz
      omega
    go_enter Tryz.func77, Tryz.ntmps77
    go_wp2
    first | go_end0 | refine bodyPost_ret (results_none rfl _ _ _) rfl ?_
    refine ⟨rfl, (h.putReg n v (by omega)).sub ?_, (Only.refl _ w).set1 _ _⟩
    have := setR_pos r.s.regs n v (by omega)
    unfold RS.setr St.set rCells rTail
    simp only [← this, Int.toNat_natCast]
theorem rstop_any (b : Nat) (o : Int) (r : RS) (x : RRaw) (w : World) (h : RAt w b r x) :
    Calls Tryz.prog 59 #[.pointer (some ⟨b, 0, none⟩), .int .i64 o] w (RSt b w (.tuple #[]) (r.end_ o) x) := by
  have h0 := h.out
  have h43 := h.ended
  have f0 := h.free 0
  have f43 := h.free 43
  have hsz := h.lt
  go_enter Tryz.func59, Tryz.ntmps59
  go_wp2
  go_end0
  exact ⟨rfl, (h.putOut o).putEnded true, ((Only.refl _ w).set1 _ _).set1 _ _⟩
def RS.gone (r : RS) (to : Int) : RS := { r with s := { r.s with pc := to, steps := r.s.steps + 1 }, cur := (0, 0) }
theorem rgoes_no (b : Nat) (to : Int) (r : RS) (x : RRaw) (w : World) (h : RAt w b r x) (h0 : 0 ≤ to) (ht : (to % 4 != 0) = true) :
    Calls Tryz.prog 76 #[.pointer (some ⟨b, 0, none⟩), .int .u32 to] w (RSt b w (.bool false) (r.end_ 3) x) := by
  go_enter Tryz.func76, Tryz.ntmps76
  go_wp2_with fail
  refine (rstop_any b 3 r x _ h).mono ?_
  rintro e w1 ⟨rfl, h1, ho1⟩
  go_wp2_with fail
  go_ret
  exact ⟨rfl, h1, ho1⟩
theorem rgoes_yes (b : Nat) (to : Int) (r : RS) (x : RRaw) (w : World) (h : RAt w b r x) (h0 : 0 ≤ to) (ht : (to % 4 != 0) = false) (s0 : 0 ≤ r.s.steps) (s1 : r.s.steps ≤ 10000) :
    Calls Tryz.prog 76 #[.pointer (some ⟨b, 0, none⟩), .int .u32 to] w (RSt b w (.bool true) (r.gone to) x) := by
  have k1 := h.pc
  have k37 := h.steps
  have k47 := h.cur1
  have k48 := h.cur2
  have f1 := h.free 1
  have f37 := h.free 37
  have f47 := h.free 47
  have f48 := h.free 48
  have hsz := h.lt
  go_enter Tryz.func76, Tryz.ntmps76
  go_wp2
  go_ret
  exact ⟨rfl, (((h.putPc to).putSteps _).putCur1 0).putCur2 0, ((((Only.refl _ w).set1 _ _).set1 _ _).set1 _ _).set1 _ _⟩
theorem rends_any (op : Int) (w : World) (h0 : 0 ≤ op) (h1 : op ≤ 47) :
    Calls Tryz.prog 87 #[.int .i64 op] w fun e w' => e = .returned (.bool (endsI op)) ∧ w = w' := by
  go_enter Tryz.func87, Tryz.ntmps87
  go_wp2
  all_goals
    go_ret
    refine ⟨congrArg (fun a => Ending.returned (.bool a)) (?_ : _ = endsI _), rfl⟩
    unfold endsI
    rw [Bool.eq_iff_iff]
    simp
    try omega
end Go.Proofs.YtanccjaikocefaaGreatDoor
