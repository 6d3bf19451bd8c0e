/-
  The machine, plainly: its state, what one instruction does, a run one by one. No program in sight.
-/
import Derived.Test.YtanccjaikocefaaGreatDoorDecOps
namespace Go.Proofs.YtanccjaikocefaaGreatDoor
open Go.ChangeShapes Go.WideShapes Go.ChangeAt Go.RowKit
set_option linter.unusedVariables false

/-- An event: the call, the result, the bytes. -/
structure Ev where
  call : Int
  result : Int
  data : ByteArray
/-- The state of a machine. -/
structure St where
  regs : Nat → Int
  pc : Int
  mem : List Int
  low : Int
  brk : Int
  ans : List ByteArray
  evs : List Ev
  steps : Int
/-- What an instruction comes to: on at an address (and the bytes that were written: first address, last address), or a trap. -/
inductive Out where
  | go (s : St) (next : Int) (wr : Option (Int × Int))
  | trap (s : St) (o : Int)
def u32 (x : Int) : Int := x % 4294967296
def setR (r : Nat → Int) (d : Int) (v : Int) : Nat → Int := fun j => if j = d.toNat ∧ j ≠ 0 then v else r j
def St.set (s : St) (d v : Int) : St := { s with regs := setR s.regs d v }
def lies (s : St) (at_ n : Int) : Bool := decide (at_ + n ≤ (s.mem.length : Int))
def byteAt (mem : List Int) (k : Int) : Int := mem.getD k.toNat 0
/-- 'n' bytes, little end first. -/
def leAt (mem : List Int) (at_ : Int) : Nat → Int
  | 0 => 0
  | n + 1 => byteAt mem at_ + 256 * leAt mem (at_ + 1) n
def wordAt (mem : List Int) (at_ : Int) : Int := leAt mem at_ 4
/-- Bytes written at an address. -/
def putAt (mem : List Int) (at_ : Int) (bs : List Int) : List Int := mem.take at_.toNat ++ bs ++ mem.drop (at_.toNat + bs.length)
def bytesOf (s : ByteArray) : List Int := s.data.toList.map fun c => (c.toNat : Int)
def brT (op a b : Int) : Bool :=
  if op == 4 then a == b else if op == 5 then a != b else if op == 6 then decide (wrap32 a < wrap32 b) else if op == 7 then decide (wrap32 b ≤ wrap32 a)
  else if op == 8 then decide (a < b) else decide (b ≤ a)
def wide (op : Int) : Int := if op == 10 || op == 13 || op == 15 then 1 else if op == 11 || op == 14 || op == 16 then 2 else 4
/-- What a load puts into the register. -/
def loadV (op : Int) (mem : List Int) (at_ : Int) : Int :=
  let v := leAt mem at_ (wide op).toNat
  if op == 10 then (if v < 128 then v else v - 256 + 4294967296) else if op == 11 then (if v < 32768 then v else v - 65536 + 4294967296) else v
/-- The bytes of a store. -/
def storeB (op v : Int) : List Int := [v % 256, v / 256 % 256, v / 65536 % 256, v / 16777216 % 256].take (wide op).toNat
def wrOf (at_ n : Int) : Option (Int × Int) := if n = 0 then none else some (at_ / 64, (at_ + n - 1) / 64)
def doCall (s : St) (next : Int) : Out :=
  let a := s.regs 10
  let at_ := s.regs 11
  let n := s.regs 12
  if s.regs 17 == 93 then .trap { s with evs := s.evs ++ [Ev.mk 93 a ByteArray.empty], steps := s.steps + 1 } 1
  else if s.regs 17 == 64 then
    if lies s at_ n then .go ({ s with evs := s.evs ++ [Ev.mk 64 n (strOfNums ((s.mem.drop at_.toNat).take n.toNat))] }.set 10 n) next none
    else .go (s.set 10 4294967282) next none
  else if s.regs 17 == 63 then
    if lies s at_ n then
      let t := (s.ans.headD ByteArray.empty).extract 0 n.toNat
      .go ({ s with evs := s.evs ++ [Ev.mk 63 t.size t], ans := s.ans.tail, mem := putAt s.mem at_ (bytesOf t) }.set 10 t.size) next (wrOf at_ t.size)
    else .go (s.set 10 4294967282) next none
  else if s.regs 17 == 214 then
    let b := if s.low ≤ a ∧ a ≤ (s.mem.length : Int) then a else s.brk
    .go ({ s with brk := b }.set 10 b) next none
  else .go (s.set 10 4294967258) next none
def goesTo (s : St) (to : Int) : Out := if to % 4 = 0 then .go s to none else .trap s 3
/-- One instruction. -/
def exec (s : St) (i : Ins) : Out :=
  let a := s.regs i.rs1.toNat
  let b := s.regs i.rs2.toNat
  let next := u32 (s.pc + 4)
  if i.op == 0 then .go (s.set i.rd (u32 i.imm)) next none
  else if i.op == 1 then .go (s.set i.rd (u32 (s.pc + i.imm))) next none
  else if i.op == 2 then (if u32 (s.pc + i.imm) % 4 = 0 then .go (s.set i.rd next) (u32 (s.pc + i.imm)) none else .trap s 3)
  else if i.op == 3 then (if u32 (a + i.imm) / 2 * 2 % 4 = 0 then .go (s.set i.rd next) (u32 (a + i.imm) / 2 * 2) none else .trap s 3)
  else if decide (i.op ≤ 9) then (if brT i.op a b then goesTo s (u32 (s.pc + i.imm)) else .go s next none)
  else if decide (i.op ≤ 14) then
    (if u32 (a + i.imm) % wide i.op ≠ 0 then .trap s 5 else if lies s (u32 (a + i.imm)) (wide i.op) then .go (s.set i.rd (loadV i.op s.mem (u32 (a + i.imm)))) next none else .trap s 6)
  else if decide (i.op ≤ 17) then
    (if u32 (a + i.imm) % wide i.op ≠ 0 then .trap s 7 else if lies s (u32 (a + i.imm)) (wide i.op) then .go { s with mem := putAt s.mem (u32 (a + i.imm)) (storeB i.op b) } next (wrOf (u32 (a + i.imm)) (wide i.op)) else .trap s 8)
  else if decide (i.op ≤ 26) then .go (s.set i.rd (cmpI i.op a (u32 i.imm))) next none
  else if decide (i.op ≤ 44) then .go (s.set i.rd (cmpI i.op a b)) next none
  else if i.op == 45 then .go s next none
  else if i.op == 46 then doCall s next
  else .trap s 9
/-- The instruction at the pc, or how the run ends there. -/
def fetch (s : St) : Int ⊕ Ins :=
  if s.pc % 4 ≠ 0 then .inl 3 else if lies s s.pc 4 then (match decO (wordAt s.mem s.pc) with | some i => .inr i | none => .inl 2) else .inl 4
def St.step (s : St) (next : Int) : St := { s with pc := next, steps := s.steps + 1 }
/-- A run, one by one, with so many rounds at most: the state at the end and how it ended. -/
def runS (fuel : Int) : Nat → St → St × Int
  | 0, s => (s, 0)
  | n + 1, s =>
    if s.steps < fuel then
      match fetch s with
      | .inl o => (s, o)
      | .inr i =>
        match exec s i with
        | .go s' next _ => runS fuel n (s'.step next)
        | .trap s' o => (s', o)
    else (s, 0)

/-! ### What is kept -/
structure St.Ok (s : St) : Prop where
  zero : s.regs 0 = 0
  regs : ∀ j, 0 ≤ s.regs j ∧ s.regs j < 4294967296
  pc : 0 ≤ s.pc ∧ s.pc < 4294967296
  mem : ∀ x ∈ s.mem, 0 ≤ x ∧ x < 256
  len : s.mem.length ≤ 512
  low : 0 ≤ s.low ∧ s.low ≤ s.mem.length
  brk : 0 ≤ s.brk ∧ s.brk ≤ s.mem.length
/-- The fields of an instruction are in their ranges. -/
structure Ins.Ok (i : Ins) : Prop where
  op : 0 ≤ i.op ∧ i.op ≤ 47
  rd : 0 ≤ i.rd ∧ i.rd < 32
  rs1 : 0 ≤ i.rs1 ∧ i.rs1 < 32
  rs2 : 0 ≤ i.rs2 ∧ i.rs2 < 32
  imm : -2147483648 ≤ i.imm ∧ i.imm < 2147483648
end Go.Proofs.YtanccjaikocefaaGreatDoor
