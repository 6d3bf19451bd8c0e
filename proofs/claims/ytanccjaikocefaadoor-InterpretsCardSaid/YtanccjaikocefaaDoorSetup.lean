/-
  A setup, plainly: what is wrong with it; the machine at its beginning. No program in sight.
-/
import Derived.Test.YtanccjaikocefaaDoorRefKept
namespace Go.Proofs.YtanccjaikocefaaDoor
open Go.ChangeShapes Go.WideShapes Go.ChangeAt Go.RowKit
set_option linter.unusedVariables false

structure Setup where
  pages : Int
  image : ByteArray
  base : Int
  entry : Int
  ans : List ByteArray
  fuel : Int
  slots : Int
  arena : Int
def Setup.cells (p : Setup) (av : Value) : Array Value := #[.int .i64 p.pages, .string p.image, .int .u32 p.base, .int .u32 p.entry, av, .int .i64 p.fuel, .int .i64 p.slots, .int .i64 p.arena]
def i64ok (x : Int) : Prop := -9223372036854775808 ≤ x ∧ x ≤ 9223372036854775807
structure Setup.Ok (p : Setup) : Prop where
  pages : i64ok p.pages
  image : p.image.size ≤ 1048576
  base : 0 ≤ p.base ∧ p.base < 4294967296
  entry : 0 ≤ p.entry ∧ p.entry < 4294967296
  nans : p.ans.length ≤ 4096
  ans : ∀ t ∈ p.ans, t.size ≤ 1048576
  fuel : i64ok p.fuel
  slots : i64ok p.slots
  arena : i64ok p.arena
def Setup.badP (p : Setup) : Bool := decide (p.pages < 1) || decide (8 < p.pages)
def Setup.badI (p : Setup) : Bool := decide (p.pages * 64 < p.base + p.image.size)
def Setup.badF (p : Setup) : Bool := decide (p.fuel < 0) || decide (2000 < p.fuel)
def Setup.badC (p : Setup) : Bool := decide (p.slots < 1) || decide (64 < p.slots) || decide (p.arena < 8) || decide (256 < p.arena)
/-- The error's number, one by one; 'blocks': in blocks. -/
def Setup.err (p : Setup) (blocks : Bool) : Int := if p.badP then 1 else if p.badI then 2 else if p.badF then 3 else if blocks && p.badC then 4 else 0
def Setup.mem0 (p : Setup) : List Int := putAt (List.replicate (p.pages * 64).toNat 0) p.base (bytesOf p.image)
def Setup.st (p : Setup) : St := { regs := fun _ => 0, pc := p.entry, mem := p.mem0, low := p.base + p.image.size, brk := p.base + p.image.size, ans := p.ans, evs := [], steps := 0 }
def Setup.rs (p : Setup) (blocks : Bool) : RS := { s := p.st, out := 0, ended := false, fuel := p.fuel, slots := if blocks then List.replicate p.slots.toNat (0, 0) else [], arena := p.arena, used := 0, cur := (0, 0), at_ := 0, built := 0, blocks := [] }
/-- Nothing is wrong with it. -/
structure Setup.Good (p : Setup) : Prop where
  p0 : 1 ≤ p.pages
  p1 : p.pages ≤ 8
  img : p.base + p.image.size ≤ p.pages * 64
  f0 : 0 ≤ p.fuel
  f1 : p.fuel ≤ 2000
theorem Setup.good {p : Setup} {blocks : Bool} (h : p.err blocks = 0) : p.Good ∧ (blocks = true → 1 ≤ p.slots ∧ p.slots ≤ 64 ∧ 8 ≤ p.arena ∧ p.arena ≤ 256) := by
  unfold Setup.err at h
  by_cases h1 : p.badP = true
  · rw [if_pos h1] at h; omega
  rw [if_neg h1] at h
  by_cases h2 : p.badI = true
  · rw [if_pos h2] at h; omega
  rw [if_neg h2] at h
  by_cases h3 : p.badF = true
  · rw [if_pos h3] at h; omega
  rw [if_neg h3] at h
  unfold Setup.badP at h1
  unfold Setup.badI at h2
  unfold Setup.badF at h3
  simp only [Bool.or_eq_true, decide_eq_true_eq, not_or, Int.not_lt] at h1 h2 h3
  refine ⟨⟨h1.1, h1.2, h2, h3.1, h3.2⟩, ?_⟩
  intro hb
  subst hb
  by_cases h4 : p.badC = true
  · rw [h4] at h; simp at h
  · unfold Setup.badC at h4
    simp only [Bool.or_eq_true, decide_eq_true_eq, not_or, Int.not_lt] at h4
    exact ⟨h4.1.1.1, h4.1.1.2, h4.1.2, h4.2⟩
theorem Setup.mem_len {p : Setup} (h : p.Good) (hb : 0 ≤ p.base) : p.mem0.length = (p.pages * 64).toNat := by
  unfold Setup.mem0
  rw [putAt_size]
  · simp
  · have := h.img
    simp [bytesOf]
    omega
theorem Setup.st_ok {p : Setup} (h : p.Good) (ho : p.Ok) : p.st.Ok := by
  have hl := Setup.mem_len h ho.base.1
  have h1 := h.img
  have h2 := h.p1
  have h0 := h.p0
  have b0 := ho.base.1
  refine ⟨rfl, fun _ => (⟨by decide, by decide⟩ : (0 : Int) ≤ 0 ∧ (0 : Int) < 4294967296), ho.entry, ?_, ?_, ?_, ?_⟩
  · intro x hx
    simp only [Setup.st, Setup.mem0, putAt, List.mem_append] at hx
    rcases hx with (hx | hx) | hx
    · have := List.mem_of_mem_take hx
      rw [List.mem_replicate] at this
      omega
    · exact bytesOf_ok _ x hx
    · have := List.mem_of_mem_drop hx
      rw [List.mem_replicate] at this
      omega
  · show p.mem0.length ≤ 512
    omega
  · show 0 ≤ p.base + (p.image.size : Int) ∧ p.base + (p.image.size : Int) ≤ (p.mem0.length : Int)
    omega
  · show 0 ≤ p.base + (p.image.size : Int) ∧ p.base + (p.image.size : Int) ≤ (p.mem0.length : Int)
    omega
theorem Setup.head {p : Setup} {blocks : Bool} (h : p.err blocks = 0) (ho : p.Ok) : (p.rs blocks).Head := by
  obtain ⟨hg, hb⟩ := Setup.good h
  have hl := Setup.mem_len hg ho.base.1
  have h0 := hg.p0
  have f0 := hg.f0
  refine ⟨⟨Setup.st_ok hg ho, ?_, ⟨hg.f0, hg.f1⟩, ⟨Int.le_refl 0, hg.f0⟩, Int.le_refl 0⟩, ⟨?_, ?_, ?_, (⟨by decide, by decide⟩ : (0 : Int) ≤ 0 ∧ (0 : Int) ≤ 264), SlotOk.zero, ⟨Int.le_refl 0, Int.le_refl 0⟩, ⟨Int.le_refl 0, Int.le_refl 0⟩, ?_, ?_⟩⟩
  · show p.mem0.length % 64 = 0
    omega
  · cases blocks with
    | false => simp [Setup.rs]
    | true => have := hb rfl; simp [Setup.rs]; omega
  · cases blocks with
    | false => intro q hq; simp [Setup.rs] at hq
    | true =>
      intro q hq
      simp only [Setup.rs, if_true, List.mem_replicate] at hq
      rw [hq.2]; exact SlotOk.zero
  · cases blocks with
    | false => intro h; simp [Setup.rs] at h
    | true => intro _; have := hb rfl; show 0 ≤ p.arena ∧ p.arena ≤ 256; omega
  · show ((([] : List Blk).length : Nat) : Int) ≤ (0 : Int) + 0
    decide
  · intro x hx; simp [Setup.rs] at hx
end Go.Proofs.YtanccjaikocefaaDoor
