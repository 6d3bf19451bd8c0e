/-
  What the document's machine comes to behind an event more, and behind bytes that were written. No further condition.
-/
import Derived.Test.YtanccjaikocefaaDoorRMem
import Derived.Test.YtanccjaikocefaaDoorTell
namespace Go.Proofs.YtanccjaikocefaaDoor
open Go.ChangeShapes Go.WideShapes Go.ChangeAt Go.RowKit
set_option linter.unusedVariables false

theorem RMach.told {B b g cap : Nat} {r : RS} {x : RRaw} {w W w1 : World} (e : Ev) (h : RMach B w b r x) (hW : Only (fun _ => False) w W)
    (hown : w1.ownsRow B 51 3 (.slice (some ⟨g, 0, none⟩) (r.s.evs.length + 1) cap) (r.s.evs.length + 1) (evCells r.s.evs ++ [.int .u32 e.call, .int .u32 e.result, .string e.data]))
    (hgrow : W.grownBy w1 x.evs.ownBlock) (hat : x.evs.ownBlock = some g ∨ g = W.heap.size) :
    RMach B (w1.setCell ⟨b, 36, none⟩ (.slice (some ⟨g, 0, none⟩) (r.s.evs.length + 1) cap)) b { r with s := { r.s with evs := r.s.evs ++ [e] } } { x with evs := .slice (some ⟨g, 0, none⟩) (r.s.evs.length + 1) cap } ∧ Only (Up B) w (w1.setCell ⟨b, 36, none⟩ (.slice (some ⟨g, 0, none⟩) (r.s.evs.length + 1) cap)) ∧ RAt w1 b r x := by
  have ho1 : Only (fun k => x.evs.ownBlock = some k) w w1 := (hW.mono (fun _ _ h => h.elim)).of_grown hgrow (fun k h => h.symm ▸ rfl)
  have hup : ∀ k, x.evs.ownBlock = some k → B ≤ k := fun k hk => (h.evs.lt k hk).1
  have hs : Only (· = b) w1 (w1.setCell ⟨b, 36, none⟩ (.slice (some ⟨g, 0, none⟩) (r.s.evs.length + 1) cap)) := (Only.refl _ _).set1 _ _
  have hbw := h.mac.lt
  have hmw := heap_lt h.mem
  have hsw := h.sbLt
  have hab := h.ab
  have hfr := h.from_
  have hgn : g ≠ b ∧ g ≠ x.mb ∧ g ≠ x.sb ∧ x.blv.ownBlock ≠ some g := by
    rcases hat with hat | hat
    · exact h.nee g hat
    · have := hW.size
      refine ⟨by omega, by omega, by omega, fun e => ?_⟩
      have := (h.blocks.lt g e).2
      omega
  have m1 : RAt w1 b r x := ho1.heap (fun e => (h.nee b e).1 rfl) h.mac
  have hsize : w.heap.size ≤ (w1.setCell ⟨b, 36, none⟩ (.slice (some ⟨g, 0, none⟩) (r.s.evs.length + 1) cap)).heap.size := Nat.le_trans ho1.size hs.size
  refine ⟨⟨m1.putEvs _, ?_, ?_, ?_, ?_, ?_, h.ab, h.from_, Nat.lt_of_lt_of_le h.sbLt hsize, h.ne, ?_, h.neb⟩, ?_⟩
  · exact hs.heap (Ne.symm h.ne.1) (ho1.heap (fun e => (h.nee _ e).2.1 rfl) h.mem)
  · exact (h.slots.only ho1 (fun e => (h.nee _ e).2.2.1 rfl)).only hs (Ne.symm h.ne.2.1)
  · exact (h.ans.only ho1 (fun e => by have := hup _ e; omega)).only hs (by omega)
  · have := ownsRow_only hown hs (fun k hk => by simp [Value.ownBlock] at hk; omega)
    simp only [List.length_append, List.length_singleton]
    rw [evCells_snoc]
    exact this
  · exact ownsRow_only (ownsRow_only h.blocks ho1 (fun k hk e => (h.nee k e).2.2.2 hk)) hs (fun k hk => (h.neb k hk).1)
  · intro k hk
    simp [Value.ownBlock] at hk
    subst hk
    exact hgn
  · exact ⟨(ho1.up hup).then (hs.upb h.from_.1), m1⟩
theorem Only.up0 {B : Nat} {w w1 : World} (h : Only (fun _ => False) w w1) : Only (Up B) w w1 := h.mono (fun _ _ h => h.elim)
end Go.Proofs.YtanccjaikocefaaDoor
