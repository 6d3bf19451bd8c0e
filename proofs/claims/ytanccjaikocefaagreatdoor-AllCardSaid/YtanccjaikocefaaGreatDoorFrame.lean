/-
  'Only S w w'': from w to w' blocks may have come, and of the old blocks only those that S names may have changed; nothing else has. And small lemmas on blocks that are known whole. No program in sight.
-/
import Derived.WalkKit
import Derived.ProofKit
import Derived.Deep.MidRow
import Derived.Deep.QuietTactic
import Derived.BigQuiet
namespace Go.Proofs.YtanccjaikocefaaGreatDoor
open Go.ChangeShapes Go.WideShapes Go.ChangeAt Go.RowKit
set_option linter.unusedVariables false

structure Only (S : Nat → Prop) (w w' : World) : Prop where
  os : w'.os = w.os
  tape : w'.tape = w.tape
  output : w'.output = w.output
  size : w.heap.size ≤ w'.heap.size
  block : ∀ k, k < w.heap.size → ¬ S k → w'.heap[k]? = w.heap[k]?
theorem Only.refl (S : Nat → Prop) (w : World) : Only S w w := ⟨rfl, rfl, rfl, Nat.le_refl _, fun _ _ _ => rfl⟩
theorem Only.trans {S T U : Nat → Prop} {a b c : World} (h : Only S a b) (k : Only T b c) (hS : ∀ i, i < a.heap.size → S i → U i) (hT : ∀ i, i < a.heap.size → T i → U i) : Only U a c :=
  ⟨k.os.trans h.os, k.tape.trans h.tape, k.output.trans h.output, Nat.le_trans h.size k.size, fun i hi hu => (k.block i (Nat.lt_of_lt_of_le hi h.size) (fun t => hu (hT i hi t))).trans (h.block i hi (fun s => hu (hS i hi s)))⟩
theorem Only.then {S : Nat → Prop} {a b c : World} (h : Only S a b) (k : Only S b c) : Only S a c := h.trans k (fun _ _ s => s) (fun _ _ s => s)
theorem Only.mono {S T : Nat → Prop} {a b : World} (h : Only S a b) (hS : ∀ i, i < a.heap.size → S i → T i) : Only T a b := ⟨h.os, h.tape, h.output, h.size, fun i hi ht => h.block i hi (fun s => ht (hS i hi s))⟩
theorem Only.drew {S : Nat → Prop} {a w : World} (h : Only S a w) : Only S a w.drew := ⟨h.os, h.tape, h.output, h.size, h.block⟩
theorem Only.drewN {S : Nat → Prop} {a w : World} (h : Only S a w) (n : Nat) : Only S a (w.drewN n) := ⟨h.os, h.tape, h.output, h.size, h.block⟩
theorem Only.alloc {S : Nat → Prop} {a w : World} (h : Only S a w) (o : Obj) : Only S a (w.alloc o) :=
  ⟨h.os, h.tape, h.output, by have := h.size; show _ ≤ (w.heap.push o).size; rw [Array.size_push]; omega, fun k hk hs => by rw [Below.heap_alloc _ _ _ (Nat.lt_of_lt_of_le hk h.size)]; exact h.block k hk hs⟩
theorem Only.setCell {S : Nat → Prop} {a w : World} (h : Only S a w) {p : Addr} (hp : p.block < a.heap.size → S p.block) (v : Value) : Only S a (w.setCell p v) :=
  ⟨h.os, h.tape, h.output, by have := h.size; simp [World.setCell]; omega, fun k hk hs => by
    rw [Below.heap_setCell]
    · exact h.block k hk hs
    · rintro rfl; exact hs (hp hk)⟩
theorem Only.set1 {a w : World} {b : Nat} (h : Only (· = b) a w) (o : Nat) (v : Value) : Only (· = b) a (w.setCell ⟨b, o, none⟩ v) := h.setCell (fun _ => rfl) v
theorem Only.setS {S : Nat → Prop} {a w : World} {b : Nat} (h : Only S a w) (hS : S b) (o : Nat) (v : Value) : Only S a (w.setCell ⟨b, o, none⟩ v) := h.setCell (fun _ => hS) v
theorem Only.setN {S : Nat → Prop} {a w : World} {b : Nat} (h : Only S a w) (hb : a.heap.size ≤ b) (o : Nat) (v : Value) : Only S a (w.setCell ⟨b, o, none⟩ v) := h.setCell (fun k => absurd k (Nat.not_lt.2 hb)) v
theorem Only.setW {S : Nat → Prop} {a w : World} (h : Only S a w) (o : Nat) (v : Value) : Only S a (w.setCell ⟨a.heap.size, o, none⟩ v) := h.setN (Nat.le_refl _) o v
theorem Only.setW1 {S : Nat → Prop} {a w : World} (h : Only S a w) (k o : Nat) (v : Value) : Only S a (w.setCell ⟨a.heap.size + k, o, none⟩ v) := h.setN (Nat.le_add_right _ _) o v
theorem Only.below {S : Nat → Prop} {w w' : World} (h : Only S w w') {B : Nat} (hB : B ≤ w.heap.size) (hS : ∀ i, i < B → ¬ S i) : Below B w w' :=
  ⟨h.os, h.tape, h.output, h.size, fun k hk => h.block k (Nat.lt_of_lt_of_le hk hB) (hS k hk)⟩
theorem Only.of_drawn {S : Nat → Prop} {w w' : World} (h : ∃ n, w' = w.drewN n) : Only S w w' := by
  obtain ⟨n, rfl⟩ := h
  exact (Only.refl S w).drewN n
theorem Only.frame {S : Nat → Prop} {w w' : World} (h : Only S w w') (hS : ∀ i, i < w.heap.size → ¬ S i) (may : MemPlace → Prop) : w.keptBut w' may := (h.below (Nat.le_refl _) hS).frame may
theorem Only.cell {S : Nat → Prop} {w w' : World} (h : Only S w w') {b o : Nat} {v : Value} (hS : ¬ S b) (hc : w.cell? ⟨b, o, none⟩ = some v) : w'.cell? ⟨b, o, none⟩ = some v := by
  have hb := block_lt_of_cell hc
  rw [World.cell?_of_block (w := w) (h.block b hb hS)]
  exact hc
theorem Only.free {S : Nat → Prop} {w w' : World} (h : Only S w w') {b o : Nat} (hS : ¬ S b) (hb : b < w.heap.size) (hf : w.frozen? ⟨b, o, none⟩ = false) : w'.frozen? ⟨b, o, none⟩ = false := by
  rw [World.frozen?_of_block (w := w) (h.block b hb hS)]
  exact hf
theorem Only.heap {S : Nat → Prop} {w w' : World} (h : Only S w w') {b : Nat} {o : Obj} (hS : ¬ S b) (hc : w.heap[b]? = some o) : w'.heap[b]? = some o := by
  rw [h.block b _ hS]
  · exact hc
  · rcases Nat.lt_or_ge b w.heap.size with h | h
    · exact h
    · simp [Array.getElem?_eq_none h] at hc
theorem Only.range {S : Nat → Prop} {w w' : World} (h : Only S w w') {b o : Nat} {cs : List Value} (hS : ¬ S b) (hc : w.rangeAt b o cs) : w'.rangeAt b o cs :=
  fun j v hj => h.cell hS (hc j v hj)
theorem heap_lt {w : World} {b : Nat} {o : Obj} (h : w.heap[b]? = some o) : b < w.heap.size := by
  rcases Nat.lt_or_ge b w.heap.size with k | k
  · exact k
  · simp [Array.getElem?_eq_none k] at h
end Go.Proofs.YtanccjaikocefaaGreatDoor
