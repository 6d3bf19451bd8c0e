/-
  The contract of 'tell': an event more. Conditions: the machine lies in memory; the events are fewer than a million.
-/
import Derived.Test.YtanccjaikocefaaDoorMeth3
import Derived.Deep.AppendLies
namespace Go.Proofs.YtanccjaikocefaaDoor
open Go.ChangeShapes Go.WideShapes Go.ChangeAt Go.RowKit
set_option linter.unusedVariables false

theorem evInfo : (Tryd.prog.info? 51).map (fun i => (i.zero, i.size, i.bytes)) = some (some (.agg #[.int .u32 0, .int .u32 0, .string ⟨#[]⟩]), 3, 24) := by kernel_rfl
def TellP (b : Nat) (s : St) (x : Raw) (e : Ev) (w : World) (en : Ending) (w' : World) : Prop :=
  en = .returned (.tuple #[]) ∧ ∃ v, Mach w' b { s with evs := s.evs ++ [e] } { x with evs := v } ∧ Keep w x { x with evs := v } ∧ Only (Mb b x) w w'
theorem evCells_snoc (l : List Ev) (e : Ev) : evCells (l ++ [e]) = evCells l ++ [.int .u32 e.call, .int .u32 e.result, .string e.data] := by simp [evCells]
theorem Only.of_grown {S : Nat → Prop} {a w w' : World} {row : Option Nat} (h : Only S a w) (hg : w.grownBy w' row) (hr : ∀ k, row = some k → S k) : Only S a w' :=
  h.then ⟨hg.os, hg.tape, hg.output, hg.size, fun k hk hs => hg.block k hk (fun e => hs (hr k e.symm))⟩
set_option maxRecDepth 100000 in
theorem tell_any (b : Nat) (s : St) (x : Raw) (c r : Int) (d : ByteArray) (w : World) (h : Mach w b s x) (hev : s.evs.length ≤ 1000000) :
    Calls Tryd.prog 78 #[.pointer (some ⟨b, 0, none⟩), .int .u32 c, .int .u32 r, .string d] w (TellP b s x ⟨c, r, d⟩ w) := by
  obtain ⟨i0, hi, hz0, hz1, hz2⟩ := info_parts evInfo
  have hown := h.evs
  have hbl := h.mac.lt
  have h40 := h.mac.evs
  have hf := h.mac.free 40
  have H := h
  go_enter Tryd.func78, Tryd.ntmps78
  go_wp2_with (at_builtin; refine wpList_append_lies _ (by rfl) (.tmp 12) (.tmp 17) 36 (by rfl) 0 51 i0 _ 3 24 Tryd.underlying36 hi hz0 hz1 hz2 (by rfl) (by omega) x.evs s.evs.length (evCells s.evs) (by rfl) (hown.alloc _) ⟨w.heap.size, 0, none⟩ 1 1 [.int .u32 c, .int .u32 r, .string d] (by rfl) (by rfl) (World.news_of_block (heap_alloc_new w _)) (by simp [Value.oneCell']) (by omega) (by unfold maxLen; omega) (by omega) (Nat.zero_le _) (w.heap.size + 1) (by simp) ?_)
  intro g cap w1 hown1 hgrow hat hlt
  have hneb : ¬ x.evs.ownBlock = some b := fun e => (H.nee b e).1 rfl
  have HO1 : Only (fun k => x.evs.ownBlock = some k) w w1 := ((Only.refl _ w).alloc _).of_grown hgrow (fun k h => h.symm ▸ rfl)
  clear hgrow
  have q40 : w1.cell? ⟨b, 40, none⟩ = some x.evs := HO1.cell hneb h40
  have qf : w1.frozen? ⟨b, 40, none⟩ = false := HO1.free hneb hbl hf
  clear h40 hf hown
  go_wp2_with fail
  go_end0
  have ho2 : Only (· = b) w1 (w1.setCell ⟨b, 40, none⟩ (.slice (some ⟨g, 0, none⟩) (s.evs.length + 1) cap)) := (Only.refl _ _).set1 _ _
  have hmb := heap_lt H.mem
  have hgn : g ≠ b ∧ g ≠ x.mb ∧ g ≠ x.ab := by
    rcases hat with hat | hat
    · exact H.nee g hat
    · have := H.abLt
      exact ⟨by omega, by omega, by omega⟩
  refine ⟨rfl, .slice (some ⟨g, 0, none⟩) (s.evs.length + 1) cap, ?_, ?_, ?_⟩
  · refine ⟨?_, ho2.heap (Ne.symm H.ne) (HO1.heap (fun e => (H.nee _ e).2.1 rfl) H.mem), H.ne, (H.ans.only HO1 (fun e => (H.nee _ e).2.2 rfl)).only ho2 H.nea.1, ?_, H.nea, ?_, ?_⟩
    · have hm1 : MacAt w1 b s x := HO1.heap hneb H.mac
      have hm2 := hm1.putEvs (.slice (some ⟨g, 0, none⟩) (s.evs.length + 1) cap)
      exact hm2
    · exact Nat.lt_of_lt_of_le H.abLt (Nat.le_trans HO1.size ho2.size)
    · have := ownsRow_only hown1 ho2 (fun k hk => by simp [Value.ownBlock] at hk; omega)
      rw [evCells_snoc]
      simpa using this
    · intro k hk
      simp [Value.ownBlock] at hk
      subst hk
      exact hgn
  · refine ⟨rfl, rfl, rfl, ?_⟩
    rcases hat with hat | hat
    · exact .inl (by rw [hat]; rfl)
    · exact .inr ⟨g, rfl, by omega⟩
  · exact (HO1.mono (fun _ _ h => .inr (.inr h))).then ho2.mb
end Go.Proofs.YtanccjaikocefaaDoor
