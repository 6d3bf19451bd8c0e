/-
  'chainskeep.Further' returns true for every setup and any number, and they read as they did: the row, and its tied card. No condition but the row's own: the program's table starts as its text says (which the card ties).
-/
import Derived.Test.YtanccjaikocefaaDoorFurther
import Derived.Test.YtanccjaikocefaaDoorOpenSetup
import Derived.Test.YtanccjaikocefaaDoorTie
import Derived.Test.YtanccjaikocefaaDoorCards
import Derived.SevenTiedAt
namespace Go.Proofs.YtanccjaikocefaaDoor.further
open Go Go.ChangeShapes Go.WideShapes Go.ChangeAt Go.WideMaps Go.WideElems Go.RowKit
set_option linter.unusedVariables false

theorem own : ownKnob Tryd.prog.godebug = none := by kernel_rfl
/-- The door's own heap meets the condition. -/
theorem door_met (os : Os) (args : Array Value) : laidMetH Tryd.prog laidL ((World.doorLaid Tryd.prog 400 os).forCall (fun _ _ => 0) ⟨#[], args, []⟩).memory :=
  laidMetH_of_parts3 (fuel := 8) (laidMet_of_run' 8 (by kernel_rfl) (by kernel_rfl)) (by kernel_rfl) (by kernel_rfl)
set_option maxRecDepth 100000 in
theorem lifted (os : Os) (started : os.Started) (H : Type) (enc : TypeId × Value → H) :
    ReturnsInHanded {} Tryd.checked os 8 .any (fun w args => (Rows.furtherSpec.pre enc Tryd.prog Tryd.f8 [] false w args ∧ laidMetH Tryd.prog laidL w) ∧ sizedMet enc Tryd.prog Tryd.f8 (OpenSpec.ofChange Rows.furtherSpec) false w args)
      (Rows.furtherSpec.post enc Tryd.prog Tryd.f8 false true false false) := by
  refine returnsInHanded_of_change_and (C := Tryd.checked) (X := fun w _ => laidMetH Tryd.prog laidL w) (fun _ _ _ hh h => h.of_heap hh) own started (by kernel_rfl) Tryd.func8
    (ChangeSpec.witness_shaped (enc := enc) (C := Tryd.checked) (os := os) (X := fun w _ => laidMetH Tryd.prog laidL w) false (World.doorLaid Tryd.prog 400 os) #[.agg #[.int .i64 0, .string ⟨#[]⟩, .int .u32 0, .int .u32 0, .slice none 0 0, .int .i64 0, .int .i64 0, .int .i64 0], .int .i64 0] 8 rfl (World.shaped_of_RefB (by kernel_rfl) (by kernel_rfl)) (by kernel_rfl) (by kernel_rfl) (by kernel_rfl) (door_met os _)) ?_
  intro W base args ds gs before hval0 hW _ _ hL _
  have hval : ∀ (j : Nat) t v, Tryd.f8.params[j]? = some t → args[j]? = some v → Value.okWide Tryd.prog W .any base t v := hval0
  have hW' := hW
  obtain ⟨p, q, hA0, hV, rfl, hfz, hnd⟩ := hW
  have hA : DataW.TrodAll enc Tryd.prog W 0 (fun _ => true) true Tryd.f8.params.toList args.toList ds p := hA0
  rw [Tryd.params8] at hA hval
  obtain ⟨v0, vs0, d0, ds0, p0, q0, hargs, rfl, rfl, h0, r0⟩ := trodAll_cons hA
  obtain ⟨v1, vs1, d1, ds1, p1, q1, rfl, rfl, rfl, h1, r1⟩ := trodAll_cons r0
  obtain ⟨rfl, rfl, rfl⟩ := trodAll_nil r1
  obtain rfl : args = #[v0, v1] := by cases args; simp_all
  obtain ⟨rfl, rfl⟩ := trodVars_none hV
  have hT := of_laid hL
  obtain ⟨cs, hcs, _⟩ := okWide_struct Tryd.underlying31 (hval 0 31 v0 rfl rfl)
  obtain ⟨pp, ab, av, hv0, hta, hab, hraw⟩ := open_setup (tab_pos hT) ⟨cs, hcs⟩ h0
  obtain ⟨a1, rfl, rfl, rfl, w1⟩ := open_int Tryd.underlying3 (hval 1 3 v1 rfl rfl) h1
  have b1 := bounds_i64 w1
  clear hA0 hval0
  simp only [List.append_nil] at hW'
  subst hv0
  refine (further_any pp hraw a1 b1 ab av W hta hab hT).mono fun e W' ⟨he, ho⟩ => ?_
  subst he
  have hs0 : DataW.Trod enc Tryd.prog W 0 (fun _ => true) true 31 (.agg (pp.cells av)) d0 p0 := h0
  have h1 : DataW.TrodAll enc Tryd.prog W 0 (fun _ => true) true [31] [.agg (pp.cells av)] [d0] p0 := trodAll_mk1 hs0
  have h2 : DataW.TrodAll enc Tryd.prog W' 0 (fun _ => true) true [31] [.agg (pp.cells av)] [d0] p0 := trodAll_mk1 (ho.trod hs0)
  have hlt : ∀ x ∈ p0, x.block < W.heap.size := DataW.TrodAll.lt h1
  have h3 : ∀ sp : Nat → Bool, (∀ x ∈ p0, sp x.block = true) → DataW.TrodAll enc Tryd.prog W' 0 sp true [31] [.agg (pp.cells av)] [d0] p0 := by
    intro sp hx
    refine DataW.TrodAll.respare kids fullS ?_ h2 hx
    intro t ht
    have e : t = 31 := by simpa using ht
    subst e
    exact of_decide_eq_true (by kernel_rfl)
  refine ⟨_, rfl, _, _, _, [], p0, [], hW', ?_, ?_, ?_, ?_, fun h => by cases h⟩
  · exact trodAll_mk1 (shut_bool Tryd.underlying4 _)
  · obtain ⟨pa, pb, e1, e2, e3⟩ := h3 (fun b => decide (b < W.heap.size)) (fun x hx => decide_eq_true (hlt x hx))
    obtain ⟨_, _, rfl⟩ := trodAll_nil e2
    simp only [List.append_nil] at e3
    subst e3
    have hfin : DataW.TrodAll enc Tryd.prog W' 0 (fun b => decide (b < W.heap.size)) true [31, 3] [.agg (pp.cells av), .int .i64 a1] [d0, .lit (.int .i64 a1)] p0 := by
      have := (show DataW.TrodAll enc Tryd.prog W' 0 (fun b => decide (b < W.heap.size)) true [31, 3] [.agg (pp.cells av), .int .i64 a1] [d0, .lit (.int .i64 a1)] _ from (⟨_, _, e1, (⟨_, _, shut_int Tryd.underlying3 w1, trodAll_mk0, rfl⟩), rfl⟩))
      simpa using this
    exact hfin
  · trivial
  · exact ho.frame (fun _ _ h => h) _
theorem holds : Rows.FurtherSaid :=
  OpenClaim.holds_of_wide 8 Tryd.f8 rfl rfl rfl rfl rfl rfl rfl ⟨rfl, rfl, rfl, rfl, rfl⟩ rfl rfl rfl rfl rfl (by kernel_rfl) Tryd.func8 (by kernel_rfl)
    (of_decide_eq_true (by kernel_rfl)) (by unfold Func.isWrapper; first | (rw [if_pos (by decide +kernel)]; kernel_rfl) | (rw [if_neg (by decide +kernel)]; exact ⟨rfl, rfl⟩))
    (fun os started H enc _ => lifted os started H enc)
theorem proved : Rows.FurtherCardSaid :=
  Claim7.holds_tied_plain_at .later [] [.data] true (true, "e33a55635e58a8eae1a2995b6cd8aed655a0f33d611c1527d5d8921916272dd5") true
    holds (fun _ h => by cases h) (by kernel_rfl) (fun _ h => by cases h) further_row_tie rfl ⟨rfl, rfl⟩ (by kernel_rfl) rfl
    (fun f fn hf hfn => by
      obtain rfl : f = 8 := Option.some.inj ((show Tryd.prog.funcNamed "chains/chainskeep.Further" = some 8 by kernel_rfl).symm.trans hf) |>.symm
      obtain rfl : fn = Tryd.f8 := (Option.some.inj (Tryd.func8.symm.trans hfn)).symm
      exact ⟨by kernel_rfl, fun j t ht => by
        rw [Tryd.params8] at ht
        have hm : t ∈ [31, 3] := by simpa using Array.mem_of_getElem? ht
        have hall : ([31, 3].all fun u => !Tryd.prog.wantsStandIn u) = true := by kernel_rfl
        exact (show Tryd.prog.wantsStandIn t = false by simpa using List.all_eq_true.1 hall t hm)⟩)
    (by kernel_rfl)
#print axioms proved
end Go.Proofs.YtanccjaikocefaaDoor.further
