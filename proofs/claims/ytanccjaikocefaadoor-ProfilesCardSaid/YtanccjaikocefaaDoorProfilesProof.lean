/-
  'chainslaw.Profiles' returns true for every setup, and the setup reads as it did: the row, and its tied card. No condition but the row's own: the program's table starts as its text says (which the card ties).
-/
import Derived.Test.YtanccjaikocefaaDoorProfiles
import Derived.Test.YtanccjaikocefaaDoorTie
import Derived.Test.YtanccjaikocefaaDoorCards
import Derived.SevenTiedAt
namespace Go.Proofs.YtanccjaikocefaaDoor.profiles
open Go Go.ChangeShapes Go.WideShapes Go.ChangeAt Go.WideMaps Go.WideElems Go.RowKit
set_option linter.unusedVariables false

theorem own : ownKnob Tryd.prog.godebug = none := by kernel_rfl
/-- The door's own heap meets the condition. -/
theorem door_met (os : Os) (args : Array Value) : laidMetH Tryd.prog laidL ((World.doorLaid Tryd.prog 400 os).forCall (fun _ _ => 0) ⟨#[], args, []⟩).memory :=
  laidMetH_of_parts3 (fuel := 8) (laidMet_of_run' 8 (by kernel_rfl) (by kernel_rfl)) (by kernel_rfl) (by kernel_rfl)
set_option maxRecDepth 100000 in
theorem lifted (os : Os) (started : os.Started) (H : Type) (enc : TypeId × Value → H) :
    ReturnsInHanded {} Tryd.checked os 11 .any (fun w args => (Rows.profilesSpec.pre enc Tryd.prog Tryd.f11 [] false w args ∧ laidMetH Tryd.prog laidL w) ∧ sizedMet enc Tryd.prog Tryd.f11 (OpenSpec.ofChange Rows.profilesSpec) false w args)
      (Rows.profilesSpec.post enc Tryd.prog Tryd.f11 false true false false) := by
  refine returnsInHanded_of_change_and (C := Tryd.checked) (X := fun w _ => laidMetH Tryd.prog laidL w) (fun _ _ _ hh h => h.of_heap hh) own started (by kernel_rfl) Tryd.func11
    (ChangeSpec.witness_shaped (enc := enc) (C := Tryd.checked) (os := os) (X := fun w _ => laidMetH Tryd.prog laidL w) false (World.doorLaid Tryd.prog 400 os) #[.agg #[.int .i64 0, .string ⟨#[]⟩, .int .u32 0, .int .u32 0, .slice none 0 0, .int .i64 0, .int .i64 0, .int .i64 0]] 8 rfl (World.shaped_of_RefB (by kernel_rfl) (by kernel_rfl)) (by kernel_rfl) (by kernel_rfl) (by kernel_rfl) (door_met os _)) ?_
  intro W base args ds gs before hval0 hW _ _ hL _
  have hval : ∀ (j : Nat) t v, Tryd.f11.params[j]? = some t → args[j]? = some v → Value.okWide Tryd.prog W .any base t v := hval0
  have hW' := hW
  obtain ⟨p, q, hA0, hV, rfl, hfz, hnd⟩ := hW
  have hA : DataW.TrodAll enc Tryd.prog W 0 (fun _ => true) true Tryd.f11.params.toList args.toList ds p := hA0
  rw [Tryd.params11] at hA hval
  obtain ⟨v0, d0, hargs, rfl, h0⟩ := trodAll_one hA
  obtain ⟨rfl, rfl⟩ := trodVars_none hV
  have hT := of_laid hL
  obtain ⟨cs, hcs, _⟩ := okWide_struct Tryd.underlying31 (hval 0 31 v0 rfl (by rw [hargs]; rfl))
  obtain ⟨pp, ab, av, hv0, hta, hab, hraw⟩ := open_setup (tab_pos hT) ⟨cs, hcs⟩ h0
  clear hA0 hval0
  simp only [List.append_nil] at hW'
  subst hargs
  subst hv0
  refine (profiles_any pp hraw ab av W hta hab hT).mono fun e W' ⟨he, ho⟩ => ?_
  subst he
  have h1 : DataW.TrodAll enc Tryd.prog W' 0 (fun _ => true) true [31] [.agg (pp.cells av)] [d0] p := by
    obtain ⟨p1, q1, e1, e2, e3⟩ := hA
    exact ⟨p1, q1, ho.trod e1, e2, e3⟩
  have hlt : ∀ x ∈ p, x.block < W.heap.size := DataW.TrodAll.lt hA
  refine ⟨_, rfl, _, _, _, [], p, [], hW', ?_, ?_, ?_, ?_, fun h => by cases h⟩
  · exact trodAll_mk1 (shut_bool Tryd.underlying4 _)
  · refine DataW.TrodAll.respare kids fullS ?_ h1 (fun x hx => decide_eq_true (hlt x hx))
    intro t ht
    have e : t = 31 := by simpa using ht
    subst e
    exact of_decide_eq_true (by kernel_rfl)
  · trivial
  · exact ho.frame (fun _ _ h => h) _
theorem holds : Rows.ProfilesSaid :=
  OpenClaim.holds_of_wide 11 Tryd.f11 rfl rfl rfl rfl rfl rfl rfl ⟨rfl, rfl, rfl, rfl, rfl⟩ rfl rfl rfl rfl rfl (by kernel_rfl) Tryd.func11 (by kernel_rfl)
    (of_decide_eq_true (by kernel_rfl)) (by unfold Func.isWrapper; first | (rw [if_pos (by decide +kernel)]; kernel_rfl) | (rw [if_neg (by decide +kernel)]; exact ⟨rfl, rfl⟩))
    (fun os started H enc _ => lifted os started H enc)
theorem proved : Rows.ProfilesCardSaid :=
  Claim7.holds_tied_plain_at .later [] [.data] true (true, "e33a55635e58a8eae1a2995b6cd8aed655a0f33d611c1527d5d8921916272dd5") true
    holds (fun _ h => by cases h) (by kernel_rfl) (fun _ h => by cases h) profiles_row_tie rfl ⟨rfl, rfl⟩ (by kernel_rfl) rfl
    (fun f fn hf hfn => by
      obtain rfl : f = 11 := Option.some.inj ((show Tryd.prog.funcNamed "chains/chainslaw.Profiles" = some 11 by kernel_rfl).symm.trans hf) |>.symm
      obtain rfl : fn = Tryd.f11 := (Option.some.inj (Tryd.func11.symm.trans hfn)).symm
      exact ⟨by kernel_rfl, fun j t ht => by
        rw [Tryd.params11] at ht
        have hm : t ∈ [31] := by simpa using Array.mem_of_getElem? ht
        have hall : ([31].all fun u => !Tryd.prog.wantsStandIn u) = true := by kernel_rfl
        exact (show Tryd.prog.wantsStandIn t = false by simpa using List.all_eq_true.1 hall t hm)⟩)
    (by kernel_rfl)
#print axioms proved
end Go.Proofs.YtanccjaikocefaaDoor.profiles
