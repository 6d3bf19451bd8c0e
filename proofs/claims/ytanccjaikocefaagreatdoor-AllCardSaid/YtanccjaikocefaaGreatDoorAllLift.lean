/-
  'chainslaw.All' returns true for every word, operation, two numbers and two setups, and they read as they did: the row, and its tied card, once the contract of the function is given (AllAny; the next text proves it).
-/
import Derived.Test.YtanccjaikocefaaGreatDoorOpenSetup
import Derived.Test.YtanccjaikocefaaGreatDoorTie
import Derived.Test.YtanccjaikocefaaGreatDoorCards
import Derived.SevenTiedAt
namespace Go.Proofs.YtanccjaikocefaaGreatDoor.all
open Go Go.ChangeShapes Go.WideShapes Go.ChangeAt Go.WideMaps Go.WideElems Go.RowKit
set_option linter.unusedVariables false

/-- The contract of 'chainslaw.All'. -/
def AllAny : Prop := ∀ (wd op a b : Int) (w0 : 0 ≤ wd) (w1 : wd < 4294967296) (ha : 0 ≤ a) (ha2 : a < 4294967296) (hb : 0 ≤ b) (hb2 : b < 4294967296)
      (p : Setup) (hr : p.Raw) (ab : Nat) (av : Value) (q : Setup) (hrq : q.Raw) (bb : Nat) (bv : Value) (w : World) (hta : TextsAt w ab av p.ans) (hab : ab < w.heap.size) (htb : TextsAt w bb bv q.ans) (hbb : bb < w.heap.size) (ht : Tab w),
    Calls Tryz.prog 3 #[.int .u32 wd, .int .i64 op, .int .u32 a, .int .u32 b, .agg (p.cells av), .agg (q.cells bv)] w (fun e w' => e = .returned (.bool true) ∧ Only (fun _ => False) w w')
theorem own : ownKnob Tryz.prog.godebug = none := by kernel_rfl
/-- The door's own heap meets the condition. -/
theorem door_met (os : Os) (args : Array Value) : laidMetH Tryz.prog laidL ((World.doorLaid Tryz.prog 400 os).forCall (fun _ _ => 0) ⟨#[], args, []⟩).memory :=
  laidMetH_of_parts3 (fuel := 8) (laidMet_of_run' 8 (by kernel_rfl) (by kernel_rfl)) (by kernel_rfl) (by kernel_rfl)
set_option maxRecDepth 100000 in
theorem lifted (hall : AllAny) (os : Os) (started : os.Started) (H : Type) (enc : TypeId × Value → H) :
    ReturnsInHanded {} Tryz.checked os 3 .any (fun w args => (Rows.allSpec.pre enc Tryz.prog Tryz.f3 [] false w args ∧ laidMetH Tryz.prog laidL w) ∧ sizedMet enc Tryz.prog Tryz.f3 (OpenSpec.ofChange Rows.allSpec) false w args)
      (Rows.allSpec.post enc Tryz.prog Tryz.f3 false true false false) := by
  refine returnsInHanded_of_change_and (C := Tryz.checked) (X := fun w _ => laidMetH Tryz.prog laidL w) (fun _ _ _ hh h => h.of_heap hh) own started (by kernel_rfl) Tryz.func3
    (ChangeSpec.witness_shaped (enc := enc) (C := Tryz.checked) (os := os) (X := fun w _ => laidMetH Tryz.prog laidL w) false (World.doorLaid Tryz.prog 400 os) #[.int .u32 0, .int .i64 0, .int .u32 0, .int .u32 0, .agg #[.int .i64 0, .string ⟨#[]⟩, .int .u32 0, .int .u32 0, .slice none 0 0, .int .i64 0, .int .i64 0, .int .i64 0], .agg #[.int .i64 0, .string ⟨#[]⟩, .int .u32 0, .int .u32 0, .slice none 0 0, .int .i64 0, .int .i64 0, .int .i64 0]] 8 rfl (World.shaped_of_RefB (by kernel_rfl) (by kernel_rfl)) (by kernel_rfl) (by kernel_rfl) (by kernel_rfl) (door_met os _)) ?_
  intro W base args ds gs before hval0 hW _ _ hL _
  have hval : ∀ (j : Nat) t v, Tryz.f3.params[j]? = some t → args[j]? = some v → Value.okWide Tryz.prog W .any base t v := hval0
  have hW' := hW
  obtain ⟨p, q, hA0, hV, rfl, hfz, hnd⟩ := hW
  have hA : DataW.TrodAll enc Tryz.prog W 0 (fun _ => true) true Tryz.f3.params.toList args.toList ds p := hA0
  rw [Tryz.params3] at hA hval
  obtain ⟨v0, vs0, d0, ds0, p0, q0, hargs, rfl, rfl, h0, r0⟩ := trodAll_cons hA
  obtain ⟨v1, vs1, d1, ds1, p1, q1, rfl, rfl, rfl, h1, r1⟩ := trodAll_cons r0
  obtain ⟨v2, vs2, d2, ds2, p2, q2, rfl, rfl, rfl, h2, r2⟩ := trodAll_cons r1
  obtain ⟨v3, vs3, d3, ds3, p3, q3, rfl, rfl, rfl, h3, r3⟩ := trodAll_cons r2
  obtain ⟨v4, vs4, d4, ds4, p4, q4, rfl, rfl, rfl, h4, r4⟩ := trodAll_cons r3
  obtain ⟨v5, vs5, d5, ds5, p5, q5, rfl, rfl, rfl, h5, r5⟩ := trodAll_cons r4
  obtain ⟨rfl, rfl, rfl⟩ := trodAll_nil r5
  obtain rfl : args = #[v0, v1, v2, v3, v4, v5] := by cases args; simp_all
  obtain ⟨rfl, rfl⟩ := trodVars_none hV
  have hT := of_laid hL
  obtain ⟨cs4, hcs4, _⟩ := okWide_struct Tryz.underlying25 (hval 4 25 v4 rfl rfl)
  obtain ⟨cs5, hcs5, _⟩ := okWide_struct Tryz.underlying25 (hval 5 25 v5 rfl rfl)
  obtain ⟨pp, ab, av, hv4, hta, hab, hraw⟩ := open_setup (tab_pos hT) ⟨cs4, hcs4⟩ h4
  obtain ⟨qq, bb, bv, hv5, htb, hbb, hraw2⟩ := open_setup (tab_pos hT) ⟨cs5, hcs5⟩ h5
  obtain ⟨a0, rfl, rfl, rfl, w0⟩ := open_int Tryz.underlying22 (hval 0 22 v0 rfl rfl) h0
  have b0 := bounds_u32 w0
  obtain ⟨a1, rfl, rfl, rfl, w1⟩ := open_int Tryz.underlying3 (hval 1 3 v1 rfl rfl) h1
  obtain ⟨a2, rfl, rfl, rfl, w2⟩ := open_int Tryz.underlying22 (hval 2 22 v2 rfl rfl) h2
  have b2 := bounds_u32 w2
  obtain ⟨a3, rfl, rfl, rfl, w3⟩ := open_int Tryz.underlying22 (hval 3 22 v3 rfl rfl) h3
  have b3 := bounds_u32 w3
  clear hA0 hval0
  simp only [List.append_nil, List.nil_append] at hW'
  subst hv4
  subst hv5
  refine (hall a0 a1 a2 a3 b0.1 (by omega) b2.1 (by omega) b3.1 (by omega) pp hraw ab av qq hraw2 bb bv W hta hab htb hbb hT).mono fun e W' ⟨he, ho⟩ => ?_
  subst he
  have keep : ∀ (v : Value) (d : DataW H) (pl : List MemPlace), DataW.Trod enc Tryz.prog W 0 (fun _ => true) true 25 v d pl → DataW.Trod enc Tryz.prog W' 0 (fun b => decide (b < W.heap.size)) true 25 v d pl := by
    intro v d pl hs
    have k1 : DataW.TrodAll enc Tryz.prog W 0 (fun _ => true) true [25] [v] [d] pl := trodAll_mk1 hs
    have k2 : DataW.TrodAll enc Tryz.prog W' 0 (fun _ => true) true [25] [v] [d] pl := trodAll_mk1 (ho.trod hs)
    have hlt : ∀ x ∈ pl, x.block < W.heap.size := DataW.TrodAll.lt k1
    have k3 : DataW.TrodAll enc Tryz.prog W' 0 (fun b => decide (b < W.heap.size)) true [25] [v] [d] pl := by
      refine DataW.TrodAll.respare kids fullS ?_ k2 (fun x hx => decide_eq_true (hlt x hx))
      intro t ht
      have e : t = 25 := by simpa using ht
      subst e
      exact of_decide_eq_true (by kernel_rfl)
    obtain ⟨pa, pb, e1, e2, e3⟩ := k3
    obtain ⟨_, _, rfl⟩ := trodAll_nil e2
    simp only [List.append_nil] at e3
    subst e3
    exact e1
  refine ⟨_, rfl, _, _, _, [], p4 ++ p5, [], hW', ?_, ?_, ?_, ?_, fun h => by cases h⟩
  · exact trodAll_mk1 (shut_bool Tryz.underlying4 _)
  · have hfin : DataW.TrodAll enc Tryz.prog W' 0 (fun b => decide (b < W.heap.size)) true [22, 3, 22, 22, 25, 25] [.int .u32 a0, .int .i64 a1, .int .u32 a2, .int .u32 a3, .agg (pp.cells av), .agg (qq.cells bv)] [.lit (.int .u32 a0), .lit (.int .i64 a1), .lit (.int .u32 a2), .lit (.int .u32 a3), d4, d5] (p4 ++ p5) := by
      have := (show DataW.TrodAll enc Tryz.prog W' 0 (fun b => decide (b < W.heap.size)) true [22, 3, 22, 22, 25, 25] [.int .u32 a0, .int .i64 a1, .int .u32 a2, .int .u32 a3, .agg (pp.cells av), .agg (qq.cells bv)] [.lit (.int .u32 a0), .lit (.int .i64 a1), .lit (.int .u32 a2), .lit (.int .u32 a3), d4, d5] _ from
        (⟨_, _, shut_int Tryz.underlying22 w0, (⟨_, _, shut_int Tryz.underlying3 w1, (⟨_, _, shut_int Tryz.underlying22 w2, (⟨_, _, shut_int Tryz.underlying22 w3, (⟨_, _, keep _ _ _ h4, (⟨_, _, keep _ _ _ h5, trodAll_mk0, rfl⟩), rfl⟩), rfl⟩), rfl⟩), rfl⟩), rfl⟩))
      simpa using this
    exact hfin
  · trivial
  · exact ho.frame (fun _ _ h => h) _
theorem holds (hall : AllAny) : Rows.AllSaid :=
  OpenClaim.holds_of_wide 3 Tryz.f3 rfl rfl rfl rfl rfl rfl rfl ⟨rfl, rfl, rfl, rfl, rfl⟩ rfl rfl rfl rfl rfl (by kernel_rfl) Tryz.func3 (by kernel_rfl)
    (of_decide_eq_true (by kernel_rfl)) (by unfold Func.isWrapper; first | (rw [if_pos (by decide +kernel)]; kernel_rfl) | (rw [if_neg (by decide +kernel)]; exact ⟨rfl, rfl⟩))
    (fun os started H enc _ => lifted hall os started H enc)
theorem provedOf (hall : AllAny) : Rows.AllCardSaid :=
  Claim7.holds_tied_plain_at .later [] [.data] true (true, "5a831cdc609c19fc7774a40e91e498fe04fe495378221747de271867165a9721") true
    (holds hall) (fun _ h => by cases h) (by kernel_rfl) (fun _ h => by cases h) all_row_tie rfl ⟨rfl, rfl⟩ (by kernel_rfl) rfl
    (fun f fn hf hfn => by
      obtain rfl : f = 3 := Option.some.inj ((show Tryz.prog.funcNamed "chains/chainslaw.All" = some 3 by kernel_rfl).symm.trans hf) |>.symm
      obtain rfl : fn = Tryz.f3 := (Option.some.inj (Tryz.func3.symm.trans hfn)).symm
      exact ⟨by kernel_rfl, fun j t ht => by
        rw [Tryz.params3] at ht
        have hm : t ∈ [22, 3, 22, 22, 25, 25] := by simpa using Array.mem_of_getElem? ht
        have hall : ([22, 3, 22, 22, 25, 25].all fun u => !Tryz.prog.wantsStandIn u) = true := by kernel_rfl
        exact (show Tryz.prog.wantsStandIn t = false by simpa using List.all_eq_true.1 hall t hm)⟩)
    (by kernel_rfl)
end Go.Proofs.YtanccjaikocefaaGreatDoor.all
