/-
  'chainskeep.Sober' returns true for every setup. Conditions: the setup lies in memory; the table lies.
-/
import Derived.Test.YtanccjaikocefaaDoorKeepForm
namespace Go.Proofs.YtanccjaikocefaaDoor
open Go.ChangeShapes Go.WideShapes Go.ChangeAt Go.RowKit Go.Maps
set_option linter.unusedVariables false

theorem setup_size' (p : Setup) (av : Value) : (Tryd.prog.info? 31).map (·.size) = some (p.cells av).toList.length := by kernel_rfl
/-- What holds of a run that came to a report. -/
structure SoberQ (p : Setup) (S : St) (o bu : Int) : Prop where
  zero : S.regs 0 = 0
  len : (S.mem.length : Int) = p.pages * 64
  s0 : 0 ≤ S.steps
  s1 : S.steps ≤ p.fuel
  f1 : p.fuel ≤ 2000
  p0 : 1 ≤ p.pages
  p1 : p.pages ≤ 8
  b0 : 0 ≤ bu
  b1 : bu ≤ S.steps + 1
  full : o = 0 → S.steps = p.fuel
theorem sober_plain (p : Setup) (hp : p.Ok) (h : p.err true = 0) : SoberQ p p.R.s p.R.out p.R.built := by
  obtain ⟨hg, _⟩ := Setup.good h
  obtain ⟨_, hs, ho⟩ := R_ok p hp h
  have hst := Setup.st_ok hg hp
  have hh : (p.rs true).Head := Setup.head h hp
  have hk := runS_keep p.fuel p.fuel.toNat p.st hst hg.f0
  have hml : p.st.mem.length = (p.pages * 64).toNat := Setup.mem_len hg hp.base.1
  have hok := runS_ok p.fuel p.fuel.toNat p.st hst
  have hf0 := hg.f0
  have hpg := hg.p0
  have hb := runR_built p.fuel.toNat (p.rs true) rfl hh (by show ((p.fuel.toNat : Nat) : Int) = p.fuel - 0; omega)
  have hbe : p.R = runR (p.fuel.toNat + 1) (p.rs true) := rfl
  rw [← hbe] at hb
  rw [← hs, ← ho] at hk
  rw [← hs] at hok
  obtain ⟨k1, k2, k3, k4, _⟩ := hk
  have hz : p.st.steps = 0 := rfl
  exact ⟨hok.zero, by rw [k1, hml]; omega, by omega, k3, hg.f1, hg.p0, hg.p1, hb.1, hb.2, k4 (by rw [hz]; omega)⟩
set_option maxRecDepth 100000 in
set_option maxHeartbeats 1000000 in
theorem sober_any (p : Setup) (hr : p.Raw) (ab : Nat) (av : Value) (w : World) (ha : TextsAt w ab av p.ans) (hab : ab < w.heap.size) (ht : Tab w) :
    Calls Tryd.prog 7 #[.agg (p.cells av)] w (fun e w' => e = .returned (.bool true) ∧ Only (fun _ => False) w w') := by
  have HA := Lib.hid ha
  have HR := Lib.hid hr
  have HT := Lib.hid ht
  have hw0 := tab_pos ht
  clear ha hr ht
  obtain ⟨W0, hW0⟩ : ∃ W0, W0 = w.alloc (.cells (p.cells av) 31) := ⟨_, rfl⟩
  have hO0 : Only (fun _ => False) w W0 := by rw [hW0]; exact (Only.refl _ w).alloc _
  have hb0 : W0.heap[w.heap.size]? = some (.cells (p.cells av) 31 (0, 0)) := by rw [hW0]; exact heap_alloc_new w _
  have HB0 := Lib.hid hb0
  have HO0 := Lib.hid hO0
  have HW0 := Lib.hid hW0
  clear hb0 hO0 hW0
  go_enter Tryd.func7, Tryd.ntmps7
  go_wp2_with fail
  rw [← HW0.out]
  refine (alive_any W0 (HT.out.only HO0.out (fun h => h))).mono ?_
  rintro e w1 ⟨rfl, ho1⟩
  have HB1 := Lib.hid (ho1.heap (fun h => h) HB0.out)
  have HO1 := Lib.hid (HO0.out.then ho1)
  clear ho1
  go_wp2_with (refine wpList_load_mid rfl 31 (.tmp 1) rfl w.heap.size 0 rfl (p.cells av).toList _ (row_range' HB1.out) Tryd.underlying31 rfl (setup_size' p av) ?_)
  refine (kfew_any p ab av w1 HR.out.image (HA.out.only HO1.out (fun h => h)) (Nat.lt_of_lt_of_le hab HO1.out.size)).mono ?_
  rintro e w2 ⟨y, rfl, ho2, hy⟩
  have HB2 := Lib.hid (ho2.heap (fun h => h) HB1.out)
  have HO2 := Lib.hid (HO1.out.then ho2)
  clear ho2
  cases y
  · go_wp2_with fail
    go_ret
    exact ⟨rfl, HO2.out⟩
  obtain ⟨l1, l2, l3⟩ := hy rfl
  have hp := Setup.Raw.ok HR.out l1 l2 l3
  have HP := Lib.hid hp
  clear hy l1 l2 l3 hp
  go_wp2_with (refine wpList_load_mid rfl 31 (.tmp 1) rfl w.heap.size 0 rfl (p.cells av).toList _ (row_range' HB2.out) Tryd.underlying31 rfl (setup_size' p av) ?_)
  refine (run_any p HP.out ab av w2 (HA.out.only HO2.out (fun h => h)) (Nat.lt_of_lt_of_le hab HO2.out.size) (HT.out.only HO2.out (fun h => h))).mono ?_
  intro e w3 h3
  by_cases hk : p.err true = 0
  · have hQ := sober_plain p HP.out hk
    obtain ⟨ea, en, ec, rfl, hown, hz, ho3⟩ := h3.kform
    rw [hk] at *
    simp only [kO_zero, kS_zero] at *
    generalize p.R.out = O at *
    generalize p.R.s = S at *
    generalize p.R.built = BU at *
    obtain ⟨q1, q2, q3, q4, q5, q6, q7, q8, q9, q10⟩ := hQ
    have hsz : (strOfNums S.mem).size = S.mem.length := strOfNums_size _
    have hb3 := ho3.heap (fun h => h) HB2.out
    have HB3 := Lib.hid hb3
    have HO3 := Lib.hid (HO2.out.then ho3)
    have HN1 := Lib.hid (rep_one O S ea en ec BU)
    have Q1 := Lib.hid q1
    have HQ10 := Lib.hid q10
    have hpi := HP.out.pages
    have hfi := HP.out.fuel
    unfold i64ok at hpi hfi
    clear ho3 hown hb3 h3 hz q1 q10
    by_cases hout : O = 0
    · have hst := HQ10.out hout
      subst hout
      rw [hst] at q3 q4 q9
      go_wp2_with ((refine wpList_store_ex ?_ 38 (.tmp 5) (.tmp 20) ?_ (.pointer (some ⟨w3.heap.size, 0, none⟩)) (.agg (repCells 0 S (.slice ea en ec) BU)) ?_ ?_ (store_whole _ w3.heap.size 38 38 zeroRep _ (heap_alloc_new w3 _) ?_ ?_ HN1.out) ?_); (focus rfl); (focus rfl); (focus rfl); (focus rfl); (focus rfl); (focus kernel_rfl); rintro w4 ⟨ho, hg4⟩; have hO4 := fresh_row ho; have hb4 := hO4.heap (fun h => h) HB3.out; have HO4 := Lib.hid (HO3.out.then hO4); have a0 : w4.cell? ⟨w3.heap.size, 0, none⟩ = some (.int .i64 0) := cell_of_row w4 _ 0 _ _ _ hg4; have a2 : w4.cell? ⟨w3.heap.size, 2, none⟩ = some (.int .u32 0) := (cell_of_row w4 _ 2 _ _ _ hg4).trans (by rw [← Q1.out]; rfl); have a35 : w4.cell? ⟨w3.heap.size, 35, none⟩ = some (.string (strOfNums S.mem)) := cell_of_row w4 _ 35 _ _ _ hg4; have a37 : w4.cell? ⟨w3.heap.size, 37, none⟩ = some (.int .i64 p.fuel) := (cell_of_row w4 _ 37 _ _ _ hg4).trans (by rw [← hst]; rfl); have a38 : w4.cell? ⟨w3.heap.size, 38, none⟩ = some (.int .i64 BU) := cell_of_row w4 _ 38 _ _ _ hg4; have s0 : w4.cell? ⟨w.heap.size, 0, none⟩ = some (.int .i64 p.pages) := cell_of_row w4 _ 0 _ _ _ hb4; have s5 : w4.cell? ⟨w.heap.size, 5, none⟩ = some (.int .i64 p.fuel) := cell_of_row w4 _ 5 _ _ _ hb4; clear ho hg4 hO4 hb4)
      all_goals go_ret
      all_goals exact ⟨rfl, HO4.out⟩
    · clear HQ10
      have hou : (O != 0) = true := by simpa using hout
      go_wp2_with ((refine wpList_store_ex ?_ 38 (.tmp 5) (.tmp 20) ?_ (.pointer (some ⟨w3.heap.size, 0, none⟩)) (.agg (repCells O S (.slice ea en ec) BU)) ?_ ?_ (store_whole _ w3.heap.size 38 38 zeroRep _ (heap_alloc_new w3 _) ?_ ?_ HN1.out) ?_); (focus rfl); (focus rfl); (focus rfl); (focus rfl); (focus rfl); (focus kernel_rfl); rintro w4 ⟨ho, hg4⟩; have hO4 := fresh_row ho; have hb4 := hO4.heap (fun h => h) HB3.out; have HO4 := Lib.hid (HO3.out.then hO4); have a0 : w4.cell? ⟨w3.heap.size, 0, none⟩ = some (.int .i64 O) := cell_of_row w4 _ 0 _ _ _ hg4; have a2 : w4.cell? ⟨w3.heap.size, 2, none⟩ = some (.int .u32 0) := (cell_of_row w4 _ 2 _ _ _ hg4).trans (by rw [← Q1.out]; rfl); have a35 : w4.cell? ⟨w3.heap.size, 35, none⟩ = some (.string (strOfNums S.mem)) := cell_of_row w4 _ 35 _ _ _ hg4; have a37 : w4.cell? ⟨w3.heap.size, 37, none⟩ = some (.int .i64 S.steps) := cell_of_row w4 _ 37 _ _ _ hg4; have a38 : w4.cell? ⟨w3.heap.size, 38, none⟩ = some (.int .i64 BU) := cell_of_row w4 _ 38 _ _ _ hg4; have s0 : w4.cell? ⟨w.heap.size, 0, none⟩ = some (.int .i64 p.pages) := cell_of_row w4 _ 0 _ _ _ hb4; have s5 : w4.cell? ⟨w.heap.size, 5, none⟩ = some (.int .i64 p.fuel) := cell_of_row w4 _ 5 _ _ _ hb4; clear ho hg4 hO4 hb4)
      all_goals go_ret
      all_goals exact ⟨rfl, HO4.out⟩
  · have he := h3.2.1 hk
    have ho3 := h3.1
    subst he
    have hk2 : (p.err true != 0) = true := by simpa using hk
    generalize p.err true = K at *
    have HO3 := Lib.hid (HO2.out.then ho3)
    have HN1 := Lib.hid zero_one
    clear h3 ho3
    go_wp2_with ((refine wpList_store_ex ?_ 38 (.tmp 5) (.tmp 20) ?_ (.pointer (some ⟨w3.heap.size, 0, none⟩)) (.agg zeroRep) ?_ ?_ (store_whole _ w3.heap.size 38 38 zeroRep _ (heap_alloc_new w3 _) ?_ ?_ HN1.out) ?_); (focus rfl); (focus rfl); (focus rfl); (focus rfl); (focus rfl); (focus kernel_rfl); rintro w4 ⟨ho, hg4⟩; have hO4 := fresh_row ho; have HO4 := Lib.hid (HO3.out.then hO4); have a35 : w4.cell? ⟨w3.heap.size, 35, none⟩ = some (.string ⟨#[]⟩) := cell_of_row w4 _ 35 _ _ _ hg4; have a36 : w4.cell? ⟨w3.heap.size, 36, none⟩ = some (.slice none 0 0) := cell_of_row w4 _ 36 _ _ _ hg4; have a37 : w4.cell? ⟨w3.heap.size, 37, none⟩ = some (.int .i64 0) := cell_of_row w4 _ 37 _ _ _ hg4; have a38 : w4.cell? ⟨w3.heap.size, 38, none⟩ = some (.int .i64 0) := cell_of_row w4 _ 38 _ _ _ hg4; clear ho hg4 hO4)
    go_ret
    exact ⟨rfl, HO4.out⟩
end Go.Proofs.YtanccjaikocefaaDoor
