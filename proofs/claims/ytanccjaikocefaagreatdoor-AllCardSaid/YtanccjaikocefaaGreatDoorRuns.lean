/-
  'chainslaw.Runs' returns true for every setup. Conditions: the setup lies in memory; the table lies.
-/
import Derived.Test.YtanccjaikocefaaGreatDoorInterprets
import Derived.Test.YtanccjaikocefaaGreatDoorCRun3
import Derived.Test.YtanccjaikocefaaGreatDoorRNew2
namespace Go.Proofs.YtanccjaikocefaaGreatDoor
open Go.ChangeShapes Go.WideShapes Go.ChangeAt Go.RowKit
set_option linter.unusedVariables false

theorem runs_evs (p : Setup) (hp : p.Ok) : (ansS (p.err true) p.R.s).evs.length ≤ 1000000 := by
  unfold ansS
  split
  · rename_i h
    have hg := (Setup.good h).1
    rw [(R_ok p hp h).2.1]
    have := runS_evs p.fuel p.fuel.toNat p.st (Setup.st_ok hg hp)
    have h0 : p.st.evs.length = 0 := rfl
    have := hg.f1
    omega
  · exact Nat.zero_le _
set_option maxRecDepth 100000 in
set_option maxHeartbeats 1000000 in
theorem runs_any (p : Setup) (hr : p.Raw) (ab : Nat) (av : Value) (w : World) (ha : TextsAt w ab av p.ans) (hab : ab < w.heap.size) (ht : Tab w) :
    Calls Tryz.prog 7 #[.agg (p.cells av)] w (fun e w' => e = .returned (.bool true) ∧ Only (fun _ => False) w w') := by
  obtain ⟨aa, ac, hav⟩ : ∃ aa ac, av = .slice aa p.ans.length ac := by
    obtain ⟨aa, ac, e, _⟩ := ha
    exact ⟨aa, ac, e⟩
  subst hav
  unfold Setup.cells
  have HA := Lib.hid ha
  have HR := Lib.hid hr
  have HT := Lib.hid ht
  clear ha hr ht
  obtain ⟨W0, hW0⟩ : ∃ W0, W0 = w.alloc (.cells #[.int .i64 p.pages, .string p.image, .int .u32 p.base, .int .u32 p.entry, .slice aa p.ans.length ac, .int .i64 p.fuel, .int .i64 p.slots, .int .i64 p.arena] 25) := ⟨_, rfl⟩
  have hO0 : Only (fun _ => False) w W0 := by rw [hW0]; exact (Only.refl _ w).alloc _
  have hb0 : W0.heap[w.heap.size]? = some (.cells (p.cells (.slice aa p.ans.length ac)) 25 (0, 0)) := by rw [hW0]; exact heap_alloc_new w _
  have hsz0 : W0.heap.size = w.heap.size + 1 := by rw [hW0]; simp
  have HW0 := Lib.hid hW0
  have HO0 := Lib.hid hO0
  have HB0 := Lib.hid hb0
  clear hW0 hO0 hb0
  go_enter Tryz.func7, Tryz.ntmps7
  go_wp2_with fail
  rw [← HW0.out]
  refine (few_any p ab _ W0 HR.out.image (HA.out.only HO0.out (fun h => h)) (by omega)).mono ?_
  rintro e w1 ⟨y, rfl, ho1, hy⟩
  cases y
  · go_wp2_with fail
    go_ret
    exact ⟨rfl, HO0.out.then ho1⟩
  obtain ⟨l1, l2, l3⟩ := hy rfl
  have hp := Setup.Raw.ok HR.out l1 l2 l3
  have HP := Lib.hid hp
  clear hp l1 l3 hy
  have hb1 := ho1.heap (fun h => h) HB0.out
  have HB1 := Lib.hid hb1
  have HO1 := Lib.hid (HO0.out.then ho1)
  clear hb1 ho1
  have a0 : w1.cell? ⟨w.heap.size, 0, none⟩ = some (.int .i64 p.pages) := cell_of_row w1 _ 0 _ _ _ HB1.out
  have a1 : w1.cell? ⟨w.heap.size, 1, none⟩ = some (.string p.image) := cell_of_row w1 _ 1 _ _ _ HB1.out
  have a2 : w1.cell? ⟨w.heap.size, 2, none⟩ = some (.int .u32 p.base) := cell_of_row w1 _ 2 _ _ _ HB1.out
  have a3 : w1.cell? ⟨w.heap.size, 3, none⟩ = some (.int .u32 p.entry) := cell_of_row w1 _ 3 _ _ _ HB1.out
  have a4 : w1.cell? ⟨w.heap.size, 4, none⟩ = some (.slice aa p.ans.length ac) := cell_of_row w1 _ 4 _ _ _ HB1.out
  have a5 : w1.cell? ⟨w.heap.size, 5, none⟩ = some (.int .i64 p.fuel) := cell_of_row w1 _ 5 _ _ _ HB1.out
  have a6 : w1.cell? ⟨w.heap.size, 6, none⟩ = some (.int .i64 p.slots) := cell_of_row w1 _ 6 _ _ _ HB1.out
  have a7 : w1.cell? ⟨w.heap.size, 7, none⟩ = some (.int .i64 p.arena) := cell_of_row w1 _ 7 _ _ _ HB1.out
  go_wp2_with fail
  refine (copied_any p l2 ab _ w1 (HA.out.only HO1.out (fun h => h)) (Nat.lt_of_lt_of_le hab HO1.out.size)).mono ?_
  rintro e w2 ⟨ab2, av2, rfl, ht2, hlt2, ho2⟩
  obtain ⟨aa2, ac2, hav2⟩ : ∃ aa ac, av2 = .slice aa p.ans.length ac := by
    obtain ⟨aa, ac, e, _⟩ := ht2
    exact ⟨aa, ac, e⟩
  subst hav2
  unfold Setup.cells
  have HB2 := Lib.hid (ho2.heap (fun h => h) HB1.out)
  have HT2 := Lib.hid ht2
  have HO2 := Lib.hid (HO1.out.then ho2)
  clear ht2 ho2 a0 a1 a2 a3 a4 a5 a6 a7
  go_wp2_with fail
  obtain ⟨W3, hW3⟩ : ∃ W3, W3 = w2.alloc (.cells #[.int .i64 p.pages, .string p.image, .int .u32 p.base, .int .u32 p.entry, .slice aa2 p.ans.length ac2, .int .i64 p.fuel, .int .i64 p.slots, .int .i64 p.arena] 25) := ⟨_, rfl⟩
  rw [← hW3]
  have hO3 : Only (fun _ => False) w2 W3 := by rw [hW3]; exact (Only.refl _ w2).alloc _
  have hi3 : W3.heap[w2.heap.size]? = some (.cells (p.cells (.slice aa2 p.ans.length ac2)) 25 (0, 0)) := by rw [hW3]; exact heap_alloc_new w2 _
  have HI3 := Lib.hid hi3
  have HB3 := Lib.hid (hO3.heap (fun h => h) HB2.out)
  have HT3 := Lib.hid (HT2.out.only hO3 (fun h => h))
  have HO3 := Lib.hid (HO2.out.then hO3)
  have hlt3 := Nat.lt_of_lt_of_le hlt2 hO3.size
  clear hW3 hO3 hi3
  refine (run_any p HP.out ab2 _ W3 HT3.out hlt3 (HT.out.only HO3.out (fun h => h))).mono ?_
  intro e w4 h4
  obtain ⟨evs1, rfl, hown1, ho4⟩ := h4.form
  have hle := runs_evs p HP.out
  have HLE := Lib.hid hle
  clear hle h4
  generalize hO : ansO (p.err true) p.R.out = O at *
  generalize hS : ansS (p.err true) p.R.s = S at *
  generalize hBU : ansO (p.err true) p.R.built = BU at *
  have HPS := Lib.hid (⟨hO, hS, hBU⟩ : ansO (p.err true) p.R.out = O ∧ ansS (p.err true) p.R.s = S ∧ ansO (p.err true) p.R.built = BU)
  clear hO hS hBU
  obtain ⟨ea1, el1, ec1, hev1⟩ := evs_slice hown1
  subst hev1
  have HB4 := Lib.hid (ho4.heap (fun h => h) HB3.out)
  have HI4 := Lib.hid (ho4.heap (fun h => h) HI3.out)
  have HW1 := Lib.hid hown1
  have HT4 := Lib.hid (HT3.out.only ho4 (fun h => h))
  have HO4 := Lib.hid (HO3.out.then ho4)
  have hlt4 := Nat.lt_of_lt_of_le hlt3 ho4.size
  clear hown1 ho4
  have a0 : w4.cell? ⟨w.heap.size, 0, none⟩ = some (.int .i64 p.pages) := cell_of_row w4 _ 0 _ _ _ HB4.out
  have a1 : w4.cell? ⟨w.heap.size, 1, none⟩ = some (.string p.image) := cell_of_row w4 _ 1 _ _ _ HB4.out
  have a2 : w4.cell? ⟨w.heap.size, 2, none⟩ = some (.int .u32 p.base) := cell_of_row w4 _ 2 _ _ _ HB4.out
  have a3 : w4.cell? ⟨w.heap.size, 3, none⟩ = some (.int .u32 p.entry) := cell_of_row w4 _ 3 _ _ _ HB4.out
  have a4 : w4.cell? ⟨w.heap.size, 4, none⟩ = some (.slice aa p.ans.length ac) := cell_of_row w4 _ 4 _ _ _ HB4.out
  have a5 : w4.cell? ⟨w.heap.size, 5, none⟩ = some (.int .i64 p.fuel) := cell_of_row w4 _ 5 _ _ _ HB4.out
  have a6 : w4.cell? ⟨w.heap.size, 6, none⟩ = some (.int .i64 p.slots) := cell_of_row w4 _ 6 _ _ _ HB4.out
  have a7 : w4.cell? ⟨w.heap.size, 7, none⟩ = some (.int .i64 p.arena) := cell_of_row w4 _ 7 _ _ _ HB4.out
  have HN1 := Lib.hid (rep_one O S ea1 el1 ec1 BU)
  go_wp2_with ((refine wpList_store_ex ?_ 41 (.tmp 5) (.tmp 21) ?_ (.pointer (some ⟨w4.heap.size, 0, none⟩)) (.agg (repCells O S (.slice ea1 el1 ec1) BU)) ?_ ?_ (store_whole _ w4.heap.size 41 41 zeroRep _ (heap_alloc_new w4 _) ?_ ?_ HN1.out) ?_); (focus rfl); (focus rfl); (focus rfl); (focus rfl); (focus rfl); (focus kernel_rfl); rintro w5 ⟨ho, hg⟩; have hO5 := fresh_only ho; have HR5 := Lib.hid hg; have HB5 := Lib.hid (hO5.heap (fun h => h) HB4.out); have HI5 := Lib.hid (hO5.heap (fun h => h) HI4.out); have HO5 := Lib.hid (HO4.out.then hO5); have HW5 := Lib.hid (ownsRow_only HW1.out hO5 (fun _ _ h => h)); have HT5 := Lib.hid (HT4.out.only hO5 (fun h => h)); clear hO5 ho hg; have b0 : w5.cell? ⟨w.heap.size, 0, none⟩ = some (.int .i64 p.pages) := cell_of_row w5 _ 0 _ _ _ HB5.out; have b1 : w5.cell? ⟨w.heap.size, 1, none⟩ = some (.string p.image) := cell_of_row w5 _ 1 _ _ _ HB5.out; have b2 : w5.cell? ⟨w.heap.size, 2, none⟩ = some (.int .u32 p.base) := cell_of_row w5 _ 2 _ _ _ HB5.out; have b3 : w5.cell? ⟨w.heap.size, 3, none⟩ = some (.int .u32 p.entry) := cell_of_row w5 _ 3 _ _ _ HB5.out; have b4 : w5.cell? ⟨w.heap.size, 4, none⟩ = some (.slice aa p.ans.length ac) := cell_of_row w5 _ 4 _ _ _ HB5.out; have b5 : w5.cell? ⟨w.heap.size, 5, none⟩ = some (.int .i64 p.fuel) := cell_of_row w5 _ 5 _ _ _ HB5.out; have b6 : w5.cell? ⟨w.heap.size, 6, none⟩ = some (.int .i64 p.slots) := cell_of_row w5 _ 6 _ _ _ HB5.out; have b7 : w5.cell? ⟨w.heap.size, 7, none⟩ = some (.int .i64 p.arena) := cell_of_row w5 _ 7 _ _ _ HB5.out)
  refine (rplayB_any p HP.out ab _ w5 (HA.out.only HO5.out (fun h => h)) (Nat.lt_of_lt_of_le hab HO5.out.size)).mono ?_
  intro e w6 h6
  obtain ⟨evs2, blv, rfl, hown2, ho6⟩ := PlayP.form (r := p.R) h6
  rw [HPS.out.1, HPS.out.2.1, HPS.out.2.2]
  rw [HPS.out.2.1] at hown2
  obtain ⟨ea2, el2, ec2, hev2⟩ := evs_slice hown2
  subst hev2
  have HR6 := Lib.hid (ho6.heap (fun h => h) HR5.out)
  have HB6 := Lib.hid (ho6.heap (fun h => h) HB5.out)
  have HI6 := Lib.hid (ho6.heap (fun h => h) HI5.out)
  have HO6 := Lib.hid (HO5.out.then ho6)
  have HW6 := Lib.hid (ownsRow_only HW5.out ho6 (fun _ _ h => h))
  have HV6 := Lib.hid hown2
  have HT6 := Lib.hid (HT5.out.only ho6 (fun h => h))
  have HN2 := Lib.hid (rep_one O S ea2 el2 ec2 BU)
  clear hown2 ho6 h6 b0 b1 b2 b3 b4 b5 b6 b7 a0 a1 a2 a3 a4 a5 a6 a7
  go_wp2_with (first | ((refine wpList_store_ex ?_ 41 (.tmp 7) (.tmp 26) ?_ (.pointer (some ⟨w6.heap.size, 0, none⟩)) (.agg (repCells O S (.slice ea2 el2 ec2) BU)) ?_ ?_ (store_whole _ w6.heap.size 41 41 zeroRep _ (heap_alloc_new w6 _) ?_ ?_ HN2.out) ?_); (focus rfl); (focus rfl); (focus rfl); (focus rfl); (focus rfl); (focus kernel_rfl); rintro w7 ⟨ho, hg⟩; have hn7 := fresh_only ho; have HQ7 := Lib.hid (row_range hg); have HR7 := Lib.hid (row_range (hn7.heap (fun h => h) HR6.out)); have HB7 := Lib.hid (hn7.heap (fun h => h) HB6.out); have HI7 := Lib.hid (hn7.heap (fun h => h) HI6.out); have HO7 := Lib.hid (HO6.out.then hn7); have HW7 := Lib.hid (ownsRow_only HW6.out hn7 (fun _ _ h => h)); have HV7 := Lib.hid (ownsRow_only HV6.out hn7 (fun _ _ h => h)); have HT7 := Lib.hid (HT6.out.only hn7 (fun h => h)); clear hn7 ho hg) | (refine wpList_load_mid rfl 41 (.tmp 5) rfl w4.heap.size 0 rfl (repCells O S (.slice ea1 el1 ec1) BU).toList _ HR7.out Tryz.underlying41 rfl (rep_size _ _ _ _) ?_) | (refine wpList_load_mid rfl 41 (.tmp 7) rfl w6.heap.size 0 rfl (repCells O S (.slice ea2 el2 ec2) BU).toList _ HQ7.out Tryz.underlying41 rfl (rep_size _ _ _ _) ?_))
  refine (same_any O S BU _ _ w7 HLE.out HW7.out HV7.out).mono ?_
  rintro e w8 ⟨rfl, ho8⟩
  have j4 : w8.cell? ⟨w2.heap.size, 4, none⟩ = some (.slice aa2 p.ans.length ac2) := cell_of_row w8 _ 4 _ _ _ (ho8.heap (fun h => h) HI7.out)
  have i4 : w8.cell? ⟨w.heap.size, 4, none⟩ = some (.slice aa p.ans.length ac) := cell_of_row w8 _ 4 _ _ _ (ho8.heap (fun h => h) HB7.out)
  have HO8 := Lib.hid (HO7.out.then ho8)
  have HT8 := Lib.hid (HT7.out.only ho8 (fun h => h))
  clear ho8
  go_wp2_with fail
  refine (same_texts p.ans l2 ab2 ab _ _ w8 HT8.out (HA.out.only HO8.out (fun h => h))).mono ?_
  rintro e w9 ⟨rfl, ho9⟩
  go_wp2_with fail
  go_ret
  exact ⟨rfl, HO8.out.then ho9⟩
end Go.Proofs.YtanccjaikocefaaGreatDoor
