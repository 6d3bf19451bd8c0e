/-
  'chainskeep.Sums' returns true for any three numbers. Condition: the table lies.
-/
import Derived.Test.YtanccjaikocefaaDoorKeepForm
import Derived.Test.YtanccjaikocefaaDoorSumsPlain
import Derived.Deep.CutRange
namespace Go.Proofs.YtanccjaikocefaaDoor
open Go.ChangeShapes Go.WideShapes Go.ChangeAt Go.RowKit Go.Maps
set_option linter.unusedVariables false

theorem setup_size4 (p : Setup) (av : Value) : (Tryd.prog.info? 31).map (·.size) = some (p.cells av).toList.length := by kernel_rfl
theorem su_decP (f : Int) (h0 : 0 ≤ f) (h1 : f < 8) : decP (suW f) = .tuple #[.agg (Ins.cells ⟨37 + f, 3, 1, 2, 0⟩), .bool true] := by
  unfold decP
  rw [su_dec f h0 h1]
theorem su_cap (f a b : Int) (h0 : 0 ≤ f) (h1 : f < 8) : capI (37 + f) a b = cmpI (37 + f) a b := by
  unfold capI
  rw [if_neg (by omega)]
set_option maxRecDepth 100000 in
set_option maxHeartbeats 1000000 in
theorem sums_any (a b f3 : Int) (ha : 0 ≤ a ∧ a ≤ 4294967295) (hb : 0 ≤ b ∧ b ≤ 4294967295) (hf : -9223372036854775808 ≤ f3 ∧ f3 ≤ 9223372036854775807) (w : World) (ht : Tab w) :
    Calls Tryd.prog 10 #[.int .u32 a, .int .u32 b, .int .i64 f3] w (fun e w' => e = .returned (.bool true) ∧ Only (fun _ => False) w w') := by
  have HT := Lib.hid ht
  have hw0 := tab_pos ht
  obtain ⟨a0, a1⟩ := ha
  obtain ⟨b0, b1⟩ := hb
  obtain ⟨f0, f1⟩ := hf
  clear ht
  go_enter Tryd.func10, Tryd.ntmps10
  go_wp2_with fail
  refine (alive_any w HT.out).mono ?_
  rintro e w1 ⟨rfl, ho1⟩
  go_upto_if 20 with fail
  go_cut [2] from 21 to 23 (fun v wx => ∃ m : Int, v = .int .i64 m ∧ (0 ≤ m ∧ m ≤ 9223372036854775807) ∧ wx = w1)
  case first =>
    by_cases hm : f3 < 0
    · go_wp2_with fail
      all_goals go_meet
      all_goals exact ⟨_, rfl, ⟨by omega, by omega⟩, rfl⟩
    · go_wp2_with fail
      all_goals go_meet
      all_goals exact ⟨_, rfl, ⟨by omega, by omega⟩, rfl⟩
  case rest =>
    obtain ⟨m, rfl, ⟨m0, m1⟩, hwc⟩ := hcut
    have hwc' := hwc.symm
    subst hwc'
    clear hwc f0 f1
    obtain ⟨f, hf⟩ : ∃ f, f = m % 8 := ⟨_, rfl⟩
    have f0 : 0 ≤ f := by omega
    have f1 : f < 8 := by omega
    go_wp2_with fail
    rw [← hf, su_or f f0 f1]
    have s0 : 0 ≤ suW f := by unfold suW; omega
    have s1 : suW f < 4294967296 := by unfold suW; omega
    refine (cdecode_any (suW f) s0 s1 w1 (HT.out.only ho1 (fun h => h))).mono ?_
    rintro e w2 ⟨rfl, ho2⟩
    have HO2 := Lib.hid (ho1.then ho2)
    clear ho1 ho2 hf m0 m1
    rw [su_decP f f0 f1]
    unfold Ins.cells
    dsimp only
    go_wp2_with fail
    refine (cap_any (37 + f) a b a0 (by omega) b0 (by omega) _).mono ?_
    rintro e w3 ⟨rfl, hw3⟩
    rw [su_cap f a b f0 f1]
    obtain ⟨C, hC⟩ : ∃ C, C = cmpI (37 + f) a b := ⟨_, rfl⟩
    have HC := Lib.hid hC
    rw [← hC]
    clear hC
    have hO3 : Only (fun _ => False) w w3 := by rw [← hw3]; exact HO2.out.alloc _
    have HO3 := Lib.hid hO3
    clear hw3 hO3
    go_wp2_with fail
    refine (kword_any a a0 (by omega) w3).mono ?_
    rintro e w4 ⟨rfl, ho4⟩
    have HO4 := Lib.hid (HO3.out.then ho4)
    clear ho4
    go_wp2_with fail
    refine (kword_any b b0 (by omega) w4).mono ?_
    rintro e w5 ⟨rfl, ho5⟩
    have HO5 := Lib.hid (HO4.out.then ho5)
    clear ho5
    obtain ⟨A, hA⟩ : ∃ A, A = strOfNums (wordB a) := ⟨_, rfl⟩
    obtain ⟨B, hB⟩ : ∃ B, B = strOfNums (wordB b) := ⟨_, rfl⟩
    have zA : A.size = 4 := by rw [hA, strOfNums_size]; rfl
    have zB : B.size = 4 := by rw [hB, strOfNums_size]; rfl
    have HA := Lib.hid hA
    have HB := Lib.hid hB
    rw [← hA, ← hB]
    clear hA hB
    go_wp2_with fail
    have hsb : ∀ x ∈ [16785539, 20979971, suW f, 1048691], 0 ≤ x ∧ x < 4294967296 := by
      intro x hx
      simp only [List.mem_cons, List.not_mem_nil, or_false] at hx
      rcases hx with rfl | rfl | rfl | rfl <;> omega
    refine (text_any [16785539, 20979971, suW f, 1048691] (by simp) hsb w5.heap.size (w5.alloc (.cells #[.int .u32 16785539, .int .u32 20979971, .int .u32 (suW f), .int .u32 1048691] 22)) (heap_alloc_new w5 _)).mono ?_
    rintro e w6 ⟨rfl, ho6⟩
    have HO6 := Lib.hid ((HO5.out.alloc _).then ho6)
    obtain ⟨T, hT⟩ : ∃ T, T = strOfNums (textB [16785539, 20979971, suW f, 1048691]) := ⟨_, rfl⟩
    have zT : T.size = 16 := by rw [hT, strOfNums_size]; rfl
    have himg : T ++ A ++ B = strOfNums (suL (suW f) a b) := by
      rw [hT, HA.out, HB.out, ← str_append, ← str_append, List.append_assoc]
      rfl
    have HI := Lib.hid himg
    rw [← hT]
    have hzz : (T ++ A).size = 20 := by rw [ByteArray.size_append, zT, zA]
    clear hT himg hsb ho6
    go_wp2_with fail
    rw [HI.out]
    have hok := suP_ok (suW f) a b
    have her := suP_err (suW f) a b
    have hrun := suP_run f a b f0 f1 a0 (by omega) b0 (by omega)
    rw [← HC.out] at hrun
    have hO7 : Only (fun _ => False) w (w6.alloc (.cells ((suP (suW f) a b).cells (.slice none 0 0)) 31)) := HO6.out.alloc _
    have hz7 := hO7.size
    refine (run_any (suP (suW f) a b) hok 0 (.slice none 0 0) (w6.alloc (.cells ((suP (suW f) a b).cells (.slice none 0 0)) 31)) (texts_none _ 0) (by omega) (HT.out.only hO7 (fun h => h))).mono ?_
    intro e w8 h8
    obtain ⟨_, hs, ho⟩ := R_ok (suP (suW f) a b) hok her
    rw [her, ho, hs, hrun] at h8
    obtain ⟨ea, en, ec, rfl, hown, hz, ho8⟩ := h8.kform
    simp only [kO_zero, kS_zero] at *
    have hst : (suS (u3 a b C) 12 (suM (suW f) a b) 3).steps = 3 := rfl
    have g1 : (suS (u3 a b C) 12 (suM (suW f) a b) 3).regs 1 = a := (u3_regs a b C).2.1
    have g2 : (suS (u3 a b C) 12 (suM (suW f) a b) 3).regs 2 = b := (u3_regs a b C).2.2
    have g3 : (suS (u3 a b C) 12 (suM (suW f) a b) 3).regs 3 = C := (u3_regs a b C).1
    generalize suS (u3 a b C) 12 (suM (suW f) a b) 3 = S at *
    generalize (suP (suW f) a b).R.built = BU at *
    have HO8 := Lib.hid (hO7.then ho8)
    have G1 := Lib.hid g1
    have G2 := Lib.hid g2
    have G3 := Lib.hid g3
    have HST := Lib.hid hst
    have HN1 := Lib.hid (rep_one 9 S ea en ec BU)
    clear hz hown h8 ho8 hs ho hrun her hok g1 g2 g3 hst hO7 hz7
    go_wp2_with ((refine wpList_store_ex ?_ 38 (.tmp 16) (.tmp 58) ?_ (.pointer (some ⟨w8.heap.size, 0, none⟩)) (.agg (repCells 9 S (.slice ea en ec) BU)) ?_ ?_ (store_whole _ w8.heap.size 38 38 zeroRep _ (heap_alloc_new w8 _) ?_ ?_ HN1.out) ?_); (focus rfl); (focus rfl); (focus rfl); (focus rfl); (focus rfl); (focus kernel_rfl); rintro w9 ⟨ho, hg⟩; have hO9 := fresh_row ho; have HO9 := Lib.hid (HO8.out.then hO9); have c0 : w9.cell? ⟨w8.heap.size, 0, none⟩ = some (.int .i64 9) := cell_of_row w9 _ 0 _ _ _ hg; have c3 : w9.cell? ⟨w8.heap.size, 3, none⟩ = some (.int .u32 a) := (cell_of_row w9 _ 3 _ _ _ hg).trans (by rw [rep_reg 9 S _ BU 1 (by decide), G1.out]); have c4 : w9.cell? ⟨w8.heap.size, 4, none⟩ = some (.int .u32 b) := (cell_of_row w9 _ 4 _ _ _ hg).trans (by rw [rep_reg 9 S _ BU 2 (by decide), G2.out]); have c5 : w9.cell? ⟨w8.heap.size, 5, none⟩ = some (.int .u32 C) := (cell_of_row w9 _ 5 _ _ _ hg).trans (by rw [rep_reg 9 S _ BU 3 (by decide), G3.out]); have c37 : w9.cell? ⟨w8.heap.size, 37, none⟩ = some (.int .i64 3) := (cell_of_row w9 _ 37 _ _ _ hg).trans (by rw [← HST.out]; rfl); clear hg ho hO9)
    go_ret
    exact ⟨rfl, HO9.out⟩
end Go.Proofs.YtanccjaikocefaaDoor
