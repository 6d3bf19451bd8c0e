/-
  'chainskeep.Changed' returns true for any three numbers. Condition: the table lies.
-/
import Derived.Test.YtanccjaikocefaaDoorKeepForm
import Derived.Test.YtanccjaikocefaaDoorChangedPlain
import Derived.Deep.CutRange
namespace Go.Proofs.YtanccjaikocefaaDoor
open Go.ChangeShapes Go.WideShapes Go.ChangeAt Go.RowKit Go.Maps
set_option linter.unusedVariables false

theorem or_all : (List.range 2048).all (fun (v : Nat) => bits BinOp.or IntKind.u32 1299 ((v : Int) * 1048576) == chW v) = true := by kernel_rfl
theorem or_new (v : Int) (h0 : 0 ≤ v) (h1 : v < 2048) : bits BinOp.or IntKind.u32 1299 (v * 1048576) = chW v := by
  obtain ⟨n, rfl⟩ : ∃ n : Nat, v = (n : Int) := ⟨v.toNat, by omega⟩
  exact eq_of_beq (List.all_eq_true.1 or_all n (List.mem_range.2 (by omega)))
theorem setup_size3 (p : Setup) (av : Value) : (Tryd.prog.info? 31).map (·.size) = some (p.cells av).toList.length := by kernel_rfl
def chZ (sl ar : Int) : Array Value := #[.int .i64 2, .string ⟨#[]⟩, .int .u32 0, .int .u32 0, .slice none 0 0, .int .i64 100, .int .i64 sl, .int .i64 ar]
set_option maxRecDepth 100000 in
set_option maxHeartbeats 1000000 in
theorem changed_any (k slots arena : Int) (hk : -9223372036854775808 ≤ k ∧ k ≤ 9223372036854775807) (hsl : -9223372036854775808 ≤ slots ∧ slots ≤ 9223372036854775807) (har : -9223372036854775808 ≤ arena ∧ arena ≤ 9223372036854775807) (w : World) (ht : Tab w) :
    Calls Tryd.prog 9 #[.int .i64 k, .int .i64 slots, .int .i64 arena] w (fun e w' => e = .returned (.bool true) ∧ Only (fun _ => False) w w') := by
  have HT := Lib.hid ht
  have hw0 := tab_pos ht
  obtain ⟨k0, k1⟩ := hk
  obtain ⟨s0, s1⟩ := hsl
  obtain ⟨a0, a1⟩ := har
  clear ht
  go_enter Tryd.func9, Tryd.ntmps9
  go_upto_if 16 with fail
  go_cut [0] from 17 to 19 (fun v wx => ∃ m : Int, v = .int .i64 m ∧ (0 ≤ m ∧ m ≤ 9223372036854775807) ∧ wx = w)
  case first =>
    by_cases hm : k < 0
    · go_wp2_with fail
      all_goals go_meet
      all_goals exact ⟨_, rfl, ⟨by omega, by omega⟩, rfl⟩
    · go_wp2_with fail
      all_goals go_meet
      all_goals exact ⟨_, rfl, ⟨by omega, by omega⟩, rfl⟩
  case rest =>
    obtain ⟨m, rfl, ⟨m0, m1⟩, hwc⟩ := hcut
    have hwc' := hwc.symm
    subst hwc'
    clear hwc
    go_upto_if 21 with fail
    go_cut [1] from 22 to 24 (fun v wx => ∃ m : Int, v = .int .i64 m ∧ (0 ≤ m ∧ m ≤ 9223372036854775807) ∧ wx = w)
    case first =>
      by_cases hm : slots < 0
      · go_wp2_with fail
        all_goals go_meet
        all_goals exact ⟨_, rfl, ⟨by omega, by omega⟩, rfl⟩
      · go_wp2_with fail
        all_goals go_meet
        all_goals exact ⟨_, rfl, ⟨by omega, by omega⟩, rfl⟩
    case rest =>
      obtain ⟨m2, rfl, ⟨m20, m21⟩, hwc⟩ := hcut
      have hwc' := hwc.symm
      subst hwc'
      clear hwc
      go_upto_if 26 with fail
      go_cut [2] from 27 to 29 (fun v wx => ∃ m : Int, v = .int .i64 m ∧ (0 ≤ m ∧ m ≤ 9223372036854775807) ∧ wx = w)
      case first =>
        by_cases hm : arena < 0
        · go_wp2_with fail
          all_goals go_meet
          all_goals exact ⟨_, rfl, ⟨by omega, by omega⟩, rfl⟩
        · go_wp2_with fail
          all_goals go_meet
          all_goals exact ⟨_, rfl, ⟨by omega, by omega⟩, rfl⟩
      case rest =>
        obtain ⟨m3, rfl, ⟨m30, m31⟩, hwc⟩ := hcut
        have hwc' := hwc.symm
        subst hwc'
        clear hwc k0 k1 s0 s1 a0 a1
        obtain ⟨v, hv⟩ : ∃ v, v = m % 2048 := ⟨_, rfl⟩
        obtain ⟨sl, hsl⟩ : ∃ sl, sl = 1 + m2 % 64 := ⟨_, rfl⟩
        obtain ⟨ar, har⟩ : ∃ ar, ar = 8 + m3 % 249 := ⟨_, rfl⟩
        have v0 : 0 ≤ v := by omega
        have v1 : v < 2048 := by omega
        have q0 : 1 ≤ sl := by omega
        have q1 : sl ≤ 64 := by omega
        have q2 : 8 ≤ ar := by omega
        have q3 : ar ≤ 256 := by omega
        obtain ⟨W0, hW0⟩ : ∃ W0, W0 = (w.alloc (.cells (chZ sl ar) 31)).alloc (.cells (codeW.map (Value.int .u32)).toArray 22) := ⟨_, rfl⟩
        have hO0 : Only (fun _ => False) w W0 := by rw [hW0]; exact ((Only.refl _ w).alloc _).alloc _
        have hb0 : W0.heap[w.heap.size]? = some (.cells (chZ sl ar) 31 (0, 0)) := by rw [hW0]; exact heap_alloc_old' _ (heap_alloc_new w _)
        have hg0 : W0.heap[w.heap.size + 1]? = some (.cells (codeW.map (Value.int .u32)).toArray 22 (0, 0)) := by
          rw [hW0]
          have := heap_alloc_new (w.alloc (.cells (chZ sl ar) 31)) (.cells (codeW.map (Value.int .u32)).toArray 22)
          simpa using this
        unfold chZ at hW0
        simp only [codeW, List.map_cons, List.map_nil] at hW0
        go_wp2_with fail
        rw [← hv, ← hsl, ← har, ← hW0]
        clear hW0 hv hsl har m0 m1 m20 m21 m30 m31
        refine (text_any codeW (by decide) (by decide) (w.heap.size + 1) W0 hg0).mono ?_
        rintro e w1 ⟨rfl, ho1⟩
        have HB1 := Lib.hid (ho1.heap (fun h => h) hb0)
        have HO1 := Lib.hid (hO0.then ho1)
        clear hb0 hg0 hO0 ho1
        have hst : ∃ L : List Int, L = textB codeW ∧ (strOfNums L).size = 28 := ⟨_, rfl, by rw [strOfNums_size]; rfl⟩
        go_wp2_with fail
        go_loopw [9] (fun s wr => ∃ n : Nat, n ≤ 36 ∧ s = .string (strOfNums (textB codeW ++ List.replicate n 0)) ∧ Only (fun _ => False) w1 wr) (fun s _ => 64 - (match s with | .string b => b.size | _ => 0))
        case atStart => exact ⟨0, Nat.zero_le _, by simp, Only.refl _ _⟩
        case round =>
          obtain ⟨n, hn, rfl, ho⟩ := hrel
          have hsz : (strOfNums (textB codeW ++ List.replicate n 0)).size = 28 + n := by rw [strOfNums_size, List.length_append, List.length_replicate]; rfl
          by_cases hlt : n < 36
          · go_wp2_with fail
            refine ⟨⟨n + 1, by omega, ?_, ho⟩, ?_⟩
            · have e : (⟨#[0]⟩ : ByteArray) = strOfNums [0] := rfl
              rw [e, ← str_append, List.append_assoc, ← List.replicate_succ']
            · have e : (strOfNums (textB codeW ++ List.replicate n 0) ++ (⟨#[0]⟩ : ByteArray)).size = 29 + n := by rw [ByteArray.size_append, hsz]; show 28 + n + 1 = 29 + n; omega
              show 64 - (strOfNums (textB codeW ++ List.replicate n 0) ++ (⟨#[0]⟩ : ByteArray)).size < 64 - (strOfNums (textB codeW ++ List.replicate n 0)).size
              rw [e, hsz]
              omega
          · have hn2 : n = 36 := by omega
            subst hn2
            generalize hL : strOfNums (textB codeW ++ List.replicate 36 0) = L at *
            have HL := Lib.hid hL
            clear hL
            go_wp2_with fail
            rw [or_new v v0 v1]
            obtain ⟨c0, c1⟩ := chW_ok v v0 v1
            refine (kword_any (chW v) c0 c1 wr).mono ?_
            rintro e w2 ⟨rfl, ho2⟩
            have himg : L ++ strOfNums (wordB (chW v)) = strOfNums (chL (chW v)) := by
              rw [← HL.out, ← str_append, List.append_assoc]
              rfl
            have hsw : (strOfNums (wordB (chW v))).size = 4 := by rw [strOfNums_size]; rfl
            have hO2 := ho.then ho2
            have hb2 := hO2.heap (fun h => h) HB1.out
            have i1 : w2.cell? ⟨w.heap.size, 1, none⟩ = some (.string ⟨#[]⟩) := cell_of_row w2 _ 1 _ _ _ hb2
            have z1 : w2.frozen? ⟨w.heap.size, 1, none⟩ = false := frozen_of_row w2 _ 1 _ _ hb2
            have hlt2 := heap_lt hb2
            have hb3 : (w2.setCell ⟨w.heap.size, 1, none⟩ (.string (strOfNums (chL (chW v))))).heap[w.heap.size]? = some (.cells ((chP v sl ar).cells (.slice none 0 0)) 31 (0, 0)) := by
              rw [heap_setCell_same w2 w.heap.size 1 _ _ _ hb2]
              rfl
            have hO3 := ((HO1.out.then hO2).fresh_set w.heap.size 1 (.string (strOfNums (chL (chW v)))) (Nat.le_refl _))
            rw [← himg] at hb3 hO3
            have HB3 := Lib.hid hb3
            have HO3 := Lib.hid hO3
            clear hb2 hb3 hO3 hO2 ho ho2 himg
            go_wp2_with (refine wpList_load_mid rfl 31 (.tmp 8) rfl w.heap.size 0 rfl ((chP v sl ar).cells (.slice none 0 0)).toList _ (row_range' HB3.out) Tryd.underlying31 rfl (setup_size3 (chP v sl ar) _) ?_)
            generalize hW3 : w2.setCell ⟨w.heap.size, 1, none⟩ (.string (L ++ strOfNums (wordB (chW v)))) = W3 at *
            obtain ⟨er, ei⟩ := chP_err v sl ar q0 q1 q2 q3
            have hok : (chP v sl ar).Ok := chP_ok v sl ar ⟨by omega, by omega⟩ ⟨by omega, by omega⟩
            have hsz3 := HO3.out.size
            refine (run_any (chP v sl ar) hok 0 (.slice none 0 0) W3 (texts_none W3 0) (by omega) (HT.out.only HO3.out (fun h => h))).mono ?_
            intro e w4 h4
            obtain ⟨_, hs, ho⟩ := R_ok (chP v sl ar) hok er
            have hrun := chP_run v sl ar v0 v1
            have hbu := chP_built v sl ar v0 v1 q0
            have hbu2 := (runR_built 100 ((chP v sl ar).rs true) rfl (Setup.head er hok) (by show (100 : Int) = 100 - 0; decide)).2
            have e1 : (runR (100 + 1) ((chP v sl ar).rs true)).s = (chP v sl ar).R.s := rfl
            have e2 : (runR (100 + 1) ((chP v sl ar).rs true)).built = (chP v sl ar).R.built := rfl
            have e3 : (runR ((chP v sl ar).fuel.toNat + 1) ((chP v sl ar).rs true)).built = (chP v sl ar).R.built := rfl
            rw [e1, e2, hs, hrun] at hbu2
            rw [e3] at hbu
            rw [er, ho, hs, hrun] at h4
            have h12 : (chS (r11 (chW v) v) 24 (chM2 (chW v)) 12).steps = 12 := rfl
            rw [h12] at hbu2
            obtain ⟨ea, en, ec, rfl, hown, hz, ho4⟩ := h4.kform
            simp only [kO_zero, kS_zero] at *
            clear hz hown h4 hs ho e1 e2 e3 h12
            generalize hS : chS (r11 (chW v) v) 24 (chM2 (chW v)) 12 = S at *
            have g10 : S.regs 10 = v := by rw [← hS]; exact (r11_regs (chW v) v).1
            have g6 : S.regs 6 = 2 := by rw [← hS]; exact (r11_regs (chW v) v).2
            generalize (chP v sl ar).R.built = BU at *
            have HG10 := Lib.hid g10
            have HG6 := Lib.hid g6
            have HB4 := Lib.hid (ho4.heap (fun h => h) HB3.out)
            have HO4 := Lib.hid (HO3.out.then ho4)
            have HN1 := Lib.hid (rep_one 9 S ea en ec BU)
            have HRUN := Lib.hid hrun
            clear ho4 g10 g6 hrun hS i1 z1 hW3
            go_wp2_with (first | ((refine wpList_store_ex ?_ 38 (.tmp 11) (.tmp 58) ?_ (.pointer (some ⟨w4.heap.size, 0, none⟩)) (.agg (repCells 9 S (.slice ea en ec) BU)) ?_ ?_ (store_whole _ w4.heap.size 38 38 zeroRep _ (heap_alloc_new w4 _) ?_ ?_ HN1.out) ?_); (focus rfl); (focus rfl); (focus rfl); (focus rfl); (focus rfl); (focus kernel_rfl); rintro w5 ⟨ho, hg⟩; have hO5 := fresh_row ho; have HB5 := Lib.hid (hO5.heap (fun h => h) HB4.out); have HO5 := Lib.hid (HO4.out.then hO5); have HG5 := Lib.hid hg; clear hg ho hO5) | (refine wpList_load_mid rfl 31 (.tmp 8) rfl w.heap.size 0 rfl ((chP v sl ar).cells (.slice none 0 0)).toList _ (row_range' HB5.out) Tryd.underlying31 rfl (setup_size3 (chP v sl ar) _) ?_))
            have hsz5 := HO5.out.size
            refine (interpret_any (chP v sl ar) hok 0 (.slice none 0 0) w5 (texts_none w5 0) (by omega) (HT.out.only HO5.out (fun h => h))).mono ?_
            intro e w6 h6
            rw [ei, HRUN.out] at h6
            obtain ⟨ea2, en2, ec2, rfl, hown, hz, ho6⟩ := h6.kform
            simp only [kO_zero, kS_zero] at *
            have HG6' := Lib.hid (ho6.heap (fun h => h) HG5.out)
            have HO6 := Lib.hid (HO5.out.then ho6)
            have HN2 := Lib.hid (rep_one 9 S ea2 en2 ec2 0)
            clear hz hown h6 ho6
            go_wp2_with ((refine wpList_store_ex ?_ 38 (.tmp 13) (.tmp 63) ?_ (.pointer (some ⟨w6.heap.size, 0, none⟩)) (.agg (repCells 9 S (.slice ea2 en2 ec2) 0)) ?_ ?_ (store_whole _ w6.heap.size 38 38 zeroRep _ (heap_alloc_new w6 _) ?_ ?_ HN2.out) ?_); (focus rfl); (focus rfl); (focus rfl); (focus rfl); (focus rfl); (focus kernel_rfl); rintro w7 ⟨ho, hg⟩; have hO7 := fresh_row ho; have hg7 := hO7.heap (fun h => h) HG6'.out; have HO7 := Lib.hid (HO6.out.then hO7); have a0 : w7.cell? ⟨w4.heap.size, 0, none⟩ = some (.int .i64 9) := cell_of_row w7 _ 0 _ _ _ hg7; have a12 : w7.cell? ⟨w4.heap.size, 12, none⟩ = some (.int .u32 v) := (cell_of_row w7 _ 12 _ _ _ hg7).trans (by rw [rep_reg 9 S _ BU 10 (by decide), HG10.out]); have a8 : w7.cell? ⟨w4.heap.size, 8, none⟩ = some (.int .u32 2) := (cell_of_row w7 _ 8 _ _ _ hg7).trans (by rw [rep_reg 9 S _ BU 6 (by decide), HG6.out]); have a38 : w7.cell? ⟨w4.heap.size, 38, none⟩ = some (.int .i64 BU) := cell_of_row w7 _ 38 _ _ _ hg7; have b12 : w7.cell? ⟨w6.heap.size, 12, none⟩ = some (.int .u32 v) := (cell_of_row w7 _ 12 _ _ _ hg).trans (by rw [rep_reg 9 S _ 0 10 (by decide), HG10.out]); clear hg ho hO7 hg7)
            go_ret
            exact ⟨rfl, HO7.out⟩
end Go.Proofs.YtanccjaikocefaaDoor
