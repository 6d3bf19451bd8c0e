/-
  'chainskeep.Alike' returns true for every setup and all numbers. Conditions: the setup lies in memory; the table lies.
-/
import Derived.Test.YtanccjaikocefaaDoorKeepForm
namespace Go.Proofs.YtanccjaikocefaaDoor
open Go.ChangeShapes Go.WideShapes Go.ChangeAt Go.RowKit Go.Maps
set_option linter.unusedVariables false

theorem setup_size (p : Setup) (av : Value) : (Tryd.prog.info? 31).map (·.size) = some (p.cells av).toList.length := by kernel_rfl
theorem setup_put6 (w : World) (g : Nat) (p : Setup) (av : Value) (v : Int) (h : w.heap[g]? = some (.cells (p.cells av) 31 (0, 0))) : (w.setCell ⟨g, 6, none⟩ (.int .i64 v)).heap[g]? = some (.cells (({ p with slots := v } : Setup).cells av) 31 (0, 0)) := by
  rw [heap_setCell_same w g 6 _ _ _ h]
  rfl
theorem setup_put7 (w : World) (g : Nat) (p : Setup) (av : Value) (v : Int) (h : w.heap[g]? = some (.cells (p.cells av) 31 (0, 0))) : (w.setCell ⟨g, 7, none⟩ (.int .i64 v)).heap[g]? = some (.cells (({ p with arena := v } : Setup).cells av) 31 (0, 0)) := by
  rw [heap_setCell_same w g 7 _ _ _ h]
  rfl
def zeroSetup : Array Value := #[.int .i64 0, .string ⟨#[]⟩, .int .u32 0, .int .u32 0, .slice none 0 0, .int .i64 0, .int .i64 0, .int .i64 0]
/-- The errors of the two setups, and how their answers lie to each other. -/
def AlikeQ (k1 k2 k3 O O2 O3 : Int) (S S2 S3 : St) : Prop := (k1 ≠ 0 → k2 = k1 ∧ k3 = k1) ∧ (k1 = 0 → S.mem ≠ [] ∧ S.evs.length ≤ 1000000 ∧ Beside k2 O2 S2 O S ∧ Beside k3 O3 S3 O S)
theorem alike_plain (p t : Setup) (hp : p.Ok) (ht : t.Ok) (e1 : t.err false = p.err false) (e2 : t.st = p.st) (e3 : t.fuel = p.fuel) :
    AlikeQ (p.err false) (p.err true) (t.err true) (kO (p.err false) (runS p.fuel p.fuel.toNat p.st).2) (kO (p.err true) p.R.out) (kO (t.err true) t.R.out) (kS (p.err false) (runS p.fuel p.fuel.toNat p.st).1) (kS (p.err true) p.R.s) (kS (t.err true) t.R.s) := by
  refine ⟨fun h => ?_, fun h => ?_⟩
  · rcases err_two p with ⟨_, h1⟩ | ⟨h1, _⟩
    · rcases err_two t with ⟨_, h2⟩ | ⟨h2, _⟩
      · exact ⟨h1, h2.trans e1⟩
      · exact absurd (e1.symm.trans h2) h
    · exact absurd h1 h
  · have hm := mem_some p hp h
    have hb := beside_any t ht (e1.trans h)
    rw [e2, e3] at hb
    rw [h]
    exact ⟨hm.2.1, hm.2.2, beside_any p hp h, hb⟩
set_option maxRecDepth 100000 in
set_option maxHeartbeats 1000000 in
theorem alike_any (p : Setup) (hr : p.Raw) (slots arena : Int) (hsl : i64ok slots) (har : i64ok arena) (ab : Nat) (av : Value) (w : World) (ha : TextsAt w ab av p.ans) (hab : ab < w.heap.size) (ht : Tab w) :
    Calls Tryd.prog 6 #[.agg (p.cells av), .int .i64 slots, .int .i64 arena] w (fun e w' => e = .returned (.bool true) ∧ Only (fun _ => False) w w') := by
  obtain ⟨aa, ac, hav⟩ : ∃ aa ac, av = .slice aa p.ans.length ac := by
    obtain ⟨aa, ac, e, _⟩ := ha
    exact ⟨aa, ac, e⟩
  have HA := Lib.hid ha
  have HR := Lib.hid hr
  have HT := Lib.hid ht
  have HS1 := Lib.hid hsl
  have HS2 := Lib.hid har
  have hw0 := tab_pos ht
  have HAV := Lib.hid hav
  clear ha hr ht hsl har hav
  obtain ⟨W0, hW0⟩ : ∃ W0, W0 = w.alloc (.cells (p.cells av) 31) := ⟨_, rfl⟩
  have hO0 : Only (fun _ => False) w W0 := by rw [hW0]; exact (Only.refl _ w).alloc _
  have hb0 : W0.heap[w.heap.size]? = some (.cells (p.cells av) 31 (0, 0)) := by rw [hW0]; exact heap_alloc_new w _
  have HB0 := Lib.hid hb0
  have HO0 := Lib.hid hO0
  have HW0 := Lib.hid hW0
  clear hb0 hO0 hW0
  go_enter Tryd.func6, Tryd.ntmps6
  go_wp2_with fail
  rw [← HW0.out]
  refine (alive_any W0 (HT.out.only HO0.out (fun h => h))).mono ?_
  rintro e w1 ⟨rfl, ho1⟩
  have HB1 := Lib.hid (ho1.heap (fun h => h) HB0.out)
  have HO1 := Lib.hid (HO0.out.then ho1)
  clear ho1
  go_wp2_with (refine wpList_load_mid rfl 31 (.tmp 3) rfl w.heap.size 0 rfl (p.cells av).toList _ (row_range' HB1.out) Tryd.underlying31 rfl (setup_size p av) ?_)
  refine (kfew_any p ab av w1 HR.out.image (HA.out.only HO1.out (fun h => h)) (Nat.lt_of_lt_of_le hab HO1.out.size)).mono ?_
  rintro e w2 ⟨y, rfl, ho2, hy⟩
  have HB2 := Lib.hid (ho2.heap (fun h => h) HB1.out)
  have HO2 := Lib.hid (HO1.out.then ho2)
  clear ho2
  cases y
  · go_wp2_with fail
    go_ret
    exact ⟨rfl, HO2.out⟩
  obtain ⟨l1, l2, l3⟩ := hy rfl
  have hp := Setup.Raw.ok HR.out l1 l2 l3
  have hpt : ({ p with slots := slots, arena := arena } : Setup).Ok := ⟨hp.pages, hp.image, hp.base, hp.entry, hp.nans, hp.ans, hp.fuel, HS1.out, HS2.out⟩
  have HQ := Lib.hid (alike_plain p { p with slots := slots, arena := arena } hp hpt rfl rfl rfl)
  have HP := Lib.hid hp
  have HPT := Lib.hid hpt
  clear hy l1 l2 l3 hp hpt
  go_wp2_with (refine wpList_load_mid rfl 31 (.tmp 3) rfl w.heap.size 0 rfl (p.cells av).toList _ (row_range' HB2.out) Tryd.underlying31 rfl (setup_size p av) ?_)
  refine (interpret_any p HP.out ab av w2 (HA.out.only HO2.out (fun h => h)) (Nat.lt_of_lt_of_le hab HO2.out.size) (HT.out.only HO2.out (fun h => h))).mono ?_
  intro e w3 h3
  obtain ⟨ea, en, ec, rfl, hown, hz, ho3⟩ := h3.kform
  obtain ⟨t, htE⟩ : ∃ t : Setup, t = { p with slots := slots, arena := arena } := ⟨_, rfl⟩
  rw [← htE] at HQ HPT
  have HTE := Lib.hid htE
  clear htE
  generalize hk1 : p.err false = k1 at *
  generalize hO : kO k1 (runS p.fuel p.fuel.toNat p.st).2 = O at *
  generalize hS : kS k1 (runS p.fuel p.fuel.toNat p.st).1 = S at *
  generalize hBU : kO k1 0 = BU at *
  clear hO hS hBU h3 hz hk1
  have HB3 := Lib.hid (ho3.heap (fun h => h) HB2.out)
  have HO3 := Lib.hid (HO2.out.then ho3)
  have HE3 := Lib.hid hown
  have HN1 := Lib.hid (rep_one O S ea en ec BU)
  clear ho3 hown
  go_wp2_with (first | ((refine wpList_store_ex ?_ 38 (.tmp 9) (.tmp 31) ?_ (.pointer (some ⟨w3.heap.size, 0, none⟩)) (.agg (repCells O S (.slice ea en ec) BU)) ?_ ?_ (store_whole _ w3.heap.size 38 38 zeroRep _ (heap_alloc_new w3 _) ?_ ?_ HN1.out) ?_); (focus rfl); (focus rfl); (focus rfl); (focus rfl); (focus rfl); (focus kernel_rfl); rintro w4 ⟨ho, hg4⟩; have hO4 := fresh_row ho; have HB4 := Lib.hid (hO4.heap (fun h => h) HB3.out); have HE4 := Lib.hid (ownsRow_only HE3.out hO4 (fun _ _ h => h)); have HO4 := Lib.hid (HO3.out.then hO4); have HG4 := Lib.hid hg4; clear hg4 ho hO4) | (refine wpList_load_mid rfl 31 (.tmp 3) rfl w.heap.size 0 rfl (p.cells av).toList _ (row_range' HB4.out) Tryd.underlying31 rfl (setup_size p av) ?_))
  refine (run_any p HP.out ab av w4 (HA.out.only HO4.out (fun h => h)) (Nat.lt_of_lt_of_le hab HO4.out.size) (HT.out.only HO4.out (fun h => h))).mono ?_
  intro e w5 h5
  obtain ⟨ea2, en2, ec2, rfl, hown, hz, ho5⟩ := h5.kform
  have hbz : p.err true ≠ 0 → kO (p.err true) p.R.built = 0 := fun h => kO_ne h _
  generalize hk2 : p.err true = k2 at *
  generalize hO : kO k2 p.R.out = O2 at *
  generalize hS : kS k2 p.R.s = S2 at *
  generalize hBU : kO k2 p.R.built = BU2 at *
  have HZ2 := Lib.hid (fun h => (⟨hz h, hbz h⟩ : (ea2 = none ∧ en2 = 0 ∧ ec2 = 0) ∧ BU2 = 0))
  clear hO hS hBU h5 hk2 hz hbz
  have HB5 := Lib.hid (ho5.heap (fun h => h) HB4.out)
  have HG5 := Lib.hid (ho5.heap (fun h => h) HG4.out)
  have HE5 := Lib.hid (ownsRow_only HE4.out ho5 (fun _ _ h => h))
  have HO5 := Lib.hid (HO4.out.then ho5)
  have HF5 := Lib.hid hown
  have HN2 := Lib.hid (rep_one O2 S2 ea2 en2 ec2 BU2)
  have HN3 := Lib.hid (show ∀ v ∈ p.cells av, v.oneCell' = true by rw [HAV.out]; exact setup_one p aa p.ans.length ac)
  clear ho5 hown
  go_wp2_with (first | ((refine wpList_store_ex ?_ 38 (.tmp 11) (.tmp 36) ?_ (.pointer (some ⟨w5.heap.size, 0, none⟩)) (.agg (repCells O2 S2 (.slice ea2 en2 ec2) BU2)) ?_ ?_ (store_whole _ w5.heap.size 38 38 zeroRep _ (heap_alloc_new w5 _) ?_ ?_ HN2.out) ?_); (focus rfl); (focus rfl); (focus rfl); (focus rfl); (focus rfl); (focus kernel_rfl); rintro w6 ⟨ho, hg6⟩; have hO6 := fresh_row ho; have HB6 := Lib.hid (hO6.heap (fun h => h) HB5.out); have HG6 := Lib.hid (hO6.heap (fun h => h) HG5.out); have HE6 := Lib.hid (ownsRow_only HE5.out hO6 (fun _ _ h => h)); have HF6 := Lib.hid (ownsRow_only HF5.out hO6 (fun _ _ h => h)); have HO6 := Lib.hid (HO5.out.then hO6); have HH6 := Lib.hid hg6; clear hg6 ho hO6) | (refine wpList_load_mid rfl 31 (.tmp 3) rfl w.heap.size 0 rfl (p.cells av).toList _ (row_range' HB6.out) Tryd.underlying31 rfl (setup_size p av) ?_) | ((refine wpList_store_ex ?_ 31 (.tmp 13) (.tmp 38) ?_ (.pointer (some ⟨w6.heap.size, 0, none⟩)) (.agg (p.cells av)) ?_ ?_ (store_whole _ w6.heap.size 31 31 zeroSetup _ (heap_alloc_new w6 _) ?_ ?_ HN3.out) ?_); (focus rfl); (focus rfl); (focus rfl); (focus rfl); (focus rfl); (focus kernel_rfl); rintro w7 ⟨ho, hg7⟩; have hO7 := fresh_row ho; have c6 : w7.cell? ⟨w6.heap.size, 6, none⟩ = some (.int .i64 p.slots) := cell_of_row w7 _ 6 _ _ _ hg7; have z6 : w7.frozen? ⟨w6.heap.size, 6, none⟩ = false := frozen_of_row w7 _ 6 _ _ hg7; have c7 : w7.cell? ⟨w6.heap.size, 7, none⟩ = some (.int .i64 p.arena) := cell_of_row w7 _ 7 _ _ _ hg7; have z7 : w7.frozen? ⟨w6.heap.size, 7, none⟩ = false := frozen_of_row w7 _ 7 _ _ hg7; have h8 : ((w7.setCell ⟨w6.heap.size, 6, none⟩ (.int .i64 slots)).setCell ⟨w6.heap.size, 7, none⟩ (.int .i64 arena)).heap[w6.heap.size]? = some (.cells (t.cells av) 31 (0, 0)) := (by rw [HTE.out]; exact setup_put7 _ _ _ _ _ (setup_put6 _ _ _ _ _ hg7)); have HR8 := Lib.hid (row_range' h8); have hT8 : Only (· = w6.heap.size) (w6.alloc (.cells zeroSetup 31)) ((w7.setCell ⟨w6.heap.size, 6, none⟩ (.int .i64 slots)).setCell ⟨w6.heap.size, 7, none⟩ (.int .i64 arena)) := (ho.set1 _ _).set1 _ _; have hO8 := fresh_row hT8; have HG8 := Lib.hid (hO8.heap (fun h => h) HG6.out); have HH8 := Lib.hid (hO8.heap (fun h => h) HH6.out); have HE8 := Lib.hid (ownsRow_only HE6.out hO8 (fun _ _ h => h)); have HF8 := Lib.hid (ownsRow_only HF6.out hO8 (fun _ _ h => h)); have HO8 := Lib.hid (HO6.out.then hO8); have hl7 := heap_lt hg7; clear hg7 ho hO7 hT8 hO8 h8) | (refine wpList_load_mid rfl 31 (.tmp 13) rfl w6.heap.size 0 rfl (t.cells av).toList _ HR8.out Tryd.underlying31 rfl (setup_size t av) ?_))
  generalize hW8 : (w7.setCell ⟨w6.heap.size, 6, none⟩ (.int .i64 slots)).setCell ⟨w6.heap.size, 7, none⟩ (.int .i64 arena) = W8 at *
  have hta : TextsAt W8 ab av t.ans := by
    rw [HTE.out]
    exact HA.out.only HO8.out (fun h => h)
  refine (run_any t HPT.out ab av W8 hta (Nat.lt_of_lt_of_le hab HO8.out.size) (HT.out.only HO8.out (fun h => h))).mono ?_
  intro e w9 h9
  obtain ⟨ea3, en3, ec3, rfl, hown, hz, ho9⟩ := h9.kform
  have hbz : t.err true ≠ 0 → kO (t.err true) t.R.built = 0 := fun h => kO_ne h _
  generalize hk3 : t.err true = k3 at *
  generalize hO : kO k3 t.R.out = O3 at *
  generalize hS : kS k3 t.R.s = S3 at *
  generalize hBU : kO k3 t.R.built = BU3 at *
  have HZ3 := Lib.hid (fun h => (⟨hz h, hbz h⟩ : (ea3 = none ∧ en3 = 0 ∧ ec3 = 0) ∧ BU3 = 0))
  clear hO hS hBU h9 hk3 hz hbz hta hW8 c6 c7 z6 z7 hl7
  have HG9 := Lib.hid (ho9.heap (fun h => h) HG8.out)
  have HH9 := Lib.hid (ho9.heap (fun h => h) HH8.out)
  have HE9 := Lib.hid (ownsRow_only HE8.out ho9 (fun _ _ h => h))
  have HF9 := Lib.hid (ownsRow_only HF8.out ho9 (fun _ _ h => h))
  have HJ9 := Lib.hid hown
  have HO9 := Lib.hid (HO8.out.then ho9)
  have HN4 := Lib.hid (rep_one O3 S3 ea3 en3 ec3 BU3)
  clear ho9 hown
  by_cases hk : k1 = 0
  · obtain ⟨hm, hn, hb2, hb3⟩ := HQ.out.2 hk
    have hk2 : k2 = 0 ∨ k2 = 4 := by rcases hb2 with h | h; exact .inl h.1; exact .inr h.1
    have hk3 : k3 = 0 ∨ k3 = 4 := by rcases hb3 with h | h; exact .inl h.1; exact .inr h.1
    have HB2' := Lib.hid hb2
    have HB3' := Lib.hid hb3
    have HM := Lib.hid hm
    have HNN := Lib.hid hn
    have HK2 := Lib.hid hk2
    have HK3 := Lib.hid hk3
    clear hm hn hb2 hb3 hk2 hk3
    subst hk
    go_wp2_with (first | ((refine wpList_store_ex ?_ 38 (.tmp 14) (.tmp 46) ?_ (.pointer (some ⟨w9.heap.size, 0, none⟩)) (.agg (repCells O3 S3 (.slice ea3 en3 ec3) BU3)) ?_ ?_ (store_whole _ w9.heap.size 38 38 zeroRep _ (heap_alloc_new w9 _) ?_ ?_ HN4.out) ?_); (focus rfl); (focus rfl); (focus rfl); (focus rfl); (focus rfl); (focus kernel_rfl); rintro w10 ⟨ho, hg⟩; have hO10 := fresh_row ho; have HG10 := Lib.hid (hO10.heap (fun h => h) HG9.out); have HH10 := Lib.hid (hO10.heap (fun h => h) HH9.out); have HE10 := Lib.hid (ownsRow_only HE9.out hO10 (fun _ _ h => h)); have HF10 := Lib.hid (ownsRow_only HF9.out hO10 (fun _ _ h => h)); have HJ10 := Lib.hid (ownsRow_only HJ9.out hO10 (fun _ _ h => h)); have HI10 := Lib.hid hg; have HO10 := Lib.hid (HO9.out.then hO10); clear hg ho hO10) | (refine wpList_load_mid rfl 38 (.tmp 9) rfl w3.heap.size 0 rfl (repCells O S (.slice ea en ec) BU).toList _ (row_range' HG10.out) Tryd.underlying38 rfl (rep_size' _ _ _ _) ?_) | (refine wpList_load_mid rfl 38 (.tmp 11) rfl w5.heap.size 0 rfl (repCells O2 S2 (.slice ea2 en2 ec2) BU2).toList _ (row_range' HH10.out) Tryd.underlying38 rfl (rep_size' _ _ _ _) ?_))
    refine (ksame_beside HB2'.out HM.out HNN.out HE10.out HF10.out HZ2.out).mono ?_
    rintro e w11 ⟨y2, rfl, hy2, ho11⟩
    have HG11 := Lib.hid (ho11.heap (fun h => h) HG10.out)
    have HI11 := Lib.hid (ho11.heap (fun h => h) HI10.out)
    have HE11 := Lib.hid (ownsRow_only HE10.out ho11 (fun _ _ h => h))
    have HJ11 := Lib.hid (ownsRow_only HJ10.out ho11 (fun _ _ h => h))
    have HO11 := Lib.hid (HO10.out.then ho11)
    have HY2 := Lib.hid hy2
    clear ho11 hy2
    go_wp2_with (first | (refine wpList_load_mid rfl 38 (.tmp 9) rfl w3.heap.size 0 rfl (repCells O S (.slice ea en ec) BU).toList _ (row_range' HG11.out) Tryd.underlying38 rfl (rep_size' _ _ _ _) ?_) | (refine wpList_load_mid rfl 38 (.tmp 14) rfl w9.heap.size 0 rfl (repCells O3 S3 (.slice ea3 en3 ec3) BU3).toList _ (row_range' HI11.out) Tryd.underlying38 rfl (rep_size' _ _ _ _) ?_))
    refine (ksame_beside HB3'.out HM.out HNN.out HE11.out HJ11.out HZ3.out).mono ?_
    rintro e w12 ⟨y3, rfl, hy3, ho12⟩
    have HO12 := Lib.hid (HO11.out.then ho12)
    clear ho12
    rcases HK2.out with e2 | e2
    · subst e2
      obtain rfl := HY2.out rfl
      rcases HK3.out with e3 | e3
      · subst e3
        obtain rfl := hy3 rfl
        go_wp2_with fail
        go_ret
        exact ⟨rfl, HO12.out⟩
      · subst e3
        clear hy3
        go_wp2_with fail
        go_ret
        exact ⟨rfl, HO12.out⟩
    · subst e2
      rcases HK3.out with e3 | e3
      · subst e3
        obtain rfl := hy3 rfl
        go_wp2_with fail
        go_ret
        exact ⟨rfl, HO12.out⟩
      · subst e3
        clear hy3
        go_wp2_with fail
        go_ret
        exact ⟨rfl, HO12.out⟩
  · obtain ⟨e2, e3⟩ := HQ.out.1 hk
    have hk2 : (k1 != 0) = true := by simpa using hk
    subst e2
    subst e3
    go_wp2_with (((refine wpList_store_ex ?_ 38 (.tmp 14) (.tmp 46) ?_ (.pointer (some ⟨w9.heap.size, 0, none⟩)) (.agg (repCells O3 S3 (.slice ea3 en3 ec3) BU3)) ?_ ?_ (store_whole _ w9.heap.size 38 38 zeroRep _ (heap_alloc_new w9 _) ?_ ?_ HN4.out) ?_); (focus rfl); (focus rfl); (focus rfl); (focus rfl); (focus rfl); (focus kernel_rfl); rintro w10 ⟨ho, hg⟩; have hO10 := fresh_row ho; have HG10 := Lib.hid (hO10.heap (fun h => h) HG9.out); have HH10 := Lib.hid (hO10.heap (fun h => h) HH9.out); have HE10 := Lib.hid (ownsRow_only HE9.out hO10 (fun _ _ h => h)); have HF10 := Lib.hid (ownsRow_only HF9.out hO10 (fun _ _ h => h)); have HJ10 := Lib.hid (ownsRow_only HJ9.out hO10 (fun _ _ h => h)); have HI10 := Lib.hid hg; have HO10 := Lib.hid (HO9.out.then hO10); clear hg ho hO10))
    go_ret
    exact ⟨by simp, HO10.out⟩
end Go.Proofs.YtanccjaikocefaaDoor
