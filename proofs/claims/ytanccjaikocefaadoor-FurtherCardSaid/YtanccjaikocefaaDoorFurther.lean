/-
  'chainskeep.Further' returns true for every setup and any number. Conditions: the setup lies in memory; the table lies.
-/
import Derived.Test.YtanccjaikocefaaDoorAlike
import Derived.Deep.CutRange
namespace Go.Proofs.YtanccjaikocefaaDoor
open Go.ChangeShapes Go.WideShapes Go.ChangeAt Go.RowKit Go.Maps
set_option linter.unusedVariables false

theorem setup_put5 (w : World) (g : Nat) (p : Setup) (av : Value) (v : Int) (h : w.heap[g]? = some (.cells (p.cells av) 31 (0, 0))) : (w.setCell ⟨g, 5, none⟩ (.int .i64 v)).heap[g]? = some (.cells (({ p with fuel := v } : Setup).cells av) 31 (0, 0)) := by
  rw [heap_setCell_same w g 5 _ _ _ h]
  rfl
/-- How a run with more fuel lies to the one with less. -/
def FurtherQ (O O2 : Int) (S S2 : St) : Prop := (O ≠ 0 → O2 = O ∧ S2 = S) ∧ S.steps ≤ S2.steps ∧ (∃ l, S2.evs = S.evs ++ l) ∧ S.evs.length ≤ 1000000 ∧ S2.evs.length ≤ 1000000
theorem further_plain (p t : Setup) (hp : p.Ok) (ht : t.Ok) (e2 : t.st = p.st) (hf : p.fuel ≤ t.fuel) (h1 : p.err true = 0) (h2 : t.err true = 0) : FurtherQ p.R.out t.R.out p.R.s t.R.s := by
  obtain ⟨_, a1, b1⟩ := R_ok p hp h1
  obtain ⟨_, a2, b2⟩ := R_ok t ht h2
  have hg := (Setup.good h1).1
  have hg2 := (Setup.good h2).1
  have hs := Setup.st_ok hg hp
  have z : p.st.steps = 0 := rfl
  have z2 : p.st.evs.length = 0 := rfl
  have f0 := hg.f0
  have g0 := hg2.f0
  have f1 := hg.f1
  have g1 := hg2.f1
  have n1 := runS_evn p.fuel p.fuel.toNat p.st hs
  have n2 := runS_evn t.fuel t.fuel.toNat p.st hs
  rw [a1, b1, a2, b2, e2]
  rcases runS_more hf p.fuel.toNat t.fuel.toNat p.st hs (by rw [z]; omega) (by rw [z]; omega) with h | ⟨h, h', h''⟩
  · rw [← h]
    rw [← h] at n2
    exact ⟨fun _ => ⟨rfl, rfl⟩, Int.le_refl _, ⟨[], (List.append_nil _).symm⟩, by omega, by omega⟩
  · exact ⟨fun hn => absurd h hn, h', h'', by omega, by omega⟩
theorem owns_len {w : World} {a : Option Addr} {n c N : Nat} {xs : List Value} (h : w.ownsRow 0 51 3 (.slice a n c) N xs) : n = N := by
  rcases h.2 with ⟨e, e'⟩ | ⟨g, cap, _, e, _⟩
  · simp only [Value.slice.injEq] at e
    omega
  · simp only [Value.slice.injEq] at e
    exact e.2.1
theorem tdiv2 (x : Int) : x.tdiv 2 = if 0 ≤ x then x / 2 else -((-x) / 2) := by
  split
  · rename_i h
    exact Int.tdiv_eq_ediv_of_nonneg h
  · have h := Int.neg_tdiv (-x) 2
    rw [Int.neg_neg] at h
    rw [h, Int.tdiv_eq_ediv_of_nonneg (by omega)]
set_option maxRecDepth 100000 in
set_option maxHeartbeats 1000000 in
theorem further_any (p : Setup) (hr : p.Raw) (more : Int) (hmo : i64ok more) (ab : Nat) (av : Value) (w : World) (ha : TextsAt w ab av p.ans) (hab : ab < w.heap.size) (ht : Tab w) :
    Calls Tryd.prog 8 #[.agg (p.cells av), .int .i64 more] w (fun e w' => e = .returned (.bool true) ∧ Only (fun _ => False) w w') := by
  obtain ⟨aa, ac, hav⟩ : ∃ aa ac, av = .slice aa p.ans.length ac := by
    obtain ⟨aa, ac, e, _⟩ := ha
    exact ⟨aa, ac, e⟩
  have HA := Lib.hid ha
  have HR := Lib.hid hr
  have HT := Lib.hid ht
  have hw0 := tab_pos ht
  have HAV := Lib.hid hav
  unfold i64ok at hmo
  obtain ⟨hmo0, hmo1⟩ := hmo
  clear ha hr ht hav
  obtain ⟨W0, hW0⟩ : ∃ W0, W0 = w.alloc (.cells (p.cells av) 31) := ⟨_, rfl⟩
  have hO0 : Only (fun _ => False) w W0 := by rw [hW0]; exact (Only.refl _ w).alloc _
  have hb0 : W0.heap[w.heap.size]? = some (.cells (p.cells av) 31 (0, 0)) := by rw [hW0]; exact heap_alloc_new w _
  have HB0 := Lib.hid hb0
  have HO0 := Lib.hid hO0
  have HW0 := Lib.hid hW0
  clear hb0 hO0 hW0
  go_enter Tryd.func8, Tryd.ntmps8
  go_wp2_with fail
  rw [← HW0.out]
  refine (alive_any W0 (HT.out.only HO0.out (fun h => h))).mono ?_
  rintro e w1 ⟨rfl, ho1⟩
  have HB1 := Lib.hid (ho1.heap (fun h => h) HB0.out)
  have HO1 := Lib.hid (HO0.out.then ho1)
  clear ho1
  go_wp2_with (refine wpList_load_mid rfl 31 (.tmp 2) rfl w.heap.size 0 rfl (p.cells av).toList _ (row_range' HB1.out) Tryd.underlying31 rfl (setup_size p av) ?_)
  refine (kfew_any p ab av w1 HR.out.image (HA.out.only HO1.out (fun h => h)) (Nat.lt_of_lt_of_le hab HO1.out.size)).mono ?_
  rintro e w2 ⟨y, rfl, ho2, hy⟩
  have HB2 := Lib.hid (ho2.heap (fun h => h) HB1.out)
  have HO2 := Lib.hid (HO1.out.then ho2)
  clear ho2
  cases y
  · go_wp2_with fail
    go_ret
    exact ⟨rfl, HO2.out⟩
  obtain ⟨l1, l2, l3⟩ := hy rfl
  have hp := Setup.Raw.ok HR.out l1 l2 l3
  have HP := Lib.hid hp
  have hf := hp.fuel
  unfold i64ok at hf
  obtain ⟨hf0, hf1⟩ := hf
  clear hy l1 l2 l3 hp
  go_upto_if 25 with fail
  go_cut [1] from 26 to 28 (fun v wx => ∃ m : Int, v = .int .i64 m ∧ (0 ≤ m ∧ m ≤ 9223372036854775807) ∧ wx = w2)
  case first =>
    by_cases hm : more < 0
    · go_wp2_with fail
      all_goals go_meet
      all_goals exact ⟨_, rfl, ⟨by omega, by omega⟩, rfl⟩
    · go_wp2_with fail
      all_goals go_meet
      all_goals exact ⟨_, rfl, ⟨by omega, by omega⟩, rfl⟩
  case rest =>
    obtain ⟨m, rfl, ⟨m0, m1⟩, hwc⟩ := hcut
    have hwc' := hwc.symm
    subst hwc'
    clear hwc
    have HN3 := Lib.hid (show ∀ v ∈ p.cells av, v.oneCell' = true by rw [HAV.out]; exact setup_one p aa p.ans.length ac)
    have hne : w.heap.size < w2.heap.size := heap_lt HB2.out
    have ht0 : -4611686018427387904 ≤ p.fuel.tdiv 2 := by rw [tdiv2]; split <;> omega
    have ht1 : p.fuel.tdiv 2 ≤ 4611686018427387904 := by rw [tdiv2]; split <;> omega
    go_upto_if 41 with (first | (refine wpList_load_mid rfl 31 (.tmp 2) rfl w.heap.size 0 rfl (p.cells av).toList _ (row_range' HB2.out) Tryd.underlying31 rfl (setup_size p av) ?_) | ((refine wpList_store_ex ?_ 31 (.tmp 7) (.tmp 29) ?_ (.pointer (some ⟨w2.heap.size, 0, none⟩)) (.agg (p.cells av)) ?_ ?_ (store_whole _ w2.heap.size 31 31 zeroSetup _ (heap_alloc_new w2 _) ?_ ?_ HN3.out) ?_); (focus rfl); (focus rfl); (focus rfl); (focus rfl); (focus rfl); (focus kernel_rfl); rintro w3 ⟨ho, hg3⟩; have hO3 := fresh_row ho; have hb3 := hO3.heap (fun h => h) HB2.out; have c5 : w3.cell? ⟨w2.heap.size, 5, none⟩ = some (.int .i64 p.fuel) := cell_of_row w3 _ 5 _ _ _ hg3; have z5 : w3.frozen? ⟨w2.heap.size, 5, none⟩ = false := frozen_of_row w3 _ 5 _ _ hg3; have s5 : w3.cell? ⟨w.heap.size, 5, none⟩ = some (.int .i64 p.fuel) := cell_of_row w3 _ 5 _ _ _ hb3; have HHO := Lib.hid ho; have HG3 := Lib.hid hg3; have HO3 := Lib.hid (HO2.out.then hO3); have hl3 := heap_lt hg3; clear ho hg3 hb3 hO3))
    go_cut [] from 42 to 44 (fun wx => ∃ X : Int, i64ok X ∧ p.fuel ≤ X ∧ wx.heap[w2.heap.size]? = some (.cells (({ p with fuel := X } : Setup).cells av) 31 (0, 0)) ∧ Only (· = w2.heap.size) (w2.alloc (.cells zeroSetup 31)) wx)
    case first =>
      by_cases hlt : p.fuel.tdiv 2 + m % 1000 < p.fuel
      · go_wp2_with fail
        all_goals go_meet
        all_goals exact ⟨p.fuel, HP.out.fuel, Int.le_refl _, setup_put5 _ _ { p with fuel := p.fuel.tdiv 2 + m % 1000 } _ _ (setup_put5 _ _ _ _ _ HG3.out), (HHO.out.set1 _ _).set1 _ _⟩
      · go_wp2_with fail
        all_goals go_meet
        all_goals exact ⟨p.fuel.tdiv 2 + m % 1000, ⟨by omega, by omega⟩, by omega, setup_put5 _ _ _ _ _ HG3.out, HHO.out.set1 _ _⟩
    case rest =>
      obtain ⟨X, hX, hfX, hg4, ho4⟩ := hcut
      have hO4 := fresh_row ho4
      have HB4 := Lib.hid (hO4.heap (fun h => h) HB2.out)
      have HO4 := Lib.hid (HO2.out.then hO4)
      obtain ⟨t, htE⟩ : ∃ t : Setup, t = { p with fuel := X } := ⟨_, rfl⟩
      rw [← htE] at hg4
      have hpt : t.Ok := by
        rw [htE]
        exact ⟨HP.out.pages, HP.out.image, HP.out.base, HP.out.entry, HP.out.nans, HP.out.ans, hX, HP.out.slots, HP.out.arena⟩
      have HQ := Lib.hid (fun h1 h2 => further_plain p t HP.out hpt (by rw [htE]; rfl) (by rw [htE]; exact hfX) h1 h2)
      have hta : t.ans = p.ans := by rw [htE]
      have HTA := Lib.hid hta
      have HPT := Lib.hid hpt
      have HG4 := Lib.hid hg4
      clear hO4 ho4 hg4 hpt htE hX hfX hta m0 m1 ht0 ht1 hne
      go_wp2_with (refine wpList_load_mid rfl 31 (.tmp 2) rfl w.heap.size 0 rfl (p.cells av).toList _ (row_range' HB4.out) Tryd.underlying31 rfl (setup_size p av) ?_)
      refine (run_any p HP.out ab av wc (HA.out.only HO4.out (fun h => h)) (Nat.lt_of_lt_of_le hab HO4.out.size) (HT.out.only HO4.out (fun h => h))).mono ?_
      intro e w5 h5
      obtain ⟨ea, en, ec, rfl, hown, hz, ho5⟩ := h5.kform
      clear hz
      have HB5 := Lib.hid (ho5.heap (fun h => h) HB4.out)
      have HG5 := Lib.hid (ho5.heap (fun h => h) HG4.out)
      have HO5 := Lib.hid (HO4.out.then ho5)
      generalize hk1 : p.err true = k1 at *
      generalize hO : kO k1 p.R.out = O at *
      generalize hS : kS k1 p.R.s = S at *
      generalize hBU : kO k1 p.R.built = BU at *
      have HE5 := Lib.hid hown
      have HN1 := Lib.hid (rep_one O S ea en ec BU)
      clear ho5 hown h5 hBU
      go_wp2_with (first | ((refine wpList_store_ex ?_ 38 (.tmp 8) (.tmp 48) ?_ (.pointer (some ⟨w5.heap.size, 0, none⟩)) (.agg (repCells O S (.slice ea en ec) BU)) ?_ ?_ (store_whole _ w5.heap.size 38 38 zeroRep _ (heap_alloc_new w5 _) ?_ ?_ HN1.out) ?_); (focus rfl); (focus rfl); (focus rfl); (focus rfl); (focus rfl); (focus kernel_rfl); rintro w6 ⟨ho, hg⟩; have hO6 := fresh_row ho; have HB6 := Lib.hid (hO6.heap (fun h => h) HB5.out); have HG6 := Lib.hid (hO6.heap (fun h => h) HG5.out); have HE6 := Lib.hid (ownsRow_only HE5.out hO6 (fun _ _ h => h)); have HO6 := Lib.hid (HO5.out.then hO6); have HH6 := Lib.hid hg; clear hg ho hO6) | (refine wpList_load_mid rfl 31 (.tmp 7) rfl w2.heap.size 0 rfl (t.cells av).toList _ (row_range' HG6.out) Tryd.underlying31 rfl (setup_size t av) ?_))
      refine (run_any t HPT.out ab av w6 (by rw [HTA.out]; exact HA.out.only HO6.out (fun h => h)) (Nat.lt_of_lt_of_le hab HO6.out.size) (HT.out.only HO6.out (fun h => h))).mono ?_
      intro e w7 h7
      obtain ⟨ea2, en2, ec2, rfl, hown, hz, ho7⟩ := h7.kform
      clear hz
      have HH7 := Lib.hid (ho7.heap (fun h => h) HH6.out)
      have HE7 := Lib.hid (ownsRow_only HE6.out ho7 (fun _ _ h => h))
      have HO7 := Lib.hid (HO6.out.then ho7)
      generalize hk2 : t.err true = k2 at *
      generalize hO2 : kO k2 t.R.out = O2 at *
      generalize hS2 : kS k2 t.R.s = S2 at *
      generalize hBU2 : kO k2 t.R.built = BU2 at *
      have HF7 := Lib.hid hown
      have HN2 := Lib.hid (rep_one O2 S2 ea2 en2 ec2 BU2)
      clear ho7 hown h7 hBU2
      by_cases h1 : k1 = 0
      · by_cases h2 : k2 = 0
        · subst h1
          subst h2
          rw [kO_zero] at hO hO2
          rw [kS_zero] at hS hS2
          have hq := HQ.out rfl rfl
          rw [hO, hO2, hS, hS2] at hq
          obtain ⟨q1, q2, ⟨l, q3⟩, q4, q5⟩ := hq
          have hen := owns_len HE7.out
          have hen2 := owns_len HF7.out
          subst hen
          subst hen2
          clear hO hO2 hS hS2 hk1 hk2 HQ
          by_cases h3 : O = 0
          · have hle : S.evs.length ≤ S2.evs.length := by rw [q3, List.length_append]; omega
            have Q3 := Lib.hid q3
            have Q1 := Lib.hid q1
            clear q1 q3
            go_wp2_with ((refine wpList_store_ex ?_ 38 (.tmp 10) (.tmp 53) ?_ (.pointer (some ⟨w7.heap.size, 0, none⟩)) (.agg (repCells O2 S2 (.slice ea2 S2.evs.length ec2) BU2)) ?_ ?_ (store_whole _ w7.heap.size 38 38 zeroRep _ (heap_alloc_new w7 _) ?_ ?_ HN2.out) ?_); (focus rfl); (focus rfl); (focus rfl); (focus rfl); (focus rfl); (focus kernel_rfl); rintro w8 ⟨ho, hg⟩; have hO8 := fresh_row ho; have hh8 := hO8.heap (fun h => h) HH7.out; have HO8 := Lib.hid (HO7.out.then hO8); have HE8 := Lib.hid (ownsRow_only HE7.out hO8 (fun _ _ h => h)); have HF8 := Lib.hid (ownsRow_only HF7.out hO8 (fun _ _ h => h)); have HH8 := Lib.hid hh8; have HG8 := Lib.hid hg; have a0 : w8.cell? ⟨w5.heap.size, 0, none⟩ = some (.int .i64 O) := cell_of_row w8 _ 0 _ _ _ hh8; have a36 : w8.cell? ⟨w5.heap.size, 36, none⟩ = some (.slice ea S.evs.length ec) := cell_of_row w8 _ 36 _ _ _ hh8; have a37 : w8.cell? ⟨w5.heap.size, 37, none⟩ = some (.int .i64 S.steps) := cell_of_row w8 _ 37 _ _ _ hh8; have b36 : w8.cell? ⟨w7.heap.size, 36, none⟩ = some (.slice ea2 S2.evs.length ec2) := cell_of_row w8 _ 36 _ _ _ hg; have b37 : w8.cell? ⟨w7.heap.size, 37, none⟩ = some (.int .i64 S2.steps) := cell_of_row w8 _ 37 _ _ _ hg; clear ho hg hO8 hh8)
            go_loopw [13] (fun i wr => ∃ k : Nat, k ≤ S.evs.length ∧ i = .int .i64 k ∧ Only (fun _ => False) w8 wr) (fun i _ => S.evs.length - (intOf i).toNat)
            case atStart => exact ⟨0, Nat.zero_le _, rfl, Only.refl _ _⟩
            case round =>
              obtain ⟨k, hk, rfl, ho⟩ := hrel
              have j36 := ho.cell (fun h => h) a36
              have y36 := ho.cell (fun h => h) b36
              clear a0 a36 a37 b36 b37
              by_cases hlt : k < S.evs.length
              · obtain ⟨e, he⟩ : ∃ e, S.evs[k]? = some e := ⟨_, List.getElem?_eq_getElem hlt⟩
                have he2 : S2.evs[k]? = some e := by rw [Q3.out, List.getElem?_append_left hlt]; exact he
                obtain ⟨g1, d1, ev1, c0, c1', c2'⟩ := ev_cells (ownsRow_only HE8.out ho (fun _ _ h => h)) he
                obtain ⟨g2, d2, ev2, e0, e1', e2'⟩ := ev_cells (ownsRow_only HF8.out ho (fun _ _ h => h)) he2
                simp only [Value.slice.injEq] at ev1 ev2
                obtain ⟨rfl, _, rfl⟩ := ev1
                obtain ⟨rfl, _, rfl⟩ := ev2
                clear he he2
                go_wp2_with fail
                go_quiet (fail)
                go_wp2_with fail
                go_roundw
                case rel => exact ⟨k + 1, by omega, by go_num, ho.drewN _⟩
                case measure => simp [intOf]; omega
              · have hk2 : k = S.evs.length := by omega
                subst hk2
                go_wp2_with fail
                go_ret
                exact ⟨rfl, HO8.out.then ho⟩
          · obtain ⟨e1, e2⟩ := q1 h3
            subst e1
            subst e2
            have h4 : (O2 != 0) = true := by simpa using h3
            clear q1 q3
            go_wp2_with (first | ((refine wpList_store_ex ?_ 38 (.tmp 10) (.tmp 53) ?_ (.pointer (some ⟨w7.heap.size, 0, none⟩)) (.agg (repCells O2 S2 (.slice ea2 S2.evs.length ec2) BU2)) ?_ ?_ (store_whole _ w7.heap.size 38 38 zeroRep _ (heap_alloc_new w7 _) ?_ ?_ HN2.out) ?_); (focus rfl); (focus rfl); (focus rfl); (focus rfl); (focus rfl); (focus kernel_rfl); rintro w8 ⟨ho, hg⟩; have hO8 := fresh_row ho; have hh8 := hO8.heap (fun h => h) HH7.out; have HO8 := Lib.hid (HO7.out.then hO8); have HE8 := Lib.hid (ownsRow_only HE7.out hO8 (fun _ _ h => h)); have HF8 := Lib.hid (ownsRow_only HF7.out hO8 (fun _ _ h => h)); have HH8 := Lib.hid hh8; have HG8 := Lib.hid hg; have a0 : w8.cell? ⟨w5.heap.size, 0, none⟩ = some (.int .i64 O2) := cell_of_row w8 _ 0 _ _ _ hh8; have a36 : w8.cell? ⟨w5.heap.size, 36, none⟩ = some (.slice ea S2.evs.length ec) := cell_of_row w8 _ 36 _ _ _ hh8; have a37 : w8.cell? ⟨w5.heap.size, 37, none⟩ = some (.int .i64 S2.steps) := cell_of_row w8 _ 37 _ _ _ hh8; have b36 : w8.cell? ⟨w7.heap.size, 36, none⟩ = some (.slice ea2 S2.evs.length ec2) := cell_of_row w8 _ 36 _ _ _ hg; have b37 : w8.cell? ⟨w7.heap.size, 37, none⟩ = some (.int .i64 S2.steps) := cell_of_row w8 _ 37 _ _ _ hg; clear ho hg hO8 hh8) | (refine wpList_load_mid rfl 38 (.tmp 8) rfl w5.heap.size 0 rfl (repCells O2 S2 (.slice ea S2.evs.length ec) BU).toList _ (row_range' HH8.out) Tryd.underlying38 rfl (rep_size' _ _ _ _) ?_) | (refine wpList_load_mid rfl 38 (.tmp 10) rfl w7.heap.size 0 rfl (repCells O2 S2 (.slice ea2 S2.evs.length ec2) BU2).toList _ (row_range' HG8.out) Tryd.underlying38 rfl (rep_size' _ _ _ _) ?_))
            refine (ksame_any O2 S2 BU BU2 _ _ w8 q4 HE8.out HF8.out).mono ?_
            rintro e w9 ⟨rfl, ho9⟩
            go_wp2_with fail
            go_ret
            exact ⟨rfl, HO8.out.then ho9⟩
        · have h4 : (k2 != 0) = true := by simpa using h2
          subst h1
          clear hO hO2 hS hS2 hk1 hk2 HQ
          go_wp2_with ((refine wpList_store_ex ?_ 38 (.tmp 10) (.tmp 53) ?_ (.pointer (some ⟨w7.heap.size, 0, none⟩)) (.agg (repCells O2 S2 (.slice ea2 en2 ec2) BU2)) ?_ ?_ (store_whole _ w7.heap.size 38 38 zeroRep _ (heap_alloc_new w7 _) ?_ ?_ HN2.out) ?_); (focus rfl); (focus rfl); (focus rfl); (focus rfl); (focus rfl); (focus kernel_rfl); rintro w8 ⟨ho, hg⟩; have hO8 := fresh_row ho; have hh8 := hO8.heap (fun h => h) HH7.out; have HO8 := Lib.hid (HO7.out.then hO8); have HE8 := Lib.hid (ownsRow_only HE7.out hO8 (fun _ _ h => h)); have HF8 := Lib.hid (ownsRow_only HF7.out hO8 (fun _ _ h => h)); have HH8 := Lib.hid hh8; have HG8 := Lib.hid hg; have a0 : w8.cell? ⟨w5.heap.size, 0, none⟩ = some (.int .i64 O) := cell_of_row w8 _ 0 _ _ _ hh8; have a36 : w8.cell? ⟨w5.heap.size, 36, none⟩ = some (.slice ea en ec) := cell_of_row w8 _ 36 _ _ _ hh8; have a37 : w8.cell? ⟨w5.heap.size, 37, none⟩ = some (.int .i64 S.steps) := cell_of_row w8 _ 37 _ _ _ hh8; have b36 : w8.cell? ⟨w7.heap.size, 36, none⟩ = some (.slice ea2 en2 ec2) := cell_of_row w8 _ 36 _ _ _ hg; have b37 : w8.cell? ⟨w7.heap.size, 37, none⟩ = some (.int .i64 S2.steps) := cell_of_row w8 _ 37 _ _ _ hg; clear ho hg hO8 hh8)
          all_goals go_ret
          all_goals exact ⟨rfl, HO8.out⟩
      · have h4 : (k1 != 0) = true := by simpa using h1
        clear hO hO2 hS hS2 hk1 hk2 HQ
        go_wp2_with ((refine wpList_store_ex ?_ 38 (.tmp 10) (.tmp 53) ?_ (.pointer (some ⟨w7.heap.size, 0, none⟩)) (.agg (repCells O2 S2 (.slice ea2 en2 ec2) BU2)) ?_ ?_ (store_whole _ w7.heap.size 38 38 zeroRep _ (heap_alloc_new w7 _) ?_ ?_ HN2.out) ?_); (focus rfl); (focus rfl); (focus rfl); (focus rfl); (focus rfl); (focus kernel_rfl); rintro w8 ⟨ho, hg⟩; have hO8 := fresh_row ho; have hh8 := hO8.heap (fun h => h) HH7.out; have HO8 := Lib.hid (HO7.out.then hO8); have HE8 := Lib.hid (ownsRow_only HE7.out hO8 (fun _ _ h => h)); have HF8 := Lib.hid (ownsRow_only HF7.out hO8 (fun _ _ h => h)); have HH8 := Lib.hid hh8; have HG8 := Lib.hid hg; have a0 : w8.cell? ⟨w5.heap.size, 0, none⟩ = some (.int .i64 O) := cell_of_row w8 _ 0 _ _ _ hh8; have a36 : w8.cell? ⟨w5.heap.size, 36, none⟩ = some (.slice ea en ec) := cell_of_row w8 _ 36 _ _ _ hh8; have a37 : w8.cell? ⟨w5.heap.size, 37, none⟩ = some (.int .i64 S.steps) := cell_of_row w8 _ 37 _ _ _ hh8; have b36 : w8.cell? ⟨w7.heap.size, 36, none⟩ = some (.slice ea2 en2 ec2) := cell_of_row w8 _ 36 _ _ _ hg; have b37 : w8.cell? ⟨w7.heap.size, 37, none⟩ = some (.int .i64 S2.steps) := cell_of_row w8 _ 37 _ _ _ hg; clear ho hg hO8 hh8)
        all_goals go_ret
        all_goals exact ⟨rfl, HO8.out⟩
end Go.Proofs.YtanccjaikocefaaDoor
