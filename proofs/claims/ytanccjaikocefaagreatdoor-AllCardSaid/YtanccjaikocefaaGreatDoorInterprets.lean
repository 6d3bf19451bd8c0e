/-
  'chainslaw.Interprets' returns true for every setup. Conditions: the setup lies in memory; the table lies.
-/
import Derived.Test.YtanccjaikocefaaGreatDoorOpenSetup
import Derived.Test.YtanccjaikocefaaGreatDoorRPlay
namespace Go.Proofs.YtanccjaikocefaaGreatDoor
open Go.ChangeShapes Go.WideShapes Go.ChangeAt Go.RowKit
set_option linter.unusedVariables false

/-- A state with nothing. -/
def St.nought : St := { regs := fun _ => 0, pc := 0, mem := [], low := 0, brk := 0, ans := [], evs := [], steps := 0 }
theorem rep_nought : zeroRep = repCells 0 St.nought (.slice none 0 0) 0 := by kernel_rfl
/-- What comes back: with an error nothing. -/
def ansO (k o : Int) : Int := if k = 0 then o else 0
def ansS (k : Int) (s : St) : St := if k = 0 then s else St.nought
theorem AnsP.form {k o : Int} {s : St} {bu : Int} {w w' : World} {e : Ending} (h : AnsP k o s bu w e w') :
    ∃ evs, e = .returned (.tuple #[.agg (repCells (ansO k o) (ansS k s) evs (ansO k bu)), .int .i64 k]) ∧ w'.ownsRow 0 86 3 evs (ansS k s).evs.length (evCells (ansS k s).evs) ∧ Only (fun _ => False) w w' := by
  by_cases hk : k = 0
  · obtain ⟨evs, he, ho⟩ := h.2.2 hk
    subst hk
    exact ⟨evs, he, ho, h.1⟩
  · have he := h.2.1 hk
    refine ⟨.slice none 0 0, ?_, ?_, h.1⟩
    · rw [he, rep_nought]
      unfold ansO ansS
      rw [if_neg hk, if_neg hk, if_neg hk]
    · unfold ansS
      rw [if_neg hk]
      exact World.ownsRow_nil _ _ _ _
theorem PlayP.form {k : Int} {r : RS} {w w' : World} {e : Ending} (h : PlayP k r w e w') :
    ∃ evs blv, e = .returned (.tuple #[.agg (repCells (ansO k r.out) (ansS k r.s) evs (ansO k r.built)), blv, .int .i64 k]) ∧ w'.ownsRow 0 86 3 evs (ansS k r.s).evs.length (evCells (ansS k r.s).evs) ∧ Only (fun _ => False) w w' := by
  by_cases hk : k = 0
  · obtain ⟨evs, blv, he, ho, _⟩ := h.2.2 hk
    subst hk
    exact ⟨evs, blv, he, ho, h.1⟩
  · have he := h.2.1 hk
    refine ⟨.slice none 0 0, .slice none 0 0, ?_, ?_, h.1⟩
    · rw [he, rep_nought]
      unfold ansO ansS
      rw [if_neg hk, if_neg hk, if_neg hk]
    · unfold ansS
      rw [if_neg hk]
      exact World.ownsRow_nil _ _ _ _
theorem make_built0 (r : RS) (h : r.slots.length = 0) : r.seek = r := by
  unfold RS.seek RS.need
  rw [h]
  rfl
theorem step_built0 (r : RS) (h : r.slots.length = 0) : r.step.built = r.built := by
  unfold RS.step
  split
  · rfl
  · split
    · rfl
    · rw [make_built0 r h]
      unfold RS.do_
      split
      · rfl
      · rename_i s' next wr _
        unfold RS.leave
        split
        · cases wr <;> rfl
        · cases wr <;> rfl
theorem runR_built0 (n : Nat) : ∀ r : RS, r.slots.length = 0 → (runR n r).built = r.built := by
  induction n with
  | zero => intro r _; rfl
  | succ n ih =>
    intro r h
    rw [runR]
    split
    · rfl
    · rw [ih r.step ((step_slots r).trans h), step_built0 r h]
theorem runS_evs (fuel : Int) (n : Nat) : ∀ s : St, s.Ok → (runS fuel n s).1.evs.length ≤ s.evs.length + n := by
  induction n with
  | zero => intro s _; exact Nat.le_refl _
  | succ n ih =>
    intro s hs
    rw [runS]
    split
    · cases hf : fetch s with
      | inl o => dsimp only; omega
      | inr i =>
        have hx := exec_ok hs (fetch_ok hs hf)
        dsimp only
        cases hq : exec s i with
        | trap s' o =>
          rw [hq] at hx
          have h2 : s'.evs.length ≤ s.evs.length + 1 := hx.1.evs
          show s'.evs.length ≤ s.evs.length + (n + 1)
          omega
        | go s' next wr =>
          rw [hq] at hx
          obtain ⟨hT, hst, m0, m1⟩ := hx
          have h1 := ih (s'.step next) (step_ok hT.ok m0 m1)
          have h2 : s'.evs.length ≤ s.evs.length + 1 := hT.evs
          have h3 : (s'.step next).evs.length = s'.evs.length := rfl
          rw [h3] at h1
          show (runS fuel n (s'.step next)).1.evs.length ≤ s.evs.length + (n + 1)
          omega
    · dsimp only; omega
theorem ans_evs (p : Setup) (hp : p.Ok) (o : Int) : (ansS (p.err false) (runS p.fuel p.fuel.toNat p.st).1).evs.length ≤ 1000000 := by
  unfold ansS
  split
  · rename_i h
    have hg := (Setup.good h).1
    have := runS_evs p.fuel p.fuel.toNat p.st (Setup.st_ok hg hp)
    have h0 : p.st.evs.length = 0 := rfl
    have := hg.f1
    omega
  · exact Nat.zero_le _
/-- The document's machine comes to the plain run. -/
theorem play_same (p : Setup) (hp : p.Ok) : ansO (p.err false) (runR (p.fuel.toNat + 1) (p.rs false)).out = ansO (p.err false) (runS p.fuel p.fuel.toNat p.st).2 ∧ ansS (p.err false) (runR (p.fuel.toNat + 1) (p.rs false)).s = ansS (p.err false) (runS p.fuel p.fuel.toNat p.st).1 ∧ ansO (p.err false) (runR (p.fuel.toNat + 1) (p.rs false)).built = ansO (p.err false) 0 := by
  unfold ansO ansS
  by_cases h : p.err false = 0
  · simp only [if_pos h]
    have hh : (p.rs false).Head := Setup.head h hp
    have f0 := hh.ok.fuel.1
    change 0 ≤ p.fuel at f0
    have hF := runR_run p.fuel.toNat (p.rs false) rfl hh.ok.s (by show _ = p.fuel - 0; omega)
    exact ⟨hF.2.2, hF.2.1, runR_built0 _ _ rfl⟩
  · simp only [if_neg h, and_self]
theorem fresh_only {w w' : World} {o : Obj} (h : Only (· = w.heap.size) (w.alloc o) w') : Only (fun _ => False) w w' := by
  have h1 : Only (fun k => w.heap.size ≤ k) w w' := ((Only.refl _ w).alloc o).then (h.mono (fun k _ e => by omega))
  exact h1.mono (fun k hk hs => absurd hk (by omega))
theorem row_range {w : World} {b : Nat} {C : Array Value} {T : TypeId} (h : w.heap[b]? = some (.cells C T (0, 0))) : w.rangeAt b 0 C.toList := by
  intro j v hj
  rw [Nat.zero_add, cell_of_row w b j _ _ _ h]
  simpa using hj
theorem evs_slice {w : World} {v : Value} {n : Nat} {xs : List Value} (h : w.ownsRow 0 86 3 v n xs) : ∃ a l c, v = .slice a l c := by
  rcases h.2 with ⟨e, _⟩ | ⟨g, cap, _, e, _⟩
  · exact ⟨_, _, _, e⟩
  · exact ⟨_, _, _, e⟩
theorem rep_size (o : Int) (s : St) (evs : Value) (bu : Int) : (Tryz.prog.info? 41).map (·.size) = some (repCells o s evs bu).toList.length := by kernel_rfl
set_option maxRecDepth 100000 in
set_option maxHeartbeats 1000000 in
theorem interprets_any (p : Setup) (hr : p.Raw) (ab : Nat) (av : Value) (w : World) (ha : TextsAt w ab av p.ans) (hab : ab < w.heap.size) (ht : Tab w) :
    Calls Tryz.prog 6 #[.agg (p.cells av)] w (fun e w' => e = .returned (.bool true) ∧ Only (fun _ => False) w w') := by
  obtain ⟨aa, ac, hav⟩ : ∃ aa ac, av = .slice aa p.ans.length ac := by
    obtain ⟨aa, ac, e, _⟩ := ha
    exact ⟨aa, ac, e⟩
  subst hav
  unfold Setup.cells
  have HA := Lib.hid ha
  have HR := Lib.hid hr
  have HT := Lib.hid ht
  clear ha hr ht
  obtain ⟨W0, hW0⟩ : ∃ W0, W0 = w.alloc (.cells #[.int .i64 p.pages, .string p.image, .int .u32 p.base, .int .u32 p.entry, .slice aa p.ans.length ac, .int .i64 p.fuel, .int .i64 p.slots, .int .i64 p.arena] 25) := ⟨_, rfl⟩
  have hO0 : Only (fun _ => False) w W0 := by rw [hW0]; exact (Only.refl _ w).alloc _
  have hb0 : W0.heap[w.heap.size]? = some (.cells (p.cells (.slice aa p.ans.length ac)) 25 (0, 0)) := by rw [hW0]; exact heap_alloc_new w _
  have hsz0 : W0.heap.size = w.heap.size + 1 := by rw [hW0]; simp
  have HW0 := Lib.hid hW0
  have HO0 := Lib.hid hO0
  have HB0 := Lib.hid hb0
  clear hW0 hO0 hb0
  go_enter Tryz.func6, Tryz.ntmps6
  go_wp2_with fail
  rw [← HW0.out]
  refine (few_any p ab _ W0 HR.out.image (HA.out.only HO0.out (fun h => h)) (by omega)).mono ?_
  rintro e w1 ⟨y, rfl, ho1, hy⟩
  cases y
  · go_wp2_with fail
    go_ret
    exact ⟨rfl, HO0.out.then ho1⟩
  obtain ⟨l1, l2, l3⟩ := hy rfl
  have hp := Setup.Raw.ok HR.out l1 l2 l3
  have HP := Lib.hid hp
  clear hp l1 l3 hy
  have hb1 := ho1.heap (fun h => h) HB0.out
  have HB1 := Lib.hid hb1
  have HO1 := Lib.hid (HO0.out.then ho1)
  clear hb1 ho1
  have a0 : w1.cell? ⟨w.heap.size, 0, none⟩ = some (.int .i64 p.pages) := cell_of_row w1 _ 0 _ _ _ HB1.out
  have a1 : w1.cell? ⟨w.heap.size, 1, none⟩ = some (.string p.image) := cell_of_row w1 _ 1 _ _ _ HB1.out
  have a2 : w1.cell? ⟨w.heap.size, 2, none⟩ = some (.int .u32 p.base) := cell_of_row w1 _ 2 _ _ _ HB1.out
  have a3 : w1.cell? ⟨w.heap.size, 3, none⟩ = some (.int .u32 p.entry) := cell_of_row w1 _ 3 _ _ _ HB1.out
  have a4 : w1.cell? ⟨w.heap.size, 4, none⟩ = some (.slice aa p.ans.length ac) := cell_of_row w1 _ 4 _ _ _ HB1.out
  have a5 : w1.cell? ⟨w.heap.size, 5, none⟩ = some (.int .i64 p.fuel) := cell_of_row w1 _ 5 _ _ _ HB1.out
  have a6 : w1.cell? ⟨w.heap.size, 6, none⟩ = some (.int .i64 p.slots) := cell_of_row w1 _ 6 _ _ _ HB1.out
  have a7 : w1.cell? ⟨w.heap.size, 7, none⟩ = some (.int .i64 p.arena) := cell_of_row w1 _ 7 _ _ _ HB1.out
  go_wp2_with fail
  refine (copied_any p l2 ab _ w1 (HA.out.only HO1.out (fun h => h)) (Nat.lt_of_lt_of_le hab HO1.out.size)).mono ?_
  rintro e w2 ⟨ab2, av2, rfl, ht2, hlt2, ho2⟩
  obtain ⟨aa2, ac2, hav2⟩ : ∃ aa ac, av2 = .slice aa p.ans.length ac := by
    obtain ⟨aa, ac, e, _⟩ := ht2
    exact ⟨aa, ac, e⟩
  subst hav2
  unfold Setup.cells
  have HB2 := Lib.hid (ho2.heap (fun h => h) HB1.out)
  have HT2 := Lib.hid ht2
  have HO2 := Lib.hid (HO1.out.then ho2)
  clear ht2 ho2 a0 a1 a2 a3 a4 a5 a6 a7
  go_wp2_with fail
  obtain ⟨W3, hW3⟩ : ∃ W3, W3 = w2.alloc (.cells #[.int .i64 p.pages, .string p.image, .int .u32 p.base, .int .u32 p.entry, .slice aa2 p.ans.length ac2, .int .i64 p.fuel, .int .i64 p.slots, .int .i64 p.arena] 25) := ⟨_, rfl⟩
  rw [← hW3]
  have hO3 : Only (fun _ => False) w2 W3 := by rw [hW3]; exact (Only.refl _ w2).alloc _
  have hi3 : W3.heap[w2.heap.size]? = some (.cells (p.cells (.slice aa2 p.ans.length ac2)) 25 (0, 0)) := by rw [hW3]; exact heap_alloc_new w2 _
  have HI3 := Lib.hid hi3
  have HB3 := Lib.hid (hO3.heap (fun h => h) HB2.out)
  have HT3 := Lib.hid (HT2.out.only hO3 (fun h => h))
  have HO3 := Lib.hid (HO2.out.then hO3)
  have hlt3 := Nat.lt_of_lt_of_le hlt2 hO3.size
  clear hW3 hO3 hi3
  refine (interpret_any p HP.out ab2 _ W3 HT3.out hlt3 (HT.out.only HO3.out (fun h => h))).mono ?_
  intro e w4 h4
  obtain ⟨evs1, rfl, hown1, ho4⟩ := h4.form
  have hps := play_same p HP.out
  have hle := ans_evs p HP.out 0
  have HPS := Lib.hid hps
  have HLE := Lib.hid hle
  clear hps hle h4
  generalize hO : ansO (p.err false) (runS p.fuel p.fuel.toNat p.st).2 = O at *
  generalize hS : ansS (p.err false) (runS p.fuel p.fuel.toNat p.st).1 = S at *
  generalize hBU : ansO (p.err false) 0 = BU at *
  clear hO hS hBU
  obtain ⟨ea1, el1, ec1, hev1⟩ := evs_slice hown1
  subst hev1
  have HB4 := Lib.hid (ho4.heap (fun h => h) HB3.out)
  have HI4 := Lib.hid (ho4.heap (fun h => h) HI3.out)
  have HW1 := Lib.hid hown1
  have HT4 := Lib.hid (HT3.out.only ho4 (fun h => h))
  have HO4 := Lib.hid (HO3.out.then ho4)
  have hlt4 := Nat.lt_of_lt_of_le hlt3 ho4.size
  clear hown1 ho4
  have a0 : w4.cell? ⟨w.heap.size, 0, none⟩ = some (.int .i64 p.pages) := cell_of_row w4 _ 0 _ _ _ HB4.out
  have a1 : w4.cell? ⟨w.heap.size, 1, none⟩ = some (.string p.image) := cell_of_row w4 _ 1 _ _ _ HB4.out
  have a2 : w4.cell? ⟨w.heap.size, 2, none⟩ = some (.int .u32 p.base) := cell_of_row w4 _ 2 _ _ _ HB4.out
  have a3 : w4.cell? ⟨w.heap.size, 3, none⟩ = some (.int .u32 p.entry) := cell_of_row w4 _ 3 _ _ _ HB4.out
  have a4 : w4.cell? ⟨w.heap.size, 4, none⟩ = some (.slice aa p.ans.length ac) := cell_of_row w4 _ 4 _ _ _ HB4.out
  have a5 : w4.cell? ⟨w.heap.size, 5, none⟩ = some (.int .i64 p.fuel) := cell_of_row w4 _ 5 _ _ _ HB4.out
  have a6 : w4.cell? ⟨w.heap.size, 6, none⟩ = some (.int .i64 p.slots) := cell_of_row w4 _ 6 _ _ _ HB4.out
  have a7 : w4.cell? ⟨w.heap.size, 7, none⟩ = some (.int .i64 p.arena) := cell_of_row w4 _ 7 _ _ _ HB4.out
  have HN1 := Lib.hid (rep_one O S ea1 el1 ec1 BU)
  go_wp2_with ((refine wpList_store_ex ?_ 41 (.tmp 5) (.tmp 21) ?_ (.pointer (some ⟨w4.heap.size, 0, none⟩)) (.agg (repCells O S (.slice ea1 el1 ec1) BU)) ?_ ?_ (store_whole _ w4.heap.size 41 41 zeroRep _ (heap_alloc_new w4 _) ?_ ?_ HN1.out) ?_); (focus rfl); (focus rfl); (focus rfl); (focus rfl); (focus rfl); (focus kernel_rfl); rintro w5 ⟨ho, hg⟩; have hO5 := fresh_only ho; have HR5 := Lib.hid hg; have HB5 := Lib.hid (hO5.heap (fun h => h) HB4.out); have HI5 := Lib.hid (hO5.heap (fun h => h) HI4.out); have HO5 := Lib.hid (HO4.out.then hO5); have HW5 := Lib.hid (ownsRow_only HW1.out hO5 (fun _ _ h => h)); have HT5 := Lib.hid (HT4.out.only hO5 (fun h => h)); clear hO5 ho hg; have b0 : w5.cell? ⟨w.heap.size, 0, none⟩ = some (.int .i64 p.pages) := cell_of_row w5 _ 0 _ _ _ HB5.out; have b1 : w5.cell? ⟨w.heap.size, 1, none⟩ = some (.string p.image) := cell_of_row w5 _ 1 _ _ _ HB5.out; have b2 : w5.cell? ⟨w.heap.size, 2, none⟩ = some (.int .u32 p.base) := cell_of_row w5 _ 2 _ _ _ HB5.out; have b3 : w5.cell? ⟨w.heap.size, 3, none⟩ = some (.int .u32 p.entry) := cell_of_row w5 _ 3 _ _ _ HB5.out; have b4 : w5.cell? ⟨w.heap.size, 4, none⟩ = some (.slice aa p.ans.length ac) := cell_of_row w5 _ 4 _ _ _ HB5.out; have b5 : w5.cell? ⟨w.heap.size, 5, none⟩ = some (.int .i64 p.fuel) := cell_of_row w5 _ 5 _ _ _ HB5.out; have b6 : w5.cell? ⟨w.heap.size, 6, none⟩ = some (.int .i64 p.slots) := cell_of_row w5 _ 6 _ _ _ HB5.out; have b7 : w5.cell? ⟨w.heap.size, 7, none⟩ = some (.int .i64 p.arena) := cell_of_row w5 _ 7 _ _ _ HB5.out)
  refine (rplay_any p HP.out ab _ w5 (HA.out.only HO5.out (fun h => h)) (Nat.lt_of_lt_of_le hab HO5.out.size)).mono ?_
  intro e w6 h6
  obtain ⟨evs2, blv, rfl, hown2, ho6⟩ := h6.form
  rw [HPS.out.1, HPS.out.2.1, HPS.out.2.2]
  rw [HPS.out.2.1] at hown2
  obtain ⟨ea2, el2, ec2, hev2⟩ := evs_slice hown2
  subst hev2
  have HR6 := Lib.hid (ho6.heap (fun h => h) HR5.out)
  have HB6 := Lib.hid (ho6.heap (fun h => h) HB5.out)
  have HI6 := Lib.hid (ho6.heap (fun h => h) HI5.out)
  have HO6 := Lib.hid (HO5.out.then ho6)
  have HW6 := Lib.hid (ownsRow_only HW5.out ho6 (fun _ _ h => h))
  have HV6 := Lib.hid hown2
  have HT6 := Lib.hid (HT5.out.only ho6 (fun h => h))
  have HN2 := Lib.hid (rep_one O S ea2 el2 ec2 BU)
  clear hown2 ho6 h6 b0 b1 b2 b3 b4 b5 b6 b7 a0 a1 a2 a3 a4 a5 a6 a7
  go_wp2_with (first | ((refine wpList_store_ex ?_ 41 (.tmp 7) (.tmp 26) ?_ (.pointer (some ⟨w6.heap.size, 0, none⟩)) (.agg (repCells O S (.slice ea2 el2 ec2) BU)) ?_ ?_ (store_whole _ w6.heap.size 41 41 zeroRep _ (heap_alloc_new w6 _) ?_ ?_ HN2.out) ?_); (focus rfl); (focus rfl); (focus rfl); (focus rfl); (focus rfl); (focus kernel_rfl); rintro w7 ⟨ho, hg⟩; have hn7 := fresh_only ho; have HQ7 := Lib.hid (row_range hg); have HR7 := Lib.hid (row_range (hn7.heap (fun h => h) HR6.out)); have HB7 := Lib.hid (hn7.heap (fun h => h) HB6.out); have HI7 := Lib.hid (hn7.heap (fun h => h) HI6.out); have HO7 := Lib.hid (HO6.out.then hn7); have HW7 := Lib.hid (ownsRow_only HW6.out hn7 (fun _ _ h => h)); have HV7 := Lib.hid (ownsRow_only HV6.out hn7 (fun _ _ h => h)); have HT7 := Lib.hid (HT6.out.only hn7 (fun h => h)); clear hn7 ho hg) | (refine wpList_load_mid rfl 41 (.tmp 5) rfl w4.heap.size 0 rfl (repCells O S (.slice ea1 el1 ec1) BU).toList _ HR7.out Tryz.underlying41 rfl (rep_size _ _ _ _) ?_) | (refine wpList_load_mid rfl 41 (.tmp 7) rfl w6.heap.size 0 rfl (repCells O S (.slice ea2 el2 ec2) BU).toList _ HQ7.out Tryz.underlying41 rfl (rep_size _ _ _ _) ?_))
  refine (same_any O S BU _ _ w7 HLE.out HW7.out HV7.out).mono ?_
  rintro e w8 ⟨rfl, ho8⟩
  have j4 : w8.cell? ⟨w2.heap.size, 4, none⟩ = some (.slice aa2 p.ans.length ac2) := cell_of_row w8 _ 4 _ _ _ (ho8.heap (fun h => h) HI7.out)
  have i4 : w8.cell? ⟨w.heap.size, 4, none⟩ = some (.slice aa p.ans.length ac) := cell_of_row w8 _ 4 _ _ _ (ho8.heap (fun h => h) HB7.out)
  have HO8 := Lib.hid (HO7.out.then ho8)
  have HT8 := Lib.hid (HT7.out.only ho8 (fun h => h))
  clear ho8
  go_wp2_with fail
  refine (same_texts p.ans l2 ab2 ab _ _ w8 HT8.out (HA.out.only HO8.out (fun h => h))).mono ?_
  rintro e w9 ⟨rfl, ho9⟩
  go_wp2_with fail
  go_ret
  exact ⟨rfl, HO8.out.then ho9⟩
end Go.Proofs.YtanccjaikocefaaGreatDoor
