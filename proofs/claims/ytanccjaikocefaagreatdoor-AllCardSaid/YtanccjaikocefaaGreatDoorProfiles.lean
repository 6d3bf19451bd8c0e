/-
  'chainslaw.Profiles' returns true for every setup. Conditions: the setup lies in memory; the table lies.
-/
import Derived.Test.YtanccjaikocefaaGreatDoorInterprets
import Derived.Test.YtanccjaikocefaaGreatDoorRNew2
import Derived.Test.YtanccjaikocefaaGreatDoorSeen
namespace Go.Proofs.YtanccjaikocefaaGreatDoor
open Go.ChangeShapes Go.WideShapes Go.ChangeAt Go.RowKit
set_option linter.unusedVariables false

theorem rep_one' (o : Int) (s : St) (evs : Value) (n : Nat) (bu : Int) (w : World) (h : w.ownsRow 0 86 3 evs n (evCells s.evs)) : ∀ v ∈ repCells o s evs bu, v.oneCell' = true := by
  obtain ⟨a, l, c, rfl⟩ := evs_slice h
  exact rep_one o s a l c bu
theorem PlayP.rows {p : Setup} {w w' : World} {e : Ending} (h : PlayP (p.err true) p.R w e w') :
    ∃ rep blv, e = .returned (.tuple #[.agg rep, blv, .int .i64 (p.err true)]) ∧ rep.size = 39 ∧ (∀ v ∈ rep, v.oneCell' = true) ∧ w'.ownsRow 0 53 4 blv p.L.length (blkCells p.L) ∧ Only (fun _ => False) w w' := by
  unfold Setup.L
  by_cases hk : p.err true = 0
  · obtain ⟨evs, blv, he, ho, hb⟩ := h.2.2 hk
    rw [if_pos hk]
    exact ⟨_, blv, by rw [he, hk], rfl, rep_one' _ _ _ _ _ _ ho, hb, h.1⟩
  · rw [if_neg hk]
    exact ⟨_, .slice none 0 0, h.2.1 hk, rfl, zero_one, World.ownsRow_nil _ _ _ _, h.1⟩
theorem row_form {w : World} {B : Nat} {v : Value} {l : List Blk} (h : w.ownsRow B 53 4 v l.length (blkCells l)) : ∃ a c, v = .slice a l.length c := by
  rcases h.2 with ⟨e, e'⟩ | ⟨g, cap, _, e, _⟩
  · rw [e']; exact ⟨_, _, e⟩
  · exact ⟨_, _, e⟩
theorem row_addr {w : World} {B : Nat} {a : Option Addr} {c n : Nat} {xs : List Value} (h : w.ownsRow B 53 4 (.slice a n c) n xs) (hn : 0 < n) : ∃ g, a = some ⟨g, 0, none⟩ ∧ B ≤ g := by
  rcases h.2 with ⟨e, e'⟩ | ⟨g, cap, _, e, hb, _⟩
  · omega
  · cases e; exact ⟨g, rfl, hb⟩
/-- A block of the row is written anew. -/
def Stored (B g cap n : Nat) (w w' : World) : Prop := Only (· = g) w w' ∧ ∃ xs', w'.ownsRow B 53 4 (.slice (some ⟨g, 0, none⟩) n cap) n xs'
theorem blk_store (w : World) (B g cap n : Nat) (xs : List Value) (m : Nat) (hm : m < n) (h : w.ownsRow B 53 4 (.slice (some ⟨g, 0, none⟩) n cap) n xs) :
    ∃ w', (Instr.storeAt 53 (.pointer (some ⟨g, m * 4, none⟩)) (.agg #[.int .u32 1, .int .i64 0, .int .i64 0, .int .i64 0])).run Tryz.prog w = .ok () w' ∧ Stored B g cap n w w' := by
  rcases h.2 with ⟨e, _⟩ | ⟨g', cap', cur, hv, hB, hb, h1, h2, h3, h4⟩
  · cases e
  obtain ⟨rfl, rfl⟩ : g = g' ∧ cap = cap' := by cases hv; exact ⟨rfl, rfl⟩
  have hst := run_storeCells_at (P := Tryz.prog) g (m * 4) 53 [.int .u32 1, .int .i64 0, .int .i64 0, .int .i64 0] 0 cur w hb (by simp; omega) (fun v hv => by simp at hv; rcases hv with rfl | rfl | rfl | rfl <;> rfl)
  have hi : (Tryz.prog.info? 53).map (·.size) = some 4 := by kernel_rfl
  cases hq : Tryz.prog.info? 53 with
  | none => simp [hq] at hi
  | some i =>
    have hsz : 4 = i.size := by simp [hq] at hi; omega
    refine ⟨w.setRow g (cur.toList.take (m * 4 + 0) ++ [Value.int .u32 1, .int .i64 0, .int .i64 0, .int .i64 0] ++ cur.toList.drop (m * 4 + 0 + [Value.int .u32 1, .int .i64 0, .int .i64 0, .int .i64 0].length)).toArray, ?_, ⟨rfl, rfl, rfl, by simp [World.setRow], fun k hk hne => setRow_other w g k _ hne⟩, ?_⟩
    · simp [Instr.storeAt, Instr.sureAddr, storeVar, sizeOf, typeInfo, hq, Value.cells, ← hsz, hst]
    · refine ⟨_, ?_, .inr ⟨g, cap, _, rfl, hB, setRow_heap w g _ _ _ _ hb, h1, h2, ?_, rfl⟩⟩
      · simp; omega
      · simp; omega
set_option maxRecDepth 100000 in
set_option maxHeartbeats 1000000 in
theorem profiles_any (p : Setup) (hr : p.Raw) (ab : Nat) (av : Value) (w : World) (ha : TextsAt w ab av p.ans) (hab : ab < w.heap.size) (ht : Tab w) :
    Calls Tryz.prog 8 #[.agg (p.cells av)] w (fun e w' => e = .returned (.bool true) ∧ Only (fun _ => False) w w') := by
  obtain ⟨aa, ac, hav⟩ : ∃ aa ac, av = .slice aa p.ans.length ac := by
    obtain ⟨aa, ac, e, _⟩ := ha
    exact ⟨aa, ac, e⟩
  subst hav
  unfold Setup.cells
  have HA := Lib.hid ha
  have HR := Lib.hid hr
  have HT := Lib.hid ht
  clear ha hr ht
  obtain ⟨W0, hW0⟩ : ∃ W0, W0 = w.alloc (.cells #[.int .i64 p.pages, .string p.image, .int .u32 p.base, .int .u32 p.entry, .slice aa p.ans.length ac, .int .i64 p.fuel, .int .i64 p.slots, .int .i64 p.arena] 25) := ⟨_, rfl⟩
  have hO0 : Only (fun _ => False) w W0 := by rw [hW0]; exact (Only.refl _ w).alloc _
  have hb0 : W0.heap[w.heap.size]? = some (.cells (p.cells (.slice aa p.ans.length ac)) 25 (0, 0)) := by rw [hW0]; exact heap_alloc_new w _
  have hsz0 : W0.heap.size = w.heap.size + 1 := by rw [hW0]; simp
  have HW0 := Lib.hid hW0
  have HO0 := Lib.hid hO0
  have HB0 := Lib.hid hb0
  clear hW0 hO0 hb0
  go_enter Tryz.func8, Tryz.ntmps8
  go_wp2_with fail
  rw [← HW0.out]
  refine (few_any p ab _ W0 HR.out.image (HA.out.only HO0.out (fun h => h)) (by omega)).mono ?_
  rintro e w1 ⟨y, rfl, ho1, hy⟩
  cases y
  · go_wp2_with fail
    go_ret
    exact ⟨rfl, HO0.out.then ho1⟩
  obtain ⟨l1, l2, l3⟩ := hy rfl
  have hp := Setup.Raw.ok HR.out l1 l2 l3
  have HP := Lib.hid hp
  clear hp l1 l3 hy
  have hb1 := ho1.heap (fun h => h) HB0.out
  have HB1 := Lib.hid hb1
  have HO1 := Lib.hid (HO0.out.then ho1)
  clear hb1 ho1
  have a0 : w1.cell? ⟨w.heap.size, 0, none⟩ = some (.int .i64 p.pages) := cell_of_row w1 _ 0 _ _ _ HB1.out
  have a1 : w1.cell? ⟨w.heap.size, 1, none⟩ = some (.string p.image) := cell_of_row w1 _ 1 _ _ _ HB1.out
  have a2 : w1.cell? ⟨w.heap.size, 2, none⟩ = some (.int .u32 p.base) := cell_of_row w1 _ 2 _ _ _ HB1.out
  have a3 : w1.cell? ⟨w.heap.size, 3, none⟩ = some (.int .u32 p.entry) := cell_of_row w1 _ 3 _ _ _ HB1.out
  have a4 : w1.cell? ⟨w.heap.size, 4, none⟩ = some (.slice aa p.ans.length ac) := cell_of_row w1 _ 4 _ _ _ HB1.out
  have a5 : w1.cell? ⟨w.heap.size, 5, none⟩ = some (.int .i64 p.fuel) := cell_of_row w1 _ 5 _ _ _ HB1.out
  have a6 : w1.cell? ⟨w.heap.size, 6, none⟩ = some (.int .i64 p.slots) := cell_of_row w1 _ 6 _ _ _ HB1.out
  have a7 : w1.cell? ⟨w.heap.size, 7, none⟩ = some (.int .i64 p.arena) := cell_of_row w1 _ 7 _ _ _ HB1.out
  go_wp2_with fail
  refine (rplayB_any p HP.out ab _ w1 (HA.out.only HO1.out (fun h => h)) (Nat.lt_of_lt_of_le hab HO1.out.size)).mono ?_
  intro e w2 h2
  obtain ⟨rep, blv, rfl, hrs, hro, hbl, ho2⟩ := PlayP.rows (p := p) h2
  obtain ⟨ba, bc, rfl⟩ := row_form hbl
  have hLL := L_len p HP.out
  generalize hk : p.err true = K at *
  generalize hL : p.L = L at *
  have HKL := Lib.hid (⟨hk, hL⟩ : p.err true = K ∧ p.L = L)
  have HLL := Lib.hid hLL
  have HRO := Lib.hid hro
  have HRS := Lib.hid hrs
  have HB2 := Lib.hid (ho2.heap (fun h => h) HB1.out)
  have HV2 := Lib.hid hbl
  have HO2 := Lib.hid (HO1.out.then ho2)
  clear ho2 hbl h2 hro hrs hk hL hLL a0 a1 a2 a3 a4 a5 a6 a7
  go_wp2_with ((refine wpList_store_ex ?_ 41 (.tmp 4) (.tmp 20) ?_ (.pointer (some ⟨w2.heap.size, 0, none⟩)) (.agg rep) ?_ ?_ (store_whole _ w2.heap.size 41 41 zeroRep _ (heap_alloc_new w2 _) ?_ ?_ HRO.out) ?_); (focus rfl); (focus rfl); (focus rfl); (focus rfl); (focus exact HRS.out.symm); (focus (rw [HRS.out]; kernel_rfl)); rintro w3 ⟨ho, hg⟩; have hO3 := fresh_only ho; have HB3 := Lib.hid (hO3.heap (fun h => h) HB2.out); have HO3 := Lib.hid (HO2.out.then hO3); have HV3 := Lib.hid (ownsRow_only HV2.out hO3 (fun _ _ h => h)); clear hO3 ho hg)
  go_loopw [7] (fun i wr => ∃ k : Nat, k ≤ 2 ∧ i = .int .i64 k ∧ Only (fun _ => False) w3 wr) (fun i _ => 2 - (intOf i).toNat)
  case atStart => exact ⟨0, Nat.zero_le _, rfl, Only.refl _ _⟩
  case round =>
  obtain ⟨k, hk, rfl, ho⟩ := hrel
  by_cases hlt : k < 2
  · have HBr := Lib.hid (ho.heap (fun h => h) HB3.out)
    have HOr := Lib.hid (HO3.out.then ho)
    have HVr := Lib.hid (ownsRow_only HV3.out ho (fun _ _ h => h))
    have HOW := Lib.hid ho
    clear ho
    have a0 : wr.cell? ⟨w.heap.size, 0, none⟩ = some (.int .i64 p.pages) := cell_of_row wr _ 0 _ _ _ HBr.out
    have a1 : wr.cell? ⟨w.heap.size, 1, none⟩ = some (.string p.image) := cell_of_row wr _ 1 _ _ _ HBr.out
    have a2 : wr.cell? ⟨w.heap.size, 2, none⟩ = some (.int .u32 p.base) := cell_of_row wr _ 2 _ _ _ HBr.out
    have a3 : wr.cell? ⟨w.heap.size, 3, none⟩ = some (.int .u32 p.entry) := cell_of_row wr _ 3 _ _ _ HBr.out
    have a4 : wr.cell? ⟨w.heap.size, 4, none⟩ = some (.slice aa p.ans.length ac) := cell_of_row wr _ 4 _ _ _ HBr.out
    have a5 : wr.cell? ⟨w.heap.size, 5, none⟩ = some (.int .i64 p.fuel) := cell_of_row wr _ 5 _ _ _ HBr.out
    have a6 : wr.cell? ⟨w.heap.size, 6, none⟩ = some (.int .i64 p.slots) := cell_of_row wr _ 6 _ _ _ HBr.out
    have a7 : wr.cell? ⟨w.heap.size, 7, none⟩ = some (.int .i64 p.arena) := cell_of_row wr _ 7 _ _ _ HBr.out
    go_wp2_with fail
    refine (copied_any p l2 ab _ wr (HA.out.only HOr.out (fun h => h)) (Nat.lt_of_lt_of_le hab HOr.out.size)).mono ?_
    rintro e w4 ⟨ab2, av2, rfl, ht2, hlt2, ho2⟩
    obtain ⟨aa2, ac2, hav2⟩ : ∃ aa ac, av2 = .slice aa p.ans.length ac := by
      obtain ⟨aa, ac, e, _⟩ := ht2
      exact ⟨aa, ac, e⟩
    subst hav2
    unfold Setup.cells
    have HT4 := Lib.hid ht2
    have HO4 := Lib.hid (HOr.out.then ho2)
    have HOW4 := Lib.hid (HOW.out.then ho2)
    have HV4 := Lib.hid (ownsRow_only HVr.out ho2 (fun _ _ h => h))
    clear ht2 ho2 a0 a1 a2 a3 a4 a5 a6 a7
    go_wp2_with fail
    obtain ⟨w5, hw5⟩ : ∃ w5, w5 = w4.alloc (.cells #[.int .i64 p.pages, .string p.image, .int .u32 p.base, .int .u32 p.entry, .slice aa2 p.ans.length ac2, .int .i64 p.fuel, .int .i64 p.slots, .int .i64 p.arena] 25) := ⟨_, rfl⟩
    rw [← hw5]
    have hO5 : Only (fun _ => False) w4 w5 := by rw [hw5]; exact (Only.refl _ w4).alloc _
    have HT5 := Lib.hid (HT4.out.only hO5 (fun h => h))
    have HO5 := Lib.hid (HO4.out.then hO5)
    have HOW5 := Lib.hid (HOW4.out.then hO5)
    have HV5 := Lib.hid (ownsRow_only HV4.out hO5 (fun _ _ h => h))
    have hlt5 := Nat.lt_of_lt_of_le hlt2 hO5.size
    clear hw5 hO5
    have hpr := profile_any p HP.out ab2 _ w5 HT5.out hlt5 (HT.out.only HO5.out (fun h => h))
    rw [HKL.out.1, HKL.out.2] at hpr
    unfold Setup.cells at hpr
    refine hpr.mono ?_
    clear hpr
    rintro e w6 ⟨lv, rfl, hrow, ho6⟩
    obtain ⟨la, lc, rfl⟩ := row_form hrow
    have HO6 := Lib.hid (HO5.out.then ho6)
    have HOW6 := Lib.hid (HOW5.out.then ho6)
    have HV6 := Lib.hid (ownsRow_only HV5.out ho6 (fun _ _ h => h))
    have HL6 := Lib.hid hrow
    have hsz5 := HOW5.out.size
    clear ho6 hrow
    go_wp2_with fail
    have HK := Lib.hid hk
    have HLT := Lib.hid hlt
    clear hk hlt
    go_loopw [11] (fun i wx => ∃ m : Nat, m ≤ L.length ∧ i = .int .i64 m ∧ Only (fun _ => False) w6 wx) (fun i _ => L.length - (intOf i).toNat)
    case atStart => exact ⟨0, Nat.zero_le _, rfl, Only.refl _ _⟩
    case round =>
    obtain ⟨m, hm, rfl, ho⟩ := hrel
    by_cases hlt : m < L.length
    · obtain ⟨y, hy⟩ : ∃ y, L[m]? = some y := ⟨_, List.getElem?_eq_getElem hlt⟩
      have hV := ownsRow_only HV6.out ho (fun _ _ h => h)
      have hL := ownsRow_only HL6.out ho (fun _ _ h => h)
      obtain ⟨bg, rfl, _⟩ := row_addr hV (by omega)
      obtain ⟨lg, rfl, _⟩ := row_addr hL (by omega)
      obtain ⟨b0, b1, b2, b3⟩ := blk_cells hV hy
      obtain ⟨d0, d1, d2, d3⟩ := blk_cells hL hy
      clear hV hL hy
      have hbnd := HLL.out
      go_wp2_with fail
      go_quiet (fail)
      go_wp2_with fail
      go_roundw
      case rel => exact ⟨m + 1, by omega, by go_num, ho.drewN _⟩
      case measure => simp [intOf]; omega
    · have hm2 : m = L.length := by omega
      subst hm2
      have HOX := Lib.hid (HOW6.out.then ho)
      have HLX := Lib.hid (ownsRow_only HL6.out ho (fun _ _ h => h))
      clear ho hm hlt
      go_wp2_with fail
      go_loopw [12] (fun i wy => ∃ (m : Nat) (xs : List Value), m ≤ L.length ∧ i = .int .i64 m ∧ Only (fun _ => False) w3 wy ∧ wy.ownsRow w5.heap.size 53 4 (.slice la L.length lc) L.length xs) (fun i _ => L.length - (intOf i).toNat)
      case atStart => exact ⟨0, _, Nat.zero_le _, rfl, HOX.out, HLX.out⟩
      case round =>
      obtain ⟨m, xs, hm, rfl, ho, hown⟩ := hrel
      by_cases hlt : m < L.length
      · obtain ⟨lg, rfl, hge⟩ := row_addr hown (by omega)
        have HST := Lib.hid (blk_store wr w5.heap.size lg lc L.length xs m hlt hown)
        have HOY := Lib.hid ho
        clear ho hown
        have hbnd := HLL.out
        go_wp2_with ((refine wpList_store_ex ?_ 53 (.tmp 68) (.tmp 67) ?_ (.pointer (some ⟨lg, m * 4, none⟩)) (.agg #[.int .u32 1, .int .i64 0, .int .i64 0, .int .i64 0]) ?_ ?_ HST.out ?_); (focus rfl); (focus rfl); (focus rfl); (focus rfl); rintro w7 ⟨ho7, xs7, hown7⟩)
        go_roundw
        case rel => exact ⟨m + 1, xs7, by omega, by go_num, HOY.out.trans ho7 (fun _ _ h => h) (fun i hi h => by omega), hown7⟩
        case measure => simp [intOf]; omega
      · have hm2 : m = L.length := by omega
        subst hm2
        have HOY := Lib.hid ho
        have HKK := Lib.hid (⟨HK.out, HLT.out⟩ : k ≤ 2 ∧ k < 2)
        clear ho hown
        go_wp2_with fail
        go_roundw
        case rel => exact ⟨k + 1, by have := HLT.out; omega, by go_num, HOY.out⟩
        case measure => have := HLT.out; simp [intOf]; omega
  · have hk2 : k = 2 := by omega
    subst hk2
    go_wp2_with fail
    go_ret
    exact ⟨rfl, HO3.out.then ho⟩
end Go.Proofs.YtanccjaikocefaaGreatDoor
