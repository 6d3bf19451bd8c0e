/-
  'chainslaw.All' returns true for every word, operation, two numbers and two setups. Conditions: the setups lie in memory; the table lies; the numbers are of 32 bits.
-/
import Derived.Test.YtanccjaikocefaaGreatDoorLaid
import Derived.Test.YtanccjaikocefaaGreatDoorAllLift
import Derived.Test.YtanccjaikocefaaGreatDoorNum
import Derived.Test.YtanccjaikocefaaGreatDoorRuns
import Derived.Test.YtanccjaikocefaaGreatDoorProfiles
namespace Go.Proofs.YtanccjaikocefaaGreatDoor
open Go.ChangeShapes Go.WideShapes Go.ChangeAt Go.RowKit
set_option linter.unusedVariables false

theorem computes_any (op a b : Int) (ha : 0 ≤ a) (ha2 : a < 4294967296) (hb : 0 ≤ b) (hb2 : b < 4294967296) (w : World) :
    Calls Tryz.prog 5 #[.int .i64 op, .int .u32 a, .int .u32 b] w fun e w' => e = .returned (.bool true) ∧ Draws w w' := by
  go_enter Tryz.func5, Tryz.ntmps5
  go_wp2_with (fail)
  go_loopw [7] (fun i wr => ∃ k : Int, -1 ≤ k ∧ k ≤ 50 ∧ i = .int .i64 k ∧ Draws w wr) (fun i _ => (50 - intOf i).toNat)
  case atStart => exact ⟨-1, by decide, by decide, rfl, draws_refl _⟩
  case round =>
    obtain ⟨k, hk, hk2, rfl, hd⟩ := hrel
    by_cases hlt : k < 50
    · go_wp2_with (first | (go_at_call 11; refine (cap_any _ _ _ ha ha2 hb hb2 _).mono ?_; rintro e w' ⟨rfl, rfl⟩) | (go_at_call 12; refine (rcomp_cap _ _ _ ha ha2 hb hb2 _).mono ?_; rintro e w' ⟨rfl, hd2⟩))
      go_roundw
      case rel => exact ⟨k + 1, by omega, by omega, by go_num, hd.trans hd2⟩
      case measure => simp [intOf]; omega
    · go_wp2_with (first | (go_at_call 11; refine (cap_any _ _ _ ha ha2 hb hb2 _).mono ?_; rintro e w' ⟨rfl, rfl⟩) | (go_at_call 12; refine (rcomp_cap _ _ _ ha ha2 hb hb2 _).mono ?_; rintro e w' ⟨rfl, hd2⟩))
      go_ret
      exact ⟨by simp, hd.trans hd2⟩
set_option maxRecDepth 100000 in
set_option maxHeartbeats 1000000 in
theorem all_any (wd op a b : Int) (w0 : 0 ≤ wd) (w1 : wd < 4294967296) (ha : 0 ≤ a) (ha2 : a < 4294967296) (hb : 0 ≤ b) (hb2 : b < 4294967296)
    (p : Setup) (hr : p.Raw) (ab : Nat) (av : Value) (q : Setup) (hrq : q.Raw) (bb : Nat) (bv : Value) (w : World) (hta : TextsAt w ab av p.ans) (hab : ab < w.heap.size) (htb : TextsAt w bb bv q.ans) (hbb : bb < w.heap.size) (ht : Tab w) :
    Calls Tryz.prog 3 #[.int .u32 wd, .int .i64 op, .int .u32 a, .int .u32 b, .agg (p.cells av), .agg (q.cells bv)] w (fun e w' => e = .returned (.bool true) ∧ Only (fun _ => False) w w') := by
  obtain ⟨aa, ac, hav⟩ : ∃ aa ac, av = .slice aa p.ans.length ac := by
    obtain ⟨aa, ac, e, _⟩ := hta
    exact ⟨aa, ac, e⟩
  obtain ⟨ba, bc, hbv⟩ : ∃ aa ac, bv = .slice aa q.ans.length ac := by
    obtain ⟨aa, ac, e, _⟩ := htb
    exact ⟨aa, ac, e⟩
  subst hav
  subst hbv
  have HD : ∀ W, Only (fun _ => False) w W → Calls Tryz.prog 4 #[.int .u32 wd] W (fun e w' => e = .returned (.bool true) ∧ Only (fun _ => False) W w') := fun W ho => decodes_any wd w0 w1 W (ht.only ho (fun h => h))
  have HC : ∀ W, Calls Tryz.prog 5 #[.int .i64 op, .int .u32 a, .int .u32 b] W (fun e w' => e = .returned (.bool true) ∧ Only (fun _ => False) W w') := fun W => (computes_any op a b ha ha2 hb hb2 W).mono (fun e w' h => ⟨h.1, Only.of_drawn h.2⟩)
  have HI : ∀ W, Only (fun _ => False) w W → Calls Tryz.prog 6 #[.agg (p.cells (.slice aa p.ans.length ac))] W (fun e w' => e = .returned (.bool true) ∧ Only (fun _ => False) W w') := fun W ho => interprets_any p hr ab _ W (hta.only ho (fun h => h)) (Nat.lt_of_lt_of_le hab ho.size) (ht.only ho (fun h => h))
  have HR1 : ∀ W, Only (fun _ => False) w W → Calls Tryz.prog 7 #[.agg (q.cells (.slice ba q.ans.length bc))] W (fun e w' => e = .returned (.bool true) ∧ Only (fun _ => False) W w') := fun W ho => runs_any q hrq bb _ W (htb.only ho (fun h => h)) (Nat.lt_of_lt_of_le hbb ho.size) (ht.only ho (fun h => h))
  have HR2 : ∀ W, Only (fun _ => False) w W → Calls Tryz.prog 7 #[.agg (p.cells (.slice aa p.ans.length ac))] W (fun e w' => e = .returned (.bool true) ∧ Only (fun _ => False) W w') := fun W ho => runs_any p hr ab _ W (hta.only ho (fun h => h)) (Nat.lt_of_lt_of_le hab ho.size) (ht.only ho (fun h => h))
  have HP : ∀ W, Only (fun _ => False) w W → Calls Tryz.prog 8 #[.agg (p.cells (.slice aa p.ans.length ac))] W (fun e w' => e = .returned (.bool true) ∧ Only (fun _ => False) W w') := fun W ho => profiles_any p hr ab _ W (hta.only ho (fun h => h)) (Nat.lt_of_lt_of_le hab ho.size) (ht.only ho (fun h => h))
  have GD := Lib.hid HD
  have GC := Lib.hid HC
  have GI := Lib.hid HI
  have GR1 := Lib.hid HR1
  have GR2 := Lib.hid HR2
  have GP := Lib.hid HP
  clear HD HC HI HR1 HR2 HP hta htb ht hr hrq ha ha2 hb hb2 w0 w1
  unfold Setup.cells at *
  obtain ⟨W0, hW0⟩ : ∃ W0, W0 = (w.alloc (.cells #[.int .i64 p.pages, .string p.image, .int .u32 p.base, .int .u32 p.entry, .slice aa p.ans.length ac, .int .i64 p.fuel, .int .i64 p.slots, .int .i64 p.arena] 25)).alloc (.cells #[.int .i64 q.pages, .string q.image, .int .u32 q.base, .int .u32 q.entry, .slice ba q.ans.length bc, .int .i64 q.fuel, .int .i64 q.slots, .int .i64 q.arena] 25) := ⟨_, rfl⟩
  have hO0 : Only (fun _ => False) w W0 := by rw [hW0]; exact ((Only.refl _ w).alloc _).alloc _
  have hp0 : W0.heap[w.heap.size]? = some (.cells #[.int .i64 p.pages, .string p.image, .int .u32 p.base, .int .u32 p.entry, .slice aa p.ans.length ac, .int .i64 p.fuel, .int .i64 p.slots, .int .i64 p.arena] 25 (0, 0)) := by rw [hW0]; exact heap_alloc_old' _ (heap_alloc_new w _)
  have hq0 : W0.heap[w.heap.size + 1]? = some (.cells #[.int .i64 q.pages, .string q.image, .int .u32 q.base, .int .u32 q.entry, .slice ba q.ans.length bc, .int .i64 q.fuel, .int .i64 q.slots, .int .i64 q.arena] 25 (0, 0)) := by
    rw [hW0]
    have := heap_alloc_new (w.alloc (.cells #[.int .i64 p.pages, .string p.image, .int .u32 p.base, .int .u32 p.entry, .slice aa p.ans.length ac, .int .i64 p.fuel, .int .i64 p.slots, .int .i64 p.arena] 25)) (.cells #[.int .i64 q.pages, .string q.image, .int .u32 q.base, .int .u32 q.entry, .slice ba q.ans.length bc, .int .i64 q.fuel, .int .i64 q.slots, .int .i64 q.arena] 25)
    simpa using this
  have HW0 := Lib.hid hW0
  have HO0 := Lib.hid hO0
  have HP0 := Lib.hid hp0
  have HQ0 := Lib.hid hq0
  clear hW0 hO0 hp0 hq0
  go_enter Tryz.func3, Tryz.ntmps3
  go_wp2_with fail
  go_loopw [13] (fun i wr => ∃ k : Nat, k ≤ 2 ∧ i = .int .i64 k ∧ Only (fun _ => False) W0 wr) (fun i _ => 2 - (intOf i).toNat)
  case atStart => exact ⟨0, Nat.zero_le _, rfl, by rw [← HW0.out]; exact Only.refl _ _⟩
  case round =>
  obtain ⟨k, hk, rfl, ho⟩ := hrel
  by_cases hlt : k < 2
  · have HO1 := Lib.hid ho
    clear ho
    go_wp2_with fail
    refine (GD.out wr (HO0.out.then HO1.out)).mono ?_
    rintro e w2 ⟨rfl, ho⟩
    have HO2 := Lib.hid (HO1.out.then ho)
    clear ho
    go_wp2_with fail
    refine (GC.out w2).mono ?_
    rintro e w3 ⟨rfl, ho⟩
    have HO3 := Lib.hid (HO2.out.then ho)
    clear ho
    have hx := HO3.out.heap (fun h => h) HP0.out
    have a0 : w3.cell? ⟨w.heap.size, 0, none⟩ = some (.int .i64 p.pages) := cell_of_row w3 _ 0 _ _ _ hx
    have a1 : w3.cell? ⟨w.heap.size, 1, none⟩ = some (.string p.image) := cell_of_row w3 _ 1 _ _ _ hx
    have a2 : w3.cell? ⟨w.heap.size, 2, none⟩ = some (.int .u32 p.base) := cell_of_row w3 _ 2 _ _ _ hx
    have a3 : w3.cell? ⟨w.heap.size, 3, none⟩ = some (.int .u32 p.entry) := cell_of_row w3 _ 3 _ _ _ hx
    have a4 : w3.cell? ⟨w.heap.size, 4, none⟩ = some (.slice aa p.ans.length ac) := cell_of_row w3 _ 4 _ _ _ hx
    have a5 : w3.cell? ⟨w.heap.size, 5, none⟩ = some (.int .i64 p.fuel) := cell_of_row w3 _ 5 _ _ _ hx
    have a6 : w3.cell? ⟨w.heap.size, 6, none⟩ = some (.int .i64 p.slots) := cell_of_row w3 _ 6 _ _ _ hx
    have a7 : w3.cell? ⟨w.heap.size, 7, none⟩ = some (.int .i64 p.arena) := cell_of_row w3 _ 7 _ _ _ hx
    clear hx
    go_wp2_with fail
    refine (GI.out w3 (HO0.out.then HO3.out)).mono ?_
    rintro e w4 ⟨rfl, ho⟩
    have HO4 := Lib.hid (HO3.out.then ho)
    clear ho a0 a1 a2 a3 a4 a5 a6 a7
    have hx := HO4.out.heap (fun h => h) HQ0.out
    have a0 : w4.cell? ⟨w.heap.size + 1, 0, none⟩ = some (.int .i64 q.pages) := cell_of_row w4 _ 0 _ _ _ hx
    have a1 : w4.cell? ⟨w.heap.size + 1, 1, none⟩ = some (.string q.image) := cell_of_row w4 _ 1 _ _ _ hx
    have a2 : w4.cell? ⟨w.heap.size + 1, 2, none⟩ = some (.int .u32 q.base) := cell_of_row w4 _ 2 _ _ _ hx
    have a3 : w4.cell? ⟨w.heap.size + 1, 3, none⟩ = some (.int .u32 q.entry) := cell_of_row w4 _ 3 _ _ _ hx
    have a4 : w4.cell? ⟨w.heap.size + 1, 4, none⟩ = some (.slice ba q.ans.length bc) := cell_of_row w4 _ 4 _ _ _ hx
    have a5 : w4.cell? ⟨w.heap.size + 1, 5, none⟩ = some (.int .i64 q.fuel) := cell_of_row w4 _ 5 _ _ _ hx
    have a6 : w4.cell? ⟨w.heap.size + 1, 6, none⟩ = some (.int .i64 q.slots) := cell_of_row w4 _ 6 _ _ _ hx
    have a7 : w4.cell? ⟨w.heap.size + 1, 7, none⟩ = some (.int .i64 q.arena) := cell_of_row w4 _ 7 _ _ _ hx
    clear hx
    go_wp2_with fail
    refine (GR1.out w4 (HO0.out.then HO4.out)).mono ?_
    rintro e w5 ⟨rfl, ho⟩
    have HO5 := Lib.hid (HO4.out.then ho)
    clear ho a0 a1 a2 a3 a4 a5 a6 a7
    have hx := HO5.out.heap (fun h => h) HP0.out
    have a0 : w5.cell? ⟨w.heap.size, 0, none⟩ = some (.int .i64 p.pages) := cell_of_row w5 _ 0 _ _ _ hx
    have a1 : w5.cell? ⟨w.heap.size, 1, none⟩ = some (.string p.image) := cell_of_row w5 _ 1 _ _ _ hx
    have a2 : w5.cell? ⟨w.heap.size, 2, none⟩ = some (.int .u32 p.base) := cell_of_row w5 _ 2 _ _ _ hx
    have a3 : w5.cell? ⟨w.heap.size, 3, none⟩ = some (.int .u32 p.entry) := cell_of_row w5 _ 3 _ _ _ hx
    have a4 : w5.cell? ⟨w.heap.size, 4, none⟩ = some (.slice aa p.ans.length ac) := cell_of_row w5 _ 4 _ _ _ hx
    have a5 : w5.cell? ⟨w.heap.size, 5, none⟩ = some (.int .i64 p.fuel) := cell_of_row w5 _ 5 _ _ _ hx
    have a6 : w5.cell? ⟨w.heap.size, 6, none⟩ = some (.int .i64 p.slots) := cell_of_row w5 _ 6 _ _ _ hx
    have a7 : w5.cell? ⟨w.heap.size, 7, none⟩ = some (.int .i64 p.arena) := cell_of_row w5 _ 7 _ _ _ hx
    clear hx
    go_wp2_with fail
    refine (GR2.out w5 (HO0.out.then HO5.out)).mono ?_
    rintro e w6 ⟨rfl, ho⟩
    have HO6 := Lib.hid (HO5.out.then ho)
    clear ho a0 a1 a2 a3 a4 a5 a6 a7
    have hx := HO6.out.heap (fun h => h) HP0.out
    have a0 : w6.cell? ⟨w.heap.size, 0, none⟩ = some (.int .i64 p.pages) := cell_of_row w6 _ 0 _ _ _ hx
    have a1 : w6.cell? ⟨w.heap.size, 1, none⟩ = some (.string p.image) := cell_of_row w6 _ 1 _ _ _ hx
    have a2 : w6.cell? ⟨w.heap.size, 2, none⟩ = some (.int .u32 p.base) := cell_of_row w6 _ 2 _ _ _ hx
    have a3 : w6.cell? ⟨w.heap.size, 3, none⟩ = some (.int .u32 p.entry) := cell_of_row w6 _ 3 _ _ _ hx
    have a4 : w6.cell? ⟨w.heap.size, 4, none⟩ = some (.slice aa p.ans.length ac) := cell_of_row w6 _ 4 _ _ _ hx
    have a5 : w6.cell? ⟨w.heap.size, 5, none⟩ = some (.int .i64 p.fuel) := cell_of_row w6 _ 5 _ _ _ hx
    have a6 : w6.cell? ⟨w.heap.size, 6, none⟩ = some (.int .i64 p.slots) := cell_of_row w6 _ 6 _ _ _ hx
    have a7 : w6.cell? ⟨w.heap.size, 7, none⟩ = some (.int .i64 p.arena) := cell_of_row w6 _ 7 _ _ _ hx
    clear hx
    go_wp2_with fail
    refine (GP.out w6 (HO0.out.then HO6.out)).mono ?_
    rintro e w7 ⟨rfl, ho⟩
    have HO7 := Lib.hid (HO6.out.then ho)
    clear ho a0 a1 a2 a3 a4 a5 a6 a7
    go_wp2_with fail
    go_roundw
    case rel => exact ⟨k + 1, by omega, by go_num, HO7.out⟩
    case measure => simp [intOf]; omega
  · have hk2 : k = 2 := by omega
    subst hk2
    go_wp2_with fail
    go_ret
    exact ⟨rfl, HO0.out.then ho⟩
end Go.Proofs.YtanccjaikocefaaGreatDoor
namespace Go.Proofs.YtanccjaikocefaaGreatDoor.all
theorem proved : Rows.AllCardSaid := provedOf (fun wd op a b w0 w1 ha ha2 hb hb2 p hr ab av q hrq bb bv w hta hab htb hbb ht => all_any wd op a b w0 w1 ha ha2 hb hb2 p hr ab av q hrq bb bv w hta hab htb hbb ht)
#print axioms proved
end Go.Proofs.YtanccjaikocefaaGreatDoor.all
