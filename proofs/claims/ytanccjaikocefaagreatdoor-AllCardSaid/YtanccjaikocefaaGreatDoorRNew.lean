/-
  The contract of chainsref.New: what is wrong with a setup, or the document's machine at its beginning. Conditions: the setup's numbers are in their ranges.
-/
import Derived.Test.YtanccjaikocefaaGreatDoorRTell
import Derived.Test.YtanccjaikocefaaGreatDoorRCall
namespace Go.Proofs.YtanccjaikocefaaGreatDoor
open Go.ChangeShapes Go.WideShapes Go.ChangeAt Go.RowKit
set_option linter.unusedVariables false

def RNewNo (k : Int) (w : World) (e : Ending) (w' : World) : Prop := e = .returned (.tuple #[.pointer none, .int .i64 k]) ∧ Only (fun _ => False) w w'
set_option maxRecDepth 100000 in
theorem rnew_badP (p : Setup) (hp : p.Ok) (av : Value) (bl : Bool) (w : World) (hb : p.badP = true) :
    Calls Tryz.prog 35 #[.agg (p.cells av), .bool bl] w (RNewNo 1 w) := by
  unfold Setup.cells
  obtain ⟨g0, g1⟩ := hp.pages
  unfold Setup.badP at hb
  by_cases h1 : p.pages < 1
  · clear hb
    go_enter Tryz.func35, Tryz.ntmps35
    go_wp2_with fail
    go_ret2
    exact ⟨rfl, (Only.refl _ w).alloc _⟩
  · have h8 : 8 < p.pages := by simpa [h1] using hb
    clear hb
    go_enter Tryz.func35, Tryz.ntmps35
    go_wp2_with fail
    go_ret2
    exact ⟨rfl, (Only.refl _ w).alloc _⟩
set_option maxRecDepth 100000 in
theorem rnew_badI (p : Setup) (hp : p.Ok) (av : Value) (bl : Bool) (w : World) (ha : p.badP = false) (hb : p.badI = true) :
    Calls Tryz.prog 35 #[.agg (p.cells av), .bool bl] w (RNewNo 2 w) := by
  unfold Setup.cells
  unfold Setup.badP at ha
  obtain ⟨p0, p8⟩ : ¬ p.pages < 1 ∧ ¬ 8 < p.pages := by simpa using ha
  have hb' : p.pages * 64 < p.base + p.image.size := by simpa [Setup.badI] using hb
  obtain ⟨b0, b1⟩ := hp.base
  have hi := hp.image
  clear ha hb
  by_cases hs : p.pages * 64 < (p.image.size : Int)
  · clear hb'
    go_enter Tryz.func35, Tryz.ntmps35
    go_wp2_with fail
    go_ret2
    exact ⟨rfl, (Only.refl _ w).alloc _⟩
  · have hb2 : p.pages * 64 - p.image.size < p.base := by omega
    clear hb'
    go_enter Tryz.func35, Tryz.ntmps35
    go_wp2_with fail
    go_ret2
    exact ⟨rfl, (Only.refl _ w).alloc _⟩
set_option maxRecDepth 100000 in
theorem rnew_badF (p : Setup) (hp : p.Ok) (av : Value) (bl : Bool) (w : World) (ha : p.badP = false) (hb : p.badI = false) (hc : p.badF = true) :
    Calls Tryz.prog 35 #[.agg (p.cells av), .bool bl] w (RNewNo 3 w) := by
  unfold Setup.cells
  unfold Setup.badP at ha
  obtain ⟨p0, p8⟩ : ¬ p.pages < 1 ∧ ¬ 8 < p.pages := by simpa using ha
  have hb' : ¬ p.pages * 64 < p.base + p.image.size := by simpa [Setup.badI] using hb
  obtain ⟨b0, b1⟩ := hp.base
  have hi := hp.image
  have hs1 : ¬ p.pages * 64 < (p.image.size : Int) := by omega
  have hs2 : ¬ p.pages * 64 - p.image.size < p.base := by omega
  unfold Setup.badF at hc
  clear ha hb
  by_cases h1 : p.fuel < 0
  · clear hc
    go_enter Tryz.func35, Tryz.ntmps35
    go_wp2_with fail
    go_ret2
    exact ⟨rfl, (Only.refl _ w).alloc _⟩
  · have h8 : 2000 < p.fuel := by simpa [h1] using hc
    clear hc
    go_enter Tryz.func35, Tryz.ntmps35
    go_wp2_with fail
    go_ret2
    exact ⟨rfl, (Only.refl _ w).alloc _⟩
set_option maxRecDepth 100000 in
theorem rnew_badC (p : Setup) (hp : p.Ok) (av : Value) (w : World) (ha : p.badP = false) (hb : p.badI = false) (hc : p.badF = false) (hd : p.badC = true) :
    Calls Tryz.prog 35 #[.agg (p.cells av), .bool true] w (RNewNo 4 w) := by
  unfold Setup.cells
  unfold Setup.badP at ha
  obtain ⟨p0, p8⟩ : ¬ p.pages < 1 ∧ ¬ 8 < p.pages := by simpa using ha
  have hb' : ¬ p.pages * 64 < p.base + p.image.size := by simpa [Setup.badI] using hb
  obtain ⟨b0, b1⟩ := hp.base
  have hi := hp.image
  have hs1 : ¬ p.pages * 64 < (p.image.size : Int) := by omega
  have hs2 : ¬ p.pages * 64 - p.image.size < p.base := by omega
  unfold Setup.badF at hc
  obtain ⟨f0, f1⟩ : ¬ p.fuel < 0 ∧ ¬ 2000 < p.fuel := by simpa using hc
  unfold Setup.badC at hd
  clear ha hb hc
  have hcs : p.slots < 1 ∨ (¬ p.slots < 1 ∧ 64 < p.slots) ∨ (¬ p.slots < 1 ∧ ¬ 64 < p.slots ∧ p.arena < 8) ∨ (¬ p.slots < 1 ∧ ¬ 64 < p.slots ∧ ¬ p.arena < 8 ∧ 256 < p.arena) := by
    simp at hd; omega
  clear hd
  rcases hcs with c1 | ⟨c1, c2⟩ | ⟨c1, c2, c3⟩ | ⟨c1, c2, c3, c4⟩
  all_goals
    go_enter Tryz.func35, Tryz.ntmps35
    go_wp2_with fail
    go_ret2
    exact ⟨rfl, (Only.refl _ w).alloc _⟩
/-- What New comes to where nothing is wrong. -/
def RNewYes (p : Setup) (bl : Bool) (w : World) (e : Ending) (w' : World) : Prop :=
  ∃ b, e = .returned (.tuple #[.pointer (some ⟨b, 0, none⟩), .int .i64 0]) ∧ RM w.heap.size w' b (p.rs bl) ∧ Only (fun _ => False) w w'
/-- The machine at its making. -/
def Setup.rs0 (p : Setup) : RS := { s := { regs := fun _ => 0, pc := 0, mem := List.replicate (p.pages * 64).toNat 0, low := p.base + p.image.size, brk := 0, ans := p.ans, evs := [], steps := 0 }, out := 0, ended := false, fuel := p.fuel, slots := [], arena := p.arena, used := 0, cur := (0, 0), at_ := 0, built := 0, blocks := [] }
def rraw0 (mb ab sb : Nat) (av : Value) : RRaw := { mb := mb, ab := ab, sb := sb, ans := av, evs := .slice none 0 0, slv := .slice none 0 0, blv := .slice none 0 0 }
def RNewR (p : Setup) (ab sb : Nat) (av : Value) (w : World) (v : Value) (wx : World) : Prop :=
  ∃ b mb, v = .pointer (some ⟨b, 0, none⟩) ∧ RAt wx b p.rs0 (rraw0 mb ab sb av) ∧ wx.heap[mb]? = some (.cells (Array.replicate (p.pages * 64).toNat (Value.int .u8 0)) 5 (0, 0)) ∧ b ≠ mb ∧ w.heap.size ≤ b ∧ w.heap.size ≤ mb ∧ Only (fun _ => False) w wx
theorem rs0_cells (p : Setup) (mb ab sb : Nat) (av : Value) : (rCells p.rs0 (rraw0 mb ab sb av)).toArray = #[Value.int IntKind.i64 0, Value.int IntKind.u32 0, Value.int IntKind.u32 0, Value.int IntKind.u32 0, Value.int IntKind.u32 0, Value.int IntKind.u32 0, Value.int IntKind.u32 0, Value.int IntKind.u32 0, Value.int IntKind.u32 0, Value.int IntKind.u32 0, Value.int IntKind.u32 0, Value.int IntKind.u32 0, Value.int IntKind.u32 0, Value.int IntKind.u32 0, Value.int IntKind.u32 0, Value.int IntKind.u32 0, Value.int IntKind.u32 0, Value.int IntKind.u32 0, Value.int IntKind.u32 0, Value.int IntKind.u32 0, Value.int IntKind.u32 0, Value.int IntKind.u32 0, Value.int IntKind.u32 0, Value.int IntKind.u32 0, Value.int IntKind.u32 0, Value.int IntKind.u32 0, Value.int IntKind.u32 0, Value.int IntKind.u32 0, Value.int IntKind.u32 0, Value.int IntKind.u32 0, Value.int IntKind.u32 0, Value.int IntKind.u32 0, Value.int IntKind.u32 0, Value.int IntKind.u32 0, Value.int IntKind.u32 0, Value.string { data := #[] }, Value.slice none 0 0, Value.int IntKind.i64 0, Value.int IntKind.i64 0, Value.slice (some { block := mb, off := 0 }) (p.pages * 64).toNat (p.pages * 64).toNat, Value.int IntKind.u32 (p.base + p.image.size), av, Value.int IntKind.i64 p.fuel, Value.bool false, Value.slice none 0 0, Value.int IntKind.i64 p.arena, Value.int IntKind.i64 0, Value.int IntKind.u32 0, Value.int IntKind.i64 0, Value.int IntKind.i64 0, Value.slice none 0 0] := by
  have e : p.rs0.s.mem.length = (p.pages * 64).toNat := by simp [Setup.rs0]
  unfold rCells rTail
  rw [e]
  rfl
theorem rnew_end {p : Setup} (hp : p.Ok) (hg : p.Good) {w wc w2 : World} {b mb ab N : Nat} {av : Value} (hab : ab < w.heap.size) (hw : w.heap.size < wc.heap.size) (hM : RAt wc b p.rs0 (rraw0 mb ab w.heap.size av)) (hN : N = (p.pages * 64).toNat) (ho2 : Only (· = mb) wc w2)
    (hm2 : w2.heap[mb]? = some (.cells ((putAt (List.replicate N 0) (p.base.toNat : Int) (bytesOf p.image)).map (Value.int .u8)).toArray 5 (0, 0)))
    (hans : TextsAt wc ab av p.ans) (n1 : b ≠ mb) (n4 : w.heap.size < b) (n5 : w.heap.size < mb) (hO : Only (fun _ => False) w wc) :
    RNewYes p false w (.returned (.tuple #[.pointer (some ⟨b, 0, none⟩), .int .i64 0])) ((w2.setCell ⟨b, 1, none⟩ (.int .u32 p.entry)).setCell ⟨b, 34, none⟩ (.int .u32 (p.base + p.image.size))) := by
  have hml := Setup.mem_len hg hp.base.1
  have hb0 : (p.base.toNat : Int) = p.base := by have := hp.base.1; omega
  have hmem : putAt (List.replicate N 0) (p.base.toNat : Int) (bytesOf p.image) = p.mem0 := by rw [hN, hb0]; rfl
  rw [hmem] at hm2
  have h1 : RAt w2 b p.rs0 (rraw0 mb ab w.heap.size av) := ho2.heap n1 hM
  have h2 := (h1.putPc p.entry).putBrk (p.base + p.image.size)
  have h3 : RAt ((w2.setCell ⟨b, 1, none⟩ (.int .u32 p.entry)).setCell ⟨b, 34, none⟩ (.int .u32 (p.base + p.image.size))) b (p.rs false) (rraw0 mb ab w.heap.size av) := by
    refine h2.sub ?_
    have e0 : p.rs0.s.mem.length = (p.pages * 64).toNat := by simp [Setup.rs0]
    have e : (p.rs false).s.mem.length = p.rs0.s.mem.length := by rw [e0]; exact hml
    unfold rCells rTail
    rw [e]
    rfl
  have hs2 : Only (· = b) w2 ((w2.setCell ⟨b, 1, none⟩ (.int .u32 p.entry)).setCell ⟨b, 34, none⟩ (.int .u32 (p.base + p.image.size))) := ((Only.refl _ w2).set1 _ _).set1 _ _
  refine ⟨b, rfl, ⟨rraw0 mb ab w.heap.size av, h3, hs2.heap (Ne.symm n1) hm2, .inl ⟨rfl, rfl⟩, ((hans.only ho2 (by omega)).only hs2 (by omega)), World.ownsRow_nil _ _ _ _, World.ownsRow_nil _ _ _ _, hab, ⟨Nat.le_of_lt n4, Nat.le_of_lt n5, Nat.le_refl _⟩, ?_, ⟨n1, by show b ≠ w.heap.size; omega, by show mb ≠ w.heap.size; omega⟩, ?_, ?_⟩, ?_⟩
  · exact Nat.lt_of_lt_of_le hw (Nat.le_trans ho2.size hs2.size)
  · intro g hg'
    simp [rraw0, Value.ownBlock] at hg'
  · intro g hg'
    simp [rraw0, Value.ownBlock] at hg'
  · refine ⟨hs2.os.trans (ho2.os.trans hO.os), hs2.tape.trans (ho2.tape.trans hO.tape), hs2.output.trans (ho2.output.trans hO.output), Nat.le_trans hO.size (Nat.le_trans ho2.size hs2.size), fun k hk _ => ?_⟩
    rw [hs2.block k (Nat.lt_of_lt_of_le hk (Nat.le_trans hO.size ho2.size)) (by omega), ho2.block k (Nat.lt_of_lt_of_le hk hO.size) (by omega)]
    exact hO.block k hk (fun h => h)
set_option maxRecDepth 100000 in
set_option maxHeartbeats 800000 in
theorem rnew_good (p : Setup) (hp : p.Ok) (hg : p.Good) (ab : Nat) (av : Value) (w : World) (ha : TextsAt w ab av p.ans) (hab : ab < w.heap.size) :
    Calls Tryz.prog 35 #[.agg (p.cells av), .bool false] w (RNewYes p false w) := by
  obtain ⟨aa, ac, hav⟩ : ∃ aa ac, av = .slice aa p.ans.length ac := by
    obtain ⟨aa, ac, e, _⟩ := ha
    exact ⟨aa, ac, e⟩
  subst hav
  unfold Setup.cells
  have HG := Lib.hid hg
  obtain ⟨p0, p8, himg, f0, f1⟩ := hg
  obtain ⟨b0, b1⟩ := hp.base
  obtain ⟨e0, e1⟩ := hp.entry
  have hi := hp.image
  have hmk := make_u8 (p.pages * 64) (by omega) (by omega)
  have hs1 : ¬ p.pages * 64 < (p.image.size : Int) := by omega
  have hs2 : ¬ p.pages * 64 - p.image.size < p.base := by omega
  go_enter Tryz.func35, Tryz.ntmps35
  go_wp2_with fail
  obtain ⟨W0, hW0⟩ : ∃ W0, W0 = w.alloc (.cells #[.int .i64 p.pages, .string p.image, .int .u32 p.base, .int .u32 p.entry, .slice aa p.ans.length ac, .int .i64 p.fuel, .int .i64 p.slots, .int .i64 p.arena] 25) := ⟨_, rfl⟩
  rw [← hW0]
  have hbx : W0.heap[w.heap.size]? = some (.cells #[.int .i64 p.pages, .string p.image, .int .u32 p.base, .int .u32 p.entry, .slice aa p.ans.length ac, .int .i64 p.fuel, .int .i64 p.slots, .int .i64 p.arena] 25 (0, 0)) := by rw [hW0]; exact heap_alloc_new w _
  have hO0 : Only (fun _ => False) w W0 := by rw [hW0]; exact (Only.refl _ w).alloc _
  have c1 : W0.cell? ⟨w.heap.size, 1, none⟩ = some (.string p.image) := cell_of_row W0 _ 1 _ _ _ hbx
  have c2 : W0.cell? ⟨w.heap.size, 2, none⟩ = some (.int .u32 p.base) := cell_of_row W0 _ 2 _ _ _ hbx
  have c3 : W0.cell? ⟨w.heap.size, 3, none⟩ = some (.int .u32 p.entry) := cell_of_row W0 _ 3 _ _ _ hbx
  have c4 : W0.cell? ⟨w.heap.size, 4, none⟩ = some (.slice aa p.ans.length ac) := cell_of_row W0 _ 4 _ _ _ hbx
  have c5 : W0.cell? ⟨w.heap.size, 5, none⟩ = some (.int .i64 p.fuel) := cell_of_row W0 _ 5 _ _ _ hbx
  have c6 : W0.cell? ⟨w.heap.size, 6, none⟩ = some (.int .i64 p.slots) := cell_of_row W0 _ 6 _ _ _ hbx
  have c7 : W0.cell? ⟨w.heap.size, 7, none⟩ = some (.int .i64 p.arena) := cell_of_row W0 _ 7 _ _ _ hbx
  have hlt0 : w.heap.size < W0.heap.size := heap_lt hbx
  have HB := Lib.hid hbx
  have HO := Lib.hid hO0
  have HA := Lib.hid (ha.only hO0 (fun h => h))
  clear hbx hO0 hW0 ha
  go_cut [7] (fun v wx => RNewR p ab w.heap.size (.slice aa p.ans.length ac) W0 v wx)
  case first =>
    go_region
    all_goals go_wp2_with fail
    all_goals go_meet
    refine ⟨W0.heap.size + 1, W0.heap.size, rfl, ?_, ?_, by omega, by omega, Nat.le_refl _, ?_⟩
    · unfold RAt
      rw [rs0_cells]
      have := heap_alloc_new (W0.alloc (.cells (Array.replicate (p.pages * 64).toNat (Value.int .u8 0)) 5))
      simp only [World.size_alloc] at this
      exact this _
    · exact heap_alloc_old' _ (heap_alloc_new W0 _)
    · exact (((Only.refl _ W0).alloc _).alloc _).drew
  case rest =>
    obtain ⟨b, mb, rfl, hmac, hmem, n1, n4, n5, hO1⟩ := hcut
    have k1 : wc.cell? ⟨w.heap.size, 1, none⟩ = some (.string p.image) := hO1.cell (fun h => h) c1
    have k2 : wc.cell? ⟨w.heap.size, 2, none⟩ = some (.int .u32 p.base) := hO1.cell (fun h => h) c2
    have k3 : wc.cell? ⟨w.heap.size, 3, none⟩ = some (.int .u32 p.entry) := hO1.cell (fun h => h) c3
    have m39 := hmac.mem
    clear c1 c2 c3 c4 c5 c6 c7 hmk
    have f1' := hmac.free 1
    have f34 := hmac.free 34
    have k1' : wc.cell? ⟨b, 1, none⟩ = some (.int .u32 0) := hmac.pc
    have k34 : wc.cell? ⟨b, 34, none⟩ = some (.int .u32 0) := hmac.brk
    have k40 : wc.cell? ⟨b, 40, none⟩ = some (.int .u32 (p.base + p.image.size)) := hmac.low
    have hsz := hmac.lt
    have HM := Lib.hid hmac
    have HE := Lib.hid hmem
    have hll : p.rs0.s.mem.length = (p.pages * 64).toNat := by simp [Setup.rs0]
    obtain ⟨N, hN⟩ : ∃ N : Nat, N = (p.pages * 64).toNat := ⟨_, rfl⟩
    have hNp : (N : Int) = p.pages * 64 := by omega
    change wc.cell? ⟨b, 39, none⟩ = some (.slice (some ⟨mb, 0, none⟩) p.rs0.s.mem.length p.rs0.s.mem.length) at m39
    rw [hll, ← hN] at m39
    have hleI : p.base ≤ (N : Int) := by omega
    have hfit : p.base.toNat + p.image.size ≤ N := by omega
    have hN2 : N ≤ 512 := by omega
    have HN := Lib.hid hN
    clear hmac hmem hN hNp hll
    rcases Nat.lt_or_ge p.base.toNat N with hlt | hge
    · have hne : ¬ N = p.base.toNat := by omega
      go_wp2_with fail
      refine wp_region_still_tail 9 (by kernel_rfl) (by kernel_rfl) ?_
      simp only [List.take_succ_cons, List.take_zero, List.drop_succ_cons, List.drop_zero]
      change wpStill _ _ (World.drew _) _ _ _
      repeat still_step
      refine wpStill_nil ?_
      change wpList _ _ _ _ _ (World.drew _)
      have hmN : wc.drew.heap[mb]? = some (.cells ((List.replicate N (0 : Int)).map (Value.int .u8)).toArray 5 (0, 0)) := by
        have := HE.out
        rw [← HN.out] at this
        rw [List.map_replicate, List.toArray_replicate]
        exact this
      obtain ⟨w2, hr, ho2, hm2⟩ := copy_mem wc.drew 3 mb p.base.toNat (N - p.base.toNat) (N - p.base.toNat) (List.replicate N 0) (some ⟨mb, p.base.toNat, none⟩) p.image hmN (.inl rfl) (by simpa using hfit) (by omega)
      ((with_reducible refine Lib.wpList_copy_run _ rfl (.tmp 87) (.tmp 89) 67 9 ?_ (.slice (some ⟨mb, p.base.toNat, none⟩) (N - p.base.toNat) (N - p.base.toNat)) (.string p.image) ?_ ?_ hr ?_); (focus rfl); (focus rfl); (focus rfl))
      have hnb : ¬ b = mb := n1
      have hnw : ¬ w.heap.size = mb := by omega
      have j3 : w2.cell? ⟨w.heap.size, 3, none⟩ = some (.int .u32 p.entry) := ho2.cell hnw k3
      have j1' : w2.cell? ⟨b, 1, none⟩ = some (.int .u32 0) := ho2.cell hnb k1'
      have j34 : w2.cell? ⟨b, 34, none⟩ = some (.int .u32 0) := ho2.cell hnb k34
      have j40 : w2.cell? ⟨b, 40, none⟩ = some (.int .u32 (p.base + p.image.size)) := ho2.cell hnb k40
      have z1 : w2.frozen? ⟨b, 1, none⟩ = false := ho2.free hnb hsz f1'
      have z34 : w2.frozen? ⟨b, 34, none⟩ = false := ho2.free hnb hsz f34
      have hsz2 : b < w2.heap.size := Nat.lt_of_lt_of_le hsz ho2.size
      have hbne : ¬ b = w.heap.size := by omega
      have HO2 := Lib.hid ho2
      have HM2 := Lib.hid hm2
      clear k1 k2 k3 k1' k34 k40 m39 f1' f34 hr hmN ho2 hm2
      go_wp2_with fail
      go_ret2
      exact rnew_end hp HG.out hab (Nat.lt_of_lt_of_le hlt0 hO1.size) HM.out HN.out (Only.then ((Only.refl _ wc).drew) HO2.out) HM2.out (HA.out.only hO1 (fun h => h)) n1 (by omega) (by omega) (HO.out.then hO1)
    · have h0 : p.image.size = 0 := by omega
      obtain rfl : N = p.base.toNat := by omega
      have hmx : p.base ≤ max p.base 0 := by omega
      have HZ := Lib.hid h0
      clear h0
      go_wp2_with fail
      refine wp_region_still_tail 9 (by kernel_rfl) (by kernel_rfl) ?_
      simp only [List.take_succ_cons, List.take_zero, List.drop_succ_cons, List.drop_zero]
      change wpStill _ _ (World.drew _) _ _ _
      repeat still_step
      refine wpStill_nil ?_
      change wpList _ _ _ _ _ (World.drew _)
      have hmN : wc.drew.heap[mb]? = some (.cells ((List.replicate p.base.toNat (0 : Int)).map (Value.int .u8)).toArray 5 (0, 0)) := by
        have := HE.out
        rw [← HN.out] at this
        rw [List.map_replicate, List.toArray_replicate]
        exact this
      obtain ⟨w2, hr, ho2, hm2⟩ := copy_mem wc.drew 3 mb p.base.toNat 0 0 (List.replicate p.base.toNat 0) (some ⟨mb, 0, none⟩) p.image hmN (.inr HZ.out) (by simpa using hfit) (by omega)
      ((with_reducible refine Lib.wpList_copy_run _ rfl (.tmp 87) (.tmp 89) 67 9 ?_ (.slice (some ⟨mb, 0, none⟩) 0 0) (.string p.image) ?_ ?_ hr ?_); (focus rfl); (focus rfl); (focus rfl))
      have hnb : ¬ b = mb := n1
      have hnw : ¬ w.heap.size = mb := by omega
      have j3 : w2.cell? ⟨w.heap.size, 3, none⟩ = some (.int .u32 p.entry) := ho2.cell hnw k3
      have j1' : w2.cell? ⟨b, 1, none⟩ = some (.int .u32 0) := ho2.cell hnb k1'
      have j34 : w2.cell? ⟨b, 34, none⟩ = some (.int .u32 0) := ho2.cell hnb k34
      have j40 : w2.cell? ⟨b, 40, none⟩ = some (.int .u32 (p.base + p.image.size)) := ho2.cell hnb k40
      have z1 : w2.frozen? ⟨b, 1, none⟩ = false := ho2.free hnb hsz f1'
      have z34 : w2.frozen? ⟨b, 34, none⟩ = false := ho2.free hnb hsz f34
      have hsz2 : b < w2.heap.size := Nat.lt_of_lt_of_le hsz ho2.size
      have hbne : ¬ b = w.heap.size := by omega
      have HO2 := Lib.hid ho2
      have HM2 := Lib.hid hm2
      clear k1 k2 k3 k1' k34 k40 m39 f1' f34 hr hmN ho2 hm2
      go_wp2_with fail
      go_ret2
      exact rnew_end hp HG.out hab (Nat.lt_of_lt_of_le hlt0 hO1.size) HM.out HN.out (Only.then ((Only.refl _ wc).drew) HO2.out) HM2.out (HA.out.only hO1 (fun h => h)) n1 (by omega) (by omega) (HO.out.then hO1)
end Go.Proofs.YtanccjaikocefaaGreatDoor
