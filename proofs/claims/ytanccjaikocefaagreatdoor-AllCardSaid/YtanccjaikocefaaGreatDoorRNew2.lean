/-
  The contract of the document's New in blocks, and of Play in blocks. Conditions: the setup's numbers are in their ranges; its texts lie in memory.
-/
import Derived.Test.YtanccjaikocefaaGreatDoorRFind
import Derived.Test.YtanccjaikocefaaGreatDoorRPlay
namespace Go.Proofs.YtanccjaikocefaaGreatDoor
open Go.ChangeShapes Go.WideShapes Go.ChangeAt Go.RowKit
set_option linter.unusedVariables false

theorem rnew_slots {p : Setup} {m n0 : Nat} (hm : p.slots = (m : Int)) (h1 : 1 ≤ p.slots) {w W : World} {b : Nat} (hn0 : n0 = W.heap.size) (h : RNewYes p false w (.returned (.tuple #[.pointer (some ⟨b, 0, none⟩), .int .i64 0])) W) :
    RNewYes p true w (.returned (.tuple #[.pointer (some ⟨b, 0, none⟩), .int .i64 0])) ((W.setCell ⟨b, 44, none⟩ (.slice (some ⟨n0, 0, none⟩) m m)).alloc (.cells (slotCells (List.replicate m (0, 0))).toArray 82)) := by
  subst hn0
  obtain ⟨b', he, ⟨x, hM⟩, hO⟩ := h
  simp only [Ending.returned.injEq, Value.tuple.injEq, Array.mk.injEq, List.cons.injEq, Value.pointer.injEq, Option.some.injEq, Addr.mk.injEq, and_true] at he
  subst he
  obtain ⟨W1, hW1⟩ : ∃ W1, W1 = W.setCell ⟨b, 44, none⟩ (.slice (some ⟨W.heap.size, 0, none⟩) m m) := ⟨_, rfl⟩
  have hS : Only (· = b) W W1 := by rw [hW1]; exact (Only.refl _ _).set1 _ _
  have hR : RAt W1 b (p.rs true) { x with slv := .slice (some ⟨W.heap.size, 0, none⟩) m m, sb := W.heap.size } := by rw [hW1]; exact (hM.mac.putSlv _ W.heap.size).sub rfl
  have hsz : W1.heap.size = W.heap.size := by rw [hW1]; simp
  rw [← hW1]
  clear hW1
  have hA : Only (fun _ => False) W1 (W1.alloc (.cells (slotCells (List.replicate m (0, 0))).toArray 82)) := (Only.refl _ _).alloc _
  have hrow := heap_alloc_new W1 (.cells (slotCells (List.replicate m (0, 0))).toArray 82)
  rw [hsz] at hrow
  have hblt := hM.mac.lt
  have hmlt := heap_lt hM.mem
  have hB := hM.from_.1
  have hab := hM.ab
  have hsl : (p.rs true).slots = List.replicate m (0, 0) := by unfold Setup.rs; simp [hm]
  refine ⟨b, rfl, ⟨{ x with slv := .slice (some ⟨W.heap.size, 0, none⟩) m m, sb := W.heap.size }, hA.heap (fun h => h) hR, ?_, ?_, ?_, ?_, ?_, hM.ab, ⟨hM.from_.1, hM.from_.2.1, by show w.heap.size ≤ W.heap.size; omega⟩, ?_, ⟨hM.ne.1, by show b ≠ W.heap.size; omega, by show x.mb ≠ W.heap.size; omega⟩, fun g hg => ?_, fun g hg => ?_⟩, ?_⟩
  · exact hA.heap (fun h => h) (hS.heap (fun e => hM.ne.1 e.symm) hM.mem)
  · refine .inr ⟨by rw [hsl, List.length_replicate]; omega, by rw [hsl, List.length_replicate], ?_⟩
    rw [hsl]
    exact hrow
  · exact (hM.ans.only hS (fun e => by have : x.ab = b := e; omega)).only hA (fun h => h)
  · exact ownsRow_only (ownsRow_only hM.evs hS (fun g hg => (hM.nee g hg).1)) hA (fun _ _ h => h)
  · exact ownsRow_only (ownsRow_only hM.blocks hS (fun g hg => (hM.neb g hg).1)) hA (fun _ _ h => h)
  · exact heap_lt hrow
  · obtain ⟨a, b', c, d⟩ := hM.nee g hg
    have := (hM.evs.lt g hg).2
    exact ⟨a, b', by show g ≠ W.heap.size; omega, d⟩
  · obtain ⟨a, b', c⟩ := hM.neb g hg
    have := (hM.blocks.lt g hg).2
    exact ⟨a, b', by show g ≠ W.heap.size; omega⟩
  · exact (hO.trans hS (U := fun k => w.heap.size ≤ k) (fun _ _ h => h.elim) (fun k _ e => by have : k = b := e; omega)).mono (fun k hk h => by have : w.heap.size ≤ k := h; omega) |>.then hA
set_option maxRecDepth 100000 in
set_option maxHeartbeats 800000 in
theorem rnew_goodB (p : Setup) (hp : p.Ok) (hg : p.Good) (sl0 : 1 ≤ p.slots) (sl1 : p.slots ≤ 64) (ar0 : 8 ≤ p.arena) (ar1 : p.arena ≤ 256) (ab : Nat) (av : Value) (w : World) (ha : TextsAt w ab av p.ans) (hab : ab < w.heap.size) :
    Calls Tryz.prog 35 #[.agg (p.cells av), .bool true] w (RNewYes p true w) := by
  obtain ⟨aa, ac, hav⟩ : ∃ aa ac, av = .slice aa p.ans.length ac := by
    obtain ⟨aa, ac, e, _⟩ := ha
    exact ⟨aa, ac, e⟩
  subst hav
  unfold Setup.cells
  have HG := Lib.hid hg
  obtain ⟨m, hm⟩ : ∃ m : Nat, p.slots = (m : Int) := ⟨p.slots.toNat, by omega⟩
  have hms := fun W => rmake_slots m (by omega) W
  have HMM := Lib.hid hm
  clear hm
  obtain ⟨p0, p8, himg, f0, f1⟩ := hg
  obtain ⟨b0, b1⟩ := hp.base
  obtain ⟨e0, e1⟩ := hp.entry
  have hi := hp.image
  have hmk := make_u8 (p.pages * 64) (by omega) (by omega)
  have hs1 : ¬ p.pages * 64 < (p.image.size : Int) := by omega
  have hs2 : ¬ p.pages * 64 - p.image.size < p.base := by omega
  go_enter Tryz.func35, Tryz.ntmps35
  go_wp2_with fail
  obtain ⟨W0, hW0⟩ : ∃ W0, W0 = w.alloc (.cells #[.int .i64 p.pages, .string p.image, .int .u32 p.base, .int .u32 p.entry, .slice aa p.ans.length ac, .int .i64 p.fuel, .int .i64 p.slots, .int .i64 p.arena] 25) := ⟨_, rfl⟩
  rw [← hW0]
  have hbx : W0.heap[w.heap.size]? = some (.cells #[.int .i64 p.pages, .string p.image, .int .u32 p.base, .int .u32 p.entry, .slice aa p.ans.length ac, .int .i64 p.fuel, .int .i64 p.slots, .int .i64 p.arena] 25 (0, 0)) := by rw [hW0]; exact heap_alloc_new w _
  have hO0 : Only (fun _ => False) w W0 := by rw [hW0]; exact (Only.refl _ w).alloc _
  have c1 : W0.cell? ⟨w.heap.size, 1, none⟩ = some (.string p.image) := cell_of_row W0 _ 1 _ _ _ hbx
  have c2 : W0.cell? ⟨w.heap.size, 2, none⟩ = some (.int .u32 p.base) := cell_of_row W0 _ 2 _ _ _ hbx
  have c3 : W0.cell? ⟨w.heap.size, 3, none⟩ = some (.int .u32 p.entry) := cell_of_row W0 _ 3 _ _ _ hbx
  have c4 : W0.cell? ⟨w.heap.size, 4, none⟩ = some (.slice aa p.ans.length ac) := cell_of_row W0 _ 4 _ _ _ hbx
  have c5 : W0.cell? ⟨w.heap.size, 5, none⟩ = some (.int .i64 p.fuel) := cell_of_row W0 _ 5 _ _ _ hbx
  have c6 : W0.cell? ⟨w.heap.size, 6, none⟩ = some (.int .i64 p.slots) := cell_of_row W0 _ 6 _ _ _ hbx
  have c7 : W0.cell? ⟨w.heap.size, 7, none⟩ = some (.int .i64 p.arena) := cell_of_row W0 _ 7 _ _ _ hbx
  have hlt0 : w.heap.size < W0.heap.size := heap_lt hbx
  have HB := Lib.hid hbx
  have HO := Lib.hid hO0
  have HA := Lib.hid (ha.only hO0 (fun h => h))
  clear hbx hO0 hW0 ha
  go_cut [7] (fun v wx => RNewR p ab w.heap.size (.slice aa p.ans.length ac) W0 v wx)
  case first =>
    go_region
    all_goals go_wp2_with fail
    all_goals go_meet
    refine ⟨W0.heap.size + 1, W0.heap.size, rfl, ?_, ?_, by omega, by omega, Nat.le_refl _, ?_⟩
    · unfold RAt
      rw [rs0_cells]
      have := heap_alloc_new (W0.alloc (.cells (Array.replicate (p.pages * 64).toNat (Value.int .u8 0)) 5))
      simp only [World.size_alloc] at this
      exact this _
    · exact heap_alloc_old' _ (heap_alloc_new W0 _)
    · exact (((Only.refl _ W0).alloc _).alloc _).drew
  case rest =>
    obtain ⟨b, mb, rfl, hmac, hmem, n1, n4, n5, hO1⟩ := hcut
    have k1 : wc.cell? ⟨w.heap.size, 1, none⟩ = some (.string p.image) := hO1.cell (fun h => h) c1
    have k2 : wc.cell? ⟨w.heap.size, 2, none⟩ = some (.int .u32 p.base) := hO1.cell (fun h => h) c2
    have k3 : wc.cell? ⟨w.heap.size, 3, none⟩ = some (.int .u32 p.entry) := hO1.cell (fun h => h) c3
    have m39 := hmac.mem
    have k6 : wc.cell? ⟨w.heap.size, 6, none⟩ = some (.int .i64 m) := (hO1.cell (fun h => h) c6).trans (by rw [← HMM.out])
    have m44 : wc.cell? ⟨b, 44, none⟩ = some (.slice none 0 0) := hmac.slots
    have f44 := hmac.free 44
    clear c1 c2 c3 c4 c5 c6 c7 hmk
    have f1' := hmac.free 1
    have f34 := hmac.free 34
    have k1' : wc.cell? ⟨b, 1, none⟩ = some (.int .u32 0) := hmac.pc
    have k34 : wc.cell? ⟨b, 34, none⟩ = some (.int .u32 0) := hmac.brk
    have k40 : wc.cell? ⟨b, 40, none⟩ = some (.int .u32 (p.base + p.image.size)) := hmac.low
    have hsz := hmac.lt
    have HM := Lib.hid hmac
    have HE := Lib.hid hmem
    have hll : p.rs0.s.mem.length = (p.pages * 64).toNat := by simp [Setup.rs0]
    obtain ⟨N, hN⟩ : ∃ N : Nat, N = (p.pages * 64).toNat := ⟨_, rfl⟩
    have hNp : (N : Int) = p.pages * 64 := by omega
    change wc.cell? ⟨b, 39, none⟩ = some (.slice (some ⟨mb, 0, none⟩) p.rs0.s.mem.length p.rs0.s.mem.length) at m39
    rw [hll, ← hN] at m39
    have hleI : p.base ≤ (N : Int) := by omega
    have hfit : p.base.toNat + p.image.size ≤ N := by omega
    have hN2 : N ≤ 512 := by omega
    have HN := Lib.hid hN
    clear hmac hmem hN hNp hll
    rcases Nat.lt_or_ge p.base.toNat N with hlt | hge
    · have hne : ¬ N = p.base.toNat := by omega
      go_wp2_with fail
      refine wp_region_still_tail 9 (by kernel_rfl) (by kernel_rfl) ?_
      simp only [List.take_succ_cons, List.take_zero, List.drop_succ_cons, List.drop_zero]
      change wpStill _ _ (World.drew _) _ _ _
      repeat still_step
      refine wpStill_nil ?_
      change wpList _ _ _ _ _ (World.drew _)
      have hmN : wc.drew.heap[mb]? = some (.cells ((List.replicate N (0 : Int)).map (Value.int .u8)).toArray 5 (0, 0)) := by
        have := HE.out
        rw [← HN.out] at this
        rw [List.map_replicate, List.toArray_replicate]
        exact this
      obtain ⟨w2, hr, ho2, hm2⟩ := copy_mem wc.drew 3 mb p.base.toNat (N - p.base.toNat) (N - p.base.toNat) (List.replicate N 0) (some ⟨mb, p.base.toNat, none⟩) p.image hmN (.inl rfl) (by simpa using hfit) (by omega)
      ((with_reducible refine Lib.wpList_copy_run _ rfl (.tmp 87) (.tmp 89) 67 9 ?_ (.slice (some ⟨mb, p.base.toNat, none⟩) (N - p.base.toNat) (N - p.base.toNat)) (.string p.image) ?_ ?_ hr ?_); (focus rfl); (focus rfl); (focus rfl))
      have hnb : ¬ b = mb := n1
      have hnw : ¬ w.heap.size = mb := by omega
      have j3 : w2.cell? ⟨w.heap.size, 3, none⟩ = some (.int .u32 p.entry) := ho2.cell hnw k3
      have j1' : w2.cell? ⟨b, 1, none⟩ = some (.int .u32 0) := ho2.cell hnb k1'
      have j34 : w2.cell? ⟨b, 34, none⟩ = some (.int .u32 0) := ho2.cell hnb k34
      have j40 : w2.cell? ⟨b, 40, none⟩ = some (.int .u32 (p.base + p.image.size)) := ho2.cell hnb k40
      have z1 : w2.frozen? ⟨b, 1, none⟩ = false := ho2.free hnb hsz f1'
      have z34 : w2.frozen? ⟨b, 34, none⟩ = false := ho2.free hnb hsz f34
      have hsz2 : b < w2.heap.size := Nat.lt_of_lt_of_le hsz ho2.size
      have hbne : ¬ b = w.heap.size := by omega
      have j6 : w2.cell? ⟨w.heap.size, 6, none⟩ = some (.int .i64 m) := ho2.cell hnw k6
      have j44 : w2.cell? ⟨b, 44, none⟩ = some (.slice none 0 0) := ho2.cell hnb m44
      have z44 : w2.frozen? ⟨b, 44, none⟩ = false := ho2.free hnb hsz f44
      have HO2 := Lib.hid ho2
      have HM2 := Lib.hid hm2
      clear k1 k2 k3 k1' k34 k40 m39 f1' f34 hr hmN ho2 hm2 k6 m44 f44
      go_wp2_with fail
      go_ret2
      refine rnew_slots HMM.out sl0 (by simp) (rnew_end hp HG.out hab (Nat.lt_of_lt_of_le hlt0 hO1.size) HM.out HN.out (Only.then ((Only.refl _ wc).drew) HO2.out) HM2.out (HA.out.only hO1 (fun h => h)) n1 (by omega) (by omega) (HO.out.then hO1))
    · have h0 : p.image.size = 0 := by omega
      obtain rfl : N = p.base.toNat := by omega
      have hmx : p.base ≤ max p.base 0 := by omega
      have HZ := Lib.hid h0
      clear h0
      go_wp2_with fail
      refine wp_region_still_tail 9 (by kernel_rfl) (by kernel_rfl) ?_
      simp only [List.take_succ_cons, List.take_zero, List.drop_succ_cons, List.drop_zero]
      change wpStill _ _ (World.drew _) _ _ _
      repeat still_step
      refine wpStill_nil ?_
      change wpList _ _ _ _ _ (World.drew _)
      have hmN : wc.drew.heap[mb]? = some (.cells ((List.replicate p.base.toNat (0 : Int)).map (Value.int .u8)).toArray 5 (0, 0)) := by
        have := HE.out
        rw [← HN.out] at this
        rw [List.map_replicate, List.toArray_replicate]
        exact this
      obtain ⟨w2, hr, ho2, hm2⟩ := copy_mem wc.drew 3 mb p.base.toNat 0 0 (List.replicate p.base.toNat 0) (some ⟨mb, 0, none⟩) p.image hmN (.inr HZ.out) (by simpa using hfit) (by omega)
      ((with_reducible refine Lib.wpList_copy_run _ rfl (.tmp 87) (.tmp 89) 67 9 ?_ (.slice (some ⟨mb, 0, none⟩) 0 0) (.string p.image) ?_ ?_ hr ?_); (focus rfl); (focus rfl); (focus rfl))
      have hnb : ¬ b = mb := n1
      have hnw : ¬ w.heap.size = mb := by omega
      have j3 : w2.cell? ⟨w.heap.size, 3, none⟩ = some (.int .u32 p.entry) := ho2.cell hnw k3
      have j1' : w2.cell? ⟨b, 1, none⟩ = some (.int .u32 0) := ho2.cell hnb k1'
      have j34 : w2.cell? ⟨b, 34, none⟩ = some (.int .u32 0) := ho2.cell hnb k34
      have j40 : w2.cell? ⟨b, 40, none⟩ = some (.int .u32 (p.base + p.image.size)) := ho2.cell hnb k40
      have z1 : w2.frozen? ⟨b, 1, none⟩ = false := ho2.free hnb hsz f1'
      have z34 : w2.frozen? ⟨b, 34, none⟩ = false := ho2.free hnb hsz f34
      have hsz2 : b < w2.heap.size := Nat.lt_of_lt_of_le hsz ho2.size
      have hbne : ¬ b = w.heap.size := by omega
      have j6 : w2.cell? ⟨w.heap.size, 6, none⟩ = some (.int .i64 m) := ho2.cell hnw k6
      have j44 : w2.cell? ⟨b, 44, none⟩ = some (.slice none 0 0) := ho2.cell hnb m44
      have z44 : w2.frozen? ⟨b, 44, none⟩ = false := ho2.free hnb hsz f44
      have HO2 := Lib.hid ho2
      have HM2 := Lib.hid hm2
      clear k1 k2 k3 k1' k34 k40 m39 f1' f34 hr hmN ho2 hm2 k6 m44 f44
      go_wp2_with fail
      go_ret2
      refine rnew_slots HMM.out sl0 (by simp) (rnew_end hp HG.out hab (Nat.lt_of_lt_of_le hlt0 hO1.size) HM.out HN.out (Only.then ((Only.refl _ wc).drew) HO2.out) HM2.out (HA.out.only hO1 (fun h => h)) n1 (by omega) (by omega) (HO.out.then hO1))
theorem err_casesD (p : Setup) : p.err true = 0 ∨ (p.err true = 1 ∧ p.badP = true) ∨ (p.err true = 2 ∧ p.badP = false ∧ p.badI = true) ∨ (p.err true = 3 ∧ p.badP = false ∧ p.badI = false ∧ p.badF = true) ∨ (p.err true = 4 ∧ p.badP = false ∧ p.badI = false ∧ p.badF = false ∧ p.badC = true) := by
  unfold Setup.err
  cases p.badP <;> cases p.badI <;> cases p.badF <;> cases p.badC <;> simp
/-- Play in blocks, whatever the setup. -/
theorem rplayB_any (p : Setup) (hp : p.Ok) (ab : Nat) (av : Value) (w : World) (ha : TextsAt w ab av p.ans) (hab : ab < w.heap.size) :
    Calls Tryz.prog 16 #[.agg (p.cells av), .bool true] w (PlayP (p.err true) (runR (p.fuel.toNat + 1) (p.rs true)) w) := by
  rcases err_casesD p with h | ⟨h, h1⟩ | ⟨h, h1, h2⟩ | ⟨h, h1, h2, h3⟩ | ⟨h, h1, h2, h3, h4⟩
  · rw [h]
    obtain ⟨hg, hb⟩ := Setup.good h
    obtain ⟨s0, s1, s2, s3⟩ := hb rfl
    refine rplay_good p hp true h av w (fun W hW => rnew_goodB p hp hg s0 s1 s2 s3 ab av W (ha.only hW (fun h => h)) (Nat.lt_of_lt_of_le hab hW.size)) (fun B b r hh hs hn hp4 hl w x hM => ?_)
    have hsl : 0 < r.slots.length := by
      rw [hs]
      show 0 < (List.replicate p.slots.toNat (0, 0)).length
      rw [List.length_replicate]
      omega
    exact rfind_any B b r hh hsl hp4 (by unfold lies at hl; simpa using hl) w x hM
  · rw [h]
    exact rplay_err p hp true av 1 (by decide) _ w (fun W => rnew_badP p hp av true W h1)
  · rw [h]
    exact rplay_err p hp true av 2 (by decide) _ w (fun W => rnew_badI p hp av true W h1 h2)
  · rw [h]
    exact rplay_err p hp true av 3 (by decide) _ w (fun W => rnew_badF p hp av true W h1 h2 h3)
  · rw [h]
    exact rplay_err p hp true av 4 (by decide) _ w (fun W => rnew_badC p hp av W h1 h2 h3 h4)
end Go.Proofs.YtanccjaikocefaaGreatDoor
