/-
  The contract of the cache's 'note': what was counted of a block. Conditions: the cache, the block and the map of what was counted lie in memory; the counts are small.
-/
import Derived.Test.YtanccjaikocefaaGreatDoorCache
import Derived.Test.YtanccjaikocefaaGreatDoorCachePlain
namespace Go.Proofs.YtanccjaikocefaaGreatDoor
open Go.ChangeShapes Go.WideShapes Go.ChangeAt Go.RowKit Go.Maps
set_option linter.unusedVariables false

def blkA (x : Blk) : Array Value := #[.int .u32 x.pc, .int .i64 x.len, .int .i64 x.built, .int .i64 x.entered]
/-- How an element of the map reads. -/
def blkR (v : Value) : Option (DataW Unit × List MemPlace) :=
  match v with
  | .agg cs =>
    match cs.toList with
    | [.int .u32 p, .int .i64 l, .int .i64 u, .int .i64 e] => some (.agg [.lit (.int .u32 p), .lit (.int .i64 l), .lit (.int .i64 u), .lit (.int .i64 e)], [])
    | _ => none
  | _ => none
theorem blkR_mk (x : Blk) : blkR (.agg (blkA x)) = some (blkD x, []) := rfl
theorem blkR_inv {v : Value} {x : Blk} {ps : List MemPlace} (h : blkR v = some (blkD x, ps)) : v = .agg (blkA x) := by
  unfold blkR at h
  split at h
  · rename_i cs
    split at h
    · rename_i p l u e hc
      simp only [Option.some.injEq, Prod.mk.injEq, blkD, DataW.agg.injEq, List.cons.injEq, DataW.lit.injEq, Lit.int.injEq, true_and, and_true] at h
      obtain ⟨⟨h1, h2, h3, h4⟩, _⟩ := h
      have : cs = #[.int .u32 p, .int .i64 l, .int .i64 u, .int .i64 e] := Array.ext' hc
      rw [this, h1, h2, h3, h4]
      rfl
    · cases h
  · cases h
theorem u32_keyed : Keyed Tryz.prog 22 := int_keyed Tryz.underlying22
theorem zero_blk (w : World) : (zeroValue 53).run Tryz.prog w = .ok (.agg (blkA ⟨0, 0, 0, 0⟩)) w := by kernel_rfl
abbrev SeenIs (w : World) (mb n : Nat) (l : List Blk) : Prop := w.ownsMap Tryz.prog 22 blkR mb n (blksD l)
theorem key_u32 (pc : Int) (h0 : 0 ≤ pc) (h1 : pc < 4294967296) : keyOf Tryz.prog 22 (.int .u32 pc) = some (.int .u32 pc) :=
  keyOf_int_mk Tryz.underlying22 (WalkArith.wf_u32 (by omega))
theorem look_blk {w : World} {mb n : Nat} {l : List Blk} (h : SeenIs w mb n l) (pc : Int) (h0 : 0 ≤ pc) (h1 : pc < 4294967296) :
    (Instr.lookup 91 (.map (some mb)) (.int .u32 pc) false).run Tryz.prog w = .ok (.agg (blkA (blkAt l pc))) w := by
  obtain ⟨v, ps, hr, hv⟩ := h.lookup u32_keyed Tryz.underlying91 (zero_blk w) (zd := blkD ⟨0, 0, 0, 0⟩) (zp := []) (blkR_mk _) (key_u32 pc h0 h1)
  rw [at_blks] at hv
  rw [hr, blkR_inv hv]
theorem wrap64_id {x : Int} (h0 : -9223372036854775808 ≤ x) (h1 : x ≤ 9223372036854775807) : IntKind.i64.wrap x = x := by
  simp [IntKind.wrap, IntKind.signed, IntKind.bits]
  split <;> omega
theorem SeenIs.only {S : Nat → Prop} {w w' : World} {mb n : Nat} {l : List Blk} (h : SeenIs w mb n l) (ho : Only S w w') (hS : ¬ S mb) : SeenIs w' mb n l := by
  obtain ⟨es, clock, hb, F, hs, hD⟩ := h
  exact ⟨es, clock, ho.heap hS hb, F, hs, hD⟩
/-- What 'note' comes to. -/
def NoteP (mb n : Nat) (l : List Blk) (x : Blk) (w : World) (e : Ending) (w' : World) : Prop := e = .returned (.tuple #[]) ∧ SeenIs w' mb (n + 1) (putB l x) ∧ Only (· = mb) w w'
set_option maxRecDepth 100000 in
set_option maxHeartbeats 1000000 in
theorem note_any (cb b slb m : Nat) (arena used bt : Int) (mb n : Nat) (l : List Blk) (hl : Rising l) (hn : n < maxLen) (e : CEnt) (gone : Bool) (a : Option Addr) (plen cap : Nat) (hrec : e.recs = .slice a plen cap) (hpl : plen ≤ 8) (p0 : 0 ≤ e.pc) (p1 : e.pc < 4294967296)
    (hb0 : 0 ≤ (blkAt l e.pc).built) (hb1 : (blkAt l e.pc).built ≤ 1000000) (he0 : 0 ≤ (blkAt l e.pc).entered) (he1 : (blkAt l e.pc).entered ≤ 1000000) (built : Int) (hbu : built = 0 ∨ built = 1) (w : World)
    (hc : w.heap[cb]? = some (.cells (cRow b slb m arena used bt (.map (some mb))) 93 (0, 0))) (hg : w.heap[e.g]? = some (.cells (blkRow e gone) 134 (0, 0))) (hs : SeenIs w mb n l) :
    Calls Tryz.prog 89 #[.pointer (some ⟨cb, 0, none⟩), .pointer (some ⟨e.g, 0, none⟩), .int .i64 built] w (NoteP mb n l ⟨e.pc, if 0 < built then plen else (blkAt l e.pc).len, (blkAt l e.pc).built + built, (blkAt l e.pc).entered + 1⟩ w) := by
  have c5 : w.cell? ⟨cb, 5, none⟩ = some (.map (some mb)) := cell_of_row w _ 5 _ _ _ hc
  have g0 : w.cell? ⟨e.g, 0, none⟩ = some (.int .u32 e.pc) := cell_of_row w _ 0 _ _ _ hg
  have g1 : w.cell? ⟨e.g, 1, none⟩ = some (.slice a plen cap) := by rw [← hrec]; exact cell_of_row w _ 1 _ _ _ hg
  have k1 := look_blk (w := w.drew) hs e.pc p0 p1
  have k2 := look_blk (w := (w.drew.alloc (.cells (blkA ⟨0, 0, 0, 0⟩) 53))) (World.ownsMap.alloc (w := w.drew) hs _) e.pc p0 p1
  have k3 := look_blk (w := (w.alloc (.cells (blkA ⟨0, 0, 0, 0⟩) 53)).drew) (World.ownsMap.alloc (w := w) hs _) e.pc p0 p1
  have hsz := heap_lt hc
  have hgz := heap_lt hg
  have HS := Lib.hid hs
  clear hc hg hs hrec
  generalize hold : blkAt l e.pc = old at *
  have HOLD := Lib.hid hold
  clear hold
  unfold blkA at *
  have w0 : IntKind.i64.wrap old.built = old.built := wrap64_id (by omega) (by omega)
  have w1' : IntKind.i64.wrap (old.built + 1) = old.built + 1 := wrap64_id (by omega) (by omega)
  have w2 : IntKind.i64.wrap (old.entered + 1) = old.entered + 1 := wrap64_id (by omega) (by omega)
  rcases hbu with rfl | rfl
  all_goals
    go_enter Tryz.func89, Tryz.ntmps89
    go_wp2_with fail
    go_region
    all_goals
      go_wp2_with fail
      refine wp_region_still_tail 22 (by kernel_rfl) (by kernel_rfl) ?_
      simp only [List.take_succ_cons, List.take_zero, List.drop_succ_cons, List.drop_zero]
      change wpStill _ _ (World.drew _) _ _ _
      repeat still_step
      refine wpStill_nil ?_
      change wpList _ _ _ _ _ (World.drew _)
      first | (refine wpList_mapUpdate_own _ rfl (.tmp 27) (.tmp 31) (.tmp 45) 91 rfl 22 53 u32_keyed Tryz.underlying91 blkR mb n (blksD l) rfl (SeenIs.only (S := (· = w.heap.size)) HS.out ?_ (fun h => absurd h (Nat.ne_of_lt HS.out.lt))) hn (.int .u32 e.pc) (.agg (blkA ⟨e.pc, old.len, old.built, old.entered + 1⟩)) (.int .u32 e.pc) rfl rfl (key_u32 e.pc p0 p1) (blkD ⟨e.pc, old.len, old.built, old.entered + 1⟩) [] (blkR_mk ⟨e.pc, old.len, old.built, old.entered + 1⟩) ?_) | (refine wpList_mapUpdate_own _ rfl (.tmp 27) (.tmp 31) (.tmp 45) 91 rfl 22 53 u32_keyed Tryz.underlying91 blkR mb n (blksD l) rfl (SeenIs.only (S := (· = w.heap.size)) HS.out ?_ (fun h => absurd h (Nat.ne_of_lt HS.out.lt))) hn (.int .u32 e.pc) (.agg (blkA ⟨e.pc, plen, old.built + 1, old.entered + 1⟩)) (.int .u32 e.pc) rfl rfl (key_u32 e.pc p0 p1) (blkD ⟨e.pc, plen, old.built + 1, old.entered + 1⟩) [] (blkR_mk ⟨e.pc, plen, old.built + 1, old.entered + 1⟩) ?_)
      · repeat (first | with_reducible exact Only.refl _ _ | with_reducible refine Only.set1 ?_ _ _ | with_reducible refine Only.alloc ?_ _ | with_reducible refine Only.drewN ?_ _ | with_reducible refine Only.drew ?_)
      intro w1 hown1 hgrow1
      rw [put_blks4 l hl] at hown1
      have hO : Only (fun k => k = mb ∨ k = w.heap.size) w w1 := by
        refine Only.of_grown ?_ hgrow1 (fun k hk => .inl (by simpa using hk.symm))
        repeat (first | with_reducible exact Only.refl _ _ | with_reducible refine Only.setS ?_ (.inr rfl) _ _ | with_reducible refine Only.alloc ?_ _ | with_reducible refine Only.drewN ?_ _ | with_reducible refine Only.drew ?_)
      go_wp2_with fail
      first | go_end0 | refine bodyPost_ret (results_none rfl _ _ _) rfl ?_
      refine ⟨rfl, ?_, hO.mono (fun k hk h => h.resolve_right (Nat.ne_of_lt hk))⟩
      simpa using hown1
end Go.Proofs.YtanccjaikocefaaGreatDoor
