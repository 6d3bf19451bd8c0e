/-
  The contract of the document's 'count': a block is counted. Conditions: the machine lies in memory; numbers are in their ranges.
-/
import Derived.Test.YtanccjaikocefaaGreatDoorRMeth1
import Derived.Deep.CutBlock
namespace Go.Proofs.YtanccjaikocefaaGreatDoor
open Go.ChangeShapes Go.WideShapes Go.ChangeAt Go.RowKit
set_option linter.unusedVariables false

theorem blkCells_len (l : List Blk) : (blkCells l).length = l.length * 4 := by
  induction l with
  | nil => rfl
  | cons a l ih => simp only [blkCells, List.flatMap_cons, List.length_append] at ih ⊢; rw [ih]; simp only [List.length_cons, List.length_nil]; omega
theorem blkCells_get (l : List Blk) : ∀ (k : Nat) (y : Blk), l[k]? = some y → (blkCells l)[k * 4]? = some (.int .u32 y.pc) ∧ (blkCells l)[k * 4 + 1]? = some (.int .i64 y.len) ∧ (blkCells l)[k * 4 + 2]? = some (.int .i64 y.built) ∧ (blkCells l)[k * 4 + 3]? = some (.int .i64 y.entered) := by
  induction l with
  | nil => intro k y h; simp at h
  | cons a l ih =>
    intro k y h
    cases k with
    | zero => simp at h; subst h; exact ⟨rfl, rfl, rfl, rfl⟩
    | succ k =>
      have := ih k y (by simpa using h)
      simpa [blkCells, Nat.add_mul] using this
theorem blkCells_set (l : List Blk) (f : Blk → Blk) (hf : ∀ y, (f y).pc = y.pc) : ∀ (k : Nat) (y : Blk), l[k]? = some y → (((blkCells l).set (k * 4 + 1) (.int .i64 (f y).len)).set (k * 4 + 2) (.int .i64 (f y).built)).set (k * 4 + 3) (.int .i64 (f y).entered) = blkCells (l.modify k f) := by
  induction l with
  | nil => intro k y h; simp at h
  | cons a l ih =>
    intro k y h
    cases k with
    | zero =>
      simp at h; subst h
      simp [blkCells, hf]
    | succ k =>
      have := ih k y (by simpa using h)
      have e1 : (k + 1) * 4 + 1 = (k * 4 + 1) + 4 := by omega
      have e2 : (k + 1) * 4 + 2 = (k * 4 + 2) + 4 := by omega
      have e3 : (k + 1) * 4 + 3 = (k * 4 + 3) + 4 := by omega
      rw [e1, e2, e3]
      simp only [blkCells, List.flatMap_cons, List.modify_succ_cons] at this ⊢
      rw [← this]
      rfl
theorem blkCells_app (a b : List Blk) : blkCells (a ++ b) = blkCells a ++ blkCells b := by simp [blkCells]
/-- A block at an address is counted: where it stands. -/
theorem countB_hit {l : List Blk} {k : Nat} {y : Blk} {pc len bu en : Int} (hk : l[k]? = some y) (hy : y.pc = pc) (hno : ∀ j z, j < k → l[j]? = some z → z.pc ≠ pc) : countB l pc len bu en = l.modify k (bump len bu en) := by
  have : l.findIdx? (fun x => x.pc == pc) = some k := by
    rw [List.findIdx?_eq_some_iff_getElem]
    obtain ⟨hlt, e⟩ := List.getElem?_eq_some_iff.1 hk
    refine ⟨hlt, by rw [e]; simpa using hy, fun j hj => ?_⟩
    have := hno j l[j] hj (List.getElem?_eq_getElem _)
    simpa using this
  unfold countB
  rw [this]
theorem countB_miss {l : List Blk} {pc len bu en : Int} (hno : ∀ z ∈ l, z.pc ≠ pc) : countB l pc len bu en = l.take (l.takeWhile (fun x => decide (x.pc < pc))).length ++ [⟨pc, len, bu, en⟩] ++ l.drop (l.takeWhile (fun x => decide (x.pc < pc))).length := by
  have : l.findIdx? (fun x => x.pc == pc) = none := by
    rw [List.findIdx?_eq_none_iff]
    intro z hz
    simpa using hno z hz
  unfold countB
  rw [this]
theorem info_blk : (Tryz.prog.info? 53).map (fun i => (i.zero, i.size, i.bytes)) = some (some (.agg #[.int .u32 0, .int .i64 0, .int .i64 0, .int .i64 0]), 4, 32) := by kernel_rfl
/-- Rows of counted blocks, appended. -/
theorem app_row (W : World) (ty : TypeId) (B : Nat) (v : Value) (n : Nat) (xs : List Value) (hown : W.ownsRow B 53 4 v n xs) (a : Option Addr) (m c : Nat) (news : List Value) (hl : news.length = m * 4)
    (hnews : 0 < m → ∃ ad, a = some ad ∧ ∀ j u, news[j]? = some u → W.cell? (ad.add j) = some u) (h1 : ∀ u ∈ news, u.oneCell' = true) (hnm : n + m ≤ 6000) (hB : B ≤ W.heap.size) :
    ∃ v' w', (Builtin.append_ #[45, 45] ty #[v, .slice a m c]).run Tryz.prog W = .ok v' w' ∧ w'.ownsRow B 53 4 v' (n + m) (xs ++ news) ∧ (v'.ownBlock = v.ownBlock ∨ v'.ownBlock = some W.heap.size) ∧ Only (fun k => v.ownBlock = some k) W w' := by
  obtain ⟨i0, hi, hz0, hz1, hz2⟩ := info_parts info_blk
  rcases Nat.eq_zero_or_pos m with h0 | h0
  · subst h0
    have hn0 : news = [] := List.length_eq_zero_iff.1 (by omega)
    subst hn0
    refine ⟨v, W, ?_, by rw [List.append_nil]; exact hown, .inl rfl, Only.refl _ _⟩
    rcases hown.2 with ⟨e, e'⟩ | ⟨g, cap, cur, e, _, _, hn, _⟩
    · rw [e]
      cases a <;> simp [Builtin.append_, run_underlying Tryz.underlying45, sizeOf, typeInfo, hi, Builtin.lenOf, Builtin.firstCells, loadCells, loadCellsFrom]
    · rw [e]
      cases a <;> simp [Builtin.append_, run_underlying Tryz.underlying45, sizeOf, typeInfo, hi, Builtin.lenOf, Builtin.firstCells, loadCells, loadCellsFrom, storeCells, hn]
  · obtain ⟨ad, rfl, hc⟩ := hnews h0
    obtain ⟨g, cap, w', hr, hown', hg, hat, hlt⟩ := run_append_lies (P := Tryz.prog) W 45 ty B 53 i0 _ 4 32 Tryz.underlying45 hi hz0 hz1 hz2 (by rfl) (by omega) v n xs hown ad m c news hl hc h1 h0 (by unfold maxLen; omega) (by omega) hB W.heap.size rfl
    refine ⟨_, w', hr, hown', ?_, Only.of_grown (Only.refl _ _) hg (fun k e => e)⟩
    rcases hat with h | h
    · exact .inl h.symm
    · right
      rw [h]
      rfl
theorem blk_one (l : List Blk) : ∀ u ∈ blkCells l, u.oneCell' = true := by
  intro u hu
  obtain ⟨y, _, h⟩ := List.mem_flatMap.1 hu
  simp only [List.mem_cons, List.not_mem_nil, or_false] at h
  rcases h with rfl | rfl | rfl | rfl <;> rfl
theorem wpList_append_e {P : Program} {ops : Array Oper} {rest : List Oper} {o : Oper} {a : Act} {w : World} {Q : Exit → Act → World → Prop} (hgd : o.guard = none) (s x : Operand) (t t' : TypeId)
    (ho : o.op = .call { callee := .builtin .append, args := #[s, x], argTypes := #[t, t'] }) (v u : Value) (hd : a.eval s = v) (hs : a.eval x = u) {R : Value → World → Prop}
    (hr : ∃ v' w', (Builtin.append_ #[t, t'] o.type #[v, u]).run P w = .ok v' w' ∧ R v' w') (h : ∀ v' w', R v' w' → wpList P ops Q rest (a.put o.dst v') w') :
    wpList P ops Q (o :: rest) a w := by
  obtain ⟨v', w', hr, hR⟩ := hr
  refine wpList_plain hgd fun K hK => ?_
  unfold Oper.wp execOp
  simp only [ho, resolve, invoke, builtin, Sem.run_bind, Sem.run_pure, Result.andThen_ok, List.map_toArray, List.map_cons, List.map_nil, hd, hs, hr]
  exact hK _ _ (h v' w' hR)
theorem takeWhile_at {l : List Blk} {pc : Int} {k : Nat} (hlo : ∀ j z, j < k → l[j]? = some z → z.pc < pc) (hk : k ≤ l.length) (hhi : ∀ z, l[k]? = some z → ¬ z.pc < pc) : (l.takeWhile (fun x => decide (x.pc < pc))).length = k := by
  induction l generalizing k with
  | nil => simp at hk; subst hk; rfl
  | cons a l ih =>
    cases k with
    | zero =>
      have := hhi a rfl
      rw [List.takeWhile_cons, if_neg (by simpa using this)]
      rfl
    | succ k =>
      have h0 := hlo 0 a (by omega) rfl
      rw [List.takeWhile_cons, if_pos (by simpa using h0), List.length_cons]
      rw [ih (k := k) (fun j z hj hz => hlo (j + 1) z (by omega) (by simpa using hz)) (by simpa using hk) (fun z hz => hhi z (by simpa using hz))]
/-- The row's block, if it has one, is new. -/
def Fresh (n : Nat) (v : Value) : Prop := ∀ g, v.ownBlock = some g → n ≤ g
theorem fresh_nil {n : Nat} : Fresh n (.slice none 0 0) := fun g h => by cases h
theorem fresh_step {n m : Nat} {v v' : Value} (h : Fresh n v) (h' : v'.ownBlock = v.ownBlock ∨ v'.ownBlock = some m) (hm : n ≤ m) : Fresh n v' := by
  intro g hg
  rcases h' with e | e
  · exact h g (e ▸ hg)
  · rw [e] at hg
    cases hg
    exact hm
theorem only_step {w W W' : World} {v : Value} (h : Only (fun _ => False) w W) (hf : Fresh w.heap.size v) (ho : Only (fun k => v.ownBlock = some k) W W') : Only (fun _ => False) w W' :=
  h.trans ho (fun _ _ e => e) (fun k hk e => by have := hf k e; omega)
theorem only_cell {w W : World} (h : Only (fun _ => False) w W) {b o j : Nat} {u : Value} (hc : w.cell? ((⟨b, o, none⟩ : Addr).add j) = some u) : W.cell? ((⟨b, o, none⟩ : Addr).add j) = some u := by
  rw [Addr.add_mid] at hc ⊢
  exact h.cell (fun h => h) hc
theorem row_slice {w : World} {B : Nat} {v : Value} {n : Nat} {xs : List Value} (h : w.ownsRow B 53 4 v n xs) : ∃ a l c, v = .slice a l c := by
  rcases h.2 with ⟨e, _⟩ | ⟨g, cap, _, e, _⟩
  · exact ⟨_, _, _, e⟩
  · exact ⟨_, _, _, e⟩
/-- What 'count' comes to. -/
def CountP (B b : Nat) (r r' : RS) (x : RRaw) (w : World) (e : Ending) (w' : World) : Prop :=
  e = .returned (.tuple #[]) ∧ ∃ v', RAt w' b r' { x with blv := v' } ∧ w'.ownsRow B 53 4 v' r'.blocks.length (blkCells r'.blocks) ∧ (v' = x.blv ∨ ∀ g, v'.ownBlock = some g → w.heap.size ≤ g) ∧ Only (fun k => k = b ∨ x.blv.ownBlock = some k) w w'
theorem blk_cells {w : World} {B g cap : Nat} {l : List Blk} (h : w.ownsRow B 53 4 (.slice (some ⟨g, 0, none⟩) l.length cap) l.length (blkCells l)) {k : Nat} {y : Blk} (hk : l[k]? = some y) :
    w.cell? ⟨g, k * 4, none⟩ = some (.int .u32 y.pc) ∧ w.cell? ⟨g, k * 4 + 1, none⟩ = some (.int .i64 y.len) ∧ w.cell? ⟨g, k * 4 + 2, none⟩ = some (.int .i64 y.built) ∧ w.cell? ⟨g, k * 4 + 3, none⟩ = some (.int .i64 y.entered) := by
  have hlt := (List.getElem?_eq_some_iff.1 hk).1
  obtain ⟨a0, a1, a2, a3⟩ := blkCells_get l k y hk
  exact ⟨(h.cellAt _ (by omega)).trans a0, (h.cellAt _ (by omega)).trans a1, (h.cellAt _ (by omega)).trans a2, (h.cellAt _ (by omega)).trans a3⟩
theorem set_same {α : Type} (l : List α) (i : Nat) (a : α) (h : l[i]? = some a) : l.set i a = l := by
  obtain ⟨hlt, e⟩ := List.getElem?_eq_some_iff.1 h
  rw [← e, List.set_getElem_self]
theorem bump_zero (l : List Blk) {k : Nat} {y : Blk} (len en : Int) (hy : l[k]? = some y) : ((blkCells l).set (k * 4 + 2) (.int .i64 y.built)).set (k * 4 + 3) (.int .i64 (y.entered + en)) = blkCells (l.modify k (bump len 0 en)) := by
  have h := blkCells_set l (bump len 0 en) (fun _ => rfl) k y hy
  have e : (bump len 0 en y).len = y.len := rfl
  have e2 : (bump len 0 en y).built = y.built := Int.add_zero _
  rw [e, e2, set_same _ _ _ (blkCells_get l k y hy).2.1] at h
  exact h
theorem bump_one (l : List Blk) {k : Nat} {y : Blk} (len en : Int) (hy : l[k]? = some y) : (((blkCells l).set (k * 4 + 1) (.int .i64 len)).set (k * 4 + 2) (.int .i64 (y.built + 1))).set (k * 4 + 3) (.int .i64 (y.entered + en)) = blkCells (l.modify k (bump len 1 en)) :=
  blkCells_set l (bump len 1 en) (fun _ => rfl) k y hy
theorem count_hit {B b g k cap : Nat} {r : RS} {x : RRaw} {y : Blk} {pc len bu en : Int} {w W W' : World} {cells : List Value} (hR : RAt W b r x) (hbv : x.blv = .slice (some ⟨g, 0, none⟩) r.blocks.length cap) (hgb : g ≠ b) (hy : r.blocks[k]? = some y) (hpc : y.pc = pc) (hno : ∀ j z, j < k → r.blocks[j]? = some z → z.pc ≠ pc)
    (ho : Only (fun _ => False) w W) (hrow : W'.ownsRow B 53 4 (.slice (some ⟨g, 0, none⟩) r.blocks.length cap) r.blocks.length cells) (hcells : cells = blkCells (r.blocks.modify k (bump len bu en))) (hO : Only (· = g) W W') :
    CountP B b r { r with blocks := countB r.blocks pc len bu en } x w (.returned (.tuple #[])) W' := by
  have hc : countB r.blocks pc len bu en = r.blocks.modify k (bump len bu en) := countB_hit hy hpc hno
  refine ⟨rfl, x.blv, ?_, ?_, .inl rfl, ?_⟩
  · exact (hO.heap (fun e => hgb e.symm) hR)
  · show W'.ownsRow B 53 4 x.blv (countB r.blocks pc len bu en).length (blkCells (countB r.blocks pc len bu en))
    rw [hc, ← hcells, hbv, List.length_modify]
    exact hrow
  · exact ho.trans hO (fun _ _ h => h.elim) (fun j _ e => .inr (by rw [hbv]; simp only [Value.ownBlock]; rw [show j = g from e]))
theorem blk_take {w : World} {B g cap k : Nat} {l : List Blk} (h : w.ownsRow B 53 4 (.slice (some ⟨g, 0, none⟩) l.length cap) l.length (blkCells l)) {j : Nat} {u : Value} (hj : (blkCells (l.take k))[j]? = some u) : w.cell? ((⟨g, 0, none⟩ : Addr).add j) = some u := by
  rw [Addr.add_mid, Nat.zero_add]
  have e : blkCells l = blkCells (l.take k) ++ blkCells (l.drop k) := by rw [← blkCells_app, List.take_append_drop]
  have hlt := (List.getElem?_eq_some_iff.1 hj).1
  have hj2 : (blkCells l)[j]? = some u := by rw [e, List.getElem?_append_left hlt]; exact hj
  have hl := (List.getElem?_eq_some_iff.1 hj2).1
  rw [blkCells_len] at hl
  exact (h.cellAt j hl).trans hj2
theorem blk_drop {w : World} {B g cap k : Nat} {l : List Blk} (h : w.ownsRow B 53 4 (.slice (some ⟨g, 0, none⟩) l.length cap) l.length (blkCells l)) (hk : k ≤ l.length) {j : Nat} {u : Value} (hj : (blkCells (l.drop k))[j]? = some u) : w.cell? ((⟨g, k * 4, none⟩ : Addr).add j) = some u := by
  rw [Addr.add_mid]
  have e : blkCells l = blkCells (l.take k) ++ blkCells (l.drop k) := by rw [← blkCells_app, List.take_append_drop]
  have hkl : (blkCells (l.take k)).length = k * 4 := by rw [blkCells_len, List.length_take]; omega
  have hj2 : (blkCells l)[k * 4 + j]? = some u := by rw [e, List.getElem?_append_right (by omega), hkl, Nat.add_sub_cancel_left]; exact hj
  have hl := (List.getElem?_eq_some_iff.1 hj2).1
  rw [blkCells_len] at hl
  exact (h.cellAt _ hl).trans hj2
theorem count_miss {B b k n : Nat} {r : RS} {x : RRaw} {pc len bu en : Int} {w W0 w3 : World} {v3 : Value} (hR : RAt W0 b r x) (h0 : Only (fun _ => False) w W0) (h3 : Only (fun _ => False) W0 w3) (hkl : (r.blocks.takeWhile (fun x => decide (x.pc < pc))).length = k) (hmi : ∀ z ∈ r.blocks, z.pc ≠ pc)
    (hv : w3.ownsRow B 53 4 v3 (0 + k + 1 + (r.blocks.length - k)) ([] ++ blkCells (r.blocks.take k) ++ blkCells [⟨pc, len, bu, en⟩] ++ blkCells (r.blocks.drop k))) (hk : k ≤ r.blocks.length) (hb : b < w.heap.size) (hf : Fresh n v3) (hn : w.heap.size ≤ n) :
    CountP B b r { r with blocks := countB r.blocks pc len bu en } x w (.returned (.tuple #[])) (w3.setCell ⟨b, 50, none⟩ v3) := by
  have hc := countB_miss (len := len) (bu := bu) (en := en) hmi
  rw [hkl] at hc
  have hO : Only (· = b) w3 (w3.setCell ⟨b, 50, none⟩ v3) := (Only.refl _ _).set1 _ _
  refine ⟨rfl, v3, ?_, ?_, .inr (fun g hg => Nat.le_trans hn (hf g hg)), ?_⟩
  · have := RAt.putBlv (h3.heap (fun h => h) hR) v3
    exact this
  · show (w3.setCell ⟨b, 50, none⟩ v3).ownsRow B 53 4 v3 (countB r.blocks pc len bu en).length (blkCells (countB r.blocks pc len bu en))
    rw [hc]
    have e1 : (r.blocks.take k ++ [(⟨pc, len, bu, en⟩ : Blk)] ++ r.blocks.drop k).length = 0 + k + 1 + (r.blocks.length - k) := by simp; omega
    have e2 : blkCells (r.blocks.take k ++ [(⟨pc, len, bu, en⟩ : Blk)] ++ r.blocks.drop k) = [] ++ blkCells (r.blocks.take k) ++ blkCells [⟨pc, len, bu, en⟩] ++ blkCells (r.blocks.drop k) := by
      rw [blkCells_app, blkCells_app, List.nil_append]
    rw [e1, e2]
    exact ownsRow_only hv hO (fun g hg e => by have := hf g hg; have : g = b := e; omega)
  · exact (h0.then h3).trans hO (fun _ _ h => h.elim) (fun j _ e => .inl e)
set_option maxRecDepth 100000 in
set_option maxHeartbeats 1000000 in
theorem rcount_any (B b : Nat) (r : RS) (x : RRaw) (pc len bu en : Int) (w : World) (h : RAt w b r x) (hown : w.ownsRow B 53 4 x.blv r.blocks.length (blkCells r.blocks)) (hne : ∀ g, x.blv.ownBlock = some g → g ≠ b) (hN : r.blocks.length ≤ 5000) (hB : B ≤ w.heap.size)
    (hblk : ∀ y ∈ r.blocks, BlkOk 3000 3000 y) (p0 : 0 ≤ pc) (p1 : pc < 4294967296) (n0 : 0 ≤ len) (n1 : len ≤ 8) (bu0 : bu = 0 ∨ bu = 1) (en0 : en = 0 ∨ en = 1) :
    Calls Tryz.prog 75 #[.pointer (some ⟨b, 0, none⟩), .agg #[.int .u32 pc, .int .i64 len], .int .i64 bu, .int .i64 en] w (CountP B b r { r with blocks := countB r.blocks pc len bu en } x w) := by
  have hblt := h.lt
  have en1 : 0 ≤ en := by omega
  have en2 : en ≤ 1 := by omega
  obtain ⟨a, n, c, hbv⟩ : ∃ a n c, x.blv = .slice a n c := by
    rcases hown.2 with ⟨e, _⟩ | ⟨g, cap, _, e, _⟩
    · exact ⟨_, _, _, e⟩
    · exact ⟨_, _, _, e⟩
  obtain ⟨W0, hW0⟩ : ∃ W0, W0 = w.alloc (.cells #[.int .u32 pc, .int .i64 len] 82) := ⟨_, rfl⟩
  have hO0 : Only (fun _ => False) w W0 := by rw [hW0]; exact (Only.refl _ w).alloc _
  have hs0 : W0.heap[w.heap.size]? = some (.cells #[.int .u32 pc, .int .i64 len] 82 (0, 0)) := by rw [hW0]; exact heap_alloc_new w _
  have H0 := Lib.hid (hO0.heap (fun h => h) h)
  have HOWN := Lib.hid (ownsRow_only hown hO0 (fun _ _ h => h))
  have HS := Lib.hid hs0
  have HO0 := Lib.hid hO0
  have HW0 := Lib.hid hW0
  have HBV := Lib.hid hbv
  have HBLK := Lib.hid hblk
  have HFR := Lib.hid (h.free 50)
  have hn : n = r.blocks.length := by
    have := hown.2
    rw [hbv] at this
    rcases this with ⟨e, e'⟩ | ⟨g, cap, _, e, _⟩
    · simp only [Value.slice.injEq] at e; omega
    · simp only [Value.slice.injEq] at e; exact e.2.1
  subst hn
  have q50 : W0.cell? ⟨b, 50, none⟩ = some (.slice a r.blocks.length c) := by rw [← hbv]; exact RAt.blocks H0.out
  have qs0 : W0.cell? ⟨w.heap.size, 0, none⟩ = some (.int .u32 pc) := cell_of_row W0 _ 0 _ _ _ hs0
  have qs1 : W0.cell? ⟨w.heap.size, 1, none⟩ = some (.int .i64 len) := cell_of_row W0 _ 1 _ _ _ hs0
  clear h hown hs0 hO0 hW0 hbv hblk
  go_enter Tryz.func75, Tryz.ntmps75
  go_wp2_with fail
  rw [← HW0.out]
  go_loopw [8] (fun i wr => ∃ k : Nat, k ≤ r.blocks.length ∧ i = .int .i64 k ∧ (∀ j z, j < k → r.blocks[j]? = some z → z.pc ≠ pc) ∧ Only (fun _ => False) W0 wr) (fun i _ => r.blocks.length - (intOf i).toNat)
  case atStart => exact ⟨0, Nat.zero_le _, rfl, fun j z hj => absurd hj (Nat.not_lt_zero _), Only.refl _ _⟩
  case round =>
    obtain ⟨k, hk, rfl, hno, ho⟩ := hrel
    have HNO := Lib.hid hno
    have k50 := ho.cell (fun h => h) q50
    have ks0 := ho.cell (fun h => h) qs0
    have ks1 := ho.cell (fun h => h) qs1
    have HO := Lib.hid ho
    clear q50 qs0 qs1 hno ho
    by_cases hlt : k < r.blocks.length
    · obtain ⟨y, hy⟩ : ∃ y, r.blocks[k]? = some y := ⟨_, List.getElem?_eq_getElem hlt⟩
      have hown := ownsRow_only HOWN.out HO.out (fun _ _ h => h)
      rw [HBV.out] at hown
      obtain ⟨g, cap, hv, hBg, hglt⟩ := hown.form (by omega)
      simp only [Value.slice.injEq, true_and] at hv
      obtain ⟨rfl, rfl⟩ := hv
      obtain ⟨y0, y1, y2, y3⟩ := blk_cells hown hy
      by_cases hpc : y.pc = pc
      · have yb := HBLK.out y (List.mem_of_getElem? hy)
        obtain ⟨_, _, _, _, yb0, yb1, ye0, ye1⟩ := yb
        have HY := Lib.hid hy
        subst hpc
        have hgl := (hown.lt g rfl).2
        have z1 := hown.frozenAt (k * 4 + 1)
        have z2 := hown.frozenAt (k * 4 + 2)
        have z3 := hown.frozenAt (k * 4 + 3)
        have hgb := hne g (by rw [HBV.out]; rfl)
        have HOW := Lib.hid hown
        clear hown hy
        rcases bu0 with rfl | rfl
        · go_wp2_with fail
          go_quiet (fail)
          go_wp2_with fail
          refine wp_region_still_tail 17 (by kernel_rfl) (by kernel_rfl) ?_
          simp only [List.take_succ_cons, List.take_zero, List.drop_succ_cons, List.drop_zero]
          change wpStill _ _ (World.drew _) _ _ _
          repeat still_step
          refine wpStill_nil ?_
          change wpList _ _ _ _ _ (World.drew _)
          go_wp2_with fail
          refine wp_region_still_tail 17 (by kernel_rfl) (by kernel_rfl) ?_
          simp only [List.take_succ_cons, List.take_zero, List.drop_succ_cons, List.drop_zero]
          change wpStill _ _ (World.drew _) _ _ _
          repeat still_step
          refine wpStill_nil ?_
          change wpList _ _ _ _ _ (World.drew _)
          go_wp2_with fail
          refine bodyPost_ret (results_none rfl _ _ _) rfl ?_
          have h1 : (wr.drewN (nq + 1)).ownsRow B 53 4 (.slice (some ⟨g, 0, none⟩) r.blocks.length c) r.blocks.length (blkCells r.blocks) := ownsRow_only HOW.out ((Only.refl _ _).drewN _) (fun _ _ h => h)
          refine count_hit (HO.out.heap (fun h => h) H0.out) HBV.out hgb HY.out rfl HNO.out (HO0.out.then HO.out) (World.ownsRow.drew ((h1.stored _ _).1.stored _ _).1) (bump_zero r.blocks len en HY.out) ?_
          repeat (first | with_reducible exact Only.refl _ _ | with_reducible refine Only.set1 ?_ _ _ | with_reducible refine Only.drewN ?_ _ | with_reducible refine Only.drew ?_)
        · go_wp2_with fail
          go_quiet (fail)
          go_wp2_with fail
          refine wp_region_still_tail 9 (by kernel_rfl) (by kernel_rfl) ?_
          simp only [List.take_succ_cons, List.take_zero, List.drop_succ_cons, List.drop_zero]
          change wpStill _ _ (World.drew _) _ _ _
          repeat still_step
          refine wpStill_nil ?_
          change wpList _ _ _ _ _ (World.drew _)
          go_wp2_with fail
          refine wp_region_still_tail 17 (by kernel_rfl) (by kernel_rfl) ?_
          simp only [List.take_succ_cons, List.take_zero, List.drop_succ_cons, List.drop_zero]
          change wpStill _ _ (World.drew _) _ _ _
          repeat still_step
          refine wpStill_nil ?_
          change wpList _ _ _ _ _ (World.drew _)
          go_wp2_with fail
          refine wp_region_still_tail 17 (by kernel_rfl) (by kernel_rfl) ?_
          simp only [List.take_succ_cons, List.take_zero, List.drop_succ_cons, List.drop_zero]
          change wpStill _ _ (World.drew _) _ _ _
          repeat still_step
          refine wpStill_nil ?_
          change wpList _ _ _ _ _ (World.drew _)
          go_wp2_with fail
          refine bodyPost_ret (results_none rfl _ _ _) rfl ?_
          have h1 : (wr.drewN (nq + 1)).ownsRow B 53 4 (.slice (some ⟨g, 0, none⟩) r.blocks.length c) r.blocks.length (blkCells r.blocks) := ownsRow_only HOW.out ((Only.refl _ _).drewN _) (fun _ _ h => h)
          refine count_hit (HO.out.heap (fun h => h) H0.out) HBV.out hgb HY.out rfl HNO.out (HO0.out.then HO.out) (World.ownsRow.drew (World.ownsRow.drew (((h1.stored _ _).1.stored _ _).1.stored _ _).1)) (bump_one r.blocks len en HY.out) ?_
          repeat (first | with_reducible exact Only.refl _ _ | with_reducible refine Only.set1 ?_ _ _ | with_reducible refine Only.drewN ?_ _ | with_reducible refine Only.drew ?_)
      · go_wp2_with fail
        go_quiet (fail)
        go_wp2_with fail
        refine ⟨⟨k + 1, by omega, by go_num, fun j z hj hz => ?_, HO.out.drewN _⟩, ?_⟩
        · rcases Nat.lt_or_ge j k with h | h
          · exact HNO.out j z h hz
          · obtain rfl : j = k := by omega
            rw [hy] at hz
            cases hz
            exact hpc
        · simp [intOf]
          omega
    · have hk2 : k = r.blocks.length := by omega
      subst hk2
      have hmiss : ∀ z ∈ r.blocks, z.pc ≠ pc := fun z hz => by
        obtain ⟨j, hj⟩ := List.mem_iff_getElem?.1 hz
        exact HNO.out j z (List.getElem?_eq_some_iff.1 hj).1 hj
      have HMI := Lib.hid hmiss
      clear hmiss
      go_upto_block 2 with fail
      go_cut [10] from 76 to 97 (fun i wx => ∃ k : Nat, k ≤ r.blocks.length ∧ i = .int .i64 k ∧ (r.blocks.takeWhile (fun x => decide (x.pc < pc))).length = k ∧ Only (fun _ => False) wr wx)
      case first =>
        go_wp2_with fail
        go_loopw [10] (fun i wr2 => ∃ k : Nat, k ≤ r.blocks.length ∧ i = .int .i64 k ∧ (∀ j z, j < k → r.blocks[j]? = some z → z.pc < pc) ∧ Only (fun _ => False) wr wr2) (fun i _ => r.blocks.length - (intOf i).toNat)
        case atStart => exact ⟨0, Nat.zero_le _, rfl, fun j z hj => absurd hj (Nat.not_lt_zero _), Only.refl _ _⟩
        case round =>
          obtain ⟨k, hk, rfl, hlo, ho⟩ := hrel
          have HLO := Lib.hid hlo
          have l50 := ho.cell (fun h => h) k50
          have ls0 := ho.cell (fun h => h) ks0
          have ls1 := ho.cell (fun h => h) ks1
          have HO2 := Lib.hid ho
          clear k50 ks0 ks1 hlo ho
          by_cases hlt : k < r.blocks.length
          · obtain ⟨y, hy⟩ : ∃ y, r.blocks[k]? = some y := ⟨_, List.getElem?_eq_getElem hlt⟩
            have hown := ownsRow_only (ownsRow_only HOWN.out HO.out (fun _ _ h => h)) HO2.out (fun _ _ h => h)
            rw [HBV.out] at hown
            obtain ⟨g, cap, hv, hBg, hglt⟩ := hown.form (by omega)
            simp only [Value.slice.injEq, true_and] at hv
            obtain ⟨rfl, rfl⟩ := hv
            obtain ⟨y0, y1, y2, y3⟩ := blk_cells hown hy
            have HY := Lib.hid hy
            clear y1 y2 y3 hown hy
            by_cases hpc : y.pc < pc
            · go_wp2_with fail
              go_quiet (fail)
              go_wp2_with fail
              refine ⟨⟨k + 1, by omega, by go_num, fun j z hj hz => ?_, HO2.out.drewN _⟩, ?_⟩
              · rcases Nat.lt_or_ge j k with h | h
                · exact HLO.out j z h hz
                · obtain rfl : j = k := by omega
                  have := HY.out
                  rw [hz] at this
                  cases this
                  exact hpc
              · simp [intOf]
                omega
            · have hkl := takeWhile_at HLO.out hk (fun z hz => by have := HY.out; rw [hz] at this; cases this; exact hpc)
              have HKL := Lib.hid hkl
              clear hkl
              go_wp2_with fail
              go_quiet (fail)
              go_wp2_with fail
              go_meet
              exact ⟨k, hk, rfl, HKL.out, HO2.out.drewN _⟩
          · have hk2 : k = r.blocks.length := by omega
            have hkl := takeWhile_at HLO.out hk (fun z hz => absurd (List.getElem?_eq_some_iff.1 hz).1 (by omega))
            have HKL := Lib.hid hkl
            clear hkl
            subst hk2
            go_wp2_with fail
            go_quiet (fail)
            go_wp2_with fail
            go_meet
            exact ⟨_, hk, rfl, HKL.out, HO2.out.drewN _⟩
      case rest =>
        obtain ⟨k, hk, rfl, hkl, ho2⟩ := hcut
        have l50 := ho2.cell (fun h => h) k50
        have ls0 := ho2.cell (fun h => h) ks0
        have ls1 := ho2.cell (fun h => h) ks1
        have hown := ownsRow_only (ownsRow_only HOWN.out HO.out (fun _ _ h => h)) ho2 (fun _ _ h => h)
        have HO2 := Lib.hid ho2
        have HKL := Lib.hid hkl
        have hbc : B ≤ wc.heap.size := Nat.le_trans hB (Nat.le_trans HO0.out.size (Nat.le_trans HO.out.size ho2.size))
        clear k50 ks0 ks1 ho2 hkl
        rw [HBV.out] at hown
        rcases hown.2 with ⟨e, e'⟩ | ⟨g, cap, cur, e, _, _, hcap, _⟩
        · simp only [Value.slice.injEq] at e
          obtain ⟨rfl, _, rfl⟩ := e
          have hk0 : k = 0 := by omega
          have hl0 : r.blocks = [] := List.length_eq_zero_iff.1 (by omega)
          have HL0 := Lib.hid hl0
          have hN0 : r.blocks.length = 0 := by omega
          subst hk0
          rw [hN0] at l50
          rw [hN0]
          clear hl0 hN0 hown e'
          have L50 := Lib.hid l50
          go_wp2_with (first | ((refine wpList_append_e rfl (.tmp 98) (.tmp 104) 45 45 rfl (.slice none 0 0) (.slice none 0 0) rfl rfl (app_row _ _ B (.slice none 0 0) 0 [] (World.ownsRow_nil _ _ _ _) none 0 0 [] rfl (fun hm => absurd hm (by omega)) (fun u hu => by cases hu) (by omega) hbc) ?_); rintro v1 w1 ⟨hv1, hf1, ho1⟩; have hO1 := only_step (Only.refl _ wc) fresh_nil ho1; have m50 := hO1.cell (fun h => h) l50; have ms0 := hO1.cell (fun h => h) ls0; have ms1 := hO1.cell (fun h => h) ls1; have HV1 := Lib.hid hv1; have HF1 := Lib.hid (fresh_step fresh_nil hf1 (Nat.le_refl _)); have HO1 := Lib.hid hO1; have hb1 := Nat.le_trans hbc hO1.size; clear hv1 hf1 ho1 hO1 l50 ls0 ls1) | ((refine wpList_append_e rfl (.tmp 106) (.tmp 114) 45 45 rfl v1 (.slice (some ⟨w1.heap.size, 0, none⟩) 1 1) rfl rfl (app_row _ _ B v1 (0 + 0) ([] ++ []) (HV1.out.alloc _) (some ⟨w1.heap.size, 0, none⟩) 1 1 (blkCells [⟨pc, len, bu, en⟩]) rfl (fun _ => ⟨_, rfl, World.news_of_block (heap_alloc_new w1 (.cells #[.int .u32 pc, .int .i64 len, .int .i64 bu, .int .i64 en] 53))⟩) (blk_one _) (by omega) (Nat.le_trans hb1 (by simp))) ?_); rintro v2 w2 ⟨hv2, hf2, ho2⟩; have hO2 := only_step (HO1.out.alloc _) HF1.out ho2; have n50 := hO2.cell (fun h => h) L50.out; have HV2 := Lib.hid hv2; have HF2 := Lib.hid (fresh_step HF1.out hf2 (Nat.le_trans HO1.out.size (by simp))); have HOO := Lib.hid hO2; have hb2 := Nat.le_trans hbc hO2.size; clear hv2 hf2 ho2 hO2 m50 ms0 ms1) | ((refine wpList_append_e rfl (.tmp 117) (.tmp 123) 45 45 rfl v2 (.slice none 0 0) rfl rfl (app_row _ _ B v2 (0 + 0 + 1) ([] ++ [] ++ blkCells [⟨pc, len, bu, en⟩]) HV2.out none 0 0 [] rfl (fun hm => absurd hm (by omega)) (fun u hu => by cases hu) (by omega) hb2) ?_); rintro v3 w3 ⟨hv3, hf3, ho3⟩; obtain ⟨a3, n3, c3, rfl⟩ := row_slice hv3; have hO3 := only_step HOO.out HF2.out ho3; have p50 := hO3.cell (fun h => h) L50.out; have z50 := ((HO0.out.then HO.out).then (HO2.out.then hO3)).free (fun h => h) hblt HFR.out; have HV3 := Lib.hid hv3; have HF3 := Lib.hid (fresh_step HF2.out hf3 HOO.out.size); have HO3 := Lib.hid hO3; have hb3 := hO3.size; clear hv3 hf3 ho3 hO3 n50))
          go_end0
          exact count_miss H0.out HO0.out (HO.out.then (HO2.out.then HO3.out)) HKL.out HMI.out (by have h := HV3.out; rw [HL0.out]; exact h) hk hblt HF3.out (Nat.le_trans HO0.out.size (Nat.le_trans HO.out.size HO2.out.size))
        · simp only [Value.slice.injEq] at e
          obtain ⟨rfl, _, rfl⟩ := e
          have HOW := Lib.hid hown
          clear hown
          have L50 := Lib.hid l50
          by_cases hkc : k < c
          · skip
            go_wp2_with (first | ((refine wpList_append_e rfl (.tmp 98) (.tmp 104) 45 45 rfl (.slice none 0 0) (.slice (some ⟨g, 0, none⟩) k c) rfl rfl (app_row _ _ B (.slice none 0 0) 0 [] (World.ownsRow_nil _ _ _ _) (some ⟨g, 0, none⟩) k c (blkCells (r.blocks.take k)) (by rw [blkCells_len, List.length_take]; omega) (fun _ => ⟨_, rfl, fun j u hj => blk_take HOW.out hj⟩) (blk_one _) (by omega) hbc) ?_); rintro v1 w1 ⟨hv1, hf1, ho1⟩; have hO1 := only_step (Only.refl _ wc) fresh_nil ho1; have m50 := hO1.cell (fun h => h) l50; have ms0 := hO1.cell (fun h => h) ls0; have ms1 := hO1.cell (fun h => h) ls1; have HV1 := Lib.hid hv1; have HF1 := Lib.hid (fresh_step fresh_nil hf1 (Nat.le_refl _)); have HO1 := Lib.hid hO1; have hb1 := Nat.le_trans hbc hO1.size; clear hv1 hf1 ho1 hO1 l50 ls0 ls1) | ((refine wpList_append_e rfl (.tmp 106) (.tmp 114) 45 45 rfl v1 (.slice (some ⟨w1.heap.size, 0, none⟩) 1 1) rfl rfl (app_row _ _ B v1 (0 + k) ([] ++ blkCells (r.blocks.take k)) (HV1.out.alloc _) (some ⟨w1.heap.size, 0, none⟩) 1 1 (blkCells [⟨pc, len, bu, en⟩]) rfl (fun _ => ⟨_, rfl, World.news_of_block (heap_alloc_new w1 (.cells #[.int .u32 pc, .int .i64 len, .int .i64 bu, .int .i64 en] 53))⟩) (blk_one _) (by omega) (Nat.le_trans hb1 (by simp))) ?_); rintro v2 w2 ⟨hv2, hf2, ho2⟩; have hO2 := only_step (HO1.out.alloc _) HF1.out ho2; have n50 := hO2.cell (fun h => h) L50.out; have HV2 := Lib.hid hv2; have HF2 := Lib.hid (fresh_step HF1.out hf2 (Nat.le_trans HO1.out.size (by simp))); have HOO := Lib.hid hO2; have hb2 := Nat.le_trans hbc hO2.size; clear hv2 hf2 ho2 hO2 m50 ms0 ms1) | ((refine wpList_append_e rfl (.tmp 117) (.tmp 123) 45 45 rfl v2 (.slice (some ⟨g, k * 4, none⟩) (r.blocks.length - k) (c - k)) rfl rfl (app_row _ _ B v2 (0 + k + 1) ([] ++ blkCells (r.blocks.take k) ++ blkCells [⟨pc, len, bu, en⟩]) HV2.out (some ⟨g, k * 4, none⟩) (r.blocks.length - k) (c - k) (blkCells (r.blocks.drop k)) (by rw [blkCells_len, List.length_drop]) (fun hm => ⟨_, rfl, fun j u hj => only_cell HOO.out (blk_drop HOW.out hk hj)⟩) (blk_one _) (by omega) hb2) ?_); rintro v3 w3 ⟨hv3, hf3, ho3⟩; obtain ⟨a3, n3, c3, rfl⟩ := row_slice hv3; have hO3 := only_step HOO.out HF2.out ho3; have p50 := hO3.cell (fun h => h) L50.out; have z50 := ((HO0.out.then HO.out).then (HO2.out.then hO3)).free (fun h => h) hblt HFR.out; have HV3 := Lib.hid hv3; have HF3 := Lib.hid (fresh_step HF2.out hf3 HOO.out.size); have HO3 := Lib.hid hO3; have hb3 := hO3.size; clear hv3 hf3 ho3 hO3 n50))
            go_end0
            exact count_miss H0.out HO0.out (HO.out.then (HO2.out.then HO3.out)) HKL.out HMI.out HV3.out hk hblt HF3.out (Nat.le_trans HO0.out.size (Nat.le_trans HO.out.size HO2.out.size))
          · have hkn : k = c := by omega
            subst hkn
            go_wp2_with (first | ((refine wpList_append_e rfl (.tmp 98) (.tmp 104) 45 45 rfl (.slice none 0 0) (.slice (some ⟨g, 0, none⟩) k k) rfl rfl (app_row _ _ B (.slice none 0 0) 0 [] (World.ownsRow_nil _ _ _ _) (some ⟨g, 0, none⟩) k k (blkCells (r.blocks.take k)) (by rw [blkCells_len, List.length_take]; omega) (fun _ => ⟨_, rfl, fun j u hj => blk_take HOW.out hj⟩) (blk_one _) (by omega) hbc) ?_); rintro v1 w1 ⟨hv1, hf1, ho1⟩; have hO1 := only_step (Only.refl _ wc) fresh_nil ho1; have m50 := hO1.cell (fun h => h) l50; have ms0 := hO1.cell (fun h => h) ls0; have ms1 := hO1.cell (fun h => h) ls1; have HV1 := Lib.hid hv1; have HF1 := Lib.hid (fresh_step fresh_nil hf1 (Nat.le_refl _)); have HO1 := Lib.hid hO1; have hb1 := Nat.le_trans hbc hO1.size; clear hv1 hf1 ho1 hO1 l50 ls0 ls1) | ((refine wpList_append_e rfl (.tmp 106) (.tmp 114) 45 45 rfl v1 (.slice (some ⟨w1.heap.size, 0, none⟩) 1 1) rfl rfl (app_row _ _ B v1 (0 + k) ([] ++ blkCells (r.blocks.take k)) (HV1.out.alloc _) (some ⟨w1.heap.size, 0, none⟩) 1 1 (blkCells [⟨pc, len, bu, en⟩]) rfl (fun _ => ⟨_, rfl, World.news_of_block (heap_alloc_new w1 (.cells #[.int .u32 pc, .int .i64 len, .int .i64 bu, .int .i64 en] 53))⟩) (blk_one _) (by omega) (Nat.le_trans hb1 (by simp))) ?_); rintro v2 w2 ⟨hv2, hf2, ho2⟩; have hO2 := only_step (HO1.out.alloc _) HF1.out ho2; have n50 := hO2.cell (fun h => h) L50.out; have HV2 := Lib.hid hv2; have HF2 := Lib.hid (fresh_step HF1.out hf2 (Nat.le_trans HO1.out.size (by simp))); have HOO := Lib.hid hO2; have hb2 := Nat.le_trans hbc hO2.size; clear hv2 hf2 ho2 hO2 m50 ms0 ms1) | ((refine wpList_append_e rfl (.tmp 117) (.tmp 123) 45 45 rfl v2 (.slice (some ⟨g, 0, none⟩) 0 0) rfl rfl (app_row _ _ B v2 (0 + k + 1) ([] ++ blkCells (r.blocks.take k) ++ blkCells [⟨pc, len, bu, en⟩]) HV2.out (some ⟨g, 0, none⟩) 0 0 (blkCells (r.blocks.drop k)) (by rw [blkCells_len, List.length_drop]; omega) (fun hm => absurd hm (by omega)) (blk_one _) (by omega) hb2) ?_); rintro v3 w3 ⟨hv3, hf3, ho3⟩; obtain ⟨a3, n3, c3, rfl⟩ := row_slice hv3; have hO3 := only_step HOO.out HF2.out ho3; have p50 := hO3.cell (fun h => h) L50.out; have z50 := ((HO0.out.then HO.out).then (HO2.out.then hO3)).free (fun h => h) hblt HFR.out; have HV3 := Lib.hid hv3; have HF3 := Lib.hid (fresh_step HF2.out hf3 HOO.out.size); have HO3 := Lib.hid hO3; have hb3 := hO3.size; clear hv3 hf3 ho3 hO3 n50))
            go_end0
            exact count_miss H0.out HO0.out (HO.out.then (HO2.out.then HO3.out)) HKL.out HMI.out (by have h := HV3.out; rw [show r.blocks.length - k = 0 by omega]; exact h) hk hblt HF3.out (Nat.le_trans HO0.out.size (Nat.le_trans HO.out.size HO2.out.size))
end Go.Proofs.YtanccjaikocefaaGreatDoor
