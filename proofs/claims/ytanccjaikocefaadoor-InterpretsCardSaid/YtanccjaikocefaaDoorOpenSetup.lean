/-
  What the reading of an argument of type Setup gives: its cells, its texts in memory, its numbers' ranges. No further condition.
-/
import Derived.Test.YtanccjaikocefaaDoorLaid
import Derived.Test.YtanccjaikocefaaDoorLaw
import Derived.ReadAgain
import Derived.Deep.Modes
namespace Go.Proofs.YtanccjaikocefaaDoor
open Go.ChangeShapes Go.WideShapes Go.ChangeAt Go.WideMaps Go.WideElems Go.RowKit
set_option linter.unusedVariables false

/-- What is known of a setup that came in. -/
structure Setup.Raw (p : Setup) : Prop where
  pages : i64ok p.pages
  image : p.image.size ≤ maxLen
  base : 0 ≤ p.base ∧ p.base < 4294967296
  entry : 0 ≤ p.entry ∧ p.entry < 4294967296
  fuel : i64ok p.fuel
  slots : i64ok p.slots
  arena : i64ok p.arena
theorem Setup.Raw.ok {p : Setup} (h : p.Raw) (h1 : p.image.size ≤ 1048576) (h2 : p.ans.length ≤ 4096) (h3 : ∀ t ∈ p.ans, t.size ≤ 1048576) : p.Ok := ⟨h.pages, h1, h.base, h.entry, h2, h3, h.fuel, h.slots, h.arena⟩
theorem list8 {l : List Value} (h : l.length = 8) : ∃ a b c d e f g i, l = [a, b, c, d, e, f, g, i] := by
  match l, h with
  | [a, b, c, d, e, f, g, i], _ => exact ⟨a, b, c, d, e, f, g, i, rfl⟩
/-- A row of texts, read. -/
theorem open_texts {H : Type} {enc : TypeId × Value → H} {W : World} {sp : Nat → Bool} {held : Bool} {n : Nat} {v : Value} {x : DataW H × List MemPlace} (hW : 0 < W.heap.size) (h : DataW.trod enc Tryd.prog W 0 sp held n 29 [v] = some x) :
    ∃ (l : List ByteArray) (ab : Nat), TextsAt W ab v l ∧ ab < W.heap.size := by
  have c1 : Tryd.prog.cellsOf 9 = 1 := by kernel_rfl
  rcases DataW.trod_slice Tryd.underlying29 h with ⟨hv, _⟩ | ⟨a, len, cap, elems, rest, m, _, hv, _, _, hlc, hcm, hel, hi, _⟩
  · simp only [List.cons.injEq, and_true] at hv
    subst hv
    exact ⟨[], 0, ⟨none, 0, rfl, Nat.le_refl _, by omega, fun h => absurd rfl h⟩, hW⟩
  · simp only [List.cons.injEq, and_true] at hv
    subst hv
    rw [c1] at hi
    have hget : ∀ i, i < len → ∃ s : ByteArray, W.cell? (a.add i) = some (.string s) ∧ s.size ≤ maxLen := by
      intro i hlt
      have h1 := hi i hlt
      rw [Nat.mul_one] at h1
      have h2 : elems[i]? = some (elems[i]'(by omega)) := List.getElem?_eq_getElem _
      rw [h2] at h1
      obtain ⟨cs, hc, ht⟩ := Option.bind_eq_some_iff.1 h1
      obtain ⟨s, rfl, _, hs⟩ := DataW.trod_string Tryd.underlying9 ht
      refine ⟨s, ?_, hs⟩
      have := (World.cells?_some hc).2.2 0 (by omega)
      rw [Addr.add_add] at this
      simpa using this
    have HG := hget
    obtain ⟨ab, off, spot⟩ := a
    let f : Nat → ByteArray := fun i => match W.cell? ((⟨ab, off, spot⟩ : Addr).add i) with | some (.string s) => s | _ => ByteArray.empty
    have hf : ∀ i, i < len → W.cell? ((⟨ab, off, spot⟩ : Addr).add i) = some (.string (f i)) ∧ (f i).size ≤ maxLen := by
      intro i hlt
      obtain ⟨s, h1, h2⟩ := hget i hlt
      have e : f i = s := by
        show (match W.cell? ((⟨ab, off, spot⟩ : Addr).add i) with | some (.string s) => s | _ => ByteArray.empty) = s
        rw [h1]
      rw [e]
      exact ⟨h1, h2⟩
    have hll : ((List.range len).map f).length = len := by simp
    rcases Nat.eq_zero_or_pos len with h0 | hp
    · subst h0
      exact ⟨[], 0, ⟨_, cap, rfl, Nat.zero_le _, by unfold maxLen at hcm; omega, fun h => absurd rfl h⟩, hW⟩
    · have hspot : spot = none := by simpa [Addr.add] using World.cell?_spot (hf 0 hp).1
      subst hspot
      refine ⟨(List.range len).map f, ab, ⟨some ⟨ab, off, none⟩, cap, by rw [hll], by rw [hll]; exact hlc, by unfold maxLen at hcm; omega, fun _ => ⟨off, rfl, fun j t hj => ?_⟩⟩, block_lt_of_cell (hf 0 hp).1⟩
      have hj2 : j < len := by
        have := (List.getElem?_eq_some_iff.1 hj).1
        rw [hll] at this
        exact this
      have e : f j = t := by
        rw [List.getElem?_map, List.getElem?_range hj2] at hj
        simpa using hj
      have hfj := hf j hj2
      rw [e] at hfj
      refine ⟨hfj.2, ?_⟩
      rw [← Go.WideShapes.add_plain]
      exact hfj.1
theorem open_setup {H : Type} {enc : TypeId × Value → H} {W : World} {sp : Nat → Bool} {held : Bool} {v : Value} {d : DataW H} {ps : List MemPlace} (hW : 0 < W.heap.size) (hv : ∃ cs : Array Value, v = .agg cs) (h : DataW.Trod enc Tryd.prog W 0 sp held 31 v d ps) :
    ∃ (p : Setup) (ab : Nat) (av : Value), v = .agg (p.cells av) ∧ TextsAt W ab av p.ans ∧ ab < W.heap.size ∧ p.Raw := by
  obtain ⟨cs, rfl⟩ := hv
  obtain ⟨fuel, hf⟩ := h
  obtain ⟨xs, n, rfl, hx, hl, hn, hfs⟩ := DataW.trod_struct Tryd.underlying31 hf
  have cS : Tryd.prog.cellsOf 31 = 8 := by kernel_rfl
  have cI : Tryd.prog.cellsOf 3 = 1 := by kernel_rfl
  have cT : Tryd.prog.cellsOf 9 = 1 := by kernel_rfl
  have cU : Tryd.prog.cellsOf 22 = 1 := by kernel_rfl
  have cL : Tryd.prog.cellsOf 29 = 1 := by kernel_rfl
  have f0 := hfs 0 _ rfl
  have f1 := hfs 1 _ rfl
  have f2 := hfs 2 _ rfl
  have f3 := hfs 3 _ rfl
  have f4 := hfs 4 _ rfl
  have f5 := hfs 5 _ rfl
  have f6 := hfs 6 _ rfl
  have f7 := hfs 7 _ rfl
  rw [cS] at hl
  match xs, hn, hx, f0, f1, f2, f3, f4, f5, f6, f7 with
  | [x0, x1, x2, x3, x4, x5, x6, x7], _, hx, f0, f1, f2, f3, f4, f5, f6, f7 =>
    obtain ⟨k0, g0, _, w0⟩ := DataW.trod_int Tryd.underlying3 f0
    obtain ⟨k1, g1, _, w1⟩ := DataW.trod_string Tryd.underlying9 f1
    obtain ⟨k2, g2, _, w2⟩ := DataW.trod_int Tryd.underlying22 f2
    obtain ⟨k3, g3, _, w3⟩ := DataW.trod_int Tryd.underlying22 f3
    obtain ⟨k5, g5, _, w5⟩ := DataW.trod_int Tryd.underlying3 f5
    obtain ⟨k6, g6, _, w6⟩ := DataW.trod_int Tryd.underlying3 f6
    obtain ⟨k7, g7, _, w7⟩ := DataW.trod_int Tryd.underlying3 f7
    have g0' : (((Value.agg cs).cells).toList.drop 0).take (Tryd.prog.cellsOf 3) = [.int .i64 k0] := g0
    rw [cI] at g0'
    have g1' : (((Value.agg cs).cells).toList.drop 1).take (Tryd.prog.cellsOf 9) = [.string k1] := g1
    rw [cT] at g1'
    have g2' : (((Value.agg cs).cells).toList.drop 2).take (Tryd.prog.cellsOf 22) = [.int .u32 k2] := g2
    rw [cU] at g2'
    have g3' : (((Value.agg cs).cells).toList.drop 3).take (Tryd.prog.cellsOf 22) = [.int .u32 k3] := g3
    rw [cU] at g3'
    have g5' : (((Value.agg cs).cells).toList.drop 5).take (Tryd.prog.cellsOf 3) = [.int .i64 k5] := g5
    rw [cI] at g5'
    have g6' : (((Value.agg cs).cells).toList.drop 6).take (Tryd.prog.cellsOf 3) = [.int .i64 k6] := g6
    rw [cI] at g6'
    have g7' : (((Value.agg cs).cells).toList.drop 7).take (Tryd.prog.cellsOf 3) = [.int .i64 k7] := g7
    rw [cI] at g7'
    have hc : (Value.agg cs).cells.toList = cs.toList := rfl
    rw [hc] at hl g0' g1' g2' g3' g5' g6' g7'
    have f4' : DataW.trod enc Tryd.prog W 0 sp held n 29 ((cs.toList.drop 4).take (Tryd.prog.cellsOf 29)) = some x4 := f4
    rw [cL] at f4'
    obtain ⟨a, b, c, d, e, f, g, i, hcl⟩ := list8 hl
    rw [hcl] at g0' g1' g2' g3' g5' g6' g7' f4'
    simp only [List.drop_zero, List.drop_succ_cons, List.take_succ_cons, List.take_zero, List.cons.injEq, and_true] at g0' g1' g2' g3' g5' g6' g7' f4'
    obtain ⟨l, ab, ht, hab⟩ := open_texts hW f4'
    have b0 := bounds_i64 w0
    have b2 := bounds_u32 w2
    have b3 := bounds_u32 w3
    have b5 := bounds_i64 w5
    have b6 := bounds_i64 w6
    have b7 := bounds_i64 w7
    refine ⟨⟨k0, k1, k2, k3, l, k5, k6, k7⟩, ab, e, ?_, ht, hab, ⟨⟨b0.1, b0.2⟩, w1, ⟨b2.1, by show k2 < 4294967296; omega⟩, ⟨b3.1, by show k3 < 4294967296; omega⟩, ⟨b5.1, b5.2⟩, ⟨b6.1, b6.2⟩, ⟨b7.1, b7.2⟩⟩⟩
    have : cs = #[a, b, c, d, e, f, g, i] := by
      apply Array.ext'
      exact hcl
    rw [this, g0', g1', g2', g3', g5', g6', g7']
    rfl
theorem kids : Kids Tryd.prog (· < Tryd.prog.types.size) := kids_rows (by kernel_rfl) (by kernel_rfl)
theorem fullS : ∀ t e, t < Tryd.prog.types.size → Tryd.prog.underlying t = some (.slice e) → 0 < Tryd.prog.cellsOf e := slices_full_of Tryd.prog (by kernel_rfl)
/-- What was read reads so behind a call that changes nothing. -/
theorem Only.trod {H : Type} {enc : TypeId × Value → H} {W W' : World} (ho : Only (fun _ => False) W W') {sp : Nat → Bool} {held : Bool} {t : TypeId} {v : Value} {d : DataW H} {ps : List MemPlace} (h : DataW.Trod enc Tryd.prog W 0 sp held t v d ps) : DataW.Trod enc Tryd.prog W' 0 sp held t v d ps := by
  obtain ⟨n, hn⟩ := h
  refine ⟨n, DataW.trod_carry n _ _ _ hn (fun p hp => ?_)⟩
  have hlt := DataW.trod_lt n _ _ _ hn p hp
  have hb := ho.block p.block hlt (fun h => h)
  cases p with
  | cell b off => exact World.cell?_of_block hb
  | map b => exact hb
end Go.Proofs.YtanccjaikocefaaDoor
