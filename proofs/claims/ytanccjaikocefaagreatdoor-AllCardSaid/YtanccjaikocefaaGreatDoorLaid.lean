/-
  What the row's condition on the package-level table gives: the table's block holds the cells that the program's text says. No further condition.
-/
import Derived.Test.YtanccjaikocefaaGreatDoorRows
import Derived.Test.YtanccjaikocefaaGreatDoorDecBoth
import Derived.LaidMore
import Derived.OpenShut
import Derived.Stop.Joined
namespace Go.Proofs.YtanccjaikocefaaGreatDoor
open Go.ChangeShapes Go.WideShapes Go.ChangeAt Go.WideMaps Go.WideElems Go.RowKit
set_option linter.unusedVariables false

abbrev laidL : List (String × DataW Unit) := [("chains/rv.table", Rows.laid_chains_rv_table)]
theorem gTab : Tryz.prog.globalNamed "chains/rv.table" = some 0 := by kernel_rfl
theorem tTab : (Tryz.prog.globals[0]?).map (·.type) = some 98 := by kernel_rfl
def rowD (r : Int × Int × Int × Int) : DataW Unit := .agg [.lit (.int .i64 r.1), .lit (.int .i64 r.2.1), .lit (.int .u32 r.2.2.1), .lit (.int .u32 r.2.2.2)]
theorem laid_rows : (Rows.laid_chains_rv_table : DataW Unit) = .agg (tabRows.map rowD) := by kernel_rfl
theorem chunks (rows : List (Int × Int × Int × Int)) : ∀ cs : List Value, cs.length = 4 * rows.length → (∀ i r, rows[i]? = some r → (cs.drop (i * 4)).take 4 = rowCells r) → cs = rows.flatMap rowCells := by
  induction rows with
  | nil => intro cs hl _; simpa using hl
  | cons r rows ih =>
    intro cs hl h
    have h0 := h 0 r rfl
    simp at h0
    have h1 := ih (cs.drop 4) (by simp at hl ⊢; omega) (fun i x hx => by
      have := h (i + 1) x (by simpa using hx)
      rw [List.drop_drop]
      rw [show 4 + i * 4 = (i + 1) * 4 by omega]
      exact this)
    rw [List.flatMap_cons, ← h1, ← h0, List.take_append_drop]
theorem list4 {l : List Value} (h : l.length = 4) : ∃ a b c d, l = [a, b, c, d] := by
  match l, h with
  | [a, b, c, d], _ => exact ⟨a, b, c, d, rfl⟩
theorem row_of_trod {enc : TypeId × Value → Unit} {W : World} {base : Nat} {sp : Nat → Bool} {held : Bool} {m : Nat} {cs : List Value} {r : Int × Int × Int × Int} {ps : List MemPlace}
    (h : DataW.trod enc Tryz.prog W base sp held m 97 cs = some (rowD r, ps)) : cs = rowCells r := by
  obtain ⟨xs, n, rfl, hx, hl, hn, hf⟩ := DataW.trod_struct Tryz.underlying97 h
  have c4 : Tryz.prog.cellsOf 97 = 4 := by kernel_rfl
  have f0 := hf 0 _ rfl
  have f1 := hf 1 _ rfl
  have f2 := hf 2 _ rfl
  have f3 := hf 3 _ rfl
  simp only [rowD, Prod.mk.injEq, DataW.agg.injEq] at hx
  rw [c4] at hl
  match xs, hn, hx, f0, f1, f2, f3 with
  | [x0, x1, x2, x3], _, hx, f0, f1, f2, f3 =>
    simp only [List.map_cons, List.map_nil, List.cons.injEq] at hx
    obtain ⟨⟨e0, e1, e2, e3, _⟩, _⟩ := hx
    obtain ⟨k0, g0, j0, _⟩ := DataW.trod_int Tryz.underlying30 f0
    obtain ⟨k1, g1, j1, _⟩ := DataW.trod_int Tryz.underlying95 f1
    obtain ⟨k2, g2, j2, _⟩ := DataW.trod_int Tryz.underlying22 f2
    obtain ⟨k3, g3, j3, _⟩ := DataW.trod_int Tryz.underlying22 f3
    have o1 : Tryz.prog.cellsOf 30 = 1 := by kernel_rfl
    have o2 : Tryz.prog.cellsOf 95 = 1 := by kernel_rfl
    have o3 : Tryz.prog.cellsOf 22 = 1 := by kernel_rfl
    have g0' : (cs.drop 0).take (Tryz.prog.cellsOf 30) = [.int .i64 k0] := g0
    have g1' : (cs.drop 1).take (Tryz.prog.cellsOf 95) = [.int .i64 k1] := g1
    have g2' : (cs.drop 2).take (Tryz.prog.cellsOf 22) = [.int .u32 k2] := g2
    have g3' : (cs.drop 3).take (Tryz.prog.cellsOf 22) = [.int .u32 k3] := g3
    clear g0 g1 g2 g3
    rw [o1] at g0'
    rw [o2] at g1'
    rw [o3] at g2' g3'
    rw [j0] at e0
    rw [j1] at e1
    rw [j2] at e2
    rw [j3] at e3
    simp only [DataW.lit.injEq, Lit.int.injEq, true_and] at e0 e1 e2 e3
    subst e0 e1 e2 e3
    obtain ⟨a, b, c, d, rfl⟩ := list4 hl
    simp only [List.drop_zero, List.drop_succ_cons, List.take_succ_cons, List.take_zero, List.cons.injEq, and_true] at g0' g1' g2' g3'
    rw [g0', g1', g2', g3']
    rfl
theorem of_laid {W : World} (h : laidMetH Tryz.prog laidL W) : Tab W := by
  rw [MakeChecks.laidMetH_plain _ _ _ (by kernel_rfl)] at h
  obtain ⟨ps, ⟨g0, t0, cs0, f0, p0, q0, hg0, ht0, hv0, hd0, _, _⟩, _, _⟩ := h
  obtain rfl := Option.some.inj (gTab.symm.trans hg0)
  obtain rfl := Option.some.inj (tTab.symm.trans ht0)
  rw [laid_rows] at hd0
  obtain ⟨xs, m, rfl, hx, hl, hn, hel⟩ := DataW.trod_array Tryz.underlying98 hd0
  have c4 : Tryz.prog.cellsOf 97 = 4 := by kernel_rfl
  have c196 : Tryz.prog.cellsOf 98 = 196 := by kernel_rfl
  simp only [Prod.mk.injEq, DataW.agg.injEq] at hx
  have hcs : cs0.toList = tabCells := by
    refine chunks tabRows _ (by rw [hl, c196, tabRows_length]) (fun i r hr => ?_)
    have hi : i < 49 := by
      have := (List.getElem?_eq_some_iff.1 hr).1
      rw [tabRows_length] at this; exact this
    have he := hel i hi
    rw [c4] at he
    have hxi : (xs.map (·.1))[i]? = some (rowD r) := by rw [← hx.1, List.getElem?_map, hr]; rfl
    rw [List.getElem?_map] at hxi
    cases hq : xs[i]? with
    | none => rw [hq] at hxi; cases hxi
    | some x =>
      rw [hq] at hxi he
      obtain ⟨d, pl⟩ := x
      simp at hxi
      subst hxi
      exact row_of_trod he
  intro j v hj
  have := World.var?_cell hg0 hv0 (0 + j)
  rw [this]
  rw [← hcs] at hj
  simpa using hj
end Go.Proofs.YtanccjaikocefaaGreatDoor
