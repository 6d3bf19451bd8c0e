/-
  The contracts of the law's helpers: few, copied, sameTexts, same. Conditions: the texts lie in memory.
  What the reading of an argument of type Setup gives: its cells, its texts in memory, its numbers' ranges. No further condition.
-/
import Derived.Test.YtanccjaikocefaaGreatDoorInterp2
import Derived.Test.YtanccjaikocefaaGreatDoorLaid
import Derived.ReadAgain
import Derived.Deep.Modes
namespace Go.Proofs.YtanccjaikocefaaGreatDoor
open Go.ChangeShapes Go.WideShapes Go.ChangeAt Go.RowKit
set_option linter.unusedVariables false

/-- What 'few' tells. -/
def FewP (p : Setup) (w : World) (e : Ending) (w' : World) : Prop := ∃ y, e = .returned (.bool y) ∧ Only (fun _ => False) w w' ∧ (y = true → p.image.size ≤ 1048576 ∧ p.ans.length ≤ 4096 ∧ ∀ t ∈ p.ans, t.size ≤ 1048576)
set_option maxRecDepth 100000 in
theorem few_any (p : Setup) (ab : Nat) (av : Value) (w : World) (hi : p.image.size ≤ maxLen) (ha : TextsAt w ab av p.ans) (hab : ab < w.heap.size) :
    Calls Tryz.prog 13 #[.agg (p.cells av)] w (FewP p w) := by
  obtain ⟨aa, ac, hav, hac, hacm, hcl⟩ := ha
  subst hav
  unfold Setup.cells
  unfold maxLen at hi
  have HCL := Lib.hid hcl
  clear hcl
  by_cases h1 : 1048576 < p.image.size
  · go_enter Tryz.func13, Tryz.ntmps13
    go_wp2_with fail
    go_ret
    exact ⟨false, rfl, (Only.refl _ w).alloc _, fun h => by cases h⟩
  by_cases h2 : 4096 < p.ans.length
  · go_enter Tryz.func13, Tryz.ntmps13
    go_wp2_with fail
    go_ret
    exact ⟨false, rfl, (Only.refl _ w).alloc _, fun h => by cases h⟩
  go_enter Tryz.func13, Tryz.ntmps13
  go_wp2_with fail
  obtain ⟨W0, hW0⟩ : ∃ W0, W0 = w.alloc (.cells #[.int .i64 p.pages, .string p.image, .int .u32 p.base, .int .u32 p.entry, .slice aa p.ans.length ac, .int .i64 p.fuel, .int .i64 p.slots, .int .i64 p.arena] 25) := ⟨_, rfl⟩
  rw [← hW0]
  have hO0 : Only (fun _ => False) w W0 := by rw [hW0]; exact (Only.refl _ w).alloc _
  have c4 : W0.cell? ⟨w.heap.size, 4, none⟩ = some (.slice aa p.ans.length ac) := by rw [hW0]; exact cell_of_row _ _ 4 _ _ _ (heap_alloc_new w _)
  have HO := Lib.hid hO0
  clear hW0 hO0
  go_loopw [3] (fun i wr => ∃ k : Nat, k ≤ p.ans.length ∧ i = .int .i64 k ∧ wr = W0 ∧ ∀ j t, j < k → p.ans[j]? = some t → t.size ≤ 1048576) (fun i _ => p.ans.length - (intOf i).toNat)
  case atStart => exact ⟨0, Nat.zero_le _, rfl, rfl, fun j t h => absurd h (Nat.not_lt_zero _)⟩
  case round =>
    obtain ⟨k, hk, rfl, rfl, hall⟩ := hrel
    have HALL := Lib.hid hall
    clear hall
    by_cases hlt : k < p.ans.length
    · obtain ⟨t, ht⟩ : ∃ t, p.ans[k]? = some t := ⟨_, List.getElem?_eq_getElem hlt⟩
      obtain ⟨off, rfl, hcells⟩ := HCL.out (by intro h; rw [h] at hlt; exact absurd hlt (Nat.not_lt_zero _))
      obtain ⟨hml, hc⟩ := hcells k t ht
      have ck : wr.cell? ⟨ab, off + k, none⟩ = some (.string t) := HO.out.cell (fun h => h) hc
      unfold maxLen at hml
      have HT := Lib.hid ht
      clear hcells hc ht
      by_cases ht2 : 1048576 < t.size
      · go_wp2_with fail
        go_ret
        exact ⟨false, rfl, HO.out, fun h => by cases h⟩
      · go_wp2_with fail
        go_roundw
        case rel =>
          refine ⟨k + 1, by omega, by go_num, by first | trivial | rfl, fun j u hj hu => ?_⟩
          rcases Nat.lt_or_ge j k with h | h
          · exact HALL.out j u h hu
          · obtain rfl : j = k := by omega
            have := HT.out
            rw [hu] at this
            cases this
            omega
        case measure => simp [intOf]; omega
    · have hk2 : k = p.ans.length := by omega
      subst hk2
      go_wp2_with fail
      go_ret
      refine ⟨true, rfl, HO.out, fun _ => ⟨by omega, by omega, fun t ht => ?_⟩⟩
      obtain ⟨j, hj⟩ := List.mem_iff_getElem?.1 ht
      exact HALL.out j t (List.getElem?_eq_some_iff.1 hj).1 hj
/-- Two lists of the same texts. -/
theorem same_texts (l : List ByteArray) (hl : l.length ≤ 4096) (ab ab2 : Nat) (av av2 : Value) (w : World) (ha : TextsAt w ab av l) (ha2 : TextsAt w ab2 av2 l) :
    Calls Tryz.prog 18 #[av, av2] w (fun e w' => e = .returned (.bool true) ∧ Only (fun _ => False) w w') := by
  obtain ⟨aa, ac, hav, hac, hacm, hcl⟩ := ha
  obtain ⟨aa2, ac2, hav2, hac2, hacm2, hcl2⟩ := ha2
  subst hav
  subst hav2
  have HCL := Lib.hid hcl
  have HCL2 := Lib.hid hcl2
  clear hcl hcl2
  go_enter Tryz.func18, Tryz.ntmps18
  go_wp2_with fail
  go_loopw [5] (fun i wr => ∃ k : Nat, k ≤ l.length ∧ i = .int .i64 k ∧ Only (fun _ => False) w wr) (fun i _ => l.length - (intOf i).toNat)
  case atStart => exact ⟨0, Nat.zero_le _, rfl, Only.refl _ _⟩
  case round =>
    obtain ⟨k, hk, rfl, ho⟩ := hrel
    by_cases hlt : k < l.length
    · obtain ⟨t, ht⟩ : ∃ t, l[k]? = some t := ⟨_, List.getElem?_eq_getElem hlt⟩
      have hne : l ≠ [] := by intro h; rw [h] at hlt; exact absurd hlt (Nat.not_lt_zero _)
      obtain ⟨off, rfl, hcells⟩ := HCL.out hne
      obtain ⟨off2, rfl, hcells2⟩ := HCL2.out hne
      have ck : wr.cell? ⟨ab, off + k, none⟩ = some (.string t) := ho.cell (fun h => h) (hcells k t ht).2
      have ck2 : wr.cell? ⟨ab2, off2 + k, none⟩ = some (.string t) := ho.cell (fun h => h) (hcells2 k t ht).2
      clear hcells hcells2 ht hne
      go_wp2_with fail
      go_quiet (fail)
      go_wp2_with fail
      go_roundw
      case rel => exact ⟨k + 1, by omega, by go_num, ho.drewN _⟩
      case measure => simp [intOf]; omega
    · have hk2 : k = l.length := by omega
      subst hk2
      go_wp2_with fail
      go_ret
      exact ⟨rfl, ho⟩
theorem rep_list' (o : Int) (s : St) (evs : Value) (bu : Int) : (repCells o s evs bu).toList = [Value.int .i64 o, .int .u32 s.pc] ++ (regs32 s ++ [.int .u32 s.brk, .string (strOfNums s.mem), evs, .int .i64 s.steps, .int .i64 bu]) := rfl
theorem rep_reg (o : Int) (s : St) (evs : Value) (bu : Int) (k : Nat) (hk : k < 32) : (repCells o s evs bu)[2 + k]? = some (.int .u32 (s.regs k)) := by
  rw [← Array.getElem?_toList, rep_list', ← regs32_eq, List.getElem?_append_right (by simp)]
  simp only [List.length_cons, List.length_nil]
  rw [show 2 + k - (0 + 1 + 1) = k by omega, List.getElem?_append_left (by simpa using hk)]
  simp [hk]
theorem evCells_get (l : List Ev) : ∀ (k : Nat) (e : Ev), l[k]? = some e → (evCells l)[k * 3]? = some (.int .u32 e.call) ∧ (evCells l)[k * 3 + 1]? = some (.int .u32 e.result) ∧ (evCells l)[k * 3 + 2]? = some (.string e.data) := by
  induction l with
  | nil => intro k e h; simp at h
  | cons a l ih =>
    intro k e h
    cases k with
    | zero => simp at h; subst h; exact ⟨rfl, rfl, rfl⟩
    | succ k =>
      have := ih k e (by simpa using h)
      simpa [evCells, Nat.add_mul] using this
/-- The cells of an event in a row of events. -/
theorem ev_cells {w : World} {v : Value} {l : List Ev} (h : w.ownsRow 0 86 3 v l.length (evCells l)) {k : Nat} {e : Ev} (hk : l[k]? = some e) :
    ∃ g c, v = .slice (some ⟨g, 0, none⟩) l.length c ∧ w.cell? ⟨g, k * 3, none⟩ = some (.int .u32 e.call) ∧ w.cell? ⟨g, k * 3 + 1, none⟩ = some (.int .u32 e.result) ∧ w.cell? ⟨g, k * 3 + 2, none⟩ = some (.string e.data) := by
  have hlt := (List.getElem?_eq_some_iff.1 hk).1
  obtain ⟨g, c, hv, _, _⟩ := h.form (by omega)
  have hc : ∀ j u, (evCells l)[j]? = some u → w.cell? ⟨g, j, none⟩ = some u := by
    intro j u hj
    have := h.cells (g := g) (by rw [hv]; rfl) j u hj
    rw [Addr.add_mid, Nat.zero_add] at this
    exact this
  obtain ⟨e0, e1, e2⟩ := evCells_get l k e hk
  exact ⟨g, c, hv, hc _ _ e0, hc _ _ e1, hc _ _ e2⟩
set_option maxRecDepth 100000 in
set_option maxHeartbeats 1000000 in
/-- Two reports of one state. -/
theorem same_any (o : Int) (s : St) (bu : Int) (e1 e2 : Value) (w : World) (hn : s.evs.length ≤ 1000000) (h1 : w.ownsRow 0 86 3 e1 s.evs.length (evCells s.evs)) (h2 : w.ownsRow 0 86 3 e2 s.evs.length (evCells s.evs)) :
    Calls Tryz.prog 17 #[.agg (repCells o s e1 bu), .agg (repCells o s e2 bu), .bool true] w (fun e w' => e = .returned (.bool true) ∧ Only (fun _ => False) w w') := by
  obtain ⟨a1, c1, hv1⟩ : ∃ a c, e1 = .slice a s.evs.length c := by
    rcases h1.2 with ⟨e, e'⟩ | ⟨g, cap, _, e, _⟩
    · rw [e']; exact ⟨_, _, e⟩
    · exact ⟨_, _, e⟩
  obtain ⟨a2, c2, hv2⟩ : ∃ a c, e2 = .slice a s.evs.length c := by
    rcases h2.2 with ⟨e, e'⟩ | ⟨g, cap, _, e, _⟩
    · rw [e']; exact ⟨_, _, e⟩
    · exact ⟨_, _, e⟩
  rw [hv1] at h1
  rw [hv2] at h2
  rw [hv1, hv2]
  have H1 := Lib.hid h1
  have H2 := Lib.hid h2
  clear h1 h2 hv1 hv2
  obtain ⟨W0, hW0⟩ : ∃ W0, W0 = (w.alloc (.cells (repCells o s (.slice a1 s.evs.length c1) bu) 41)).alloc (.cells (repCells o s (.slice a2 s.evs.length c2) bu) 41) := ⟨_, rfl⟩
  have hO0 : Only (fun _ => False) w W0 := by rw [hW0]; exact ((Only.refl _ w).alloc _).alloc _
  have hr1 : W0.heap[w.heap.size]? = some (.cells (repCells o s (.slice a1 s.evs.length c1) bu) 41 (0, 0)) := by rw [hW0]; exact heap_alloc_old' _ (heap_alloc_new w _)
  have hr2 : W0.heap[w.heap.size + 1]? = some (.cells (repCells o s (.slice a2 s.evs.length c2) bu) 41 (0, 0)) := by
    rw [hW0]
    have := heap_alloc_new (w.alloc (.cells (repCells o s (.slice a1 s.evs.length c1) bu) 41)) (.cells (repCells o s (.slice a2 s.evs.length c2) bu) 41)
    simpa using this
  have q0 : W0.cell? ⟨w.heap.size, 0, none⟩ = some (.int .i64 o) := cell_of_row W0 _ 0 _ _ _ hr1
  have q1 : W0.cell? ⟨w.heap.size, 1, none⟩ = some (.int .u32 s.pc) := cell_of_row W0 _ 1 _ _ _ hr1
  have q34 : W0.cell? ⟨w.heap.size, 34, none⟩ = some (.int .u32 s.brk) := cell_of_row W0 _ 34 _ _ _ hr1
  have q35 : W0.cell? ⟨w.heap.size, 35, none⟩ = some (.string (strOfNums s.mem)) := cell_of_row W0 _ 35 _ _ _ hr1
  have q36 : W0.cell? ⟨w.heap.size, 36, none⟩ = some (.slice a1 s.evs.length c1) := cell_of_row W0 _ 36 _ _ _ hr1
  have q37 : W0.cell? ⟨w.heap.size, 37, none⟩ = some (.int .i64 s.steps) := cell_of_row W0 _ 37 _ _ _ hr1
  have q38 : W0.cell? ⟨w.heap.size, 38, none⟩ = some (.int .i64 bu) := cell_of_row W0 _ 38 _ _ _ hr1
  have z0 : W0.cell? ⟨w.heap.size + 1, 0, none⟩ = some (.int .i64 o) := cell_of_row W0 _ 0 _ _ _ hr2
  have z1 : W0.cell? ⟨w.heap.size + 1, 1, none⟩ = some (.int .u32 s.pc) := cell_of_row W0 _ 1 _ _ _ hr2
  have z34 : W0.cell? ⟨w.heap.size + 1, 34, none⟩ = some (.int .u32 s.brk) := cell_of_row W0 _ 34 _ _ _ hr2
  have z35 : W0.cell? ⟨w.heap.size + 1, 35, none⟩ = some (.string (strOfNums s.mem)) := cell_of_row W0 _ 35 _ _ _ hr2
  have z36 : W0.cell? ⟨w.heap.size + 1, 36, none⟩ = some (.slice a2 s.evs.length c2) := cell_of_row W0 _ 36 _ _ _ hr2
  have z37 : W0.cell? ⟨w.heap.size + 1, 37, none⟩ = some (.int .i64 s.steps) := cell_of_row W0 _ 37 _ _ _ hr2
  have z38 : W0.cell? ⟨w.heap.size + 1, 38, none⟩ = some (.int .i64 bu) := cell_of_row W0 _ 38 _ _ _ hr2
  have x1 : ∀ k : Nat, k < 32 → W0.cell? ⟨w.heap.size, 2 + k, none⟩ = some (.int .u32 (s.regs k)) := fun k hk => (cell_of_row W0 _ (2 + k) _ _ _ hr1).trans (rep_reg o s _ bu k hk)
  have x2 : ∀ k : Nat, k < 32 → W0.cell? ⟨w.heap.size + 1, 2 + k, none⟩ = some (.int .u32 (s.regs k)) := fun k hk => (cell_of_row W0 _ (2 + k) _ _ _ hr2).trans (rep_reg o s _ bu k hk)
  have HX1 := Lib.hid x1
  have HX2 := Lib.hid x2
  have HW0 := Lib.hid hW0
  have HO0 := Lib.hid hO0
  clear x1 x2 hr1 hr2 hW0 hO0
  unfold repCells at *
  go_enter Tryz.func17, Tryz.ntmps17
  go_wp2_with fail
  go_loopw [7] (fun i wr => ∃ k : Nat, k ≤ 32 ∧ i = .int .i64 k ∧ Only (fun _ => False) W0 wr) (fun i _ => 32 - (intOf i).toNat)
  case atStart => exact ⟨0, Nat.zero_le _, rfl, by rw [← HW0.out]; exact Only.refl _ _⟩
  case round =>
    obtain ⟨k, hk, rfl, ho⟩ := hrel
    by_cases hlt : k < 32
    · have c1 := ho.cell (fun h => h) (HX1.out k hlt)
      have c2 := ho.cell (fun h => h) (HX2.out k hlt)
      clear q0 q1 q34 q35 q36 q37 q38 z0 z1 z34 z35 z36 z37 z38
      go_wp2_with fail
      go_quiet (fail)
      go_wp2_with fail
      go_roundw
      case rel => exact ⟨k + 1, by omega, by go_num, ho.drewN _⟩
      case measure => simp [intOf]; omega
    · have hk2 : k = 32 := by omega
      subst hk2
      have q36 := ho.cell (fun h => h) q36
      have z36 := ho.cell (fun h => h) z36
      have q38 := ho.cell (fun h => h) q38
      have z38 := ho.cell (fun h => h) z38
      have HO := Lib.hid ho
      clear q0 q1 q34 q35 q37 z0 z1 z34 z35 z37 ho
      go_wp2_with fail
      go_loopw [8] (fun i wr2 => ∃ k : Nat, k ≤ s.evs.length ∧ i = .int .i64 k ∧ Only (fun _ => False) wr wr2) (fun i _ => s.evs.length - (intOf i).toNat)
      case atStart => exact ⟨0, Nat.zero_le _, rfl, Only.refl _ _⟩
      case round =>
        obtain ⟨k, hk, rfl, ho⟩ := hrel
        have j36 := ho.cell (fun h => h) q36
        have y36 := ho.cell (fun h => h) z36
        have j38 := ho.cell (fun h => h) q38
        have y38 := ho.cell (fun h => h) z38
        clear q36 z36 q38 z38
        by_cases hlt : k < s.evs.length
        · obtain ⟨e, he⟩ : ∃ e, s.evs[k]? = some e := ⟨_, List.getElem?_eq_getElem hlt⟩
          have hO := HO0.out.then (HO.out.then ho)
          obtain ⟨g1, d1, ev1, a0, a1', a2'⟩ := ev_cells (ownsRow_only H1.out hO (fun _ _ h => h)) he
          obtain ⟨g2, d2, ev2, b0, b1', b2'⟩ := ev_cells (ownsRow_only H2.out hO (fun _ _ h => h)) he
          simp only [Value.slice.injEq, true_and] at ev1 ev2
          obtain ⟨rfl, rfl⟩ := ev1
          obtain ⟨rfl, rfl⟩ := ev2
          clear he hO
          go_wp2_with fail
          go_quiet (fail)
          go_wp2_with fail
          go_roundw
          case rel => exact ⟨k + 1, by omega, by go_num, ho.drewN _⟩
          case measure => simp [intOf]; omega
        · have hk2 : k = s.evs.length := by omega
          subst hk2
          go_wp2_with fail
          go_ret
          exact ⟨rfl, HO0.out.then (HO.out.then ho)⟩
theorem append_made (w : World) (ty : TypeId) (g : Nat) (a : Option Addr) (c : Nat) : (Builtin.append_ #[23, 23] ty #[.slice (some ⟨g, 0, none⟩) 0 0, .slice a 0 c]).run Tryz.prog w = .ok (.slice (some ⟨g, 0, none⟩) 0 0) w := by
  obtain ⟨i0, hi, hz0, hz1, hz2⟩ := info_parts info_str
  cases a <;> simp [Builtin.append_, run_underlying Tryz.underlying23, sizeOf, typeInfo, hi, Builtin.lenOf, Builtin.firstCells, loadCells, loadCellsFrom, storeCells]
theorem app_made (W : World) (ty : TypeId) (ab g0 : Nat) (av : Value) (l : List ByteArray) (hl : l.length ≤ 4096) (hab : ab < W.heap.size) (hg0 : W.heap[g0]? = some (.cells #[] 9 (0, 0))) (h : TextsAt W ab av l) :
    ∃ v w', (Builtin.append_ #[23, 23] ty #[.slice (some ⟨g0, 0, none⟩) 0 0, av]).run Tryz.prog W = .ok v w' ∧ (∃ ab2 a c, v = .slice a l.length c ∧ TextsAt w' ab2 v l ∧ ab2 < w'.heap.size ∧ (ab2 = ab ∨ g0 ≤ ab2) ∧ Only (· = g0) W w') := by
  obtain ⟨a, c, rfl, h1, h2, h3⟩ := h
  cases l with
  | nil => exact ⟨_, _, append_made W ty g0 a c, ab, _, 0, rfl, ⟨_, 0, rfl, Nat.le_refl _, by omega, fun h => absurd rfl h⟩, hab, .inl rfl, Only.refl _ _⟩
  | cons t ts =>
    obtain ⟨off, rfl, ht⟩ := h3 (by simp)
    obtain ⟨i0, hi, hz0, hz1, hz2⟩ := info_parts info_str
    have hnews : ∀ j u, ((t :: ts).map Value.string)[j]? = some u → W.cell? ((⟨ab, off, none⟩ : Addr).add j) = some u := by
      intro j u hj
      rw [List.getElem?_map] at hj
      cases hq : (t :: ts)[j]? with
      | none => rw [hq] at hj; cases hj
      | some v =>
        rw [hq] at hj
        cases hj
        rw [Addr.add_mid]
        exact (ht j v hq).2
    have hmade : W.ownsRow 0 9 1 (.slice (some ⟨g0, 0, none⟩) 0 0) 0 [] := ⟨by simp, .inr ⟨g0, 0, #[], rfl, Nat.zero_le _, hg0, Nat.le_refl _, Nat.zero_le _, rfl, by simp⟩⟩
    obtain ⟨g, cap, w', hr, hown, hg, hat, hlt⟩ := run_append_lies (P := Tryz.prog) W 23 ty 0 9 i0 _ 1 16 Tryz.underlying23 hi hz0 hz1 hz2 (by rfl) (by omega) (.slice (some ⟨g0, 0, none⟩) 0 0) 0 [] hmade ⟨ab, off, none⟩ (t :: ts).length c ((t :: ts).map Value.string) (by simp) hnews (by simp [Value.oneCell']) (by simp) (by unfold maxLen; omega) (by omega) (Nat.zero_le _) W.heap.size rfl
    have hO : Only (· = g0) W w' := ⟨hg.os, hg.tape, hg.output, hg.size, fun k hk hne => hg.block k hk (fun e => hne (by simpa [Value.ownBlock] using e))⟩
    have hgle : g = ab ∨ g0 ≤ g := by
      have := heap_lt hg0
      rcases hat with h | h
      · simp [Value.ownBlock] at h
        omega
      · omega
    have hcap : (t :: ts).length ≤ cap ∧ cap ≤ maxLen := by
      rcases hown.2 with ⟨h, _⟩ | ⟨g', cap', cur, hv, _, _, hn, hm, _, _⟩
      · simp at h
      · simp at hv
        obtain ⟨_, rfl⟩ := hv
        exact ⟨by simpa using hn, hm⟩
    refine ⟨_, w', hr, g, some ⟨g, 0, none⟩, cap, by simp, ⟨_, cap, by simp, hcap.1, by have := hcap.2; unfold maxLen at this; omega, fun _ => ⟨0, rfl, fun j u hj => ⟨(ht j u hj).1, ?_⟩⟩⟩, hlt, hgle, hO⟩
    have := hown.cells (g := g) rfl j (.string u) (by rw [List.nil_append, List.getElem?_map, hj]; rfl)
    rw [Addr.add_mid] at this
    exact this
/-- What 'copied' comes to. -/
def CopiedP (p : Setup) (w : World) (e : Ending) (w' : World) : Prop := ∃ ab2 av2, e = .returned (.agg (p.cells av2)) ∧ TextsAt w' ab2 av2 p.ans ∧ ab2 < w'.heap.size ∧ Only (fun _ => False) w w'
theorem wpList_append_ex {P : Program} {ops : Array Oper} {rest : List Oper} {o : Oper} {a : Act} {w : World} {Q : Exit → Act → World → Prop} (hgd : o.guard = none) (s x : Operand) (t t' : TypeId)
    (ho : o.op = .call { callee := .builtin .append, args := #[s, x], argTypes := #[t, t'] }) (v u : Value) (hd : a.eval s = v) (hs : a.eval x = u) {R : Value → World → Prop}
    (hr : ∃ v' w', (Builtin.append_ #[t, t'] o.type #[v, u]).run P w = .ok v' w' ∧ R v' w') (h : ∀ v' w', R v' w' → wpList P ops Q rest (a.put o.dst v') w') :
    wpList P ops Q (o :: rest) a w := by
  obtain ⟨v', w', hr, hR⟩ := hr
  refine wpList_plain hgd fun K hK => ?_
  unfold Oper.wp execOp
  simp only [ho, resolve, invoke, builtin, Sem.run_bind, Sem.run_pure, Result.andThen_ok, List.map_toArray, List.map_cons, List.map_nil, hd, hs, hr]
  exact hK _ _ (h v' w' hR)
theorem setup_one (p : Setup) (a : Option Addr) (n c : Nat) : ∀ v ∈ p.cells (.slice a n c), v.oneCell' = true := by
  intro v hv
  have : (p.cells (.slice a n c)).all (·.oneCell') = true := by simp [Setup.cells, Value.oneCell']
  exact (Array.all_eq_true_iff_forall_mem.1 this) v hv
theorem results_setup {fn : Func} {p : Tmp} (hres : fn.results = #[.cell p 25]) (tmps : Array Value) (w : World) (g : Nat) (cells : Array Value) (h2 : tmps.getD p undef = .pointer (some ⟨g, 0, none⟩)) (hi : w.heap[g]? = some (.cells cells 25 (0, 0))) (hs : cells.size = 8) :
    (results fn tmps).run Tryz.prog w = .ok (.agg cells) w := by
  have h2' : tmps[p]?.getD undef = .pointer (some ⟨g, 0, none⟩) := by simpa using h2
  have hz : (Tryz.prog.info? 25).map (·.size) = some 8 := by kernel_rfl
  have hl := run_loadVar_row (P := Tryz.prog) w g _ 25 cells _ _ hi Tryz.underlying25 rfl (by rw [hz, hs])
  simp [results, hres, asAddr, h2', hl]
set_option maxRecDepth 100000 in
theorem copied_any (p : Setup) (hn : p.ans.length ≤ 4096) (ab : Nat) (av : Value) (w : World) (ha : TextsAt w ab av p.ans) (hab : ab < w.heap.size) :
    Calls Tryz.prog 14 #[.agg (p.cells av)] w (CopiedP p w) := by
  obtain ⟨aa, ac, hav⟩ : ∃ aa ac, av = .slice aa p.ans.length ac := by
    obtain ⟨aa, ac, e, _⟩ := ha
    exact ⟨aa, ac, e⟩
  subst hav
  have HA := Lib.hid ha
  clear ha
  unfold Setup.cells
  have hO0 : Only (fun _ => False) w (((w.alloc (.cells #[.int .i64 p.pages, .string p.image, .int .u32 p.base, .int .u32 p.entry, .slice aa p.ans.length ac, .int .i64 p.fuel, .int .i64 p.slots, .int .i64 p.arena] 25)).alloc (.cells #[.int .i64 0, .string ⟨#[]⟩, .int .u32 0, .int .u32 0, .slice none 0 0, .int .i64 0, .int .i64 0, .int .i64 0] 25)).alloc (.cells #[] 9)) := (((Only.refl _ w).alloc _).alloc _).alloc _
  have hb0 : (((w.alloc (.cells #[.int .i64 p.pages, .string p.image, .int .u32 p.base, .int .u32 p.entry, .slice aa p.ans.length ac, .int .i64 p.fuel, .int .i64 p.slots, .int .i64 p.arena] 25)).alloc (.cells #[.int .i64 0, .string ⟨#[]⟩, .int .u32 0, .int .u32 0, .slice none 0 0, .int .i64 0, .int .i64 0, .int .i64 0] 25)).alloc (.cells #[] 9)).heap[w.heap.size]? = some (.cells #[.int .i64 p.pages, .string p.image, .int .u32 p.base, .int .u32 p.entry, .slice aa p.ans.length ac, .int .i64 p.fuel, .int .i64 p.slots, .int .i64 p.arena] 25 (0, 0)) := heap_alloc_old' _ (heap_alloc_old' _ (heap_alloc_new w _))
  have hz0 : (((w.alloc (.cells #[.int .i64 p.pages, .string p.image, .int .u32 p.base, .int .u32 p.entry, .slice aa p.ans.length ac, .int .i64 p.fuel, .int .i64 p.slots, .int .i64 p.arena] 25)).alloc (.cells #[.int .i64 0, .string ⟨#[]⟩, .int .u32 0, .int .u32 0, .slice none 0 0, .int .i64 0, .int .i64 0, .int .i64 0] 25)).alloc (.cells #[] 9)).heap[w.heap.size + 1]? = some (.cells #[.int .i64 0, .string ⟨#[]⟩, .int .u32 0, .int .u32 0, .slice none 0 0, .int .i64 0, .int .i64 0, .int .i64 0] 25 (0, 0)) := by
    have := heap_alloc_new (w.alloc (.cells #[.int .i64 p.pages, .string p.image, .int .u32 p.base, .int .u32 p.entry, .slice aa p.ans.length ac, .int .i64 p.fuel, .int .i64 p.slots, .int .i64 p.arena] 25)) (.cells #[.int .i64 0, .string ⟨#[]⟩, .int .u32 0, .int .u32 0, .slice none 0 0, .int .i64 0, .int .i64 0, .int .i64 0] 25)
    rw [World.size_alloc] at this
    exact heap_alloc_old' _ this
  have hg0 : (((w.alloc (.cells #[.int .i64 p.pages, .string p.image, .int .u32 p.base, .int .u32 p.entry, .slice aa p.ans.length ac, .int .i64 p.fuel, .int .i64 p.slots, .int .i64 p.arena] 25)).alloc (.cells #[.int .i64 0, .string ⟨#[]⟩, .int .u32 0, .int .u32 0, .slice none 0 0, .int .i64 0, .int .i64 0, .int .i64 0] 25)).alloc (.cells #[] 9)).heap[w.heap.size + 1 + 1]? = some (.cells #[] 9 (0, 0)) := by
    have := heap_alloc_new ((w.alloc (.cells #[.int .i64 p.pages, .string p.image, .int .u32 p.base, .int .u32 p.entry, .slice aa p.ans.length ac, .int .i64 p.fuel, .int .i64 p.slots, .int .i64 p.arena] 25)).alloc (.cells #[.int .i64 0, .string ⟨#[]⟩, .int .u32 0, .int .u32 0, .slice none 0 0, .int .i64 0, .int .i64 0, .int .i64 0] 25)) (.cells #[] 9)
    rw [World.size_alloc, World.size_alloc] at this
    exact this
  have hex := app_made (((w.alloc (.cells #[.int .i64 p.pages, .string p.image, .int .u32 p.base, .int .u32 p.entry, .slice aa p.ans.length ac, .int .i64 p.fuel, .int .i64 p.slots, .int .i64 p.arena] 25)).alloc (.cells #[.int .i64 0, .string ⟨#[]⟩, .int .u32 0, .int .u32 0, .slice none 0 0, .int .i64 0, .int .i64 0, .int .i64 0] 25)).alloc (.cells #[] 9)) 23 ab (w.heap.size + 1 + 1) _ p.ans hn (Nat.lt_of_lt_of_le hab hO0.size) hg0 (HA.out.only hO0 (fun h => h))
  have HX := Lib.hid hex
  have HB := Lib.hid hb0
  have HZ := Lib.hid hz0
  have HO := Lib.hid hO0
  clear hex hb0 hz0 hO0 hg0
  go_enter Tryz.func14, Tryz.ntmps14
  go_wp2_with (first | (at_builtin; refine wpList_append_ex (by rfl) (.tmp 3) (.tmp 5) 23 23 (by rfl) (.slice (some ⟨w.heap.size + 1 + 1, 0, none⟩) 0 0) (.slice aa p.ans.length ac) (by rfl) (by rfl) HX.out ?_; rintro v1 w1 ⟨ab2, a2, c2, rfl, ht1, hlt1, hor1, ho1⟩; have hb1 := ho1.heap (by omega) HB.out; have hz1 := ho1.heap (by omega) HZ.out; have e0 : w1.cell? ⟨w.heap.size, 0, none⟩ = some (.int .i64 p.pages) := cell_of_row w1 _ 0 _ _ _ hb1; have e1 : w1.cell? ⟨w.heap.size, 1, none⟩ = some (.string p.image) := cell_of_row w1 _ 1 _ _ _ hb1; have e2 : w1.cell? ⟨w.heap.size, 2, none⟩ = some (.int .u32 p.base) := cell_of_row w1 _ 2 _ _ _ hb1; have e3 : w1.cell? ⟨w.heap.size, 3, none⟩ = some (.int .u32 p.entry) := cell_of_row w1 _ 3 _ _ _ hb1; have e4 : w1.cell? ⟨w.heap.size, 4, none⟩ = some (.slice aa p.ans.length ac) := cell_of_row w1 _ 4 _ _ _ hb1; have e5 : w1.cell? ⟨w.heap.size, 5, none⟩ = some (.int .i64 p.fuel) := cell_of_row w1 _ 5 _ _ _ hb1; have e6 : w1.cell? ⟨w.heap.size, 6, none⟩ = some (.int .i64 p.slots) := cell_of_row w1 _ 6 _ _ _ hb1; have e7 : w1.cell? ⟨w.heap.size, 7, none⟩ = some (.int .i64 p.arena) := cell_of_row w1 _ 7 _ _ _ hb1; have f4 : w1.frozen? ⟨w.heap.size, 4, none⟩ = false := frozen_of_row w1 _ 4 _ _ hb1; have hlw := heap_lt hb1; have hz2 := ((Only.refl (· = w.heap.size) w1).set1 4 (.slice a2 p.ans.length c2)).heap (b := w.heap.size + 1) (by omega) hz1; have HZ2 := Lib.hid hz2; have HT1 := Lib.hid ht1; have HO1 := Lib.hid ho1; clear hb1 hz1 hz2 ht1 ho1) | ((refine wpList_store_ex ?_ 25 (.tmp 2) (.tmp 8) ?_ (.pointer (some ⟨w.heap.size + 1, 0, none⟩)) (.agg (p.cells (.slice a2 p.ans.length c2))) ?_ ?_ (store_whole _ (w.heap.size + 1) 25 25 _ _ HZ2.out ?_ ?_ ?_) ?_); (focus rfl); (focus rfl); (focus rfl); (focus rfl); (focus rfl); (focus kernel_rfl); (focus exact setup_one p _ _ _); rintro w6 ⟨ho6, hg6⟩))
  refine bodyPost_ret (results_setup Tryz.results14 _ _ (w.heap.size + 1) _ (by rfl) hg6 rfl) rfl ⟨ab2, .slice a2 p.ans.length c2, rfl, ?_, ?_, ?_⟩
  · exact ((HT1.out.only (S := (· = w.heap.size)) ((Only.refl _ w1).set1 4 _) (by omega)).only ho6 (by omega))
  · exact Nat.lt_of_lt_of_le hlt1 (Nat.le_trans ((Only.refl (· = w.heap.size) w1).set1 4 _).size ho6.size)
  · have hA : Only (fun k => w.heap.size ≤ k) w w1 := (HO.out.mono (fun _ _ h => h.elim)).then (HO1.out.mono (fun k _ e => by omega))
    have hB : Only (fun k => w.heap.size ≤ k) w w6 := (hA.setS (Nat.le_refl _) 4 _).then (ho6.mono (fun k _ e => by omega))
    exact hB.mono (fun k hk h => absurd hk (by omega))
end Go.Proofs.YtanccjaikocefaaGreatDoor
namespace Go.Proofs.YtanccjaikocefaaGreatDoor
open Go.ChangeShapes Go.WideShapes Go.ChangeAt Go.WideMaps Go.WideElems Go.RowKit
set_option linter.unusedVariables false

/-- What is known of a setup that came in. -/
structure Setup.Raw (p : Setup) : Prop where
  pages : i64ok p.pages
  image : p.image.size ≤ maxLen
  base : 0 ≤ p.base ∧ p.base < 4294967296
  entry : 0 ≤ p.entry ∧ p.entry < 4294967296
  fuel : i64ok p.fuel
  slots : i64ok p.slots
  arena : i64ok p.arena
theorem Setup.Raw.ok {p : Setup} (h : p.Raw) (h1 : p.image.size ≤ 1048576) (h2 : p.ans.length ≤ 4096) (h3 : ∀ t ∈ p.ans, t.size ≤ 1048576) : p.Ok := ⟨h.pages, h1, h.base, h.entry, h2, h3, h.fuel, h.slots, h.arena⟩
theorem list8 {l : List Value} (h : l.length = 8) : ∃ a b c d e f g i, l = [a, b, c, d, e, f, g, i] := by
  match l, h with
  | [a, b, c, d, e, f, g, i], _ => exact ⟨a, b, c, d, e, f, g, i, rfl⟩
/-- A row of texts, read. -/
theorem open_texts {H : Type} {enc : TypeId × Value → H} {W : World} {sp : Nat → Bool} {held : Bool} {n : Nat} {v : Value} {x : DataW H × List MemPlace} (hW : 0 < W.heap.size) (h : DataW.trod enc Tryz.prog W 0 sp held n 23 [v] = some x) :
    ∃ (l : List ByteArray) (ab : Nat), TextsAt W ab v l ∧ ab < W.heap.size := by
  have c1 : Tryz.prog.cellsOf 9 = 1 := by kernel_rfl
  rcases DataW.trod_slice Tryz.underlying23 h with ⟨hv, _⟩ | ⟨a, len, cap, elems, rest, m, _, hv, _, _, hlc, hcm, hel, hi, _⟩
  · simp only [List.cons.injEq, and_true] at hv
    subst hv
    exact ⟨[], 0, ⟨none, 0, rfl, Nat.le_refl _, by omega, fun h => absurd rfl h⟩, hW⟩
  · simp only [List.cons.injEq, and_true] at hv
    subst hv
    rw [c1] at hi
    have hget : ∀ i, i < len → ∃ s : ByteArray, W.cell? (a.add i) = some (.string s) ∧ s.size ≤ maxLen := by
      intro i hlt
      have h1 := hi i hlt
      rw [Nat.mul_one] at h1
      have h2 : elems[i]? = some (elems[i]'(by omega)) := List.getElem?_eq_getElem _
      rw [h2] at h1
      obtain ⟨cs, hc, ht⟩ := Option.bind_eq_some_iff.1 h1
      obtain ⟨s, rfl, _, hs⟩ := DataW.trod_string Tryz.underlying9 ht
      refine ⟨s, ?_, hs⟩
      have := (World.cells?_some hc).2.2 0 (by omega)
      rw [Addr.add_add] at this
      simpa using this
    have HG := hget
    obtain ⟨ab, off, spot⟩ := a
    let f : Nat → ByteArray := fun i => match W.cell? ((⟨ab, off, spot⟩ : Addr).add i) with | some (.string s) => s | _ => ByteArray.empty
    have hf : ∀ i, i < len → W.cell? ((⟨ab, off, spot⟩ : Addr).add i) = some (.string (f i)) ∧ (f i).size ≤ maxLen := by
      intro i hlt
      obtain ⟨s, h1, h2⟩ := hget i hlt
      have e : f i = s := by
        show (match W.cell? ((⟨ab, off, spot⟩ : Addr).add i) with | some (.string s) => s | _ => ByteArray.empty) = s
        rw [h1]
      rw [e]
      exact ⟨h1, h2⟩
    have hll : ((List.range len).map f).length = len := by simp
    rcases Nat.eq_zero_or_pos len with h0 | hp
    · subst h0
      exact ⟨[], 0, ⟨_, cap, rfl, Nat.zero_le _, by unfold maxLen at hcm; omega, fun h => absurd rfl h⟩, hW⟩
    · have hspot : spot = none := by simpa [Addr.add] using World.cell?_spot (hf 0 hp).1
      subst hspot
      refine ⟨(List.range len).map f, ab, ⟨some ⟨ab, off, none⟩, cap, by rw [hll], by rw [hll]; exact hlc, by unfold maxLen at hcm; omega, fun _ => ⟨off, rfl, fun j t hj => ?_⟩⟩, block_lt_of_cell (hf 0 hp).1⟩
      have hj2 : j < len := by
        have := (List.getElem?_eq_some_iff.1 hj).1
        rw [hll] at this
        exact this
      have e : f j = t := by
        rw [List.getElem?_map, List.getElem?_range hj2] at hj
        simpa using hj
      have hfj := hf j hj2
      rw [e] at hfj
      refine ⟨hfj.2, ?_⟩
      rw [← Go.WideShapes.add_plain]
      exact hfj.1
theorem open_setup {H : Type} {enc : TypeId × Value → H} {W : World} {sp : Nat → Bool} {held : Bool} {v : Value} {d : DataW H} {ps : List MemPlace} (hW : 0 < W.heap.size) (hv : ∃ cs : Array Value, v = .agg cs) (h : DataW.Trod enc Tryz.prog W 0 sp held 25 v d ps) :
    ∃ (p : Setup) (ab : Nat) (av : Value), v = .agg (p.cells av) ∧ TextsAt W ab av p.ans ∧ ab < W.heap.size ∧ p.Raw := by
  obtain ⟨cs, rfl⟩ := hv
  obtain ⟨fuel, hf⟩ := h
  obtain ⟨xs, n, rfl, hx, hl, hn, hfs⟩ := DataW.trod_struct Tryz.underlying25 hf
  have cS : Tryz.prog.cellsOf 25 = 8 := by kernel_rfl
  have cI : Tryz.prog.cellsOf 3 = 1 := by kernel_rfl
  have cT : Tryz.prog.cellsOf 9 = 1 := by kernel_rfl
  have cU : Tryz.prog.cellsOf 22 = 1 := by kernel_rfl
  have cL : Tryz.prog.cellsOf 23 = 1 := by kernel_rfl
  have f0 := hfs 0 _ rfl
  have f1 := hfs 1 _ rfl
  have f2 := hfs 2 _ rfl
  have f3 := hfs 3 _ rfl
  have f4 := hfs 4 _ rfl
  have f5 := hfs 5 _ rfl
  have f6 := hfs 6 _ rfl
  have f7 := hfs 7 _ rfl
  rw [cS] at hl
  match xs, hn, hx, f0, f1, f2, f3, f4, f5, f6, f7 with
  | [x0, x1, x2, x3, x4, x5, x6, x7], _, hx, f0, f1, f2, f3, f4, f5, f6, f7 =>
    obtain ⟨k0, g0, _, w0⟩ := DataW.trod_int Tryz.underlying3 f0
    obtain ⟨k1, g1, _, w1⟩ := DataW.trod_string Tryz.underlying9 f1
    obtain ⟨k2, g2, _, w2⟩ := DataW.trod_int Tryz.underlying22 f2
    obtain ⟨k3, g3, _, w3⟩ := DataW.trod_int Tryz.underlying22 f3
    obtain ⟨k5, g5, _, w5⟩ := DataW.trod_int Tryz.underlying3 f5
    obtain ⟨k6, g6, _, w6⟩ := DataW.trod_int Tryz.underlying3 f6
    obtain ⟨k7, g7, _, w7⟩ := DataW.trod_int Tryz.underlying3 f7
    have g0' : (((Value.agg cs).cells).toList.drop 0).take (Tryz.prog.cellsOf 3) = [.int .i64 k0] := g0
    rw [cI] at g0'
    have g1' : (((Value.agg cs).cells).toList.drop 1).take (Tryz.prog.cellsOf 9) = [.string k1] := g1
    rw [cT] at g1'
    have g2' : (((Value.agg cs).cells).toList.drop 2).take (Tryz.prog.cellsOf 22) = [.int .u32 k2] := g2
    rw [cU] at g2'
    have g3' : (((Value.agg cs).cells).toList.drop 3).take (Tryz.prog.cellsOf 22) = [.int .u32 k3] := g3
    rw [cU] at g3'
    have g5' : (((Value.agg cs).cells).toList.drop 5).take (Tryz.prog.cellsOf 3) = [.int .i64 k5] := g5
    rw [cI] at g5'
    have g6' : (((Value.agg cs).cells).toList.drop 6).take (Tryz.prog.cellsOf 3) = [.int .i64 k6] := g6
    rw [cI] at g6'
    have g7' : (((Value.agg cs).cells).toList.drop 7).take (Tryz.prog.cellsOf 3) = [.int .i64 k7] := g7
    rw [cI] at g7'
    have hc : (Value.agg cs).cells.toList = cs.toList := rfl
    rw [hc] at hl g0' g1' g2' g3' g5' g6' g7'
    have f4' : DataW.trod enc Tryz.prog W 0 sp held n 23 ((cs.toList.drop 4).take (Tryz.prog.cellsOf 23)) = some x4 := f4
    rw [cL] at f4'
    obtain ⟨a, b, c, d, e, f, g, i, hcl⟩ := list8 hl
    rw [hcl] at g0' g1' g2' g3' g5' g6' g7' f4'
    simp only [List.drop_zero, List.drop_succ_cons, List.take_succ_cons, List.take_zero, List.cons.injEq, and_true] at g0' g1' g2' g3' g5' g6' g7' f4'
    obtain ⟨l, ab, ht, hab⟩ := open_texts hW f4'
    have b0 := bounds_i64 w0
    have b2 := bounds_u32 w2
    have b3 := bounds_u32 w3
    have b5 := bounds_i64 w5
    have b6 := bounds_i64 w6
    have b7 := bounds_i64 w7
    refine ⟨⟨k0, k1, k2, k3, l, k5, k6, k7⟩, ab, e, ?_, ht, hab, ⟨⟨b0.1, b0.2⟩, w1, ⟨b2.1, by show k2 < 4294967296; omega⟩, ⟨b3.1, by show k3 < 4294967296; omega⟩, ⟨b5.1, b5.2⟩, ⟨b6.1, b6.2⟩, ⟨b7.1, b7.2⟩⟩⟩
    have : cs = #[a, b, c, d, e, f, g, i] := by
      apply Array.ext'
      exact hcl
    rw [this, g0', g1', g2', g3', g5', g6', g7']
    rfl
theorem kids : Kids Tryz.prog (· < Tryz.prog.types.size) := kids_rows (by kernel_rfl) (by kernel_rfl)
theorem fullS : ∀ t e, t < Tryz.prog.types.size → Tryz.prog.underlying t = some (.slice e) → 0 < Tryz.prog.cellsOf e := slices_full_of Tryz.prog (by kernel_rfl)
/-- What was read reads so behind a call that changes nothing. -/
theorem Only.trod {H : Type} {enc : TypeId × Value → H} {W W' : World} (ho : Only (fun _ => False) W W') {sp : Nat → Bool} {held : Bool} {t : TypeId} {v : Value} {d : DataW H} {ps : List MemPlace} (h : DataW.Trod enc Tryz.prog W 0 sp held t v d ps) : DataW.Trod enc Tryz.prog W' 0 sp held t v d ps := by
  obtain ⟨n, hn⟩ := h
  refine ⟨n, DataW.trod_carry n _ _ _ hn (fun p hp => ?_)⟩
  have hlt := DataW.trod_lt n _ _ _ hn p hp
  have hb := ho.block p.block hlt (fun h => h)
  cases p with
  | cell b off => exact World.cell?_of_block hb
  | map b => exact hb
end Go.Proofs.YtanccjaikocefaaGreatDoor
