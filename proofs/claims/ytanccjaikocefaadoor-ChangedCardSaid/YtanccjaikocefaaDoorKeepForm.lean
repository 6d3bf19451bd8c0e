/-
  The contracts of the sentences' helpers (chainskeep): few, same, word, text. Conditions: what is compared lies in memory.
  The contract of chainskeep.alive: true. Condition: the table lies.
  What Interpret and Run come to, in one form: with an error a report of nothing; and how the answers of one setup lie to each other. No walk here.
-/
import Derived.Test.YtanccjaikocefaaDoorOpenSetup
import Derived.Test.YtanccjaikocefaaDoorKeepPlain
import Derived.Test.YtanccjaikocefaaDoorCRun3
namespace Go.Proofs.YtanccjaikocefaaDoor
open Go.ChangeShapes Go.WideShapes Go.ChangeAt Go.RowKit
set_option linter.unusedVariables false

set_option maxRecDepth 100000 in
theorem kfew_any (p : Setup) (ab : Nat) (av : Value) (w : World) (hi : p.image.size ≤ maxLen) (ha : TextsAt w ab av p.ans) (hab : ab < w.heap.size) :
    Calls Tryd.prog 22 #[.agg (p.cells av)] w (FewP p w) := by
  obtain ⟨aa, ac, hav, hac, hacm, hcl⟩ := ha
  subst hav
  unfold Setup.cells
  unfold maxLen at hi
  have HCL := Lib.hid hcl
  clear hcl
  by_cases h1 : 1048576 < p.image.size
  · go_enter Tryd.func22, Tryd.ntmps22
    go_wp2_with fail
    go_ret
    exact ⟨false, rfl, (Only.refl _ w).alloc _, fun h => by cases h⟩
  by_cases h2 : 4096 < p.ans.length
  · go_enter Tryd.func22, Tryd.ntmps22
    go_wp2_with fail
    go_ret
    exact ⟨false, rfl, (Only.refl _ w).alloc _, fun h => by cases h⟩
  go_enter Tryd.func22, Tryd.ntmps22
  go_wp2_with fail
  obtain ⟨W0, hW0⟩ : ∃ W0, W0 = w.alloc (.cells #[.int .i64 p.pages, .string p.image, .int .u32 p.base, .int .u32 p.entry, .slice aa p.ans.length ac, .int .i64 p.fuel, .int .i64 p.slots, .int .i64 p.arena] 31) := ⟨_, rfl⟩
  rw [← hW0]
  have hO0 : Only (fun _ => False) w W0 := by rw [hW0]; exact (Only.refl _ w).alloc _
  have c4 : W0.cell? ⟨w.heap.size, 4, none⟩ = some (.slice aa p.ans.length ac) := by rw [hW0]; exact cell_of_row _ _ 4 _ _ _ (heap_alloc_new w _)
  have HO := Lib.hid hO0
  clear hW0 hO0
  go_loopw [3] (fun i wr => ∃ k : Nat, k ≤ p.ans.length ∧ i = .int .i64 k ∧ wr = W0 ∧ ∀ j t, j < k → p.ans[j]? = some t → t.size ≤ 1048576) (fun i _ => p.ans.length - (intOf i).toNat)
  case atStart => exact ⟨0, Nat.zero_le _, rfl, rfl, fun j t h => absurd h (Nat.not_lt_zero _)⟩
  case round =>
    obtain ⟨k, hk, rfl, rfl, hall⟩ := hrel
    have HALL := Lib.hid hall
    clear hall
    by_cases hlt : k < p.ans.length
    · obtain ⟨t, ht⟩ : ∃ t, p.ans[k]? = some t := ⟨_, List.getElem?_eq_getElem hlt⟩
      obtain ⟨off, rfl, hcells⟩ := HCL.out (by intro h; rw [h] at hlt; exact absurd hlt (Nat.not_lt_zero _))
      obtain ⟨hml, hc⟩ := hcells k t ht
      have ck : wr.cell? ⟨ab, off + k, none⟩ = some (.string t) := HO.out.cell (fun h => h) hc
      unfold maxLen at hml
      have HT := Lib.hid ht
      clear hcells hc ht
      by_cases ht2 : 1048576 < t.size
      · go_wp2_with fail
        go_ret
        exact ⟨false, rfl, HO.out, fun h => by cases h⟩
      · go_wp2_with fail
        go_roundw
        case rel =>
          refine ⟨k + 1, by omega, by go_num, by first | trivial | rfl, fun j u hj hu => ?_⟩
          rcases Nat.lt_or_ge j k with h | h
          · exact HALL.out j u h hu
          · obtain rfl : j = k := by omega
            have := HT.out
            rw [hu] at this
            cases this
            omega
        case measure => simp [intOf]; omega
    · have hk2 : k = p.ans.length := by omega
      subst hk2
      go_wp2_with fail
      go_ret
      refine ⟨true, rfl, HO.out, fun _ => ⟨by omega, by omega, fun t ht => ?_⟩⟩
      obtain ⟨j, hj⟩ := List.mem_iff_getElem?.1 ht
      exact HALL.out j t (List.getElem?_eq_some_iff.1 hj).1 hj
set_option maxRecDepth 100000 in
set_option maxHeartbeats 1000000 in
/-- Two reports of one state. -/
theorem ksame_any (o : Int) (s : St) (bu bv : Int) (e1 e2 : Value) (w : World) (hn : s.evs.length ≤ 1000000) (h1 : w.ownsRow 0 51 3 e1 s.evs.length (evCells s.evs)) (h2 : w.ownsRow 0 51 3 e2 s.evs.length (evCells s.evs)) :
    Calls Tryd.prog 23 #[.agg (repCells o s e1 bu), .agg (repCells o s e2 bv)] w (fun e w' => e = .returned (.bool true) ∧ Only (fun _ => False) w w') := by
  obtain ⟨a1, c1, hv1⟩ : ∃ a c, e1 = .slice a s.evs.length c := by
    rcases h1.2 with ⟨e, e'⟩ | ⟨g, cap, _, e, _⟩
    · rw [e']; exact ⟨_, _, e⟩
    · exact ⟨_, _, e⟩
  obtain ⟨a2, c2, hv2⟩ : ∃ a c, e2 = .slice a s.evs.length c := by
    rcases h2.2 with ⟨e, e'⟩ | ⟨g, cap, _, e, _⟩
    · rw [e']; exact ⟨_, _, e⟩
    · exact ⟨_, _, e⟩
  rw [hv1] at h1
  rw [hv2] at h2
  rw [hv1, hv2]
  have H1 := Lib.hid h1
  have H2 := Lib.hid h2
  clear h1 h2 hv1 hv2
  obtain ⟨W0, hW0⟩ : ∃ W0, W0 = (w.alloc (.cells (repCells o s (.slice a1 s.evs.length c1) bu) 38)).alloc (.cells (repCells o s (.slice a2 s.evs.length c2) bv) 38) := ⟨_, rfl⟩
  have hO0 : Only (fun _ => False) w W0 := by rw [hW0]; exact ((Only.refl _ w).alloc _).alloc _
  have hr1 : W0.heap[w.heap.size]? = some (.cells (repCells o s (.slice a1 s.evs.length c1) bu) 38 (0, 0)) := by rw [hW0]; exact heap_alloc_old' _ (heap_alloc_new w _)
  have hr2 : W0.heap[w.heap.size + 1]? = some (.cells (repCells o s (.slice a2 s.evs.length c2) bv) 38 (0, 0)) := by
    rw [hW0]
    have := heap_alloc_new (w.alloc (.cells (repCells o s (.slice a1 s.evs.length c1) bu) 38)) (.cells (repCells o s (.slice a2 s.evs.length c2) bv) 38)
    simpa using this
  have q0 : W0.cell? ⟨w.heap.size, 0, none⟩ = some (.int .i64 o) := cell_of_row W0 _ 0 _ _ _ hr1
  have q1 : W0.cell? ⟨w.heap.size, 1, none⟩ = some (.int .u32 s.pc) := cell_of_row W0 _ 1 _ _ _ hr1
  have q34 : W0.cell? ⟨w.heap.size, 34, none⟩ = some (.int .u32 s.brk) := cell_of_row W0 _ 34 _ _ _ hr1
  have q35 : W0.cell? ⟨w.heap.size, 35, none⟩ = some (.string (strOfNums s.mem)) := cell_of_row W0 _ 35 _ _ _ hr1
  have q36 : W0.cell? ⟨w.heap.size, 36, none⟩ = some (.slice a1 s.evs.length c1) := cell_of_row W0 _ 36 _ _ _ hr1
  have q37 : W0.cell? ⟨w.heap.size, 37, none⟩ = some (.int .i64 s.steps) := cell_of_row W0 _ 37 _ _ _ hr1
  have q38 : W0.cell? ⟨w.heap.size, 38, none⟩ = some (.int .i64 bu) := cell_of_row W0 _ 38 _ _ _ hr1
  have z0 : W0.cell? ⟨w.heap.size + 1, 0, none⟩ = some (.int .i64 o) := cell_of_row W0 _ 0 _ _ _ hr2
  have z1 : W0.cell? ⟨w.heap.size + 1, 1, none⟩ = some (.int .u32 s.pc) := cell_of_row W0 _ 1 _ _ _ hr2
  have z34 : W0.cell? ⟨w.heap.size + 1, 34, none⟩ = some (.int .u32 s.brk) := cell_of_row W0 _ 34 _ _ _ hr2
  have z35 : W0.cell? ⟨w.heap.size + 1, 35, none⟩ = some (.string (strOfNums s.mem)) := cell_of_row W0 _ 35 _ _ _ hr2
  have z36 : W0.cell? ⟨w.heap.size + 1, 36, none⟩ = some (.slice a2 s.evs.length c2) := cell_of_row W0 _ 36 _ _ _ hr2
  have z37 : W0.cell? ⟨w.heap.size + 1, 37, none⟩ = some (.int .i64 s.steps) := cell_of_row W0 _ 37 _ _ _ hr2
  have z38 : W0.cell? ⟨w.heap.size + 1, 38, none⟩ = some (.int .i64 bv) := cell_of_row W0 _ 38 _ _ _ hr2
  have x1 : ∀ k : Nat, k < 32 → W0.cell? ⟨w.heap.size, 2 + k, none⟩ = some (.int .u32 (s.regs k)) := fun k hk => (cell_of_row W0 _ (2 + k) _ _ _ hr1).trans (rep_reg o s _ bu k hk)
  have x2 : ∀ k : Nat, k < 32 → W0.cell? ⟨w.heap.size + 1, 2 + k, none⟩ = some (.int .u32 (s.regs k)) := fun k hk => (cell_of_row W0 _ (2 + k) _ _ _ hr2).trans (rep_reg o s _ bv k hk)
  have HX1 := Lib.hid x1
  have HX2 := Lib.hid x2
  have HW0 := Lib.hid hW0
  have HO0 := Lib.hid hO0
  clear x1 x2 hr1 hr2 hW0 hO0
  unfold repCells at *
  go_enter Tryd.func23, Tryd.ntmps23
  go_wp2_with fail
  go_loopw [5] (fun i wr => ∃ k : Nat, k ≤ 32 ∧ i = .int .i64 k ∧ Only (fun _ => False) W0 wr) (fun i _ => 32 - (intOf i).toNat)
  case atStart => exact ⟨0, Nat.zero_le _, rfl, by rw [← HW0.out]; exact Only.refl _ _⟩
  case round =>
    obtain ⟨k, hk, rfl, ho⟩ := hrel
    by_cases hlt : k < 32
    · have c1 := ho.cell (fun h => h) (HX1.out k hlt)
      have c2 := ho.cell (fun h => h) (HX2.out k hlt)
      clear q0 q1 q34 q35 q36 q37 q38 z0 z1 z34 z35 z36 z37 z38
      go_wp2_with fail
      go_quiet (fail)
      go_wp2_with fail
      go_roundw
      case rel => exact ⟨k + 1, by omega, by go_num, ho.drewN _⟩
      case measure => simp [intOf]; omega
    · have hk2 : k = 32 := by omega
      subst hk2
      have q36 := ho.cell (fun h => h) q36
      have z36 := ho.cell (fun h => h) z36
      have q38 := ho.cell (fun h => h) q38
      have z38 := ho.cell (fun h => h) z38
      have HO := Lib.hid ho
      clear q0 q1 q34 q35 q37 z0 z1 z34 z35 z37 ho
      go_wp2_with fail
      go_loopw [6] (fun i wr2 => ∃ k : Nat, k ≤ s.evs.length ∧ i = .int .i64 k ∧ Only (fun _ => False) wr wr2) (fun i _ => s.evs.length - (intOf i).toNat)
      case atStart => exact ⟨0, Nat.zero_le _, rfl, Only.refl _ _⟩
      case round =>
        obtain ⟨k, hk, rfl, ho⟩ := hrel
        have j36 := ho.cell (fun h => h) q36
        have y36 := ho.cell (fun h => h) z36
        have j38 := ho.cell (fun h => h) q38
        have y38 := ho.cell (fun h => h) z38
        clear q36 z36 q38 z38
        by_cases hlt : k < s.evs.length
        · obtain ⟨e, he⟩ : ∃ e, s.evs[k]? = some e := ⟨_, List.getElem?_eq_getElem hlt⟩
          have hO := HO0.out.then (HO.out.then ho)
          obtain ⟨g1, d1, ev1, a0, a1', a2'⟩ := ev_cells (ownsRow_only H1.out hO (fun _ _ h => h)) he
          obtain ⟨g2, d2, ev2, b0, b1', b2'⟩ := ev_cells (ownsRow_only H2.out hO (fun _ _ h => h)) he
          simp only [Value.slice.injEq, true_and] at ev1 ev2
          obtain ⟨rfl, rfl⟩ := ev1
          obtain ⟨rfl, rfl⟩ := ev2
          clear he hO
          go_wp2_with fail
          go_quiet (fail)
          go_wp2_with fail
          go_roundw
          case rel => exact ⟨k + 1, by omega, by go_num, ho.drewN _⟩
          case measure => simp [intOf]; omega
        · have hk2 : k = s.evs.length := by omega
          subst hk2
          go_wp2_with fail
          go_ret
          exact ⟨rfl, HO0.out.then (HO.out.then ho)⟩
set_option maxRecDepth 100000 in
theorem kword_any (v : Int) (h0 : 0 ≤ v) (h1 : v < 4294967296) (w : World) :
    Calls Tryd.prog 25 #[.int .u32 v] w (fun e w' => e = .returned (.string (strOfNums (wordB v))) ∧ Only (fun _ => False) w w') := by
  have hcv := conv_mem (w.alloc (.cells #[.int .u8 (v % 256), .int .u8 (v / 256 % 256), .int .u8 (v / 65536 % 256), .int .u8 (v / 16777216)] 5)) w.heap.size [v % 256, v / 256 % 256, v / 65536 % 256, v / 16777216] (heap_alloc_new w _) (by simp) 4
  have hw : [v % 256, v / 256 % 256, v / 65536 % 256, v / 16777216] = wordB v := by
    unfold wordB
    rw [show v / 16777216 % 256 = v / 16777216 by omega]
  have HW := Lib.hid hw
  clear hw
  go_enter Tryd.func25, Tryd.ntmps25
  go_wp2_with fail
  simp only [List.length_cons, List.length_nil] at hcv
  rw [hcv]
  go_wp2_with fail
  go_ret
  exact ⟨by rw [HW.out]; rfl, (Only.refl _ w).alloc _⟩
theorem take_one {l : List Int} {k : Nat} {x : Int} (h : l[k]? = some x) : textB (l.take (k + 1)) = textB (l.take k) ++ wordB x := by
  have e := List.take_add_one (l := l) (i := k)
  rw [e, h]
  simp [textB, List.flatMap_append]
set_option maxRecDepth 100000 in
theorem text_any (l : List Int) (hl : l.length ≤ 16) (hb : ∀ x ∈ l, 0 ≤ x ∧ x < 4294967296) (g : Nat) (w : World) (h : w.heap[g]? = some (.cells (l.map (Value.int .u32)).toArray 22 (0, 0))) :
    Calls Tryd.prog 24 #[.slice (some ⟨g, 0, none⟩) l.length l.length] w (fun e w' => e = .returned (.string (strOfNums (textB l))) ∧ Only (fun _ => False) w w') := by
  have HB := Lib.hid hb
  have H := Lib.hid h
  clear hb h
  go_enter Tryd.func24, Tryd.ntmps24
  go_wp2_with fail
  go_loopw [3, 4] (fun s i wr => ∃ k : Nat, k ≤ l.length ∧ i = .int .i64 k ∧ s = .string (strOfNums (textB (l.take k))) ∧ Only (fun _ => False) w wr) (fun _ i _ => l.length - (intOf i).toNat)
  case atStart => exact ⟨0, Nat.zero_le _, rfl, rfl, Only.refl _ _⟩
  case round =>
    obtain ⟨k, hk, rfl, rfl, ho⟩ := hrel
    by_cases hlt : k < l.length
    · obtain ⟨x, hx⟩ : ∃ x, l[k]? = some x := ⟨_, List.getElem?_eq_getElem hlt⟩
      have hc : wr.cell? ⟨g, k, none⟩ = some (.int .u32 x) := by
        rw [cell_of_row wr g k _ _ _ (ho.heap (fun h => h) H.out)]
        simp [hx]
      have hxb := HB.out x (List.mem_of_getElem? hx)
      have HX := Lib.hid (take_one hx)
      have HO := Lib.hid ho
      have hsz : (strOfNums (textB (l.take k))).size ≤ 64 := by
        rw [strOfNums_size, textB_len, List.length_take]
        omega
      have hsw : (strOfNums (wordB x)).size = 4 := by rw [strOfNums_size]; rfl
      clear hx ho
      go_wp2_with fail
      refine (kword_any x hxb.1 hxb.2 wr).mono ?_
      rintro e w1 ⟨rfl, ho1⟩
      go_wp2_with fail
      refine ⟨⟨k + 1, by omega, by go_num, by rw [HX.out, str_append], HO.out.then ho1⟩, ?_⟩
      simp [intOf]
      omega
    · have hk2 : k = l.length := by omega
      subst hk2
      rw [List.take_length] at *
      go_wp2_with fail
      go_ret
      exact ⟨rfl, ho⟩
set_option maxRecDepth 100000 in
/-- A report of a memory against the report of nothing. -/
theorem ksame_diff (o : Int) (s : St) (bu : Int) (a : Option Addr) (n c : Nat) (w : World) (hm : s.mem ≠ []) :
    Calls Tryd.prog 23 #[.agg (repCells o s (.slice a n c) bu), .agg zeroRep] w (fun e w' => e = .returned (.bool false) ∧ Only (fun _ => False) w w') := by
  have hne : ¬ (strOfNums s.mem).toList = [] := by
    rw [Lib.toList_data]
    intro h
    have := congrArg List.length h
    rw [strOfNums_data, List.length_map] at this
    exact hm (List.length_eq_zero_iff.1 this)
  unfold repCells zeroRep
  by_cases h0 : o = 0
  · by_cases h1 : s.pc = 0
    · by_cases h2 : s.brk = 0
      · go_enter Tryd.func23, Tryd.ntmps23
        go_wp2_with fail
        all_goals go_ret
        all_goals exact ⟨rfl, ((Only.refl _ w).alloc _).alloc _⟩
      · go_enter Tryd.func23, Tryd.ntmps23
        go_wp2_with fail
        all_goals go_ret
        all_goals exact ⟨rfl, ((Only.refl _ w).alloc _).alloc _⟩
    · go_enter Tryd.func23, Tryd.ntmps23
      go_wp2_with fail
      all_goals go_ret
      all_goals exact ⟨rfl, ((Only.refl _ w).alloc _).alloc _⟩
  · go_enter Tryd.func23, Tryd.ntmps23
    go_wp2_with fail
    all_goals go_ret
    all_goals exact ⟨rfl, ((Only.refl _ w).alloc _).alloc _⟩
end Go.Proofs.YtanccjaikocefaaDoor
namespace Go.Proofs.YtanccjaikocefaaDoor
open Go.ChangeShapes Go.WideShapes Go.ChangeAt Go.RowKit Go.Maps
set_option linter.unusedVariables false

def aliveZ : Array Value := #[.int .i64 1, .string ⟨#[]⟩, .int .u32 0, .int .u32 0, .slice none 0 0, .int .i64 100, .int .i64 2, .int .i64 8]
/-- A cell of a new block is set. -/
theorem Only.fresh_set {w w' : World} (h : Only (fun _ => False) w w') (b o : Nat) (v : Value) (hk : w.heap.size ≤ b) : Only (fun _ => False) w (w'.setCell ⟨b, o, none⟩ v) := by
  have h1 : Only (fun k => w.heap.size ≤ k) w (w'.setCell ⟨b, o, none⟩ v) := h.trans ((Only.refl (· = b) w').set1 o v) (fun _ _ h => h.elim) (fun k _ e => by have : k = b := e; show w.heap.size ≤ k; omega)
  exact h1.mono (fun k hk hs => by have : w.heap.size ≤ k := hs; omega)
theorem texts_none (w : World) (ab : Nat) : TextsAt w ab (.slice none 0 0) [] := ⟨none, 0, rfl, Nat.le_refl _, by decide, fun h => absurd rfl h⟩
/-- What a way of running the closed program comes to. -/
def AliveA (built : Int) (w : World) (e : Ending) (w' : World) : Prop := ∃ S g c, e = .returned (.tuple #[.agg (repCells 1 S (.slice (some ⟨g, 0, none⟩) 1 c) built), .int .i64 0]) ∧ S.regs 10 = 15 ∧ S.steps = 18 ∧ w'.cell? ⟨g, 1, none⟩ = some (.int .u32 15) ∧ Only (fun _ => False) w w'
theorem alive_form {S : St} {built : Int} {w : World} {e : Ending} {w' : World} (h : AnsP 0 1 S built w e w') (h1 : S.regs 10 = 15) (h2 : S.steps = 18) (h3 : S.evs = [Ev.mk 93 15 ByteArray.empty]) : AliveA built w e w' := by
  obtain ⟨evs, he, ho⟩ := h.2.2 rfl
  obtain ⟨g, c, hv, _, hc, _⟩ := ev_cells ho (k := 0) (e := Ev.mk 93 15 ByteArray.empty) (by rw [h3]; rfl)
  rw [h3] at hv
  subst hv
  exact ⟨S, g, c, he, h1, h2, hc, h.1⟩
theorem alive_interp (w : World) (ht : Tab w) (h0 : 0 < w.heap.size) : Calls Tryd.prog 16 #[.agg (aliveP.cells (.slice none 0 0))] w (AliveA 0 w) := by
  refine (interpret_any aliveP alive_ok 0 (.slice none 0 0) w (texts_none w 0) h0 ht).mono (fun e w' h => ?_)
  rw [alive_err.2] at h
  have e1 : (runS aliveP.fuel aliveP.fuel.toNat aliveP.st).2 = 1 := alive_out
  rw [e1] at h
  exact alive_form h alive_reg alive_steps alive_evs
theorem alive_run (w : World) (ht : Tab w) (h0 : 0 < w.heap.size) : Calls Tryd.prog 20 #[.agg (aliveP.cells (.slice none 0 0))] w (AliveA 3 w) := by
  refine (run_any aliveP alive_ok 0 (.slice none 0 0) w (texts_none w 0) h0 ht).mono (fun e w' h => ?_)
  obtain ⟨_, hs, ho⟩ := R_ok aliveP alive_ok alive_err.1
  have e1 : (runS aliveP.fuel aliveP.fuel.toNat aliveP.st).2 = 1 := alive_out
  have e2 : aliveP.R.built = 3 := alive_built
  rw [alive_err.1, ho, hs, e1, e2] at h
  exact alive_form h alive_reg alive_steps alive_evs
set_option maxRecDepth 100000 in
theorem alive_any (w : World) (ht : Tab w) :
    Calls Tryd.prog 21 #[] w (fun e w' => e = .returned (.bool true) ∧ Only (fun _ => False) w w') := by
  have HT := Lib.hid ht
  clear ht
  go_enter Tryd.func21, Tryd.ntmps21
  go_wp2_with fail
  obtain ⟨W0, hW0⟩ : ∃ W0, W0 = (w.alloc (.cells (aliveZ) 31)).alloc (.cells (aliveW.map (Value.int .u32)).toArray 22) := ⟨_, rfl⟩
  have hO0 : Only (fun _ => False) w W0 := by rw [hW0]; exact ((Only.refl _ w).alloc _).alloc _
  have hb0 : W0.heap[w.heap.size]? = some (.cells aliveZ 31 (0, 0)) := by rw [hW0]; exact heap_alloc_old' _ (heap_alloc_new w _)
  have hg0 : W0.heap[w.heap.size + 1]? = some (.cells (aliveW.map (Value.int .u32)).toArray 22 (0, 0)) := by
    rw [hW0]
    have := heap_alloc_new (w.alloc (.cells (aliveZ) 31)) (.cells (aliveW.map (Value.int .u32)).toArray 22)
    simpa using this
  unfold aliveZ at hW0
  simp only [aliveW, List.map_cons, List.map_nil] at hW0
  rw [← hW0]
  clear hW0
  refine (text_any aliveW (by decide) (by decide) (w.heap.size + 1) W0 hg0).mono ?_
  rintro e w1 ⟨rfl, ho1⟩
  have hb1 := ho1.heap (fun h => h) hb0
  have s1 : w1.cell? ⟨w.heap.size, 1, none⟩ = some (.string ⟨#[]⟩) := cell_of_row w1 _ 1 _ _ _ hb1
  have z1 : w1.frozen? ⟨w.heap.size, 1, none⟩ = false := frozen_of_row w1 _ 1 _ _ hb1
  have hlt1 := heap_lt hb1
  obtain ⟨img, himg⟩ : ∃ img, img = strOfNums (textB aliveW) := ⟨_, rfl⟩
  have hb2 : (w1.setCell ⟨w.heap.size, 1, none⟩ (.string img)).heap[w.heap.size]? = some (.cells (aliveP.cells (.slice none 0 0)) 31 (0, 0)) := by
    rw [heap_setCell_same w1 w.heap.size 1 _ _ _ hb1, himg]
    rfl
  have hO1 : Only (fun _ => False) w (w1.setCell ⟨w.heap.size, 1, none⟩ (.string img)) := (hO0.then ho1).fresh_set _ _ _ (Nat.le_refl _)
  rw [← himg]
  have HR := Lib.hid (row_range' hb2)
  have HO1 := Lib.hid hO1
  have HB2 := Lib.hid hb2
  clear hb1 hb0 hg0 ho1 hO0 himg hO1 hb2
  go_wp2_with (refine wpList_load_mid rfl 31 (.tmp 1) rfl w.heap.size 0 rfl (aliveP.cells (.slice none 0 0)).toList _ HR.out Tryd.underlying31 rfl (by kernel_rfl) ?_)
  have hw0 : 0 < w.heap.size := tab_pos HT.out
  refine (alive_interp _ (HT.out.only HO1.out (fun h => h)) (Nat.lt_of_lt_of_le hw0 HO1.out.size)).mono ?_
  rintro e w2 ⟨S, g, c, rfl, h1, h2, hc, ho2⟩
  have HO2 := Lib.hid (HO1.out.then ho2)
  have HB3 := Lib.hid (ho2.heap (fun h => h) HB2.out)
  have HC := Lib.hid hc
  have HN1 := Lib.hid (rep_one 1 S (some ⟨g, 0, none⟩) 1 c 0)
  have H1 := Lib.hid h1
  have H2 := Lib.hid h2
  clear ho2 hc h1 h2 s1 z1 hlt1
  go_wp2_with (first | ((refine wpList_store_ex ?_ 38 (.tmp 2) (.tmp 13) ?_ (.pointer (some ⟨w2.heap.size, 0, none⟩)) (.agg (repCells 1 S (.slice (some ⟨g, 0, none⟩) 1 c) 0)) ?_ ?_ (store_whole _ w2.heap.size 38 38 zeroRep _ (heap_alloc_new w2 _) ?_ ?_ HN1.out) ?_); (focus rfl); (focus rfl); (focus rfl); (focus rfl); (focus rfl); (focus kernel_rfl); rintro w3 ⟨ho, hg3⟩; have hO3 := fresh_row ho; have HB4 := Lib.hid (hO3.heap (fun h => h) HB3.out); have HC3 := Lib.hid (hO3.cell (fun h => h) HC.out); have HO3 := Lib.hid (HO2.out.then hO3); have HG3 := Lib.hid hg3; clear hg3 ho hO3) | (refine wpList_load_mid rfl 31 (.tmp 1) rfl w.heap.size 0 rfl (aliveP.cells (.slice none 0 0)).toList _ (row_range' HB4.out) Tryd.underlying31 rfl (by kernel_rfl) ?_))
  refine (alive_run w3 (HT.out.only HO3.out (fun h => h)) (Nat.lt_of_lt_of_le hw0 HO3.out.size)).mono ?_
  rintro e w4 ⟨S', g', c', rfl, k1, k2, hc', ho4⟩
  have HO4 := Lib.hid (HO3.out.then ho4)
  have HG4 := Lib.hid (ho4.heap (fun h => h) HG3.out)
  have HC4 := Lib.hid (ho4.cell (fun h => h) HC3.out)
  have HD4 := Lib.hid hc'
  have HN2 := Lib.hid (rep_one 1 S' (some ⟨g', 0, none⟩) 1 c' 3)
  have K1 := Lib.hid k1
  have K2 := Lib.hid k2
  clear ho4 hc' k1 k2
  go_wp2_with ((refine wpList_store_ex ?_ 38 (.tmp 4) (.tmp 18) ?_ (.pointer (some ⟨w4.heap.size, 0, none⟩)) (.agg (repCells 1 S' (.slice (some ⟨g', 0, none⟩) 1 c') 3)) ?_ ?_ (store_whole _ w4.heap.size 38 38 zeroRep _ (heap_alloc_new w4 _) ?_ ?_ HN2.out) ?_); (focus rfl); (focus rfl); (focus rfl); (focus rfl); (focus rfl); (focus kernel_rfl); rintro w5 ⟨ho, hg5⟩; have hO5 := fresh_row ho; have hg4 := hO5.heap (fun h => h) HG4.out; have HO5 := Lib.hid (HO4.out.then hO5); have cA := hO5.cell (fun h => h) HC4.out; have cB := hO5.cell (fun h => h) HD4.out; have a0 : w5.cell? ⟨w2.heap.size, 0, none⟩ = some (.int .i64 1) := cell_of_row w5 _ 0 _ _ _ hg4; have a12 : w5.cell? ⟨w2.heap.size, 12, none⟩ = some (.int .u32 15) := (cell_of_row w5 _ 12 _ _ _ hg4).trans (by rw [rep_reg 1 S _ 0 10 (by decide), H1.out]); have a36 : w5.cell? ⟨w2.heap.size, 36, none⟩ = some (.slice (some ⟨g, 0, none⟩) 1 c) := cell_of_row w5 _ 36 _ _ _ hg4; have a37 : w5.cell? ⟨w2.heap.size, 37, none⟩ = some (.int .i64 18) := (cell_of_row w5 _ 37 _ _ _ hg4).trans (by rw [← H2.out]; rfl); have b0 : w5.cell? ⟨w4.heap.size, 0, none⟩ = some (.int .i64 1) := cell_of_row w5 _ 0 _ _ _ hg5; have b12 : w5.cell? ⟨w4.heap.size, 12, none⟩ = some (.int .u32 15) := (cell_of_row w5 _ 12 _ _ _ hg5).trans (by rw [rep_reg 1 S' _ 3 10 (by decide), K1.out]); have b36 : w5.cell? ⟨w4.heap.size, 36, none⟩ = some (.slice (some ⟨g', 0, none⟩) 1 c') := cell_of_row w5 _ 36 _ _ _ hg5; have b37 : w5.cell? ⟨w4.heap.size, 37, none⟩ = some (.int .i64 18) := (cell_of_row w5 _ 37 _ _ _ hg5).trans (by rw [← K2.out]; rfl); have b38 : w5.cell? ⟨w4.heap.size, 38, none⟩ = some (.int .i64 3) := cell_of_row w5 _ 38 _ _ _ hg5; clear ho hg5 hO5 hg4)
  go_ret
  exact ⟨rfl, HO5.out⟩
end Go.Proofs.YtanccjaikocefaaDoor
namespace Go.Proofs.YtanccjaikocefaaDoor
open Go.ChangeShapes Go.WideShapes Go.ChangeAt Go.RowKit Go.Maps
set_option linter.unusedVariables false

/-- A state with nothing. -/
def St.bare : St := { regs := fun _ => 0, pc := 0, mem := [], low := 0, brk := 0, ans := [], evs := [], steps := 0 }
theorem rep_bare : zeroRep = repCells 0 St.bare (.slice none 0 0) 0 := by kernel_rfl
def kO (k o : Int) : Int := if k = 0 then o else 0
def kS (k : Int) (s : St) : St := if k = 0 then s else St.bare
theorem kO_zero (o : Int) : kO 0 o = o := rfl
theorem kS_zero (s : St) : kS 0 s = s := rfl
theorem kO_ne {k : Int} (h : k ≠ 0) (o : Int) : kO k o = 0 := if_neg h
theorem kS_ne {k : Int} (h : k ≠ 0) (s : St) : kS k s = St.bare := if_neg h
/-- The answer in one form. -/
def KForm (k o : Int) (s : St) (bu : Int) (w : World) (e : Ending) (w' : World) : Prop :=
  ∃ ea en ec, e = .returned (.tuple #[.agg (repCells o s (.slice ea en ec) bu), .int .i64 k]) ∧ w'.ownsRow 0 51 3 (.slice ea en ec) s.evs.length (evCells s.evs) ∧ (k ≠ 0 → ea = none ∧ en = 0 ∧ ec = 0) ∧ Only (fun _ => False) w w'
theorem AnsP.kform {k o : Int} {s : St} {bu : Int} {w w' : World} {e : Ending} (h : AnsP k o s bu w e w') : KForm k (kO k o) (kS k s) (kO k bu) w e w' := by
  by_cases hk : k = 0
  · obtain ⟨evs, he, ho⟩ := h.2.2 hk
    obtain ⟨ea, en, ec, hv⟩ := evs_slice' ho
    subst hk
    subst hv
    exact ⟨ea, en, ec, he, ho, fun hn => absurd rfl hn, h.1⟩
  · have he := h.2.1 hk
    rw [kO_ne hk, kS_ne hk, kO_ne hk]
    exact ⟨none, 0, 0, by rw [he, rep_bare], World.ownsRow_nil _ _ _ _, fun _ => ⟨rfl, rfl, rfl⟩, h.1⟩
theorem err_two (p : Setup) : (p.err false ≠ 0 ∧ p.err true = p.err false) ∨ (p.err false = 0 ∧ (p.err true = 0 ∨ p.err true = 4)) := by
  unfold Setup.err
  cases p.badP <;> cases p.badI <;> cases p.badF <;> cases p.badC <;> simp
theorem mem_some (p : Setup) (hp : p.Ok) (h : p.err false = 0) : (runS p.fuel p.fuel.toNat p.st).1.mem.length = (p.pages * 64).toNat ∧ (runS p.fuel p.fuel.toNat p.st).1.mem ≠ [] ∧ (runS p.fuel p.fuel.toNat p.st).1.evs.length ≤ 1000000 := by
  have hg := (Setup.good h).1
  have hs := Setup.st_ok hg hp
  have h1 := (runS_keep p.fuel p.fuel.toNat p.st hs hg.f0).1
  have h2 : p.st.mem.length = (p.pages * 64).toNat := Setup.mem_len hg hp.base.1
  have h3 := runS_evn p.fuel p.fuel.toNat p.st hs
  have h4 : p.st.evs.length = 0 := rfl
  have hp0 := hg.p0
  have hf1 := hg.f1
  refine ⟨h1.trans h2, fun e => ?_, by omega⟩
  rw [e] at h1
  rw [h2] at h1
  simp only [List.length_nil] at h1
  omega
/-- How a run in blocks lies to the run one by one. -/
def Beside (k2 O2 : Int) (S2 : St) (O : Int) (S : St) : Prop := (k2 = 0 ∧ O2 = O ∧ S2 = S) ∨ (k2 = 4 ∧ O2 = 0 ∧ S2 = St.bare)
theorem beside_any (p : Setup) (hp : p.Ok) (h : p.err false = 0) : Beside (p.err true) (kO (p.err true) p.R.out) (kS (p.err true) p.R.s) (runS p.fuel p.fuel.toNat p.st).2 (runS p.fuel p.fuel.toNat p.st).1 := by
  rcases err_two p with ⟨h1, _⟩ | ⟨_, h1 | h1⟩
  · exact absurd h h1
  · obtain ⟨_, hs, ho⟩ := R_ok p hp h1
    rw [h1]
    exact .inl ⟨rfl, ho, hs⟩
  · rw [h1]
    exact .inr ⟨rfl, rfl, rfl⟩
/-- What 'same' tells of two such reports. -/
def SameP (k2 : Int) (w : World) (e : Ending) (w' : World) : Prop := ∃ y, e = .returned (.bool y) ∧ (k2 = 0 → y = true) ∧ Only (fun _ => False) w w'
theorem ksame_beside {k2 O2 O : Int} {S2 S : St} (hb : Beside k2 O2 S2 O S) (hm : S.mem ≠ []) (hn : S.evs.length ≤ 1000000) {ea ea2 : Option Addr} {en ec en2 ec2 : Nat} {bu bu2 : Int} {w : World} (h1 : w.ownsRow 0 51 3 (.slice ea en ec) S.evs.length (evCells S.evs)) (h2 : w.ownsRow 0 51 3 (.slice ea2 en2 ec2) S2.evs.length (evCells S2.evs))
    (hz : k2 ≠ 0 → (ea2 = none ∧ en2 = 0 ∧ ec2 = 0) ∧ bu2 = 0) :
    Calls Tryd.prog 23 #[.agg (repCells O S (.slice ea en ec) bu), .agg (repCells O2 S2 (.slice ea2 en2 ec2) bu2)] w (SameP k2 w) := by
  rcases hb with ⟨rfl, rfl, rfl⟩ | ⟨rfl, rfl, rfl⟩
  · exact (ksame_any _ _ _ _ _ _ w hn h1 h2).mono (fun e w' h => ⟨true, h.1, fun _ => rfl, h.2⟩)
  · obtain ⟨⟨rfl, rfl, rfl⟩, rfl⟩ := hz (by decide)
    rw [← rep_bare]
    exact (ksame_diff O S bu ea en ec w hm).mono (fun e w' h => ⟨false, h.1, fun h => absurd h (by decide), h.2⟩)
end Go.Proofs.YtanccjaikocefaaDoor
