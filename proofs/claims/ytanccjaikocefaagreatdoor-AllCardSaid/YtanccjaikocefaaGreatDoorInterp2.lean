/-
  The contract of chains.Interpret: what is wrong with a setup, or the report of the plain run. Conditions: the setup's numbers are in their ranges; the table lies.
-/
import Derived.Test.YtanccjaikocefaaGreatDoorNew
import Derived.Test.YtanccjaikocefaaGreatDoorReport
import Derived.Test.YtanccjaikocefaaGreatDoorGuard
import Derived.Test.YtanccjaikocefaaGreatDoorInterp
namespace Go.Proofs.YtanccjaikocefaaGreatDoor
open Go.ChangeShapes Go.WideShapes Go.ChangeAt Go.RowKit
set_option linter.unusedVariables false

/-- What Interpret and Run come to: with an error nothing; else a report of a state, the events in memory. -/
def AnsP (k : Int) (o : Int) (s : St) (built : Int) (w : World) (e : Ending) (w' : World) : Prop :=
  Only (fun _ => False) w w' ∧ (k ≠ 0 → e = .returned (.tuple #[.agg zeroRep, .int .i64 k])) ∧
  (k = 0 → ∃ evs, e = .returned (.tuple #[.agg (repCells o s evs built), .int .i64 0]) ∧ w'.ownsRow 0 86 3 evs s.evs.length (evCells s.evs))
theorem results_ans {fn : Func} {p q : Tmp} (hres : fn.results = #[.cell p 41, .tmp q]) (tmps : Array Value) (w : World) (g : Nat) (cells : Array Value) (v : Value) (h2 : tmps.getD p undef = .pointer (some ⟨g, 0, none⟩)) (h3 : tmps.getD q undef = v) (hi : w.heap[g]? = some (.cells cells 41 (0, 0))) (hs : cells.size = 39) :
    (results fn tmps).run Tryz.prog w = .ok (.tuple #[.agg cells, v]) w := by
  have h2' : tmps[p]?.getD undef = .pointer (some ⟨g, 0, none⟩) := by simpa using h2
  have h3' : tmps[q]?.getD undef = v := by simpa using h3
  have hz : (Tryz.prog.info? 41).map (·.size) = some 39 := by kernel_rfl
  have hl := run_loadVar_row (P := Tryz.prog) w g _ 41 cells _ _ hi Tryz.underlying41 rfl (by rw [hz, hs])
  simp [results, hres, asAddr, h2', h3', hl]
/-- The world behind a setup's box and a report's variable. -/
def iw (p : Setup) (av : Value) (w : World) : World := (w.alloc (.cells (p.cells av) 25)).alloc (.cells zeroRep 41)
theorem iw_only (p : Setup) (av : Value) (w : World) : Only (fun _ => False) w (iw p av w) := ((Only.refl _ w).alloc _).alloc _
theorem iw_rep (p : Setup) (av : Value) (w : World) : (iw p av w).heap[w.heap.size + 1]? = some (.cells zeroRep 41 (0, 0)) := by
  have := heap_alloc_new (w.alloc (.cells (p.cells av) 25)) (.cells zeroRep 41)
  simpa [iw] using this
theorem iw_box (p : Setup) (av : Value) (w : World) : (iw p av w).heap[w.heap.size]? = some (.cells (p.cells av) 25 (0, 0)) :=
  heap_alloc_old' _ (heap_alloc_new w _)
theorem iw_size (p : Setup) (av : Value) (w : World) : (iw p av w).heap.size = w.heap.size + 2 := by simp [iw]
theorem build_zero (w : World) : (Instr.build 41 #[]).run Tryz.prog w = .ok (.agg zeroRep) w := by kernel_rfl
theorem zero_one : ∀ v ∈ zeroRep, v.oneCell' = true := by
  intro v hv
  have : zeroRep.all (·.oneCell') = true := by simp [zeroRep, Value.oneCell']
  exact (Array.all_eq_true_iff_forall_mem.1 this) v hv
theorem wpList_build_run {P : Program} {ops : Array Oper} {rest : List Oper} {o : Oper} {a : Act} {w : World} {Q : Exit → Act → World → Prop} (hgd : o.guard = none) (t : TypeId) (parts : Array (Nat × Operand)) (ho : o.op = .build t parts)
    {vals : Array (Nat × Value)} (hv : (parts.map fun (i, x) => (i, a.eval x)) = vals) {v : Value} (hr : (Instr.build t vals).run P w = .ok v w) (h : wpList P ops Q rest (a.put o.dst v) w) :
    wpList P ops Q (o :: rest) a w := by
  refine wpList_plain hgd fun K hK => ?_
  unfold Oper.wp execOp
  simp only [ho]
  rw [hv]
  simp only [Sem.run_bind, Sem.run_pure, Result.andThen_ok, hr]
  exact hK _ _ h
set_option maxRecDepth 100000 in
theorem interp_err (p : Setup) (hp : p.Ok) (av : Value) (w : World) (k : Int) (hk : (k == 0) = false) (hnew : ∀ W, Calls Tryz.prog 28 #[.agg (p.cells av)] W (NewNo k W)) :
    Calls Tryz.prog 15 #[.agg (p.cells av)] w (AnsP k 0 p.st 0 w) := by
  unfold Setup.cells at *
  have HN := Lib.hid hnew
  have hk2 : (k != 0) = true := by simp only [bne, hk]; rfl
  clear hnew
  go_enter Tryz.func15, Tryz.ntmps15
  go_wp2_with fail
  obtain ⟨W0, hW0⟩ : ∃ W0, W0 = iw p av w := ⟨_, rfl⟩
  have hO0 : Only (fun _ => False) w W0 := hW0 ▸ iw_only p av w
  have hg : W0.heap[w.heap.size + 1]? = some (.cells zeroRep 41 (0, 0)) := hW0 ▸ iw_rep p av w
  unfold iw Setup.cells zeroRep at hW0
  rw [← hW0]
  clear hW0
  refine (HN.out W0).mono ?_
  rintro e w1 ⟨rfl, ho1⟩
  have HG := Lib.hid (ho1.heap (fun h => h) hg)
  have HO := Lib.hid (hO0.then ho1)
  clear hg hO0 ho1
  go_wp2_with (first | ((refine wpList_build_run ?_ 41 #[] ?_ (vals := #[]) ?_ (build_zero _) ?_); (focus rfl); (focus rfl); (focus rfl)) | ((refine wpList_store_ex ?_ 41 (.tmp 2) (.tmp 14) ?_ (.pointer (some ⟨w.heap.size + 1, 0, none⟩)) (.agg zeroRep) ?_ ?_ (store_whole _ (w.heap.size + 1) 41 41 zeroRep zeroRep ?_ ?_ ?_ ?_) ?_); (focus rfl); (focus rfl); (focus rfl); (focus rfl); (focus (first | exact HG.out | exact heap_alloc_old' _ HG.out)); (focus rfl); (focus kernel_rfl); (focus exact zero_one); rintro w2 ⟨ho2, hg2⟩))
  refine bodyPost_ret (results_ans Tryz.results15 _ _ (w.heap.size + 1) _ (.int .i64 k) (by rfl) (by rfl) hg2 rfl) rfl ⟨?_, fun _ => rfl, fun h => ?_⟩
  · have hO := HO.out.then ((Only.refl _ w1).alloc (.cells #[.pointer none] 63))
    refine ⟨ho2.os.trans hO.os, ho2.tape.trans hO.tape, ho2.output.trans hO.output, Nat.le_trans hO.size ho2.size, fun j hj _ => ?_⟩
    rw [ho2.block j (Nat.lt_of_lt_of_le hj hO.size) (by omega)]
    exact hO.block j hj (fun h => h)
  · subst h
    exact absurd hk (by decide)
theorem runS_ok (fuel : Int) (n : Nat) : ∀ s : St, s.Ok → (runS fuel n s).1.Ok := by
  induction n with
  | zero => intro s h; exact h
  | succ n ih =>
    intro s h
    rw [runS]
    split
    · split
      · exact h
      · rename_i i hf
        have hx := exec_ok h (fetch_ok h hf)
        split
        · rename_i s' next wr he
          rw [he] at hx
          exact ih _ (step_ok hx.1.ok hx.2.2.1 hx.2.2.2)
        · rename_i s' o he
          rw [he] at hx
          exact hx.1.ok
    · exact h
theorem tab_pos {w : World} (h : Tab w) : 0 < w.heap.size := block_lt_of_cell (h 0 _ rfl)
/-- What the guarded run comes to. -/
def RunQ (fuel : Int) (b : Nat) (s : St) (x : Raw) (w : World) (o : Int) (w' : World) : Prop :=
  o = (runS fuel (fuel - s.steps).toNat s).2 ∧ ∃ x2, Mach w' b (runS fuel (fuel - s.steps).toNat s).1 x2 ∧ Keep w x x2 ∧ Only (Mb b x) w w'
theorem run_guarded {fuel : Int} {b : Nat} {s : St} {x : Raw} {w : World} (hb : b < w.heap.size) (hm : x.mb < w.heap.size) (he : ∀ g, x.evs.ownBlock = some g → g < w.heap.size) (e : Ending) (w' : World) (h : RunP fuel b s x (gw w) e w') : Guarded w (RunQ fuel b s x (gw w)) e w' := by
  obtain ⟨n, hn, x2, hM, hK, hO, hor⟩ := h
  have hN : (fuel - s.steps).toNat = n := by omega
  refine ⟨?_, ?_⟩
  · refine hO.heap ?_ (heap_alloc_new w _)
    rintro (e | e | e)
    · omega
    · omega
    · have := he _ e; omega
  · rcases hor with ⟨rfl, h0⟩ | rfl
    · exact .inl ⟨rfl, by rw [hN, h0], x2, by rw [hN]; exact hM, hK, hO⟩
    · exact .inr ⟨_, rfl, by rw [hN], x2, by rw [hN]; exact hM, hK, hO⟩
set_option maxRecDepth 100000 in
theorem interp_good (p : Setup) (hp : p.Ok) (hg : p.Good) (ab : Nat) (av : Value) (w : World) (ha : TextsAt w ab av p.ans) (hab : ab < w.heap.size) (ht : Tab w) :
    Calls Tryz.prog 15 #[.agg (p.cells av)] w (AnsP 0 (runS p.fuel p.fuel.toNat p.st).2 (runS p.fuel p.fuel.toNat p.st).1 0 w) := by
  have hnew : ∀ W, Only (fun _ => False) w W → Calls Tryz.prog 28 #[.agg (p.cells av)] W (NewYes p W) := fun W h => new_good p hp hg ab av W (ha.only h (fun h => h)) (Nat.lt_of_lt_of_le hab h.size)
  have hmf : ∀ (fn : Fn) (first cap : Array Value) (w : World), (Instr.makeFunc fn first cap).run Tryz.prog w = .ok (.func fn first cap) w := fun _ _ _ _ => rfl
  have hpos := tab_pos ht
  have HT := Lib.hid ht
  unfold Setup.cells at *
  have HN := Lib.hid hnew
  clear hnew ha ht
  go_enter Tryz.func15, Tryz.ntmps15
  go_wp2_with fail
  obtain ⟨W0, hW0⟩ : ∃ W0, W0 = iw p av w := ⟨_, rfl⟩
  have hO0 : Only (fun _ => False) w W0 := hW0 ▸ iw_only p av w
  have hg : W0.heap[w.heap.size + 1]? = some (.cells zeroRep 41 (0, 0)) := hW0 ▸ iw_rep p av w
  have hbx : W0.heap[w.heap.size]? = some (.cells (p.cells av) 25 (0, 0)) := hW0 ▸ iw_box p av w
  have hsz0 : W0.heap.size = w.heap.size + 2 := hW0 ▸ iw_size p av w
  unfold iw Setup.cells zeroRep at hW0
  rw [← hW0]
  have HS0 := Lib.hid hsz0
  clear hW0 hsz0
  refine (HN.out W0 hO0).mono ?_
  rintro e w1 ⟨b, x, rfl, hM, hclo, hev, hb, hmb, ho1⟩
  have HO0 := Lib.hid hO0
  have HO1 := Lib.hid ho1
  have HG := Lib.hid hg
  have HBX := Lib.hid hbx
  have HM := Lib.hid hM
  have HCL := Lib.hid hclo
  have HEV := Lib.hid hev
  clear hO0 ho1 hg hbx hM hclo hev
  go_wp2_with fail
  obtain ⟨W2, hW2⟩ : ∃ W2, W2 = w1.alloc (.cells #[.pointer (some ⟨b, 0, none⟩)] 63) := ⟨_, rfl⟩
  have ho2 : Only (fun _ => False) w1 W2 := hW2 ▸ (Only.refl _ w1).alloc _
  have hmp2 : W2.heap[w1.heap.size]? = some (.cells #[.pointer (some ⟨b, 0, none⟩)] 63 (0, 0)) := hW2 ▸ heap_alloc_new w1 _
  have hbx2 := ho2.heap (fun h => h) (HO1.out.heap (fun h => h) HBX.out)
  have hg2 := ho2.heap (fun h => h) (HO1.out.heap (fun h => h) HG.out)
  have hM2 := HM.out.no ho2
  have hblt := HM.out.mac.lt
  have hmlt := heap_lt HM.out.mem
  have hs0 := HS0.out
  have hs1 := HO1.out.size
  have hs2 : W2.heap.size = w1.heap.size + 1 := by rw [hW2]; simp
  have hnb : x.evs.ownBlock = none := by rw [HEV.out]; rfl
  have hgw : Only (fun _ => False) W2 (gw W2) := (Only.refl _ W2).alloc _
  rw [← hW2]
  have hnot : ∀ k, k < b → k < x.mb → ¬ Mb b x k := by
    intro k h1 h2 h
    rcases h with h | h | h
    · omega
    · omega
    · rw [hnb] at h; cases h
  have hrun : Calls Tryz.prog 30 #[.pointer (some ⟨w1.heap.size, 0, none⟩), .pointer (some ⟨w.heap.size, 0, none⟩)] (gw W2) (RunP p.fuel b p.st x (gw W2)) := by
    refine loop_any p.fuel hg.f0 hg.f1 b w1.heap.size w.heap.size p.st (Setup.st_ok hg hp) x (gw W2) (hM2.no hgw) ?_ (HCL.out) (Int.le_refl 0) hg.f0 ?_ ?_ ?_ (hnot _ (by omega) (by omega)) (hnot _ (by omega) (by omega)) ?_ ?_
    · exact HT.out.only (HO0.out.then (HO1.out.then (ho2.then hgw))) (fun h => h)
    · exact hgw.cell (fun h => h) (cell_of_row W2 _ 0 _ _ _ hmp2)
    · exact hgw.cell (fun h => h) (cell_of_row W2 _ 5 _ _ _ hbx2)
    · intro h
      rcases h with h | h | h
      · omega
      · omega
      · rw [hnb] at h; cases h
    · exact Nat.lt_of_lt_of_le (heap_lt hmp2) hgw.size
    · exact Nat.lt_of_lt_of_le (heap_lt hbx2) hgw.size
  have hguard := guard_any 30 #[.pointer (some ⟨w1.heap.size, 0, none⟩), .pointer (some ⟨w.heap.size, 0, none⟩)] W2 (RunQ p.fuel b p.st x (gw W2)) (fun _ => by kernel_rfl)
    (hrun.mono (run_guarded (by omega) (by omega) (fun g h => by rw [hnb] at h; cases h)))
  clear hW2
  have HMP2 := Lib.hid hmp2
  have HG2 := Lib.hid hg2
  have HO2 := Lib.hid ho2
  have HGW := Lib.hid hgw
  have HNOT := Lib.hid hnot
  clear hmp2 hbx2 hg2 hM2 hrun ho2 hgw hnot
  refine hguard.mono ?_
  clear hguard
  rintro e w4 ⟨o, w3, rfl, ⟨ho, x2, hM3, hK3, hO3⟩, hO4⟩
  have hst0 : (p.fuel - p.st.steps).toNat = p.fuel.toNat := by show (p.fuel - 0).toNat = _; omega
  rw [hst0] at ho hM3
  have hokF := runS_ok p.fuel p.fuel.toNat p.st (Setup.st_ok hg hp)
  have hMbHi : ∀ k, Mb b x k → w.heap.size + 2 ≤ k ∧ k < w1.heap.size := by
    intro k h
    rcases h with h | h | h
    · omega
    · omega
    · rw [hnb] at h; cases h
  have hG3 : w4.heap[w.heap.size + 1]? = some (.cells zeroRep 41 (0, 0)) := by
    refine hO4.heap (by omega) (hO3.heap (fun h => ?_) (HGW.out.heap (fun h => h) HG2.out))
    have := hMbHi _ h; omega
  have hmp4 : w4.cell? ⟨w1.heap.size, 0, none⟩ = some (.pointer (some ⟨b, 0, none⟩)) := by
    refine hO4.cell (by omega) (hO3.cell (fun h => ?_) (HGW.out.cell (fun h => h) (cell_of_row W2 _ 0 _ _ _ HMP2.out)))
    have := hMbHi _ h; omega
  have hgws : (gw W2).heap.size = W2.heap.size + 1 := by simp [gw]
  have hx2 : ∀ g, x2.evs.ownBlock = some g → W2.heap.size + 1 ≤ g := by
    intro g hg
    rcases hK3.2.2.2 with h | ⟨g', h, hl⟩
    · rw [h, hnb] at hg; cases hg
    · rw [h] at hg; cases hg; omega
  have hab2 := HM.out.abLt
  have hM4 : Mach w4 b (runS p.fuel p.fuel.toNat p.st).1 x2 := by
    refine hM3.only hO4 (by omega) ?_ ?_ ?_
    · rw [hK3.1]; omega
    · rw [hK3.2.1]; omega
    · intro g hg; have := hx2 g hg; omega
  have hONE : ∀ s, ∀ v ∈ repCells o s x2.evs 0, v.oneCell' = true := by
    obtain ⟨ea, en, ec, hev⟩ : ∃ a n c, x2.evs = .slice a n c := by
      rcases hM3.evs.2 with ⟨e, _⟩ | ⟨g, cap, _, e, _⟩
      · exact ⟨_, _, _, e⟩
      · exact ⟨_, _, _, e⟩
    intro s
    rw [hev]
    exact rep_one o s ea en ec 0
  have hw4 : Only (fun _ => False) w w4 := by
    have hA := HO0.out.then (HO1.out.then (HO2.out.then HGW.out))
    have hB := hO3.trans hO4 (U := fun k => w.heap.size ≤ k) (fun k _ h => by have := hMbHi k h; omega) (fun k _ h => by have : k = W2.heap.size := h; omega)
    exact hA.trans hB (fun _ _ h => h) (fun k hk h => by have : w.heap.size ≤ k := h; omega)
  generalize (runS p.fuel p.fuel.toNat p.st).1 = sF at *
  generalize (runS p.fuel p.fuel.toNat p.st).2 = oF at *
  subst ho
  have hrep := report_any b o sF hokF x2 w4 hM4
  have HONE := Lib.hid hONE
  have HX2 := Lib.hid hx2
  have HM4 := Lib.hid hM4
  have HG4 := Lib.hid hG3
  have HW4 := Lib.hid hw4
  clear hM3 hO3 hO4 hG3 hM4 hw4 hMbHi hst0 hx2 hONE hK3
  go_wp2_with fail
  refine hrep.mono ?_
  clear hrep
  rintro e w5 ⟨rfl, ho5⟩
  have HG5 := Lib.hid (ho5.heap (fun h => h) HG4.out)
  go_wp2_with (((refine wpList_store_ex ?_ 41 (.tmp 2) (.tmp 20) ?_ (.pointer (some ⟨w.heap.size + 1, 0, none⟩)) (.agg (repCells o sF x2.evs 0)) ?_ ?_ (store_whole _ (w.heap.size + 1) 41 41 zeroRep _ ?_ ?_ ?_ ?_) ?_); (focus rfl); (focus rfl); (focus rfl); (focus rfl); (focus exact HG5.out); (focus rfl); (focus kernel_rfl); (focus exact HONE.out sF); rintro w6 ⟨ho6, hg6⟩))
  refine bodyPost_ret (results_ans Tryz.results15 _ _ (w.heap.size + 1) _ (.int .i64 0) (by rfl) (by rfl) hg6 rfl) rfl ⟨?_, fun h => absurd rfl h, fun _ => ⟨x2.evs, rfl, ?_⟩⟩
  · have hO := HW4.out.then ho5
    exact hO.trans ho6 (fun _ _ h => h) (fun j hj h => by have : j = w.heap.size + 1 := h; omega)
  · refine ownsRow_only (ownsRow_only HM4.out.evs ho5 (fun _ _ h => h)) ho6 (fun g hg => ?_)
    have := HX2.out g hg
    omega
theorem err_cases (p : Setup) : p.err false = 0 ∨ (p.err false = 1 ∧ p.badP = true) ∨ (p.err false = 2 ∧ p.badP = false ∧ p.badI = true) ∨ (p.err false = 3 ∧ p.badP = false ∧ p.badI = false ∧ p.badF = true) := by
  unfold Setup.err
  cases p.badP <;> cases p.badI <;> cases p.badF <;> simp
/-- Interpret, whatever the setup. -/
theorem interpret_any (p : Setup) (hp : p.Ok) (ab : Nat) (av : Value) (w : World) (ha : TextsAt w ab av p.ans) (hab : ab < w.heap.size) (ht : Tab w) :
    Calls Tryz.prog 15 #[.agg (p.cells av)] w (AnsP (p.err false) (runS p.fuel p.fuel.toNat p.st).2 (runS p.fuel p.fuel.toNat p.st).1 0 w) := by
  have hk : ∀ (k o : Int) (s : St) (e : Ending) (w' : World), (k == 0) = false → AnsP k 0 p.st 0 w e w' → AnsP k o s 0 w e w' := by
    intro k o s e w' hk h
    refine ⟨h.1, h.2.1, fun h0 => ?_⟩
    subst h0
    exact absurd hk (by decide)
  rcases err_cases p with h | ⟨h, h1⟩ | ⟨h, h1, h2⟩ | ⟨h, h1, h2, h3⟩
  · rw [h]
    exact interp_good p hp (Setup.good h).1 ab av w ha hab ht
  · rw [h]
    exact (interp_err p hp av w 1 (by decide) (fun W => new_badP p hp av W h1)).mono (fun e w' => hk _ _ _ e w' (by decide))
  · rw [h]
    exact (interp_err p hp av w 2 (by decide) (fun W => new_badI p hp av W h1 h2)).mono (fun e w' => hk _ _ _ e w' (by decide))
  · rw [h]
    exact (interp_err p hp av w 3 (by decide) (fun W => new_badF p hp av W h1 h2 h3)).mono (fun e w' => hk _ _ _ e w' (by decide))
end Go.Proofs.YtanccjaikocefaaGreatDoor
