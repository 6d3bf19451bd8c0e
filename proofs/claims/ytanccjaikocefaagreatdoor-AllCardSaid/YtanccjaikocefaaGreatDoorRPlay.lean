/-
  The contract of chainsref.Play where nothing is wrong: the report and the blocks of the plain machine's run. Conditions: New and 'find' do what they say; the setup's numbers are in their ranges.
-/
import Derived.Test.YtanccjaikocefaaGreatDoorRStep
import Derived.Test.YtanccjaikocefaaGreatDoorRNew
import Derived.Test.YtanccjaikocefaaGreatDoorInterp2
namespace Go.Proofs.YtanccjaikocefaaGreatDoor
open Go.ChangeShapes Go.WideShapes Go.ChangeAt Go.RowKit
set_option linter.unusedVariables false

/-- What Play comes to. -/
def PlayP (k : Int) (r : RS) (w : World) (e : Ending) (w' : World) : Prop :=
  Only (fun _ => False) w w' ∧ (k ≠ 0 → e = .returned (.tuple #[.agg zeroRep, .slice none 0 0, .int .i64 k])) ∧
  (k = 0 → ∃ evs blv, e = .returned (.tuple #[.agg (repCells r.out r.s evs r.built), blv, .int .i64 0]) ∧ w'.ownsRow 0 86 3 evs r.s.evs.length (evCells r.s.evs) ∧ w'.ownsRow 0 53 4 blv r.blocks.length (blkCells r.blocks))
theorem results_play {fn : Func} {p q q2 : Tmp} (hres : fn.results = #[.cell p 41, .tmp q, .tmp q2]) (tmps : Array Value) (w : World) (g : Nat) (cells : Array Value) (v v2 : Value) (h2 : tmps.getD p undef = .pointer (some ⟨g, 0, none⟩)) (h3 : tmps.getD q undef = v) (h4 : tmps.getD q2 undef = v2) (hi : w.heap[g]? = some (.cells cells 41 (0, 0))) (hs : cells.size = 39) :
    (results fn tmps).run Tryz.prog w = .ok (.tuple #[.agg cells, v, v2]) w := by
  have h2' : tmps[p]?.getD undef = .pointer (some ⟨g, 0, none⟩) := by simpa using h2
  have h3' : tmps[q]?.getD undef = v := by simpa using h3
  have h4' : tmps[q2]?.getD undef = v2 := by simpa using h4
  have hz : (Tryz.prog.info? 41).map (·.size) = some 39 := by kernel_rfl
  have hl := run_loadVar_row (P := Tryz.prog) w g _ 41 cells _ _ hi Tryz.underlying41 rfl (by rw [hz, hs])
  simp [results, hres, asAddr, h2', h3', h4', hl]
theorem step_store_ex {P : Program} {ops : Array Oper} {o : Oper} {a : Act} {w : World} {K : Act → World → Prop} {Q : Exit → Act → World → Prop} {E : Prop} (hgd : o.guard = none) (t : TypeId) (x y : Operand) (ho : o.op = .store t x y)
    (v1 v2 : Value) (hx : a.eval x = v1) (hy : a.eval y = v2) {R : World → Prop} (hr : ∃ w', (Instr.storeAt t v1 v2).run P w = .ok () w' ∧ R w') (h : ∀ w', R w' → K (a.put o.dst undef) w') :
    if Region.wanted o (yielded ops a.tmps) = true then Oper.wp P o a w K Q else E := by
  obtain ⟨w', hr, hR⟩ := hr
  have hw : Region.wanted o (yielded ops a.tmps) = true := by simp [Region.wanted, hgd]
  rw [if_pos hw]
  unfold Oper.wp execOp
  simp only [ho, hx, hy, Sem.run_bind, Sem.run_pure, Result.andThen_ok, hr]
  exact h w' hR
theorem ownsRow_zero {w : World} {B : Nat} {e : TypeId} {n : Nat} {v : Value} {l : Nat} {xs : List Value} (h : w.ownsRow B e n v l xs) : w.ownsRow 0 e n v l xs :=
  ⟨h.1, h.2.imp id (fun ⟨g, cap, cur, a, _, c⟩ => ⟨g, cap, cur, a, Nat.zero_le _, c⟩)⟩
theorem rep_store (w : World) (g : Nat) (o : Int) (s : St) (evs : Value) (bu : Int) (h : w.heap[g]? = some (.cells zeroRep 41 (0, 0))) (h1 : ∀ v ∈ repCells o s evs bu, v.oneCell' = true) :
    ∃ w', (Instr.storeAt 41 (.pointer (some ⟨g, 0, none⟩)) (.agg (repCells o s evs bu))).run Tryz.prog w = .ok () w' ∧ Whole g (repCells o s evs bu) 41 w w' :=
  store_whole w g 41 41 zeroRep _ h rfl (by kernel_rfl) h1
theorem step_slots (r : RS) : r.step.slots.length = r.slots.length := by
  unfold RS.step
  split
  · rfl
  · split
    · rfl
    · rename_i i _
      unfold RS.do_
      split
      · exact (seek_s r).2.2.2.2
      · exact (leave_s _ _).2.2.2.2.trans ((wrote_s _ _).2.2.2.2.trans (seek_s r).2.2.2.2)
theorem rcells_rep (r : RS) (x : RRaw) (m : ByteArray) : (rCells r x).set 35 (.string m) = #[.int .i64 r.out, .int .u32 r.s.pc].toList ++ (regs32 r.s ++ [.int .u32 r.s.brk, .string m, x.evs, .int .i64 r.s.steps, .int .i64 r.built]) ++ (rTail r x).drop 5 := rfl
theorem rep_list (o : Int) (s : St) (evs : Value) (bu : Int) : (repCells o s evs bu).toList = #[.int .i64 o, .int .u32 s.pc].toList ++ (regs32 s ++ [.int .u32 s.brk, .string (strOfNums s.mem), evs, .int .i64 s.steps, .int .i64 bu]) := rfl
theorem RAt.rep {w : World} {b : Nat} {r : RS} {x : RRaw} (h : RAt w b r x) : (w.setCell ⟨b, 35, none⟩ (.string (strOfNums r.s.mem))).rangeAt b 0 (repCells r.out r.s x.evs r.built).toList := by
  have hh := heap_setCell_same w b 35 _ _ (.string (strOfNums r.s.mem)) h
  intro j v hj
  rw [Nat.zero_add, cell_of_row _ b _ _ _ _ hh]
  simp only [List.setIfInBounds_toArray, List.getElem?_toArray]
  rw [rcells_rep, ← rep_list, List.getElem?_append_left (List.getElem?_eq_some_iff.1 hj).1]
  exact hj
theorem runR_ended (n : Nat) (r : RS) (h : r.ended = true) : runR n r = r := by
  cases n with
  | zero => rfl
  | succ n => simp [runR, h]
set_option maxRecDepth 100000 in
set_option maxHeartbeats 600000 in
theorem rplay_good (p : Setup) (hp : p.Ok) (bl : Bool) (he : p.err bl = 0) (av : Value) (w : World)
    (hnew : ∀ W, Only (fun _ => False) w W → Calls Tryz.prog 35 #[.agg (p.cells av), .bool bl] W (RNewYes p bl W))
    (hfind : ∀ B b r, r.Head → r.slots.length = (p.rs bl).slots.length → FindOk B b r) :
    Calls Tryz.prog 16 #[.agg (p.cells av), .bool bl] w (PlayP 0 (runR (p.fuel.toNat + 1) (p.rs bl)) w) := by
  have hh : (p.rs bl).Head := Setup.head he hp
  have hF := runR_run p.fuel.toNat (p.rs bl) rfl hh.ok.s (by show _ = p.fuel - 0; have := hh.ok.fuel.1; change 0 ≤ p.fuel at this; omega)
  obtain ⟨hF1, hF2, _⟩ := hF
  have hokF : (runR (p.fuel.toNat + 1) (p.rs bl)).s.Ok := by rw [hF2]; exact runS_ok _ _ _ hh.ok.s
  have HH := Lib.hid hh
  have HF1 := Lib.hid hF1
  have HOK := Lib.hid hokF
  have HN := Lib.hid hnew
  have HFI := Lib.hid hfind
  have HE := Lib.hid he
  clear hh hF1 hF2 hokF hnew hfind he
  obtain ⟨rF, hrF⟩ : ∃ rF, rF = runR (p.fuel.toNat + 1) (p.rs bl) := ⟨_, rfl⟩
  have HRF := Lib.hid hrF
  rw [← hrF] at HF1 HOK ⊢
  clear hrF
  unfold Setup.cells at *
  go_enter Tryz.func16, Tryz.ntmps16
  go_wp2_with fail
  obtain ⟨W0, hW0⟩ : ∃ W0, W0 = iw p av w := ⟨_, rfl⟩
  have hO0 : Only (fun _ => False) w W0 := hW0 ▸ iw_only p av w
  have hg : W0.heap[w.heap.size + 1]? = some (.cells zeroRep 41 (0, 0)) := hW0 ▸ iw_rep p av w
  have hsz0 : W0.heap.size = w.heap.size + 2 := hW0 ▸ iw_size p av w
  unfold iw Setup.cells zeroRep at hW0
  rw [← hW0]
  have HS0 := Lib.hid hsz0
  clear hW0 hsz0
  refine (HN.out W0 hO0).mono ?_
  rintro e w1 ⟨b, rfl, hRM, ho1⟩
  have HO0 := Lib.hid hO0
  have HO1 := Lib.hid ho1
  have HG := Lib.hid (ho1.heap (fun h => h) hg)
  have HRM := Lib.hid hRM
  clear hO0 ho1 hg hRM
  go_wp2_with fail
  go_loopg [] (p.fuel.toNat + 1) (fun k wr => ∃ r1, rF = runR k r1 ∧ (r1.ended = false → r1.Head) ∧ r1.slots.length = (p.rs bl).slots.length ∧ RM W0.heap.size wr b r1 ∧ Only (RUp W0.heap.size) w1 wr)
  case atStart => exact ⟨p.rs bl, HRF.out, fun _ => HH.out, rfl, HRM.out, Only.refl _ _⟩
  case round =>
    obtain ⟨r1, hrun, hhd, hsl, ⟨x1, hM⟩, ho⟩ := hrel
    have k43 := hM.mac.ended
    cases hen : r1.ended
    · rw [hen] at k43
      have HM := Lib.hid hM
      have HD := Lib.hid (hhd hen)
      have HEN := Lib.hid hen
      have HO := Lib.hid ho
      have HSL := Lib.hid hsl
      have HRU := Lib.hid hrun
      clear hM hhd hen ho hsl hrun
      go_wp2_with fail
      refine (rstep_any W0.heap.size b r1 HD.out HEN.out x1 wr HM.out (HFI.out _ b r1 HD.out HSL.out)).mono ?_
      rintro e w2 ⟨rfl, hM2, ho2⟩
      cases gk with
      | zero =>
        have h1 : rF = r1 := HRU.out
        have h2 := HF1.out
        rw [h1, HEN.out] at h2
        cases h2
      | succ k =>
        have hr2 : rF = runR k r1.step := by
          have := HRU.out
          rw [runR, if_neg (by rw [HEN.out]; decide)] at this
          exact this
        have hrel2 : ∃ r1, rF = runR k r1 ∧ (r1.ended = false → r1.Head) ∧ r1.slots.length = (p.rs bl).slots.length ∧ RM W0.heap.size w2 b r1 ∧ Only (RUp W0.heap.size) w1 w2 :=
          ⟨r1.step, hr2, fun hn => (step_go HEN.out HD.out hn).1, (step_slots r1).trans HSL.out, hM2, HO.out.then ho2⟩
        clear hM2 ho2 hr2
        go_wp2_with fail
        go_roundg k
        case measure => omega
        case rel => exact hrel2
    · rw [hen] at k43
      have e1 : rF = r1 := hrun.trans (runR_ended gk r1 hen)
      subst e1
      have k39 := hM.mac.mem
      have k35 : wr.cell? ⟨b, 35, none⟩ = some (.string ⟨#[]⟩) := hM.mac.tail 1
      have k50 := hM.mac.blocks
      have f35 := hM.mac.free 35
      have hsz := hM.mac.lt
      have hmN := HOK.out.len
      have hcv := conv_mem wr x1.mb rF.s.mem hM.mem hmN rF.s.mem.length
      have hrange := hM.mac.rep
      have hu := Tryz.underlying41
      have hi : (Tryz.prog.info? 41).map (·.size) = some (repCells rF.out rF.s x1.evs rF.built).toList.length := by kernel_rfl
      have hld := run_loadAt_mid (P := Tryz.prog) (wr.setCell ⟨b, 35, none⟩ (.string (strOfNums rF.s.mem))).drew b 0 41 (repCells rF.out rF.s x1.evs rF.built).toList _ ((World.rangeAt_drew _ b 0 _).2 hrange) hu rfl hi
      have hne : ¬ b = w.heap.size + 1 := by
        have := hM.from_.1
        have := HS0.out
        omega
      have HG2 := Lib.hid (ho.heap (by show ¬ W0.heap.size ≤ w.heap.size + 1; have := HS0.out; omega) HG.out)
      have HLD := Lib.hid hld
      have HR := Lib.hid ((World.rangeAt_drew _ b 0 _).2 hrange)
      have HM := Lib.hid hM
      have HO := Lib.hid ho
      have HI := Lib.hid hi
      have HC50 : Hid ((wr.setCell ⟨b, 35, none⟩ (.string (strOfNums rF.s.mem))).drew.cell? ⟨b, 50, none⟩ = some x1.blv) := Lib.hid (by
        rw [← k50]
        exact World.cell?_setCell_other wr _ _ _ (by simp))
      have HG3 : Hid ((wr.setCell ⟨b, 35, none⟩ (.string (strOfNums rF.s.mem))).drew.heap[w.heap.size + 1]? = some (.cells zeroRep 41 (0, 0))) := Lib.hid (((Only.refl (· = b) wr).set1 35 (.string (strOfNums rF.s.mem))).heap (Ne.symm hne) HG2.out)
      obtain ⟨ea, en, ec, hev⟩ : ∃ a n c, x1.evs = .slice a n c := by
        rcases hM.evs.2 with ⟨e, _⟩ | ⟨g, cap, _, e, _⟩
        · exact ⟨_, _, _, e⟩
        · exact ⟨_, _, _, e⟩
      have HONE : Hid (∀ v ∈ repCells rF.out rF.s x1.evs rF.built, v.oneCell' = true) := Lib.hid (by rw [hev]; exact rep_one _ _ _ _ _ _)
      have HST := Lib.hid (rep_store _ _ rF.out rF.s x1.evs rF.built HG3.out HONE.out)
      clear hev
      clear hM ho hrange hld hu hi hhd hrun hen HRF
      go_wp2_with fail
      refine wp_region_held_drew (S := fun w' => w'.rangeAt b 0 (repCells rF.out rF.s x1.evs rF.built).toList ∧ w'.cell? ⟨b, 50, none⟩ = some x1.blv) (by kernel_rfl) ?_ (fun hHeld => ?_)
      · exact ⟨HR.out, HC50.out⟩
      refine wpAnyH_take (i := 0) (oi := { dst := some 35, op := _, type := _, pos := _, after := _, guard := _ }) (v := (.pointer (some ⟨b, 0, none⟩))) rfl (by kernel_rfl) (by kernel_rfl) (by kernel_rfl) (fun _ _ _ h => h) (Or.inl ⟨by rfl, ?hy1⟩) (by assumption) ?rest1
      case hy1 =>
        intro w hSw
        obtain ⟨hs1, hs2⟩ := hSw
        go_simp
      try simp only [Act.put, List.setIfInBounds_toArray, List.set_cons_zero, List.set_cons_succ]
      refine wpAnyH_take (i := 1) (oi := { dst := some 36, op := _, type := _, pos := _, after := _, guard := _ }) (v := (.pointer (some ⟨b, 0, none⟩))) rfl (by kernel_rfl) (by kernel_rfl) (by kernel_rfl) (fun _ _ _ h => h) (Or.inl ⟨by rfl, ?hy2⟩) (by assumption) ?rest2
      case hy2 =>
        intro w hSw
        obtain ⟨hs1, hs2⟩ := hSw
        go_simp
      try simp only [Act.put, List.setIfInBounds_toArray, List.set_cons_zero, List.set_cons_succ]
      refine wpAnyH_take (i := 2) (oi := { dst := some 37, op := _, type := _, pos := _, after := _, guard := _ }) (v := (.pointer (some ⟨b, 0, none⟩))) rfl (by kernel_rfl) (by kernel_rfl) (by kernel_rfl) (fun _ _ _ h => h) (Or.inl ⟨by rfl, ?hy3⟩) (by assumption) ?rest3
      case hy3 =>
        intro w hSw
        obtain ⟨hs1, hs2⟩ := hSw
        go_simp
      try simp only [Act.put, List.setIfInBounds_toArray, List.set_cons_zero, List.set_cons_succ]
      refine wpAnyH_take (i := 3) (oi := { dst := some 38, op := _, type := _, pos := _, after := _, guard := _ }) (v := .agg (repCells rF.out rF.s x1.evs rF.built)) rfl (by kernel_rfl) (by kernel_rfl) (by kernel_rfl) (fun _ _ _ h => h) (yieldsIf_load_mid (by rfl) 41 (.tmp 37) rfl b 0 rfl (repCells rF.out rF.s x1.evs rF.built).toList _ (fun w h => h.1) Tryz.underlying41 rfl HI.out) (by assumption) ?rest4
      try simp only [Act.put, List.setIfInBounds_toArray, List.set_cons_zero, List.set_cons_succ]
      refine wpAnyH_take (i := 4) (oi := { dst := some 39, op := _, type := _, pos := _, after := _, guard := _ }) (v := (.pointer (some ⟨b, 0, none⟩))) rfl (by kernel_rfl) (by kernel_rfl) (by kernel_rfl) (fun _ _ _ h => h) (Or.inl ⟨by rfl, ?hy5⟩) (by assumption) ?rest5
      case hy5 =>
        intro w hSw
        obtain ⟨hs1, hs2⟩ := hSw
        go_simp
      try simp only [Act.put, List.setIfInBounds_toArray, List.set_cons_zero, List.set_cons_succ]
      refine wpAnyH_take (i := 5) (oi := { dst := some 40, op := _, type := _, pos := _, after := _, guard := _ }) (v := (.pointer (some ⟨b, 0, none⟩))) rfl (by kernel_rfl) (by kernel_rfl) (by kernel_rfl) (fun _ _ _ h => h) (Or.inl ⟨by rfl, ?hy6⟩) (by assumption) ?rest6
      case hy6 =>
        intro w hSw
        obtain ⟨hs1, hs2⟩ := hSw
        go_simp
      try simp only [Act.put, List.setIfInBounds_toArray, List.set_cons_zero, List.set_cons_succ]
      refine wpAnyH_take (i := 6) (oi := { dst := some 41, op := _, type := _, pos := _, after := _, guard := _ }) (v := (.pointer (some ⟨b, 50, none⟩))) rfl (by kernel_rfl) (by kernel_rfl) (by kernel_rfl) (fun _ _ _ h => h) (Or.inl ⟨by rfl, ?hy7⟩) (by assumption) ?rest7
      case hy7 =>
        intro w hSw
        obtain ⟨hs1, hs2⟩ := hSw
        go_simp
      try simp only [Act.put, List.setIfInBounds_toArray, List.set_cons_zero, List.set_cons_succ]
      refine wpAnyH_take (i := 7) (oi := { dst := some 42, op := _, type := _, pos := _, after := _, guard := _ }) (v := x1.blv) rfl (by kernel_rfl) (by kernel_rfl) (by kernel_rfl) (fun _ _ _ h => h) (Or.inl ⟨by rfl, ?hy8⟩) (by assumption) ?rest8
      case hy8 =>
        intro w hSw
        obtain ⟨hs1, hs2⟩ := hSw
        go_simp
      try simp only [Act.put, List.setIfInBounds_toArray, List.set_cons_zero, List.set_cons_succ]
      refine wpAnyH_ready (rs := [8]) (by kernel_rfl) (by simp) ?_
      refine AllReadyH.cons (o := { dst := none, op := .store 41 (.tmp 4) (.tmp 38), type := _, pos := _, after := _, guard := none }) rfl (fun K hK => ?_) AllReadyH.nil
      have hst := HST.out
      refine step_store_ex ?_ 41 (.tmp 4) (.tmp 38) ?_ (.pointer (some ⟨w.heap.size + 1, 0, none⟩)) (.agg (repCells rF.out rF.s x1.evs rF.built)) ?_ ?_ hst ?_
      · rfl
      · rfl
      · rfl
      · rfl
      rintro w6 ⟨ho6, hg6⟩
      refine hK.out _ _ ⟨ho6.range hne HR.out, ho6.cell hne HC50.out⟩ (fun hHeld => ?_)
      clear hK K
      try simp only [Act.put]
      refine wpAnyH_take (i := 9) (oi := { dst := some 5, op := _, type := _, pos := _, after := _, guard := _ }) (v := x1.blv) rfl (by kernel_rfl) (by kernel_rfl) (by kernel_rfl) (fun _ _ _ h => h) (Or.inl ⟨by rfl, ?hy9⟩) (by assumption) ?rest9
      case hy9 =>
        intro w hSw
        obtain ⟨hs1, hs2⟩ := hSw
        go_simp
      try simp only [Act.put, List.setIfInBounds_toArray, List.set_cons_zero, List.set_cons_succ]
      refine wpAnyH_take (i := 10) (oi := { dst := some 6, op := _, type := _, pos := _, after := _, guard := _ }) (v := (.int .i64 0)) rfl (by kernel_rfl) (by kernel_rfl) (by kernel_rfl) (fun _ _ _ h => h) (Or.inl ⟨by rfl, ?hy10⟩) (by assumption) ?rest10
      case hy10 =>
        intro w hSw
        obtain ⟨hs1, hs2⟩ := hSw
        go_simp
      try simp only [Act.put, List.setIfInBounds_toArray, List.set_cons_zero, List.set_cons_succ]
      refine wpAnyH_done (by kernel_rfl) ?_ _
      have HO6 := Lib.hid ho6
      have HG6 := Lib.hid hg6
      clear ho6 hg6 hHeld
      go_wp2_with fail
      have h0 := HS0.out
      have hs35 : Only (· = b) wr (wr.setCell ⟨b, 35, none⟩ (.string (strOfNums rF.s.mem))).drew := ((Only.refl _ wr).set1 35 _).drew
      refine bodyPost_ret (results_play Tryz.results16 _ _ (w.heap.size + 1) _ x1.blv (.int .i64 0) (by rfl) (by rfl) (by rfl) HG6.out rfl) rfl ⟨?_, fun h => absurd rfl h, fun _ => ⟨x1.evs, x1.blv, rfl, ?_, ?_⟩⟩
      · have hA : Only (fun k => w.heap.size ≤ k) w w1 := (HO0.out.mono (fun _ _ h => h.elim)).then (HO1.out.mono (fun _ _ h => h.elim))
        have hB : Only (fun k => w.heap.size ≤ k) w wr := hA.then (HO.out.mono (fun k _ h => by have : W0.heap.size ≤ k := h; omega))
        have hC : Only (fun k => w.heap.size ≤ k) w w6 := (hB.then (hs35.mono (fun k _ e => by have := HM.out.from_.1; omega))).then (HO6.out.mono (fun k _ e => by omega))
        exact hC.mono (fun k hk h => absurd hk (by omega))
      · refine ownsRow_zero (ownsRow_only (ownsRow_only HM.out.evs hs35 (fun g hg => (HM.out.nee g hg).1)) HO6.out (fun g hg => ?_))
        have := (HM.out.evs.lt g hg).1
        omega
      · refine ownsRow_zero (ownsRow_only (ownsRow_only HM.out.blocks hs35 (fun g hg => (HM.out.neb g hg).1)) HO6.out (fun g hg => ?_))
        have := (HM.out.blocks.lt g hg).1
        omega
theorem rplay_err (p : Setup) (hp : p.Ok) (bl : Bool) (av : Value) (k : Int) (hk : (k == 0) = false) (r : RS) (w : World) (hnew : ∀ W, Calls Tryz.prog 35 #[.agg (p.cells av), .bool bl] W (RNewNo k W)) :
    Calls Tryz.prog 16 #[.agg (p.cells av), .bool bl] w (PlayP k r w) := by
  unfold Setup.cells at *
  have HN := Lib.hid hnew
  have hk2 : (k != 0) = true := by simp only [bne, hk]; rfl
  clear hnew
  go_enter Tryz.func16, Tryz.ntmps16
  go_wp2_with fail
  obtain ⟨W0, hW0⟩ : ∃ W0, W0 = iw p av w := ⟨_, rfl⟩
  have hO0 : Only (fun _ => False) w W0 := hW0 ▸ iw_only p av w
  have hg : W0.heap[w.heap.size + 1]? = some (.cells zeroRep 41 (0, 0)) := hW0 ▸ iw_rep p av w
  unfold iw Setup.cells zeroRep at hW0
  rw [← hW0]
  clear hW0
  refine (HN.out W0).mono ?_
  rintro e w1 ⟨rfl, ho1⟩
  have HG := Lib.hid (ho1.heap (fun h => h) hg)
  have HO := Lib.hid (hO0.then ho1)
  clear hg hO0 ho1
  go_wp2_with (first | ((refine wpList_build_run ?_ 41 #[] ?_ (vals := #[]) ?_ (build_zero _) ?_); (focus rfl); (focus rfl); (focus rfl)) | ((refine wpList_store_ex ?_ 41 (.tmp 4) (.tmp 17) ?_ (.pointer (some ⟨w.heap.size + 1, 0, none⟩)) (.agg zeroRep) ?_ ?_ (store_whole _ (w.heap.size + 1) 41 41 zeroRep zeroRep ?_ ?_ ?_ ?_) ?_); (focus rfl); (focus rfl); (focus rfl); (focus rfl); (focus (first | exact HG.out | exact heap_alloc_old' _ HG.out)); (focus rfl); (focus kernel_rfl); (focus exact zero_one); rintro w2 ⟨ho2, hg2⟩))
  refine bodyPost_ret (results_play Tryz.results16 _ _ (w.heap.size + 1) _ (.slice none 0 0) (.int .i64 k) (by rfl) (by rfl) (by rfl) hg2 rfl) rfl ⟨?_, fun _ => rfl, fun h => ?_⟩
  · have hO := HO.out
    refine ⟨ho2.os.trans hO.os, ho2.tape.trans hO.tape, ho2.output.trans hO.output, Nat.le_trans hO.size ho2.size, fun j hj _ => ?_⟩
    rw [ho2.block j (Nat.lt_of_lt_of_le hj hO.size) (by omega)]
    exact hO.block j hj (fun h => h)
  · subst h
    exact absurd hk (by decide)
/-- Play one by one, whatever the setup. -/
theorem rplay_any (p : Setup) (hp : p.Ok) (ab : Nat) (av : Value) (w : World) (ha : TextsAt w ab av p.ans) (hab : ab < w.heap.size) :
    Calls Tryz.prog 16 #[.agg (p.cells av), .bool false] w (PlayP (p.err false) (runR (p.fuel.toNat + 1) (p.rs false)) w) := by
  rcases err_cases p with h | ⟨h, h1⟩ | ⟨h, h1, h2⟩ | ⟨h, h1, h2, h3⟩
  · rw [h]
    refine rplay_good p hp false h av w (fun W hW => rnew_good p hp (Setup.good h).1 ab av W (ha.only hW (fun h => h)) (Nat.lt_of_lt_of_le hab hW.size)) (fun B b r _ hs hn => ?_)
    have : r.slots.length = 0 := hs
    unfold RS.need at hn
    rw [this] at hn
    simp at hn
  · rw [h]
    exact rplay_err p hp false av 1 (by decide) _ w (fun W => rnew_badP p hp av false W h1)
  · rw [h]
    exact rplay_err p hp false av 2 (by decide) _ w (fun W => rnew_badI p hp av false W h1 h2)
  · rw [h]
    exact rplay_err p hp false av 3 (by decide) _ w (fun W => rnew_badF p hp av false W h1 h2 h3)
end Go.Proofs.YtanccjaikocefaaGreatDoor
