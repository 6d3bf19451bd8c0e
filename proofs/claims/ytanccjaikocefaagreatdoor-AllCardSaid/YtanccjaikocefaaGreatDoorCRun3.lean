/-
  The contracts of the cache's Run and New. Conditions: the machine lies in memory; numbers are in their ranges; the table lies.
  The contracts of chains' blocks and Run: what is wrong with a setup, or the report of the run in blocks. Conditions: the setup's numbers are in their ranges; the table lies.
-/
import Derived.Test.YtanccjaikocefaaGreatDoorCRun
import Derived.Test.YtanccjaikocefaaGreatDoorGuard
import Derived.Test.YtanccjaikocefaaGreatDoorInterp2
namespace Go.Proofs.YtanccjaikocefaaGreatDoor
open Go.ChangeShapes Go.WideShapes Go.ChangeAt Go.RowKit Go.Maps
set_option linter.unusedVariables false

/-- A machine behind a change of blocks in which neither it nor a text lies. -/
theorem Mach.apart3 {S : Nat → Prop} {w w' : World} {b : Nat} {s : St} {x : Raw} (h : Mach w b s x) (ho : Only S w w') (hS : ∀ k, S k → ¬ Mb b x k ∧ ∀ o t, w.cell? ⟨k, o, none⟩ ≠ some (.string t)) : Mach w' b s x := by
  have hb : ¬ S b := fun e => (hS b e).1 (.inl rfl)
  have hm : ¬ S x.mb := fun e => (hS x.mb e).1 (.inr (.inl rfl))
  have he : ∀ g, x.evs.ownBlock = some g → ¬ S g := fun g hg e => (hS g e).1 (.inr (.inr hg))
  refine ⟨ho.heap hb h.mac, ho.heap hm h.mem, h.ne, ?_, Nat.lt_of_lt_of_le h.abLt ho.size, h.nea, ownsRow_only h.evs ho he, h.nee⟩
  obtain ⟨a, c, hv, hc, hcm, hcl⟩ := h.ans
  refine ⟨a, c, hv, hc, hcm, fun hne => ?_⟩
  obtain ⟨off, ha, hcells⟩ := hcl hne
  have hna : ¬ S x.ab := by
    intro e
    obtain ⟨t, l', hl'⟩ : ∃ t l', s.ans = t :: l' := by
      cases hq : s.ans with
      | nil => exact absurd hq hne
      | cons t l' => exact ⟨t, l', rfl⟩
    exact (hS x.ab e).2 _ t (hcells 0 t (by rw [hl']; rfl)).2
  exact ⟨off, ha, fun j t hj => ⟨(hcells j t hj).1, ho.cell hna (hcells j t hj).2⟩⟩
theorem OutAt.move {w W : World} {B cb b slb mb : Nat} {fuel : Int} {R0 : RS} {k : Nat} {r : RS} {x : Raw} {l : CEs} {n : Nat} (h : OutAt w B cb b slb mb fuel R0 k w r x l n) (ho : Only (fun _ => False) w W) : OutAt W B cb b slb mb fuel R0 k W r x l n :=
  ⟨h.hk, h.fu, h.head, h.go, h.need, h.run, h.mach.no ho, h.clo, h.up, h.cache.only ho (fun _ _ h => h), Only.refl _ _, h.hn⟩
/-- Behind a change of a variable. -/
theorem CEndP.after {B cb b slb mb g : Nat} {R : RS} {w W w1 w' : World} {T : TypeId} {v : Int} (h : CEndP B cb b slb mb R W w1) (hW : Only (fun _ => False) w W) (hg : w1.heap[g]? = some (.cells #[.int .i64 v] T (0, 0))) (hT : ¬ (MTy T ∨ CT T)) (hgw : w.heap.size ≤ g) (ho : Only (· = g) w1 w') : CEndP B cb b slb mb R w w' := by
  obtain ⟨x2, n, m, hM, hu, hc, hm, hr, hO⟩ := h
  refine ⟨x2, n, m, hM.apart3 ho (fun k hk => ⟨fun hb => ?_, fun o t hs => ?_⟩), hu, ho.heap (fun e => ?_) hc, hm.only ho (map_other hm hg ∘ Eq.symm), hr, (Own.trans (Only.own hW) hO).trans ho (fun _ _ h => h) (fun k hk e => by omega)⟩
  · subst hk
    obtain ⟨cs, T', h1, h2⟩ := mach_ty hM hb
    rw [hg] at h1
    simp only [Option.some.injEq, Obj.cells.injEq] at h1
    exact hT (.inl (by rw [h1.2.1]; exact h2))
  · subst hk
    rw [cell_of_row w1 k o _ _ _ hg] at hs
    cases o with
    | zero => simp at hs
    | succ o => simp at hs
  · subst e
    rw [hg] at hc
    simp only [Option.some.injEq, Obj.cells.injEq] at hc
    exact hT (.inr (by rw [hc.2.1]; exact .inr (.inr (.inl rfl))))
set_option maxRecDepth 100000 in
theorem cacherun_any (B cb b slb mb : Nat) (r : RS) (w : World) (x : Raw) (l : CEs) (n n0 : Nat) (h0 : OutAt w B cb b slb mb r.fuel (runR (n0 + 1) r) n0 w r x l n) (ht : Tab w) (hB : B ≤ w.heap.size) (htB : 0 < B) :
    Calls Tryz.prog 65 #[.pointer (some ⟨cb, 0, none⟩), .int .i64 r.fuel] w fun e w' => e = .returned (.int .i64 (runR (n0 + 1) r).out) ∧ CEndP B cb b slb mb (runR (n0 + 1) r) w w' := by
  have hmf : ∀ (fn : Fn) (first cap : Array Value) (w : World), (Instr.makeFunc fn first cap).run Tryz.prog w = .ok (.func fn first cap) w := fun _ _ _ _ => rfl
  obtain ⟨W, hW⟩ : ∃ W, W = (w.alloc (.cells #[.pointer (some ⟨cb, 0, none⟩)] 87)).alloc (.cells #[.int .i64 r.fuel] 3) := ⟨_, rfl⟩
  have hO : Only (fun _ => False) w W := hW ▸ ((Only.refl _ w).alloc _).alloc _
  have hcp : W.heap[w.heap.size]? = some (.cells #[.pointer (some ⟨cb, 0, none⟩)] 87 (0, 0)) := hW ▸ heap_alloc_old' _ (heap_alloc_new w _)
  have hfp : W.heap[w.heap.size + 1]? = some (.cells #[.int .i64 r.fuel] 3 (0, 0)) := by
    have := heap_alloc_new (w.alloc (.cells #[.pointer (some ⟨cb, 0, none⟩)] 87)) (.cells #[.int .i64 r.fuel] 3)
    rw [hW]
    simpa using this
  have hgw : Only (fun _ => False) W (gw W) := (Only.refl _ W).alloc _
  have hOg := hO.then hgw
  have hrun := crun_any B cb b slb mb w.heap.size (w.heap.size + 1) r (gw W) x l n n0 (h0.move hOg) (ht.only hOg (fun h => h)) (Nat.le_trans hB hOg.size) htB (hgw.heap (fun h => h) hcp) (hgw.heap (fun h => h) hfp)
  have hguard := guard_any 81 #[.pointer (some ⟨w.heap.size, 0, none⟩), .pointer (some ⟨w.heap.size + 1, 0, none⟩)] W (fun o w1 => o = (runR (n0 + 1) r).out ∧ CEndP B cb b slb mb (runR (n0 + 1) r) (gw W) w1 ∧ w1.heap[W.heap.size]? = some (.cells #[.int .i64 0] 37 (0, 0))) (fun _ => by kernel_rfl)
    (hrun.mono (fun e w1 h => by
      obtain ⟨hC, hor⟩ := h
      have hk : w1.heap[W.heap.size]? = some (.cells #[.int .i64 0] 37 (0, 0)) := by
        obtain ⟨_, _, _, _, _, _, _, _, ho⟩ := hC
        exact own_cell (o := 0) ho (heap_alloc_new W _) (by unfold MTy CT; decide)
      refine ⟨hk, ?_⟩
      rcases hor with ⟨rfl, h0⟩ | rfl
      · exact .inl ⟨rfl, h0.symm, hC, hk⟩
      · exact .inr ⟨_, rfl, rfl, hC, hk⟩))
  have HG := Lib.hid hguard
  have HO := Lib.hid hOg
  have hsz := hO.size
  clear hguard hrun h0 ht hcp hfp hgw hOg
  go_enter Tryz.func65, Tryz.ntmps65
  go_wp2_with fail
  rw [← hW]
  clear hW
  refine HG.out.mono ?_
  rintro e w2 ⟨o, w1, rfl, ⟨rfl, hC, hk⟩, ho⟩
  go_wp2_with fail
  go_ret
  exact ⟨rfl, hC.after HO.out hk (by unfold MTy CT; decide) hsz ho⟩
theorem ptr_info : (Tryz.prog.info? 130).map (fun i => (i.zero, i.size, i.bytes)) = some (some (.pointer none), 1, 8) := by kernel_rfl
theorem made_ptr (n : Nat) : madeCells (Value.pointer none).cells (n * 1) = ((List.replicate n (none : Option CEnt)).map entVal).toArray := by
  apply Array.ext'
  simp only [madeCells, Value.cells, Array.toList_map, Array.toList_range, Nat.mul_one, List.map_replicate]
  apply List.ext_getElem?
  intro j
  simp only [List.getElem?_map, List.getElem?_replicate]
  by_cases hj : j < n
  · simp [hj, entVal, Nat.mod_one]
  · simp [hj]
theorem make_ptr (c : Nat) (h1 : c ≤ 512) (w : World) : (Instr.makeSlice 90 (.int .i64 c) (.int .i64 c)).run Tryz.prog w = .ok (.slice (some ⟨w.heap.size, 0, none⟩) c c) (w.alloc (.cells (Array.replicate c (Value.pointer none)) 130)) := by
  obtain ⟨i0, hi, hz0, hz1, hz2⟩ := info_parts ptr_info
  have h := run_make (P := Tryz.prog) w 90 130 i0 _ Tryz.underlying90 hi hz0 .i64 .i64 (c : Int) (c : Int) (by omega) (Int.le_refl _) (by rw [hz2]; omega) (by omega)
  rw [hz1] at h
  have e : madeCells (Value.pointer none).cells (c * 1) = Array.replicate c (Value.pointer none) := by
    rw [made_ptr]
    apply Array.ext'
    simp [entVal]
  simp only [Int.toNat_natCast] at h
  rw [e] at h
  exact h
/-- What the cache's New comes to. -/
def CNewP (b : Nat) (s : St) (x : Raw) (m : Nat) (arena : Int) (w : World) (e : Ending) (w' : World) : Prop :=
  ∃ cb slb mb, e = .returned (.pointer (some ⟨cb, 0, none⟩)) ∧ w.heap.size ≤ cb ∧ w.heap.size ≤ slb ∧ w.heap.size ≤ mb ∧ Mach w' b s { x with wrote := cloF cb } ∧
    w'.heap[cb]? = some (.cells (cRow b slb m arena 0 0 (.map (some mb))) 93 (0, 0)) ∧ Slots w' slb (List.replicate m none) ∧ SeenIs w' mb 0 [] ∧ Only (· = b) w w'
set_option maxRecDepth 100000 in
theorem cnew_any (b : Nat) (s : St) (x : Raw) (m : Nat) (hm0 : 1 ≤ m) (hm1 : m ≤ 64) (arena : Int) (w : World) (h : Mach w b s x) :
    Calls Tryz.prog 64 #[.pointer (some ⟨b, 0, none⟩), .int .i64 m, .int .i64 arena] w (CNewP b s x m arena w) := by
  have hmf : ∀ (fn : Fn) (first cap : Array Value) (w : World), (Instr.makeFunc fn first cap).run Tryz.prog w = .ok (.func fn first cap) w := fun _ _ _ _ => rfl
  have hsf : ∀ (fn : Fn) (f c : Array Value) (W : World), W.cell? ⟨b, 36, none⟩ = some x.wrote → W.frozen? ⟨b, 36, none⟩ = false → (store ⟨b, 36, none⟩ (.func fn f c)).run Tryz.prog W = .ok () (W.setCell ⟨b, 36, none⟩ (.func fn f c)) := by
    intro fn f c W h1 h2
    have hst := run_store Tryz.prog W ⟨b, 36, none⟩ (.func fn f c) .plain rfl
    rw [h1] at hst
    simp only [h2] at hst
    exact hst
  have hmk := fun w => make_ptr m (by omega) w
  have hmm := fun (w : World) => run_makeMap (P := Tryz.prog) 91 w
  have hbl := h.mac.lt
  have h36 := h.mac.wrote
  have f36 := h.mac.free 36
  have H := Lib.hid h
  clear h
  go_enter Tryz.func64, Tryz.ntmps64
  go_wp2_with fail
  rw [hsf _ _ _ _ ((((Only.refl (fun _ => False) w).alloc _).alloc _ |>.alloc _).cell (fun h => h) h36) ((((Only.refl (fun _ => False) w).alloc _).alloc _ |>.alloc _).free (fun h => h) hbl f36)]
  go_wp2_with fail
  go_ret
  obtain ⟨W3, hW3⟩ : ∃ W3, W3 = (((w.alloc (.cells (Array.replicate m (Value.pointer none)) 130)).alloc (.map #[] 0)).alloc (.cells (cRow b w.heap.size m arena 0 0 (.map (some (w.heap.size + 1)))) 93)) := ⟨_, rfl⟩
  have hO3 : Only (fun _ => False) w W3 := by rw [hW3]; exact (((Only.refl (fun _ => False) w).alloc _).alloc _).alloc _
  have hOb : Only (· = b) W3 (W3.setCell ⟨b, 36, none⟩ (cloF (w.heap.size + 2))) := (Only.refl _ _).set1 _ _
  have r0 : W3.heap[w.heap.size]? = some (.cells (Array.replicate m (Value.pointer none)) 130 (0, 0)) := by rw [hW3]; exact heap_alloc_old' _ (heap_alloc_old' _ (heap_alloc_new w _))
  have r2 : W3.heap[w.heap.size + 2]? = some (.cells (cRow b w.heap.size m arena 0 0 (.map (some (w.heap.size + 1)))) 93 (0, 0)) := by
    have := heap_alloc_new ((w.alloc (.cells (Array.replicate m (Value.pointer none)) 130)).alloc (.map #[] 0)) (.cells (cRow b w.heap.size m arena 0 0 (.map (some (w.heap.size + 1)))) 93)
    rw [hW3]
    simpa using this
  have hmap : SeenIs W3 (w.heap.size + 1) 0 [] := by
    have h1 := World.ownsMap_made (w.alloc (.cells (Array.replicate m (Value.pointer none)) 130)) Tryz.prog 22 blkR
    rw [World.size_alloc] at h1
    rw [hW3]
    exact World.ownsMap.alloc h1 _
  have hm3 := H.out.no hO3
  have hfin : CNewP b s x m arena w (.returned (.pointer (some ⟨w.heap.size + 2, 0, none⟩))) (W3.setCell ⟨b, 36, none⟩ (cloF (w.heap.size + 2))) := by
    refine ⟨w.heap.size + 2, w.heap.size, w.heap.size + 1, rfl, by omega, Nat.le_refl _, by omega, hm3.struct hOb (hm3.mac.putWrote _) rfl rfl rfl rfl rfl rfl rfl, hOb.heap (by omega) r2, ⟨?_, fun k e hk => absurd hk (rep_no _ _ _), fun j k e f hj => absurd hj (rep_no _ _ _)⟩, hmap.only hOb (by omega), (hO3.no).then hOb⟩
    rw [hOb.heap (by omega) r0]
    simp [entVal]
  rw [hW3] at hfin
  exact hfin
end Go.Proofs.YtanccjaikocefaaGreatDoor
namespace Go.Proofs.YtanccjaikocefaaGreatDoor
open Go.ChangeShapes Go.WideShapes Go.ChangeAt Go.RowKit Go.Maps
set_option linter.unusedVariables false

/-- The run in blocks of a setup. -/
def Setup.R (p : Setup) : RS := runR (p.fuel.toNat + 1) (p.rs true)
/-- What 'blocks' comes to. -/
def BlocksG (p : Setup) (w : World) (e : Ending) (w' : World) : Prop :=
  ∃ b cb slb mb n m x, e = .returned (.tuple #[.pointer (some ⟨b, 0, none⟩), .pointer (some ⟨cb, 0, none⟩), .int .i64 p.R.out, .int .i64 0]) ∧ Mach w' b p.R.s x ∧ Up w.heap.size b x ∧ w.heap.size ≤ cb ∧ w.heap.size ≤ mb ∧
    w'.heap[cb]? = some (.cells (cRow b slb m p.R.arena p.R.used p.R.built (.map (some mb))) 93 (0, 0)) ∧ SeenIs w' mb n p.R.blocks ∧ Rising p.R.blocks ∧ Only (fun _ => False) w w'
def BlocksN (k : Int) (w : World) (e : Ending) (w' : World) : Prop := e = .returned (.tuple #[.pointer none, .pointer none, .int .i64 0, .int .i64 k]) ∧ Only (fun _ => False) w w'
theorem own_no {B : Nat} {w w' : World} (h : Only (Own B w) w w') (hB : w.heap.size ≤ B) : Only (fun _ => False) w w' := h.mono (fun k hk hs => by have := hs.1; omega)
/-- At the beginning of the run. -/
theorem first_out {p : Setup} (hp : p.Ok) (h : p.err true = 0) {B cb b slb mb m : Nat} (hm : p.slots = (m : Int)) {x : Raw} {w' : World} (hup : Up B b x) (hB : B ≤ cb ∧ B ≤ slb ∧ B ≤ mb) (hM : Mach w' b p.st { x with wrote := cloF cb })
    (hc : w'.heap[cb]? = some (.cells (cRow b slb m p.arena 0 0 (.map (some mb))) 93 (0, 0))) (hs : Slots w' slb (List.replicate m none)) (hn : SeenIs w' mb 0 []) :
    OutAt w' B cb b slb mb (p.rs true).fuel p.R p.fuel.toNat w' (p.rs true) { x with wrote := cloF cb } (List.replicate m none) 0 := by
  obtain ⟨hg, hb⟩ := Setup.good h
  have hb := hb rfl
  have hf := hg.f0
  have hsl : (p.rs true).slots = List.replicate m (0, 0) := by unfold Setup.rs; simp [hm]
  have hl : (p.rs true).slots.length = m := by rw [hsl, List.length_replicate]
  refine ⟨?_, rfl, Setup.head h hp, rfl, need_zero (by rw [hl]; omega) rfl, rfl, hM, rfl, hup, ⟨?_, hs, ?_, ?_, ?_, fun k hk => ?_, fun k e hk => absurd hk (rep_no _ _ _), hn, List.Pairwise.nil, hB⟩, Only.refl _ _, Int.le_refl 0⟩
  · show ((p.fuel.toNat : Nat) : Int) = p.fuel - 0
    omega
  · rw [List.length_replicate]
    exact hc
  · rw [List.length_replicate, hl]
  · rw [List.length_replicate]; omega
  · rw [List.length_replicate]; omega
  · rw [hsl]
    exact rep_zero hk
theorem up_new {B b : Nat} {x : Raw} (hb : B ≤ b) (hm : B ≤ x.mb) (he : x.evs = .slice none 0 0) : Up B b x := by
  rintro k (e | e | e)
  · omega
  · omega
  · rw [he] at e; cases e
theorem results_four {fn : Func} {p q r s : Tmp} (hres : fn.results = #[.tmp p, .tmp q, .tmp r, .tmp s]) (tmps : Array Value) (w : World) (v1 v2 v3 v4 : Value) (h1 : tmps.getD p undef = v1) (h2 : tmps.getD q undef = v2) (h3 : tmps.getD r undef = v3) (h4 : tmps.getD s undef = v4) :
    (results fn tmps).run Tryz.prog w = .ok (.tuple #[v1, v2, v3, v4]) w := by
  have h1' : tmps[p]?.getD undef = v1 := by simpa using h1
  have h2' : tmps[q]?.getD undef = v2 := by simpa using h2
  have h3' : tmps[r]?.getD undef = v3 := by simpa using h3
  have h4' : tmps[s]?.getD undef = v4 := by simpa using h4
  simp [results, hres, h1', h2', h3', h4']
/-- The world behind a setup's box. -/
def bw (p : Setup) (av : Value) (w : World) : World := w.alloc (.cells (p.cells av) 25)
theorem bw_only (p : Setup) (av : Value) (w : World) : Only (fun _ => False) w (bw p av w) := (Only.refl _ w).alloc _
theorem bw_box (p : Setup) (av : Value) (w : World) : (bw p av w).heap[w.heap.size]? = some (.cells (p.cells av) 25 (0, 0)) := heap_alloc_new w _
set_option maxRecDepth 100000 in
theorem blocks_new (p : Setup) (av : Value) (w : World) (k : Int) (hk : (k == 0) = false) (hnew : ∀ W, Calls Tryz.prog 28 #[.agg (p.cells av)] W (NewNo k W)) :
    Calls Tryz.prog 37 #[.agg (p.cells av)] w (BlocksN k w) := by
  unfold Setup.cells at *
  have HN := Lib.hid hnew
  have hk2 : (k != 0) = true := by simp only [bne, hk]; rfl
  clear hnew
  go_enter Tryz.func37, Tryz.ntmps37
  go_wp2_with fail
  obtain ⟨W0, hW0⟩ : ∃ W0, W0 = bw p av w := ⟨_, rfl⟩
  have hO0 : Only (fun _ => False) w W0 := hW0 ▸ bw_only p av w
  unfold bw Setup.cells at hW0
  rw [← hW0]
  clear hW0
  refine (HN.out W0).mono ?_
  rintro e w1 ⟨rfl, ho1⟩
  go_wp2_with fail
  refine bodyPost_ret (results_four Tryz.results37 _ _ _ _ _ _ (by rfl) (by rfl) (by rfl) (by rfl)) rfl ?_
  exact ⟨rfl, hO0.then ho1⟩
set_option maxRecDepth 100000 in
theorem blocks_cache (p : Setup) (hp : p.Ok) (hg : p.Good) (hC : p.badC = true) (ab : Nat) (av : Value) (w : World) (ha : TextsAt w ab av p.ans) (hab : ab < w.heap.size) :
    Calls Tryz.prog 37 #[.agg (p.cells av)] w (BlocksN 4 w) := by
  have hnew : ∀ W, Only (fun _ => False) w W → Calls Tryz.prog 28 #[.agg (p.cells av)] W (NewYes p W) := fun W h => new_good p hp hg ab av W (ha.only h (fun h => h)) (Nat.lt_of_lt_of_le hab h.size)
  have q6 := hp.slots
  have q7 := hp.arena
  unfold i64ok at q6 q7
  unfold Setup.badC at hC
  simp only [Bool.or_eq_true, decide_eq_true_eq] at hC
  have HC := Lib.hid hC
  unfold Setup.cells at *
  have HN := Lib.hid hnew
  clear hnew ha hC
  go_enter Tryz.func37, Tryz.ntmps37
  go_wp2_with fail
  obtain ⟨W0, hW0⟩ : ∃ W0, W0 = bw p av w := ⟨_, rfl⟩
  have hO0 : Only (fun _ => False) w W0 := hW0 ▸ bw_only p av w
  have hbx : W0.heap[w.heap.size]? = some (.cells (p.cells av) 25 (0, 0)) := hW0 ▸ bw_box p av w
  unfold bw Setup.cells at hW0
  rw [← hW0]
  clear hW0
  refine (HN.out W0 hO0).mono ?_
  rintro e w1 ⟨b, x, rfl, hM, hclo, hev, hb, hmb, ho1⟩
  have hbx1 := ho1.heap (fun h => h) hbx
  have c6 : w1.cell? ⟨w.heap.size, 6, none⟩ = some (.int .i64 p.slots) := cell_of_row w1 _ 6 _ _ _ hbx1
  have c7 : w1.cell? ⟨w.heap.size, 7, none⟩ = some (.int .i64 p.arena) := cell_of_row w1 _ 7 _ _ _ hbx1
  have HO := Lib.hid (hO0.then ho1)
  clear hM hclo hev hb hmb ho1 hbx hbx1 hO0
  by_cases h1 : p.slots < 1
  · go_wp2_with fail
    refine bodyPost_ret (results_four Tryz.results37 _ _ _ _ _ _ (by rfl) (by rfl) (by rfl) (by rfl)) rfl ?_
    exact ⟨rfl, HO.out⟩
  by_cases h2 : 64 < p.slots
  · go_wp2_with fail
    refine bodyPost_ret (results_four Tryz.results37 _ _ _ _ _ _ (by rfl) (by rfl) (by rfl) (by rfl)) rfl ?_
    exact ⟨rfl, HO.out⟩
  by_cases h3 : p.arena < 8
  · go_wp2_with fail
    refine bodyPost_ret (results_four Tryz.results37 _ _ _ _ _ _ (by rfl) (by rfl) (by rfl) (by rfl)) rfl ?_
    exact ⟨rfl, HO.out⟩
  by_cases h4 : 256 < p.arena
  · go_wp2_with fail
    refine bodyPost_ret (results_four Tryz.results37 _ _ _ _ _ _ (by rfl) (by rfl) (by rfl) (by rfl)) rfl ?_
    exact ⟨rfl, HO.out⟩
  exact absurd HC.out (by omega)
set_option maxRecDepth 100000 in
theorem blocks_good (p : Setup) (hp : p.Ok) (h : p.err true = 0) (ab : Nat) (av : Value) (w : World) (ha : TextsAt w ab av p.ans) (hab : ab < w.heap.size) (ht : Tab w) :
    Calls Tryz.prog 37 #[.agg (p.cells av)] w (BlocksG p w) := by
  obtain ⟨hg, hb4⟩ := Setup.good h
  obtain ⟨s0, s1, s2, s3⟩ := hb4 rfl
  have hnew : ∀ W, Only (fun _ => False) w W → Calls Tryz.prog 28 #[.agg (p.cells av)] W (NewYes p W) := fun W h => new_good p hp hg ab av W (ha.only h (fun h => h)) (Nat.lt_of_lt_of_le hab h.size)
  obtain ⟨m, hm⟩ : ∃ m : Nat, p.slots = (m : Int) := ⟨p.slots.toNat, by omega⟩
  have hpos : 0 < w.heap.size := block_lt_of_cell (ht 0 _ rfl)
  have f0 := hg.f0
  have f1 := hg.f1
  have HH := Lib.hid h
  have HP := Lib.hid hp
  have HM := Lib.hid hm
  have HT := Lib.hid ht
  unfold Setup.cells at *
  have HN := Lib.hid hnew
  clear hnew ha h hp hb4 hg hm
  go_enter Tryz.func37, Tryz.ntmps37
  go_wp2_with fail
  obtain ⟨W0, hW0⟩ : ∃ W0, W0 = bw p av w := ⟨_, rfl⟩
  have hO0 : Only (fun _ => False) w W0 := hW0 ▸ bw_only p av w
  have hbx : W0.heap[w.heap.size]? = some (.cells (p.cells av) 25 (0, 0)) := hW0 ▸ bw_box p av w
  have hsz0 : W0.heap.size = w.heap.size + 1 := by rw [hW0]; simp [bw]
  unfold bw Setup.cells at hW0
  rw [← hW0]
  have HS0 := Lib.hid hsz0
  clear hW0 hsz0
  refine (HN.out W0 hO0).mono ?_
  rintro e w1 ⟨b, x, rfl, hM, hclo, hev, hb, hmb, ho1⟩
  have hbx1 := ho1.heap (fun h => h) hbx
  have c6 : w1.cell? ⟨w.heap.size, 6, none⟩ = some (.int .i64 p.slots) := cell_of_row w1 _ 6 _ _ _ hbx1
  have c7 : w1.cell? ⟨w.heap.size, 7, none⟩ = some (.int .i64 p.arena) := cell_of_row w1 _ 7 _ _ _ hbx1
  have HB1 := Lib.hid hbx1
  have HO := Lib.hid (hO0.then ho1)
  have hz0 := hO0.size
  have hUp := up_new (Nat.le_trans hz0 hb) (Nat.le_trans hz0 hmb) hev
  have HU := Lib.hid hUp
  have HMM := Lib.hid hM
  clear hM hclo hev hbx hbx1 hO0 hUp
  go_wp2_with fail
  have em := HM.out
  rw [em]
  refine (cnew_any b p.st x m (by have := HM.out; omega) (by have := HM.out; omega) p.arena w1 HMM.out).mono ?_
  rintro e w2 ⟨cb, slb, mb, rfl, l1, l2, l3, hM2, hc2, hs2, hn2, ho2⟩
  have hz1 := HO.out.size
  have hfo := first_out HP.out HH.out HM.out HU.out (B := w.heap.size) (cb := cb) (slb := slb) (mb := mb) ⟨by omega, by omega, by omega⟩ hM2 hc2 hs2 hn2
  have hz2 := ho2.size
  have hnb : w.heap.size < b := by rw [HS0.out] at hb; omega
  have hbx2 := ho2.heap (fun e => by have : w.heap.size = b := e; omega) HB1.out
  have c5 : w2.cell? ⟨w.heap.size, 5, none⟩ = some (.int .i64 p.fuel) := cell_of_row w2 _ 5 _ _ _ hbx2
  have hOw2 : Only (fun _ => False) w w2 := (HO.out.mono (fun _ _ h => h) |>.trans ho2 (U := fun k => w.heap.size ≤ k) (fun _ _ h => h.elim) (fun k _ h => by have : k = b := h; omega)).mono (fun k hk h => by have : w.heap.size ≤ k := h; omega)
  have HFO := Lib.hid hfo
  have HW2 := Lib.hid hOw2
  clear hfo hM2 hc2 hs2 hn2 ho2 hbx2 hOw2 c6 c7
  go_wp2_with fail
  refine (cacherun_any w.heap.size cb b slb mb (p.rs true) w2 _ _ _ _ HFO.out (HT.out.only HW2.out (fun h => h)) HW2.out.size hpos).mono ?_
  rintro e w3 ⟨rfl, x2, n, m2, hM3, hu3, hc3, hn3, hr3, ho3⟩
  go_wp2_with fail
  refine bodyPost_ret (results_four Tryz.results37 _ _ _ _ _ _ (by rfl) (by rfl) (by rfl) (by rfl)) rfl ?_
  exact ⟨b, cb, slb, mb, n, m2, x2, rfl, hM3, hu3, by omega, by omega, hc3, hn3, hr3, own_no (Own.trans (Only.own HW2.out) ho3) (Nat.le_refl _)⟩
set_option maxRecDepth 100000 in
theorem run_err (p : Setup) (av : Value) (w : World) (k : Int) (hk : (k == 0) = false) (hbl : ∀ W, Only (fun _ => False) w W → Calls Tryz.prog 37 #[.agg (p.cells av)] W (BlocksN k W)) (o : Int) (s : St) (bu : Int) :
    Calls Tryz.prog 19 #[.agg (p.cells av)] w (AnsP k o s bu w) := by
  unfold Setup.cells at *
  have HN := Lib.hid hbl
  have hk2 : (k != 0) = true := by simp only [bne, hk]; rfl
  clear hbl
  go_enter Tryz.func19, Tryz.ntmps19
  go_wp2_with fail
  obtain ⟨W0, hW0⟩ : ∃ W0, W0 = iw p av w := ⟨_, rfl⟩
  have hO0 : Only (fun _ => False) w W0 := hW0 ▸ iw_only p av w
  have hg : W0.heap[w.heap.size + 1]? = some (.cells zeroRep 41 (0, 0)) := hW0 ▸ iw_rep p av w
  unfold iw Setup.cells zeroRep at hW0
  rw [← hW0]
  clear hW0
  refine (HN.out W0 hO0).mono ?_
  rintro e w1 ⟨rfl, ho1⟩
  have HG := Lib.hid (ho1.heap (fun h => h) hg)
  have HO := Lib.hid (hO0.then ho1)
  clear hg hO0 ho1
  go_wp2_with (first | ((refine wpList_build_run ?_ 41 #[] ?_ (vals := #[]) ?_ (build_zero _) ?_); (focus rfl); (focus rfl); (focus rfl)) | ((refine wpList_store_ex ?_ 41 (.tmp 2) (.tmp 18) ?_ (.pointer (some ⟨w.heap.size + 1, 0, none⟩)) (.agg zeroRep) ?_ ?_ (store_whole _ (w.heap.size + 1) 41 41 zeroRep zeroRep ?_ ?_ ?_ ?_) ?_); (focus rfl); (focus rfl); (focus rfl); (focus rfl); (focus (first | exact HG.out | exact heap_alloc_old' _ HG.out)); (focus rfl); (focus kernel_rfl); (focus exact zero_one); rintro w2 ⟨ho2, hg2⟩))
  refine bodyPost_ret (results_ans Tryz.results19 _ _ (w.heap.size + 1) _ (.int .i64 k) (by rfl) (by rfl) hg2 rfl) rfl ⟨?_, fun _ => rfl, fun h => ?_⟩
  · exact HO.out.trans ho2 (fun _ _ h => h) (fun j hj h => by have : j = w.heap.size + 1 := h; omega)
  · subst h
    exact absurd hk (by decide)
theorem rep_size' (o : Int) (s : St) (evs : Value) (bu : Int) : (Tryz.prog.info? 41).map (·.size) = some (repCells o s evs bu).toList.length := by kernel_rfl
theorem row_range' {w : World} {b : Nat} {C : Array Value} {T : TypeId} (h : w.heap[b]? = some (.cells C T (0, 0))) : w.rangeAt b 0 C.toList := by
  intro j v hj
  rw [Nat.zero_add, cell_of_row w b j _ _ _ h]
  simpa using hj
theorem evs_slice' {w : World} {v : Value} {n : Nat} {xs : List Value} (h : w.ownsRow 0 86 3 v n xs) : ∃ a l c, v = .slice a l c := by
  rcases h.2 with ⟨e, _⟩ | ⟨g, cap, _, e, _⟩
  · exact ⟨_, _, _, e⟩
  · exact ⟨_, _, _, e⟩
theorem rep_put (w : World) (g : Nat) (o : Int) (s : St) (evs : Value) (b0 b1 : Int) (h : w.heap[g]? = some (.cells (repCells o s evs b0) 41 (0, 0))) : (w.setCell ⟨g, 38, none⟩ (.int .i64 b1)).heap[g]? = some (.cells (repCells o s evs b1) 41 (0, 0)) := by
  rw [heap_setCell_same w g 38 _ _ _ h]
  rfl
set_option maxRecDepth 100000 in
theorem run_good (p : Setup) (hok : p.R.s.Ok) (av : Value) (w : World) (hbl : ∀ W, Only (fun _ => False) w W → Calls Tryz.prog 37 #[.agg (p.cells av)] W (BlocksG p W)) :
    Calls Tryz.prog 19 #[.agg (p.cells av)] w (AnsP 0 p.R.out p.R.s p.R.built w) := by
  unfold Setup.cells at *
  have HN := Lib.hid hbl
  clear hbl
  go_enter Tryz.func19, Tryz.ntmps19
  go_wp2_with fail
  obtain ⟨W0, hW0⟩ : ∃ W0, W0 = iw p av w := ⟨_, rfl⟩
  have hO0 : Only (fun _ => False) w W0 := hW0 ▸ iw_only p av w
  have hg : W0.heap[w.heap.size + 1]? = some (.cells zeroRep 41 (0, 0)) := hW0 ▸ iw_rep p av w
  have hsz : W0.heap.size = w.heap.size + 2 := hW0 ▸ iw_size p av w
  unfold iw Setup.cells zeroRep at hW0
  rw [← hW0]
  clear hW0
  refine (HN.out W0 hO0).mono ?_
  rintro e w1 ⟨b, cb, slb, mb, n, m, x, rfl, hM, hu, l1, l2, hc, hn, hr, ho1⟩
  obtain ⟨ea, el, ec, hev⟩ := evs_slice' hM.evs
  have c4 : w1.cell? ⟨cb, 4, none⟩ = some (.int .i64 p.R.built) := cell_of_row w1 _ 4 _ _ _ hc
  have HG := Lib.hid (ho1.heap (fun h => h) hg)
  have HO := Lib.hid (hO0.then ho1)
  have HM := Lib.hid hM
  have HC := Lib.hid hc
  have hu2 : ∀ g, x.evs.ownBlock = some g → w.heap.size + 2 ≤ g := fun g hg => by have := hu g (.inr (.inr hg)); omega
  have HU := Lib.hid hu2
  have hrep := report_any b p.R.out p.R.s hok x w1 hM
  generalize p.R.out = O at *
  generalize p.R.built = BU at *
  generalize p.R.s = S at *
  have hE := hM.evs
  rw [hev] at hE hrep
  have HR := Lib.hid hrep
  have HEV := Lib.hid hE
  have hu3 : ∀ g, (Value.slice ea el ec).ownBlock = some g → w.heap.size + 2 ≤ g := by rw [← hev]; exact HU.out
  have HU3 := Lib.hid hu3
  clear hM hc hn hr hg hO0 ho1 hrep hu hu2 hu3 HU hE hev
  go_wp2_with fail
  refine HR.out.mono ?_
  rintro e w2 ⟨rfl, ho2⟩
  have HG2 := Lib.hid (ho2.heap (fun h => h) HG.out)
  have HC2 := Lib.hid (ho2.heap (fun h => h) HC.out)
  have HE2 := Lib.hid (ownsRow_only HEV.out ho2 (fun _ _ h => h))
  have hz1 := HO.out.size
  have hz2 := ho2.size
  have HO2 := Lib.hid (HO.out.then ho2)
  have HN1 := Lib.hid (rep_one O S ea el ec 0)
  have HN2 := Lib.hid (rep_one O S ea el ec BU)
  have hcl := heap_lt HC2.out
  have hgl := heap_lt HG2.out
  clear ho2 c4
  go_wp2_with (first | ((refine wpList_store_ex ?_ 41 (.tmp 8) (.tmp 22) ?_ (.pointer (some ⟨w2.heap.size, 0, none⟩)) (.agg (repCells O S (.slice ea el ec) 0)) ?_ ?_ (store_whole _ w2.heap.size 41 41 zeroRep _ (heap_alloc_new w2 _) ?_ ?_ HN1.out) ?_); (focus rfl); (focus rfl); (focus rfl); (focus rfl); (focus rfl); (focus kernel_rfl); rintro w5 ⟨ho, hg5⟩; have hO5 := fresh_row ho; have hc5 := hO5.heap (fun h => h) HC2.out; have hG5 := Lib.hid (hO5.heap (fun h => h) HG2.out); have hE5 := Lib.hid (ownsRow_only HE2.out hO5 (fun _ _ h => h)); have HO5 := Lib.hid (HO2.out.then hO5); have d4 : w5.cell? ⟨cb, 4, none⟩ = some (.int .i64 BU) := cell_of_row w5 _ 4 _ _ _ hc5; have d38 : w5.cell? ⟨w2.heap.size, 38, none⟩ = some (.int .i64 0) := cell_of_row w5 _ 38 _ _ _ hg5; have z38 : w5.frozen? ⟨w2.heap.size, 38, none⟩ = false := frozen_of_row w5 _ 38 _ _ hg5; have HR6 := Lib.hid (row_range' (rep_put w5 w2.heap.size O S (.slice ea el ec) 0 BU hg5)); have hl5 := heap_lt hg5; clear ho hg5 hc5 hO5) | (refine wpList_load_mid rfl 41 (.tmp 8) rfl w2.heap.size 0 rfl (repCells O S (.slice ea el ec) BU).toList _ HR6.out Tryz.underlying41 rfl (rep_size' _ _ _ _) ?_) | ((refine wpList_store_ex ?_ 41 (.tmp 2) (.tmp 28) ?_ (.pointer (some ⟨w.heap.size + 1, 0, none⟩)) (.agg (repCells O S (.slice ea el ec) BU)) ?_ ?_ (store_whole _ (w.heap.size + 1) 41 41 zeroRep _ ?_ ?_ ?_ HN2.out) ?_); (focus rfl); (focus rfl); (focus rfl); (focus rfl); (focus (exact ((Only.refl (· = w2.heap.size) w5).set1 _ _).heap (by omega) hG5.out)); (focus rfl); (focus kernel_rfl); rintro w7 ⟨ho7, hg7⟩))
  have hgE : ∀ g, (Value.slice ea el ec).ownBlock = some g → g < w2.heap.size := fun g hg => by
    rcases HE2.out.2 with ⟨e, _⟩ | ⟨g', cap, cur, e, _, h', _⟩
    · rw [e] at hg; cases hg
    · rw [e] at hg
      simp only [Value.ownBlock, Option.some.injEq] at hg
      subst hg
      exact heap_lt h'
  have hS : Only (· = w2.heap.size) w5 (w5.setCell ⟨w2.heap.size, 38, none⟩ (.int .i64 BU)) := (Only.refl _ w5).set1 _ _
  refine bodyPost_ret (results_ans Tryz.results19 _ _ (w.heap.size + 1) _ (.int .i64 0) (by rfl) (by rfl) hg7 rfl) rfl ⟨?_, fun h => absurd rfl h, fun _ => ⟨.slice ea el ec, rfl, ?_⟩⟩
  · have h1 := HO5.out.trans hS (U := fun k => w.heap.size ≤ k) (fun _ _ h => h.elim) (fun k _ h => by have : k = w2.heap.size := h; omega)
    have h2 := h1.then (ho7.mono (fun k _ h => by have : k = w.heap.size + 1 := h; show w.heap.size ≤ k; omega))
    exact h2.mono (fun k hk h => by have : w.heap.size ≤ k := h; omega)
  · refine ownsRow_only (ownsRow_only hE5.out hS (fun g hg e => ?_)) ho7 (fun g hg e => ?_)
    · have := hgE g hg
      have : g = w2.heap.size := e
      omega
    · have := HU3.out g hg
      have : g = w.heap.size + 1 := e
      omega
theorem R_ok (p : Setup) (hp : p.Ok) (h : p.err true = 0) : p.R.ended = true ∧ p.R.s = (runS p.fuel p.fuel.toNat p.st).1 ∧ p.R.out = (runS p.fuel p.fuel.toNat p.st).2 := by
  have hh : (p.rs true).Head := Setup.head h hp
  have f0 := hh.ok.fuel.1
  change 0 ≤ p.fuel at f0
  exact runR_run p.fuel.toNat (p.rs true) rfl hh.ok.s (by show _ = p.fuel - 0; omega)
theorem err_casesB (p : Setup) : p.err true = 0 ∨ (p.err true = 1 ∧ p.badP = true) ∨ (p.err true = 2 ∧ p.badP = false ∧ p.badI = true) ∨ (p.err true = 3 ∧ p.badP = false ∧ p.badI = false ∧ p.badF = true) ∨ (p.err true = 4 ∧ p.err false = 0 ∧ p.badC = true) := by
  unfold Setup.err
  cases p.badP <;> cases p.badI <;> cases p.badF <;> cases p.badC <;> simp
/-- What 'blocks' comes to, whatever the setup. -/
theorem blocks_any (p : Setup) (hp : p.Ok) (ab : Nat) (av : Value) (w : World) (ha : TextsAt w ab av p.ans) (hab : ab < w.heap.size) (ht : Tab w) :
    Calls Tryz.prog 37 #[.agg (p.cells av)] w (fun e w' => (p.err true = 0 → BlocksG p w e w') ∧ (p.err true ≠ 0 → BlocksN (p.err true) w e w')) := by
  rcases err_casesB p with h | ⟨h, h1⟩ | ⟨h, h1, h2⟩ | ⟨h, h1, h2, h3⟩ | ⟨h, h1, h2⟩
  · exact (blocks_good p hp h ab av w ha hab ht).mono (fun e w' q => ⟨fun _ => q, fun hn => absurd h hn⟩)
  · rw [h]
    exact (blocks_new p av w 1 (by decide) (fun W => new_badP p hp av W h1)).mono (fun e w' q => ⟨fun hn => absurd hn (by decide), fun _ => q⟩)
  · rw [h]
    exact (blocks_new p av w 2 (by decide) (fun W => new_badI p hp av W h1 h2)).mono (fun e w' q => ⟨fun hn => absurd hn (by decide), fun _ => q⟩)
  · rw [h]
    exact (blocks_new p av w 3 (by decide) (fun W => new_badF p hp av W h1 h2 h3)).mono (fun e w' q => ⟨fun hn => absurd hn (by decide), fun _ => q⟩)
  · rw [h]
    exact (blocks_cache p hp (Setup.good h1).1 h2 ab av w ha hab).mono (fun e w' q => ⟨fun hn => absurd hn (by decide), fun _ => q⟩)
/-- Run, whatever the setup. -/
theorem run_any (p : Setup) (hp : p.Ok) (ab : Nat) (av : Value) (w : World) (ha : TextsAt w ab av p.ans) (hab : ab < w.heap.size) (ht : Tab w) :
    Calls Tryz.prog 19 #[.agg (p.cells av)] w (AnsP (p.err true) p.R.out p.R.s p.R.built w) := by
  have hb : ∀ W, Only (fun _ => False) w W → Calls Tryz.prog 37 #[.agg (p.cells av)] W (fun e w' => (p.err true = 0 → BlocksG p W e w') ∧ (p.err true ≠ 0 → BlocksN (p.err true) W e w')) := fun W hO => blocks_any p hp ab av W (ha.only hO (fun h => h)) (Nat.lt_of_lt_of_le hab hO.size) (ht.only hO (fun h => h))
  by_cases h : p.err true = 0
  · rw [h]
    refine run_good p ?_ av w (fun W hO => (hb W hO).mono (fun e w' q => q.1 h))
    rw [(R_ok p hp h).2.1]
    exact runS_ok _ _ _ (Setup.st_ok (Setup.good h).1 hp)
  · exact run_err p av w _ (by simpa using h) (fun W hO => (hb W hO).mono (fun e w' q => q.2 h)) _ _ _
end Go.Proofs.YtanccjaikocefaaGreatDoor
