/-
  The contract of the cache's run (Run$1): a run in blocks is the document's run. Conditions: the cache and the machine lie in memory; numbers are in their ranges; the table lies.
-/
import Derived.Test.YtanccjaikocefaaGreatDoorFind
import Derived.Test.YtanccjaikocefaaGreatDoorCacheR
import Derived.Test.YtanccjaikocefaaGreatDoorInterp
import Derived.Test.YtanccjaikocefaaGreatDoorReport
import Derived.WalkMore
namespace Go.Proofs.YtanccjaikocefaaGreatDoor
open Go.ChangeShapes Go.WideShapes Go.ChangeAt Go.RowKit Go.Maps
set_option linter.unusedVariables false

theorem CacheR.in {w : World} {B cb b slb mb n : Nat} {mem : List Int} {arena used built : Int} {slots : List (Int × Int)} {bl : List Blk} {l : CEs} (hlen : mem.length ≤ 512) (h : CacheR w B cb b slb mb n mem arena used built slots bl l) : CacheIn b cb slb w := by
  refine ⟨l, arena, used, built, .map (some mb), h.max, fun j e hj => ?_, (fun t h => by cases h), h.hc, h.sl⟩
  obtain ⟨q, _, hE⟩ := h.ent j e hj
  obtain ⟨g, cap, cur, hv, _⟩ := recs_form hE.recs hE.pos
  have := hE.fit
  exact ⟨hE.p0, by omega, _, _, _, hv⟩
/-- At the head of the outer loop. -/
structure OutAt (w : World) (B cb b slb mb : Nat) (fuel : Int) (R0 : RS) (k : Nat) (wr : World) (r : RS) (x : Raw) (l : CEs) (n : Nat) : Prop where
  hk : (k : Int) = fuel - r.s.steps
  fu : r.fuel = fuel
  head : r.Head
  go : r.ended = false
  need : r.need = true
  run : runR (k + 1) r = R0
  mach : Mach wr b r.s x
  clo : x.wrote = cloF cb
  up : Up B b x
  cache : CacheR wr B cb b slb mb n r.s.mem r.arena r.used r.built r.slots r.blocks l
  only : Only (Own B w) w wr
  hn : (n : Int) ≤ r.s.steps
/-- In a block: so many of its instructions are done. -/
structure InAt (w : World) (B cb b slb mb : Nat) (fuel : Int) (R0 : RS) (gk : Nat) (pc : Int) (P : List Ins) (e0 : CEnt) (j : Nat) (wr : World) (q : RS) (x : Raw) (l : CEs) (n K : Nat) : Prop where
  hk : (gk : Int) = fuel - q.s.steps + j
  fu : q.fuel = fuel
  head : q.Head
  go : q.ended = false
  blk : q.seek.InBlock pc P j
  run : ∀ k : Nat, (k : Int) = fuel - q.s.steps → runR (k + 1) q = R0
  first : q.s.steps < fuel ∨ q.seek = q
  mach : Mach wr b q.s x
  clo : x.wrote = cloF cb
  up : Up B b x
  cache : CacheR wr B cb b slb mb n q.s.mem q.seek.arena q.seek.used q.seek.built q.seek.slots q.seek.blocks l
  at_ : l[K]? = some (some e0)
  hpc : e0.pc = pc
  only : Only (Own B w) w wr
  hn : (n : Int) ≤ q.s.steps + 1
/-- What the run comes to. -/
def CEndP (B cb b slb mb : Nat) (R : RS) (w w' : World) : Prop := ∃ x2 n m, Mach w' b R.s x2 ∧ Up B b x2 ∧ w'.heap[cb]? = some (.cells (cRow b slb m R.arena R.used R.built (.map (some mb))) 93 (0, 0)) ∧ SeenIs w' mb n R.blocks ∧ Rising R.blocks ∧ Only (Own B w) w w'
def CRunP (B cb b slb mb : Nat) (R : RS) (w : World) (e : Ending) (w' : World) : Prop := CEndP B cb b slb mb R w w' ∧ ((e = .returned (.tuple #[]) ∧ R.out = 0) ∨ e = trapE R.out)
theorem OutAt.fin {w : World} {B cb b slb mb : Nat} {fuel : Int} {R0 : RS} {k : Nat} {wr : World} {r : RS} {x : Raw} {l : CEs} {n : Nat} (h : OutAt w B cb b slb mb fuel R0 k wr r x l n) {w' : World} (ho : Only (fun _ => False) wr w') {o : Int} (hR : R0 = r.end_ o) : CEndP B cb b slb mb R0 w w' := by
  subst hR
  exact ⟨x, n, _, h.mach.no ho, h.up, ho.heap (fun h => h) h.cache.hc, h.cache.map.only ho (fun h => h), h.cache.rising, h.only.then ho.no⟩
theorem Only.own {B : Nat} {w w' : World} (h : Only (fun _ => False) w w') : Only (Own B w) w w' := h.no
/-- A cell of a type that is neither the machine's nor the cache's is as it was. -/
theorem own_cell {B : Nat} {w w' : World} (ho : Only (Own B w) w w') {k o : Nat} {cs : Array Value} {T : TypeId} {fr : Nat × Nat} (hk : w.heap[k]? = some (.cells cs T fr)) (hT : ¬ (MTy T ∨ CT T)) : w'.heap[k]? = some (.cells cs T fr) := ho.heap (own_not hk hT) hk
theorem fresh_row {w w' : World} {o : Obj} (h : Only (· = w.heap.size) (w.alloc o) w') : Only (fun _ => False) w w' := by
  have h1 : Only (fun k => w.heap.size ≤ k) w w' := ((Only.refl _ w).alloc o).then (h.mono (fun k _ e => by omega))
  exact h1.mono (fun k hk hs => absurd hk (by omega))
theorem rec_one (F : Nat) (a b c d e : Int) : ∀ v ∈ (#[.func (.func F) #[] #[], .int .i64 a, .int .i64 b, .int .i64 c, .int .i64 d, .int .i32 e] : Array Value), v.oneCell' = true := by
  intro v hv
  simp only [List.mem_toArray, List.mem_cons, List.not_mem_nil, or_false] at hv
  rcases hv with rfl | rfl | rfl | rfl | rfl | rfl <;> rfl
theorem gone_no {wr : Option (Int × Int)} {e : CEnt} (h : goneBy wr e = false) : ∀ f t, wr = some (f, t) → inPages e.pc f t = false := by
  rintro f t rfl
  exact h
theorem gone_yes {wr : Option (Int × Int)} {e : CEnt} (h : goneBy wr e = true) : ∃ f t, wr = some (f, t) ∧ inPages e.pc f t = true := by
  cases wr with
  | none => cases h
  | some p => exact ⟨p.1, p.2, rfl, h⟩
theorem drop_at {wr : Option (Int × Int)} {e : CEnt} {l : CEs} {K : Nat} (hg : goneBy wr e = false) (h : l[K]? = some (some e)) : (dropBy wr l)[K]? = some (some e) := by
  cases wr with
  | none => exact h
  | some p =>
    obtain ⟨f, t⟩ := p
    show (l.map (drop1 f t))[K]? = _
    rw [List.getElem?_map, h]
    simp only [Option.map_some, drop1_some]
    have : inPages e.pc f t = false := hg
    rw [this]
    rfl
/-- Behind an instruction within a block. -/
theorem InAt.after {w : World} {B cb b slb mb : Nat} {fuel : Int} {R0 : RS} {gk : Nat} {pc : Int} {P : List Ins} {e0 : CEnt} {j : Nat} {wr : World} {q : RS} {x : Raw} {l : CEs} {n K : Nat} (h : InAt w B cb b slb mb fuel R0 gk pc P e0 j wr q x l n K)
    {i : Ins} (hi : P[j]? = some i) (hlt : q.s.steps < fuel) {s' : St} {next : Int} {wr2 : Option (Int × Int)} (hx : exec q.s i = .go s' next wr2) {W w2 : World} {x3 : Raw} (hW : Only (fun _ => False) wr W) (hBr : B ≤ wr.heap.size) (hM3 : Mach w2 b (s'.step next) x3) (hK3 : Keep W x x3) (hE3 : Eff (effC slb) b x wr2 W w2) :
    w2.heap[e0.g]? = some (.cells (blkRow e0 (goneBy wr2 e0)) 134 (0, 0)) ∧
    (goneBy wr2 e0 = true → ∃ m, m < gk ∧ OutAt w B cb b slb mb fuel R0 m w2 (q.seek.act i) x3 (dropBy wr2 l) n) ∧
    (goneBy wr2 e0 = false → j + 1 < P.length → InAt w B cb b slb mb fuel R0 gk pc P e0 (j + 1) w2 (q.seek.act i) x3 (dropBy wr2 l) n K) ∧
    (goneBy wr2 e0 = false → j + 1 = P.length → ∃ m, m < gk ∧ OutAt w B cb b slb mb fuel R0 m w2 (q.seek.act i) x3 (dropBy wr2 l) n) := by
  have hsk := seek_s q
  have hs := h.head.ok.s
  have hfe : fetch q.s = .inr i := by
    have := block_word h.blk (by rw [hsk.1]; exact hs) hi
    rwa [hsk.1] at this
  have hiOk := fetch_ok hs hfe
  have hCW := h.cache.only hW (fun _ _ h => h)
  obtain ⟨hC2, hrows, hO2⟩ := CacheR.step hCW (h.mach.no hW) hs hiOk hx hE3
  have hnf : ¬ q.fuel ≤ q.s.steps := by rw [h.fu]; omega
  have hst := step_act hnf hfe
  have hact := act_go hx
  have hended : q.step.ended = false := by rw [hst, hact]; exact hsk.2.2.1.trans h.go
  obtain ⟨hhead, hsteps⟩ := step_go h.go h.head hended
  have hB := block_after h.blk hs h.head.ok.mem64 hi hx
  have hfu : (q.seek.act i).fuel = fuel := by rw [hact]; exact hsk.2.1.trans h.fu
  rw [hst] at hhead hsteps hended
  have hstok := hhead.ok.steps
  rw [hfu] at hstok
  have hrun : ∀ k : Nat, (k : Int) = fuel - (q.seek.act i).s.steps → runR (k + 1) (q.seek.act i) = R0 := by
    intro k hk
    have := h.run (k + 1) (by omega)
    rw [runR_step (k + 1) h.go, hst] at this
    exact this
  have hup : Up B b x3 := h.up.keep hK3 (Nat.le_trans hBr hW.size)
  have hclo : x3.wrote = cloF cb := hK3.2.2.1.trans h.clo
  have honly : Only (Own B w) w w2 := by
    refine Own.trans (Own.trans h.only (Only.own hW)) (hO2.mono (fun k _ hk => ?_))
    rcases hk with hk | hk
    · exact own_mach (h.mach.no hW) h.up hk
    · exact hCW.own (.inr (.inr hk))
  have hcache : CacheR w2 B cb b slb mb n (q.seek.act i).s.mem (q.seek.act i).arena (q.seek.act i).used (q.seek.act i).built (q.seek.act i).slots (q.seek.act i).blocks (dropBy wr2 l) := by
    rw [hact]
    exact hC2
  have hmach : Mach w2 b (q.seek.act i).s x3 := by rw [hact]; exact hM3
  have hn' : (n : Int) ≤ (q.seek.act i).s.steps := by rw [hsteps]; exact h.hn
  have hout : (q.seek.act i).need = true → ∃ m, m < gk ∧ OutAt w B cb b slb mb fuel R0 m w2 (q.seek.act i) x3 (dropBy wr2 l) n := by
    intro hneed
    obtain ⟨m, hm⟩ : ∃ m : Nat, (m : Int) = fuel - (q.seek.act i).s.steps := ⟨(fuel - (q.seek.act i).s.steps).toNat, by omega⟩
    have hk := h.hk
    exact ⟨m, by omega, hm, hfu, hhead, hended, hneed, hrun m hm, hmach, hclo, hup, hcache, honly, hn'⟩
  have hpc := h.hpc
  refine ⟨(hrows K e0 h.at_).1, fun hg => hout ?_, fun hg hj => ?_, fun hg hj => hout ?_⟩
  · have := gone_yes hg
    rw [hpc] at this
    exact hB.2.1 this
  · have hno := gone_no hg
    rw [hpc] at hno
    obtain ⟨hin, hseek⟩ := hB.2.2 hno hj
    have hk := h.hk
    refine ⟨by rw [hsteps]; omega, hfu, hhead, hended, by rw [hseek]; exact hin, hrun, .inr hseek, hmach, hclo, hup, by rw [hseek]; exact hcache, drop_at hg h.at_, hpc, honly, by omega⟩
  · have hno := gone_no hg
    rw [hpc] at hno
    exact hB.1 hno hj
/-- A trap within a block. -/
theorem InAt.lies {w : World} {B cb b slb mb : Nat} {fuel : Int} {R0 : RS} {gk : Nat} {pc : Int} {P : List Ins} {e0 : CEnt} {j : Nat} {wr : World} {q : RS} {x : Raw} {l : CEs} {n K : Nat} (h : InAt w B cb b slb mb fuel R0 gk pc P e0 j wr q x l n K)
    {i : Ins} (hi : P[j]? = some i) (hlt : q.s.steps < fuel) {s' : St} {o : Int} (hx : exec q.s i = .trap s' o) {W w2 : World} {x3 : Raw} (hW : Only (fun _ => False) wr W) (hBr : B ≤ wr.heap.size) (hM3 : Mach w2 b s' x3) (hK3 : Keep W x x3) (hO3 : Only (Mb b x) W w2) :
    CEndP B cb b slb mb R0 w w2 ∧ R0.out = o := by
  have hsk := seek_s q
  have hs := h.head.ok.s
  have hfe : fetch q.s = .inr i := by
    have := block_word h.blk (by rw [hsk.1]; exact hs) hi
    rwa [hsk.1] at this
  have hnf : ¬ q.fuel ≤ q.s.steps := by rw [h.fu]; omega
  have hCW := h.cache.only hW (fun _ _ h => h)
  have hC2 := hCW.only hO3 (fun k hk => hCW.notMb (h.mach.no hW) hk)
  have hst := h.head.ok.steps
  rw [h.fu] at hst
  obtain ⟨m, hm⟩ : ∃ m : Nat, (m : Int) = fuel - q.s.steps := ⟨(fuel - q.s.steps).toNat, by omega⟩
  have hR := h.run m hm
  rw [runR_lies m h.go hnf hfe hx] at hR
  subst hR
  exact ⟨⟨x3, n, _, hM3, h.up.keep hK3 (Nat.le_trans hBr hW.size), hC2.hc, hC2.map, hC2.rising, Own.trans (Own.trans h.only (Only.own hW)) (hO3.mono (fun k _ hk => own_mach (h.mach.no hW) h.up hk))⟩, rfl⟩
/-- The fuel is out within a block. -/
theorem InAt.dry {w : World} {B cb b slb mb : Nat} {fuel : Int} {R0 : RS} {gk : Nat} {pc : Int} {P : List Ins} {e0 : CEnt} {j : Nat} {wr : World} {q : RS} {x : Raw} {l : CEs} {n K : Nat} (h : InAt w B cb b slb mb fuel R0 gk pc P e0 j wr q x l n K)
    (he : q.s.steps = fuel) {W : World} (hW : Only (fun _ => False) wr W) : CEndP B cb b slb mb R0 w W ∧ R0.out = 0 := by
  have hsk : q.seek = q := h.first.resolve_left (by omega)
  have hR := h.run 0 (by omega)
  rw [runR_fuel 0 h.go (by rw [h.fu]; omega)] at hR
  subst hR
  have hC := h.cache.only hW (fun _ _ h => h)
  rw [hsk] at hC
  exact ⟨⟨x, n, _, h.mach.no hW, h.up, hC.hc, hC.map, hC.rising, Own.trans h.only (Only.own hW)⟩, rfl⟩
theorem rec_get : ∀ (P : List Ins) (j : Nat) (i : Ins), P[j]? = some i → ∀ t v, [findV i.op, .int .i64 i.op, .int .i64 i.rd, .int .i64 i.rs1, .int .i64 i.rs2, .int .i32 i.imm][t]? = some v → (recCells P)[j * 6 + t]? = some v := by
  intro P
  induction P with
  | nil => intro j i h; cases h
  | cons p P ih =>
    intro j i h t v ht
    have e : recCells (p :: P) = [findV p.op, .int .i64 p.op, .int .i64 p.rd, .int .i64 p.rs1, .int .i64 p.rs2, .int .i32 p.imm] ++ recCells P := by simp [recCells, Ins.cells]
    rw [e]
    cases j with
    | zero =>
      simp only [List.getElem?_cons_zero, Option.some.injEq] at h
      subst h
      have ht6 := (List.getElem?_eq_some_iff.1 ht).1
      rw [Nat.zero_mul, Nat.zero_add, List.getElem?_append_left ht6]
      exact ht
    | succ j =>
      rw [List.getElem?_cons_succ] at h
      rw [List.getElem?_append_right (by simp; omega)]
      have := ih j i h t v ht
      simpa [show (j + 1) * 6 + t - 6 = j * 6 + t by omega] using this
set_option maxRecDepth 100000 in
set_option maxHeartbeats 8000000 in
theorem crun_any (B cb b slb mb cp fp : Nat) (r : RS) (w : World) (x : Raw) (l : CEs) (n n0 : Nat) (h0 : OutAt w B cb b slb mb r.fuel (runR (n0 + 1) r) n0 w r x l n) (ht : Tab w) (hB : B ≤ w.heap.size) (htB : 0 < B)
    (hcp : w.heap[cp]? = some (.cells #[.pointer (some ⟨cb, 0, none⟩)] 87 (0, 0))) (hfp : w.heap[fp]? = some (.cells #[.int .i64 r.fuel] 3 (0, 0))) :
    Calls Tryz.prog 81 #[.pointer (some ⟨cp, 0, none⟩), .pointer (some ⟨fp, 0, none⟩)] w (CRunP B cb b slb mb (runR (n0 + 1) r) w) := by
  have hf0 := h0.head.ok.fuel
  have H0 := Lib.hid h0
  generalize hfu : r.fuel = fuel at *
  generalize hR0 : runR (n0 + 1) r = R0 at *
  clear h0 hR0
  have HT := Lib.hid ht
  have HCP := Lib.hid hcp
  have HFP := Lib.hid hfp
  clear ht hcp hfp
  go_enter Tryz.func81, Tryz.ntmps81
  go_wp2_with fail
  go_step3
  go_wp2_with fail
  go_step3
  go_wp2_with fail
  go_loopg [] n0 (fun k wr => ∃ r1 x1 l1 n1, OutAt w B cb b slb mb fuel R0 k wr r1 x1 l1 n1)
  case atStart => exact ⟨r, x, l, n, H0.out⟩
  case round =>
    obtain ⟨r1, x1, l1, n1, hO⟩ := hrel
    have hcp1 := hO.only.heap (own_not HCP.out (by unfold MTy CT; decide)) HCP.out
    have hfp1 := hO.only.heap (own_not HFP.out (by unfold MTy CT; decide)) HFP.out
    have ht1 : Tab wr := HT.out.only hO.only (fun h => absurd h.1 (by omega))
    have m0 : wr.cell? ⟨cp, 0, none⟩ = some (.pointer (some ⟨cb, 0, none⟩)) := cell_of_row wr _ 0 _ _ _ hcp1
    have f0 : wr.cell? ⟨fp, 0, none⟩ = some (.int .i64 fuel) := cell_of_row wr _ 0 _ _ _ hfp1
    have c0 : wr.cell? ⟨cb, 0, none⟩ = some (.pointer (some ⟨b, 0, none⟩)) := cell_of_row wr _ 0 _ _ _ hO.cache.hc
    have st := hO.mach.mac.steps
    have pcc := hO.mach.mac.pc
    have HO := Lib.hid hO
    have HT1 := Lib.hid ht1
    clear hO ht1 hcp1 hfp1
    by_cases hlt : r1.s.steps < fuel
    · go_wp2_with fail
      go_quiet (fail)
      go_wp2_with fail
      have hn1 := HO.out.hn
      have hfuel := HO.out.head.ok.fuel
      rw [HO.out.fu] at hfuel
      have hBr : B ≤ wr.heap.size := Nat.le_trans hB HO.out.only.size
      have hfi := fun W (hW : Only (fun _ => False) wr W) => cfind_any B cb b slb mb n1 (by omega) r1 HO.out.head l1 x1 W (HO.out.mach.no hW) (HT1.out.only hW (fun h => h)) (HO.out.cache.only hW (fun _ _ h => h)) (Nat.le_trans hBr hW.size)
      have HFI := Lib.hid hfi
      have HBR := Lib.hid hBr
      have HFU := Lib.hid hfuel
      clear hfi hBr hn1 hfuel
      refine wp_region_still_tail 8 (by kernel_rfl) (by kernel_rfl) ?_
      simp only [List.take_succ_cons, List.take_zero, List.drop_succ_cons, List.drop_zero]
      change wpStill _ _ (World.drew _) _ _ _
      repeat still_step
      refine wpStill_nil ?_
      change wpList _ _ _ _ _ (World.drew _)
      go_wp2_with fail
      refine (HFI.out _ (((Only.refl _ wr).drewN _).drew)).mono ?_
      intro e w1 hq
      have hlt' : ¬ r1.fuel ≤ r1.s.steps := by rw [HO.out.fu]; omega
      have ho0 : Only (fun _ => False) wr ((wr.drewN nq).drew) := ((Only.refl _ wr).drewN _).drew
      cases hf : fetch r1.s with
      | inl o =>
        rw [hf] at hq
        obtain ⟨rfl, ho1⟩ := hq
        have hRe : R0 = r1.end_ o := by rw [← HO.out.run]; exact runR_trap gk HO.out.go hlt' hf
        exact ⟨rfl, HO.out.fin (ho0.then ho1) hRe, .inr (by rw [hRe]; rfl)⟩
      | inr i0 =>
        rw [hf] at hq
        obtain ⟨l2, K, e0, rfl, hlk, hpc0, hcur, hat, hC2, hM2, ho2⟩ := hq
        obtain ⟨p4, pf, hd⟩ := fetch_word hf
        have hsk : r1.seek = r1.find := by unfold RS.seek; rw [HO.out.need]; rfl
        have hfs := find_s r1
        have hpc := HO.out.head.ok.s.pc
        have hin : InAt w B cb b slb mb fuel R0 gk r1.s.pc (blockIns r1.s.mem r1.s.pc 8) e0 0 w1 r1 x1 l2 (n1 + 1) K := by
          refine ⟨by have := HO.out.hk; omega, HO.out.fu, HO.out.head, HO.out.go, ?_, fun k hk => ?_, .inl hlt, hM2, HO.out.clo, HO.out.up, ?_, hlk, hpc0, Own.trans (Own.trans HO.out.only (Only.own ho0)) ho2, by have := HO.out.hn; omega⟩
          · rw [hsk]
            refine ⟨hcur, hat, by rw [hfs.1]; simp, by rw [hfs.1], hpc.1, p4, block_pos hd, by rw [hfs.1]; simpa using pf, ?_⟩
            rw [hfs.2.2.2.2, ← HO.out.cache.len]
            exact HO.out.cache.pos
          · have hkg : k = gk := by have := HO.out.hk; omega
            subst hkg
            exact HO.out.run
          · rw [hsk]
            rw [hfs.1] at hC2
            exact hC2
        obtain ⟨q0, hq0, hE0⟩ := hin.cache.ent K e0 hin.at_
        obtain ⟨g', cap, cur', hv, hgB, _, hcap⟩ := recs_form hE0.recs hE0.pos
        have hrow0 := hin.cache.sl.blk K e0 hin.at_
        have hE0r := hE0.recs
        obtain ⟨eg, epc, erc⟩ := e0
        dsimp only at hv hpc0
        subst hv
        subst hpc0
        have b1 : w1.cell? ⟨eg, 1, none⟩ = some (.slice (some ⟨g', 0, none⟩) (blockIns r1.s.mem r1.s.pc 8).length cap) := cell_of_row w1 _ 1 _ _ _ hrow0
        have hPle := blockIns_len r1.s.mem 8 r1.s.pc
        have hPpos : 0 < (blockIns r1.s.mem r1.s.pc 8).length := hE0.pos
        have HIN := Lib.hid hin
        have HOWN := Lib.hid hE0r
        generalize hP : blockIns r1.s.mem r1.s.pc 8 = P at *
        generalize hRV : r1.s.pc = pc at *
        clear hP hRV
        clear hin hE0r hE0 hq0 hrow0 hC2 hM2 ho2 hcur hat hsk hfs hpc p4 pf hd hf hlt' st pcc m0 f0 c0 ho0 HFI hlk hgB hcap
        go_wp2_with fail
        go_loopw [28] (fun iv wx => ∃ j : Nat, iv = .int .i64 j ∧ j ≤ P.length ∧ ((j < P.length ∧ ∃ q x2 l3 n3, InAt w B cb b slb mb fuel R0 gk pc P ⟨eg, pc, .slice (some ⟨g', 0, none⟩) P.length cap⟩ j wx q x2 l3 n3 K) ∨ (j = P.length ∧ ∃ m r2 x2 l3 n3, m < gk ∧ OutAt w B cb b slb mb fuel R0 m wx r2 x2 l3 n3))) (fun iv _ => P.length - (intOf iv).toNat)
        case atStart => exact ⟨0, rfl, Nat.zero_le _, .inl ⟨hPpos, _, _, _, _, HIN.out⟩⟩
        case round =>
          obtain ⟨j, rfl, hjle, hor⟩ := hrel
          rcases hor with ⟨hj, q, x2, l3, n3, hI⟩ | ⟨hj, m, r2, x2, l3, n3, hm, hO2⟩
          · have hcp1 := hI.only.heap (own_not HCP.out (by unfold MTy CT; decide)) HCP.out
            have hfp1 := hI.only.heap (own_not HFP.out (by unfold MTy CT; decide)) HFP.out
            have m0 : wr.cell? ⟨cp, 0, none⟩ = some (.pointer (some ⟨cb, 0, none⟩)) := cell_of_row wr _ 0 _ _ _ hcp1
            have f0 : wr.cell? ⟨fp, 0, none⟩ = some (.int .i64 fuel) := cell_of_row wr _ 0 _ _ _ hfp1
            have c0 : wr.cell? ⟨cb, 0, none⟩ = some (.pointer (some ⟨b, 0, none⟩)) := cell_of_row wr _ 0 _ _ _ hI.cache.hc
            have st := hI.mach.mac.steps
            have hbz := hI.mach.mac.lt
            have hcz := heap_lt hI.cache.hc
            have hmz := heap_lt hcp1
            have hfz := heap_lt hfp1
            obtain ⟨i, hi⟩ : ∃ i, P[j]? = some i := ⟨_, List.getElem?_eq_getElem hj⟩
            have hfe : fetch q.s = .inr i := by
              have := block_word hI.blk (by rw [(seek_s q).1]; exact hI.head.ok.s) hi
              rwa [(seek_s q).1] at this
            have hiOk := fetch_ok hI.head.ok.s hfe
            have hins : blockIns q.s.mem pc 8 = P := by
              have := hI.blk.ins
              rwa [(seek_s q).1] at this
            obtain ⟨q0, hq0, hE0⟩ := hI.cache.ent K _ hI.at_
            have hrecs : RecsAt wr B (.slice (some ⟨g', 0, none⟩) P.length cap) P := by
              have := hE0.recs
              rwa [hins] at this
            have hrow := hI.cache.sl.blk K _ hI.at_
            have hegz := heap_lt hrow
            have cell : ∀ t v, [findV i.op, .int .i64 i.op, .int .i64 i.rd, .int .i64 i.rs1, .int .i64 i.rs2, .int .i32 i.imm][t]? = some v → wr.cell? ⟨g', j * 6 + t, none⟩ = some v := fun t v ht => by
              have := hrecs.cells (g := g') rfl (j * 6 + t) v (rec_get P j i hi t v ht)
              rw [Addr.add_mid, Nat.zero_add] at this
              exact this
            obtain ⟨F, hF⟩ := findV_form i.op
            have d0 : wr.cell? ⟨g', j * 6, none⟩ = some (.func (.func F) #[] #[]) := by rw [← hF]; exact cell 0 _ rfl
            have d1 : wr.cell? ⟨g', j * 6 + 1, none⟩ = some (.int .i64 i.op) := cell 1 _ rfl
            have d2 : wr.cell? ⟨g', j * 6 + 2, none⟩ = some (.int .i64 i.rd) := cell 2 _ rfl
            have d3 : wr.cell? ⟨g', j * 6 + 3, none⟩ = some (.int .i64 i.rs1) := cell 3 _ rfl
            have d4 : wr.cell? ⟨g', j * 6 + 4, none⟩ = some (.int .i64 i.rs2) := cell 4 _ rfl
            have d5 : wr.cell? ⟨g', j * 6 + 5, none⟩ = some (.int .i32 i.imm) := cell 5 _ rfl
            have hst0 := hI.head.ok.steps
            have hfu0 := hI.head.ok.fuel
            have hev0 := hI.head.ok.evs
            have hBr : B ≤ wr.heap.size := Nat.le_trans hB hI.only.size
            have hdo := fun W (hW : Only (fun _ => False) wr W) => do_any (effC slb) b (cloF cb) (CacheIn b cb slb) (write_cache b cb slb) (cache_stable b cb slb) i hiOk q.s hI.head.ok.s (by omega) hst0.1 (by omega) x2 hI.clo W (hI.mach.no hW) ((hI.cache.only hW (fun _ _ h => h)).in hI.head.ok.s.len)
            rw [hF] at hdo
            unfold Ins.cells at hdo
            have HI := Lib.hid hI
            have HDO := Lib.hid hdo
            have HI2 := Lib.hid hi
            have HBR2 := Lib.hid hBr
            clear hI hdo hi hrecs hrow cell hF hcp1 hfp1 hfe hins hq0 hE0 hst0 hfu0 hev0 hBr hiOk
            go_wp2_with (((refine wpList_store_ex ?_ 136 (.tmp 4) (.tmp 31) ?_ (.pointer (some ⟨wr.heap.size, 0, none⟩)) (.agg #[.func (.func F) #[] #[], .int .i64 i.op, .int .i64 i.rd, .int .i64 i.rs1, .int .i64 i.rs2, .int .i32 i.imm]) ?_ ?_ (store_whole _ wr.heap.size 136 136 _ _ (heap_alloc_new wr _) ?_ ?_ (rec_one _ _ _ _ _ _)) ?_); (focus rfl); (focus rfl); (focus rfl); (focus rfl); (focus rfl); (focus kernel_rfl); rintro w3 ⟨ho, hg⟩; have HO3 := Lib.hid (fresh_row ho); have HG3 := Lib.hid hg; clear ho hg))
            have m3 : w3.cell? ⟨cp, 0, none⟩ = some (.pointer (some ⟨cb, 0, none⟩)) := HO3.out.cell (fun h => h) m0
            have f3 : w3.cell? ⟨fp, 0, none⟩ = some (.int .i64 fuel) := HO3.out.cell (fun h => h) f0
            have c3 : w3.cell? ⟨cb, 0, none⟩ = some (.pointer (some ⟨b, 0, none⟩)) := HO3.out.cell (fun h => h) c0
            have st3 : w3.cell? ⟨b, 34, none⟩ = some (.int .i64 q.s.steps) := HO3.out.cell (fun h => h) st
            have e0 : w3.cell? ⟨wr.heap.size, 0, none⟩ = some (.func (.func F) #[] #[]) := cell_of_row w3 _ 0 _ _ _ HG3.out
            have e1 : w3.cell? ⟨wr.heap.size, 1, none⟩ = some (.int .i64 i.op) := cell_of_row w3 _ 1 _ _ _ HG3.out
            have e2 : w3.cell? ⟨wr.heap.size, 2, none⟩ = some (.int .i64 i.rd) := cell_of_row w3 _ 2 _ _ _ HG3.out
            have e3 : w3.cell? ⟨wr.heap.size, 3, none⟩ = some (.int .i64 i.rs1) := cell_of_row w3 _ 3 _ _ _ HG3.out
            have e4 : w3.cell? ⟨wr.heap.size, 4, none⟩ = some (.int .i64 i.rs2) := cell_of_row w3 _ 4 _ _ _ HG3.out
            have e5 : w3.cell? ⟨wr.heap.size, 5, none⟩ = some (.int .i32 i.imm) := cell_of_row w3 _ 5 _ _ _ HG3.out
            clear m0 f0 c0 st d0 d1 d2 d3 d4 d5
            by_cases hfe : q.s.steps = fuel
            · have hfb : (q.s.steps == fuel) = true := by simpa using hfe
              have HFE := Lib.hid hfe
              clear hfe
              go_quiet (fail)
              go_wp2_with fail
              go_end0
              obtain ⟨hC, ho⟩ := HI.out.dry HFE.out (HO3.out.then ((Only.refl _ w3).drewN _))
              exact ⟨hC, .inl ⟨rfl, ho⟩⟩
            · have hfb : (q.s.steps == fuel) = false := by simpa using hfe
              have HFE := Lib.hid hfe
              clear hfe
              go_quiet (fail)
              go_wp2_with fail
              refine wp_region_still_tail 8 (by kernel_rfl) (by kernel_rfl) ?_
              simp only [List.take_succ_cons, List.take_zero, List.drop_succ_cons, List.drop_zero]
              change wpStill _ _ (World.drew _) _ _ _
              repeat still_step
              refine wpStill_nil ?_
              change wpList _ _ _ _ _ (World.drew _)
              go_wp2_with fail
              have hW := HO3.out.then (((Only.refl _ w3).drewN nq).drew)
              refine (HDO.out _ hW).mono ?_
              intro e w4 hq
              have hlt2 : q.s.steps < fuel := by
                have h1 := HI.out.head.ok.steps
                rw [HI.out.fu] at h1
                have := HFE.out
                omega
              unfold StepQ at hq
              cases hX : exec q.s i with
              | trap s' o =>
                rw [hX] at hq
                obtain ⟨rfl, x3, hM3, hK3, hO3⟩ := hq
                obtain ⟨hC, ho⟩ := HI.out.lies HI2.out hlt2 hX hW HBR2.out hM3 hK3 hO3
                exact ⟨rfl, hC, .inr (by rw [ho])⟩
              | go s' next wr2 =>
                rw [hX] at hq
                obtain ⟨rfl, x3, hM3, hK3, hE3⟩ := hq
                obtain ⟨hgrow, hgone, hnext, hlast⟩ := HI.out.after HI2.out hlt2 hX hW HBR2.out hM3 hK3 hE3
                have hgc : w4.cell? ⟨eg, 2, none⟩ = some (.bool (goneBy wr2 ⟨eg, pc, .slice (some ⟨g', 0, none⟩) P.length cap⟩)) := cell_of_row w4 _ 2 _ _ _ hgrow
                have HNX := Lib.hid hnext
                have HLA := Lib.hid hlast
                have HGO := Lib.hid hgone
                clear hgrow hgone hnext hlast hM3 hK3 hE3 hX hW
                cases hg : goneBy wr2 ⟨eg, pc, .slice (some ⟨g', 0, none⟩) P.length cap⟩
                · rw [hg] at hgc
                  have HG := Lib.hid hg
                  clear hg
                  go_wp2_with fail
                  go_roundw
                  case measure => simp [intOf]; omega
                  case rel =>
                    refine ⟨j + 1, by go_num, by omega, ?_⟩
                    by_cases hjl : j + 1 < P.length
                    · exact .inl ⟨hjl, _, _, _, _, HNX.out HG.out hjl⟩
                    · have hje : j + 1 = P.length := by omega
                      obtain ⟨m, hm, hO⟩ := HLA.out HG.out hje
                      exact .inr ⟨hje, m, _, _, _, _, hm, hO⟩
                · rw [hg] at hgc
                  obtain ⟨m, hm, hO⟩ := HGO.out hg
                  have HO2 := Lib.hid hO
                  have HM2 := Lib.hid hm
                  clear hO hm hg
                  go_wp2_with fail
                  go_roundg m
                  case measure => exact HM2.out
                  case rel => exact ⟨_, _, _, _, HO2.out⟩
          · have HO2 := Lib.hid hO2
            have HM2 := Lib.hid hm
            clear hO2 hm
            go_wp2_with fail
            go_roundg m
            case measure => exact HM2.out
            case rel => exact ⟨r2, x2, l3, n3, HO2.out⟩
    · go_wp2_with fail
      go_quiet (fail)
      go_wp2_with fail
      go_end0
      have hk0 : gk = 0 := by have := HO.out.hk; omega
      have hRe : R0 = r1.end_ 0 := by rw [← HO.out.run]; exact runR_fuel gk HO.out.go (by rw [HO.out.fu]; omega)
      exact ⟨HO.out.fin ((Only.refl _ _).drewN _) hRe, .inl ⟨rfl, by rw [hRe]; rfl⟩⟩
end Go.Proofs.YtanccjaikocefaaGreatDoor
