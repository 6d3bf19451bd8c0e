/-
  How the cache lies in memory beside the document's slots: a relation, and what steps of the machine do to it. No walk here.
  A step in the midst of a block, plainly: what the document's machine is behind it. No walk here.
-/
import Derived.Test.YtanccjaikocefaaGreatDoorBuild
import Derived.Test.YtanccjaikocefaaGreatDoorNote
namespace Go.Proofs.YtanccjaikocefaaGreatDoor
open Go.ChangeShapes Go.WideShapes Go.ChangeAt Go.RowKit Go.Maps
set_option linter.unusedVariables false

/-- An entry of a slot: what is translated is what stands in memory. -/
structure EntIs (w : World) (B : Nat) (mem : List Int) (bl : List Blk) (e : CEnt) (q : Int × Int) : Prop where
  pc : q.1 = e.pc
  len : q.2 = ((blockIns mem e.pc 8).length : Int)
  pos : 0 < (blockIns mem e.pc 8).length
  p0 : 0 ≤ e.pc
  p4 : e.pc % 4 = 0
  fit : e.pc + 4 ≤ (mem.length : Int)
  recs : RecsAt w B e.recs (blockIns mem e.pc 8)
  g : B ≤ e.g
  seen : ∃ z ∈ bl, z.pc = e.pc
/-- The cache and what the document says of it. -/
structure CacheR (w : World) (B cb b slb mb n : Nat) (mem : List Int) (arena used built : Int) (slots : List (Int × Int)) (bl : List Blk) (l : CEs) : Prop where
  hc : w.heap[cb]? = some (.cells (cRow b slb l.length arena used built (.map (some mb))) 93 (0, 0))
  sl : Slots w slb l
  len : l.length = slots.length
  pos : 0 < l.length
  max : l.length ≤ 64
  emp : ∀ k : Nat, l[k]? = some none → slots[k]? = some (0, 0)
  ent : ∀ (k : Nat) e, l[k]? = some (some e) → ∃ q, slots[k]? = some q ∧ EntIs w B mem bl e q
  map : SeenIs w mb n bl
  rising : Rising bl
  Bs : B ≤ cb ∧ B ≤ slb ∧ B ≤ mb
/-- The blocks that the relation speaks of. -/
def Mine (cb slb mb : Nat) (l : CEs) (k : Nat) : Prop := k = cb ∨ k = slb ∨ k = mb ∨ ∃ (j : Nat) (e : CEnt), l[j]? = some (some e) ∧ (k = e.g ∨ e.recs.ownBlock = some k)
theorem blk_ne {w : World} {k j : Nat} {cs cs' : Array Value} {T T' : TypeId} {fr fr' : Nat × Nat} (h : w.heap[k]? = some (.cells cs T fr)) (h' : w.heap[j]? = some (.cells cs' T' fr')) (hT : T ≠ T') : k ≠ j := by
  rintro rfl
  rw [h] at h'
  simp only [Option.some.injEq, Obj.cells.injEq] at h'
  exact hT h'.2.1
theorem recs_form {w : World} {B : Nat} {v : Value} {l : List Ins} (h : RecsAt w B v l) (hp : 0 < l.length) : ∃ g cap cur, v = .slice (some ⟨g, 0, none⟩) l.length cap ∧ B ≤ g ∧ w.heap[g]? = some (.cells cur 136 (0, 0)) ∧ l.length ≤ cap := by
  rcases h.2 with ⟨_, h0⟩ | ⟨g, cap, cur, hv, hb, hg, hn, _⟩
  · omega
  · exact ⟨g, cap, cur, hv, hb, hg, hn⟩
theorem map_obj {w : World} {mb n : Nat} {l : List Blk} (h : SeenIs w mb n l) : ∃ es clock, w.heap[mb]? = some (.map es clock) := by
  obtain ⟨es, clock, hb, _⟩ := h
  exact ⟨es, clock, hb⟩
theorem map_ne {w : World} {k mb : Nat} {es : Array MapEntry} {clock : Nat} {cs : Array Value} {T : TypeId} {fr : Nat × Nat} (h : w.heap[mb]? = some (.map es clock)) (h' : w.heap[k]? = some (.cells cs T fr)) : k ≠ mb := by
  rintro rfl
  rw [h] at h'
  cases h'
/-- The machine's types. -/
def MTy (T : TypeId) : Prop := T = 70 ∨ T = 5 ∨ T = 86
theorem mach_ty {w : World} {b k : Nat} {s : St} {x : Raw} (hM : Mach w b s x) (h : Mb b x k) : ∃ cs T, w.heap[k]? = some (.cells cs T (0, 0)) ∧ MTy T := by
  rcases h with rfl | rfl | e
  · exact ⟨_, _, hM.mac, .inl rfl⟩
  · exact ⟨_, _, hM.mem, .inr (.inl rfl)⟩
  · rcases hM.evs.2 with ⟨hv, _⟩ | ⟨g, cap, cur, hv, _, hg, _⟩
    · rw [hv] at e; cases e
    · rw [hv] at e
      simp only [Value.ownBlock, Option.some.injEq] at e
      subst e
      exact ⟨_, _, hg, .inr (.inr rfl)⟩
theorem ty_not {w : World} {b k : Nat} {s : St} {x : Raw} {cs : Array Value} {T : TypeId} {fr : Nat × Nat} (hM : Mach w b s x) (hk : w.heap[k]? = some (.cells cs T fr)) (hT : CT T) : ¬ Mb b x k := by
  intro h
  obtain ⟨cs', T', hk', hT'⟩ := mach_ty hM h
  rw [hk] at hk'
  simp only [Option.some.injEq, Obj.cells.injEq] at hk'
  obtain ⟨_, rfl, _⟩ := hk'
  unfold CT at hT
  unfold MTy at hT'
  rcases hT' with rfl | rfl | rfl <;> revert hT <;> decide
theorem CacheR.notMb {w : World} {B cb b slb mb n : Nat} {mem : List Int} {arena used built : Int} {slots : List (Int × Int)} {bl : List Blk} {l : CEs} {s : St} {x : Raw} (h : CacheR w B cb b slb mb n mem arena used built slots bl l) (hM : Mach w b s x) {k : Nat} (hk : Mine cb slb mb l k) : ¬ Mb b x k := by
  rcases hk with rfl | rfl | rfl | ⟨j, e, hj, rfl | hr⟩
  · exact ty_not hM h.hc (.inr (.inr (.inl rfl)))
  · exact ty_not hM h.sl.row (.inl rfl)
  · intro hk
    obtain ⟨cs, T, h1, _⟩ := mach_ty hM hk
    obtain ⟨es, clock, h2⟩ := map_obj h.map
    exact map_ne h2 h1 rfl
  · exact ty_not hM (h.sl.blk j e hj) (.inr (.inl rfl))
  · obtain ⟨q, _, hE⟩ := h.ent j e hj
    obtain ⟨g, cap, cur, hv, _, hg, _⟩ := recs_form hE.recs hE.pos
    rw [hv] at hr
    simp only [Value.ownBlock, Option.some.injEq] at hr
    subst hr
    exact ty_not hM hg (.inr (.inr (.inr rfl)))
theorem CacheR.only {w w' : World} {S : Nat → Prop} {B cb b slb mb n : Nat} {mem : List Int} {arena used built : Int} {slots : List (Int × Int)} {bl : List Blk} {l : CEs} (h : CacheR w B cb b slb mb n mem arena used built slots bl l) (ho : Only S w w') (hS : ∀ k, Mine cb slb mb l k → ¬ S k) : CacheR w' B cb b slb mb n mem arena used built slots bl l := by
  refine ⟨ho.heap (hS _ (.inl rfl)) h.hc, h.sl.only ho (hS _ (.inr (.inl rfl))) (fun j e hj => hS _ (.inr (.inr (.inr ⟨j, e, hj, .inl rfl⟩)))), h.len, h.pos, h.max, h.emp, fun k e hk => ?_, h.map.only ho (hS _ (.inr (.inr (.inl rfl)))), h.rising, h.Bs⟩
  obtain ⟨q, hq, hE⟩ := h.ent k e hk
  exact ⟨q, hq, hE.pc, hE.len, hE.pos, hE.p0, hE.p4, hE.fit, ownsRow_only hE.recs ho (fun g hg => hS _ (.inr (.inr (.inr ⟨k, e, hk, .inr hg⟩)))), hE.g, hE.seen⟩
/-- Another memory in which the pages of the entries are as they were. -/
theorem CacheR.turn {w : World} {B cb b slb mb n : Nat} {mem mem' : List Int} {arena used built : Int} {slots : List (Int × Int)} {bl : List Blk} {l : CEs} (h : CacheR w B cb b slb mb n mem arena used built slots bl l) (hl : mem'.length = mem.length) (hp : ∀ (k : Nat) e, l[k]? = some (some e) → SamePage mem mem' (e.pc / 64)) : CacheR w B cb b slb mb n mem' arena used built slots bl l := by
  refine ⟨h.hc, h.sl, h.len, h.pos, h.max, h.emp, fun k e hk => ?_, h.map, h.rising, h.Bs⟩
  obtain ⟨q, hq, hE⟩ := h.ent k e hk
  have hb : blockIns mem' e.pc 8 = blockIns mem e.pc 8 := block_page 8 e.pc (hp k e hk) hE.p0 hE.p4
  exact ⟨q, hq, hE.pc, by rw [hb]; exact hE.len, by rw [hb]; exact hE.pos, hE.p0, hE.p4, by rw [hl]; exact hE.fit, by rw [hb]; exact hE.recs, hE.g, hE.seen⟩
theorem drop_get {l : CEs} {f t : Int} {k : Nat} {q : Option CEnt} (h : (l.map (drop1 f t))[k]? = some q) : ∃ q0, l[k]? = some q0 ∧ q = drop1 f t q0 := by
  rw [List.getElem?_map] at h
  cases hq : l[k]? with
  | none => rw [hq] at h; cases h
  | some q0 => rw [hq] at h; simp only [Option.map_some, Option.some.injEq] at h; exact ⟨q0, rfl, h.symm⟩
theorem drop_some {l : CEs} {f t : Int} {k : Nat} {e : CEnt} (h : (l.map (drop1 f t))[k]? = some (some e)) : l[k]? = some (some e) ∧ inPages e.pc f t = false := by
  obtain ⟨q0, h0, h1⟩ := drop_get h
  cases q0 with
  | none => cases h1
  | some e0 =>
    rw [drop1_some] at h1
    by_cases hi : inPages e0.pc f t = true
    · rw [if_pos hi] at h1; cases h1
    · rw [if_neg hi] at h1
      simp only [Option.some.injEq] at h1
      subst h1
      exact ⟨h0, by simpa using hi⟩
/-- The slots behind 'forget'. -/
theorem Forgot.slots {w w' : World} {slb : Nat} {l : CEs} {f t : Int} (h : Forgot slb l f t w w') (hs : Slots w slb l) : Slots w' slb (l.map (drop1 f t)) := by
  refine ⟨h.1, fun k e hk => ?_, fun j k e e' hj hk hg => hs.inj j k e e' (drop_some hj).1 (drop_some hk).1 hg⟩
  obtain ⟨h0, h1⟩ := drop_some hk
  have := h.2.1 k e h0
  rw [h1] at this
  exact this
theorem CacheR.forgot {w w' : World} {B cb b slb mb n : Nat} {mem : List Int} {arena used built : Int} {slots : List (Int × Int)} {bl : List Blk} {l : CEs} {f t : Int} (h : CacheR w B cb b slb mb n mem arena used built slots bl l) (hf : Forgot slb l f t w w') : CacheR w' B cb b slb mb n mem arena used built (slots.map (forget1 f t)) bl (l.map (drop1 f t)) := by
  have hne : ∀ k, (k = cb ∨ k = mb ∨ ∃ (j : Nat) (e : CEnt), l[j]? = some (some e) ∧ e.recs.ownBlock = some k) → ¬ Fb slb l k := by
    rintro k hk (e | ⟨j', e', hj', hk'⟩)
    · rcases hk with rfl | rfl | ⟨j, e0, hj, hr⟩
      · exact blk_ne h.hc h.sl.row (by decide) e
      · obtain ⟨es, clock, h2⟩ := map_obj h.map
        exact map_ne h2 h.sl.row e.symm
      · obtain ⟨q, _, hE⟩ := h.ent j e0 hj
        obtain ⟨g, cap, cur, hv, _, hg, _⟩ := recs_form hE.recs hE.pos
        rw [hv] at hr
        simp only [Value.ownBlock, Option.some.injEq] at hr
        subst hr
        exact blk_ne hg h.sl.row (by decide) e
    · rcases hk with rfl | rfl | ⟨j, e0, hj, hr⟩
      · exact blk_ne h.hc (h.sl.blk j' e' hj') (by decide) hk'
      · obtain ⟨es, clock, h2⟩ := map_obj h.map
        exact map_ne h2 (h.sl.blk j' e' hj') hk'.symm
      · obtain ⟨q, _, hE⟩ := h.ent j e0 hj
        obtain ⟨g, cap, cur, hv, _, hg, _⟩ := recs_form hE.recs hE.pos
        rw [hv] at hr
        simp only [Value.ownBlock, Option.some.injEq] at hr
        subst hr
        exact blk_ne hg (h.sl.blk j' e' hj') (by decide) hk'
  refine ⟨?_, hf.slots h.sl, by simpa using h.len, by simpa using h.pos, by simpa using h.max, fun k hk => ?_, fun k e hk => ?_, h.map.only hf.2.2 (hne _ (.inr (.inl rfl))), h.rising, h.Bs⟩
  · rw [List.length_map]
    exact hf.2.2.heap (hne _ (.inl rfl)) h.hc
  · obtain ⟨q0, h0, h1⟩ := drop_get hk
    rw [List.getElem?_map]
    cases q0 with
    | none => rw [h.emp k h0]; simp [forget1]
    | some e0 =>
      obtain ⟨q, hq, hE⟩ := h.ent k e0 h0
      rw [drop1_some] at h1
      by_cases hi : inPages e0.pc f t = true
      · rw [hq]
        simp only [Option.map_some, forget1, hE.pc, hi, if_true]
      · rw [if_neg hi] at h1; cases h1
  · obtain ⟨h0, h1⟩ := drop_some hk
    obtain ⟨q, hq, hE⟩ := h.ent k e h0
    refine ⟨q, ?_, hE.pc, hE.len, hE.pos, hE.p0, hE.p4, hE.fit, ownsRow_only hE.recs hf.2.2 (fun g hg => hne _ (.inr (.inr ⟨k, e, h0, hg⟩))), hE.g, hE.seen⟩
    rw [List.getElem?_map, hq]
    simp only [Option.map_some, forget1, hE.pc, h1]
    rfl
/-- What of the cache is gone. -/
def goneBy (wr : Option (Int × Int)) (e : CEnt) : Bool := match wr with | none => false | some (f, t) => inPages e.pc f t
def dropBy (wr : Option (Int × Int)) (l : CEs) : CEs := match wr with | none => l | some (f, t) => l.map (drop1 f t)
def slotsBy (wr : Option (Int × Int)) (l : List (Int × Int)) : List (Int × Int) := match wr with | none => l | some (f, t) => l.map (forget1 f t)
/-- A step of the machine, and the cache behind it. -/
theorem CacheR.step {w w' : World} {B cb b slb mb n : Nat} {arena used built : Int} {slots : List (Int × Int)} {bl : List Blk} {l : CEs} {s s' : St} {x : Raw} {i : Ins} {next : Int} {wr : Option (Int × Int)}
    (h : CacheR w B cb b slb mb n s.mem arena used built slots bl l) (hM : Mach w b s x) (hs : s.Ok) (hi : i.Ok) (hx : exec s i = .go s' next wr) (hE : Eff (effC slb) b x wr w w') :
    CacheR w' B cb b slb mb n s'.mem arena used built (slotsBy wr slots) bl (dropBy wr l) ∧ (∀ (k : Nat) e, l[k]? = some (some e) → w'.heap[e.g]? = some (.cells (blkRow e (goneBy wr e)) 134 (0, 0)) ∧ RecsAt w' B e.recs (blockIns s.mem e.pc 8)) ∧ Only (fun k => Mb b x k ∨ Fb slb l k) w w' := by
  have hno : ∀ k, Mine cb slb mb l k → ¬ Mb b x k := fun k hk => h.notMb hM hk
  have hsz := exec_size hs hi hx
  cases wr with
  | none =>
    have hE' : Only (Mb b x) w w' := hE
    have h1 := h.only hE' hno
    refine ⟨h1.turn hsz (fun k e hk => exec_page hs hx e.pc (fun f t hw => by cases hw)), fun k e hk => ⟨h1.sl.blk k e hk, ?_⟩, hE'.mono (fun _ _ h => .inl h)⟩
    obtain ⟨q, _, hE⟩ := h1.ent k e hk
    exact hE.recs
  | some p =>
    obtain ⟨f, t⟩ := p
    obtain ⟨w1, w2, ho1, hf, ho2⟩ := hE
    have h1 := h.only ho1 hno
    have hf' : Forgot slb l f t w1 w2 := hf l h1.sl
    have h2 := h1.forgot hf'
    have hno2 : ∀ k, Mine cb slb mb (l.map (drop1 f t)) k → ¬ Mb b x k := by
      rintro k (e | e | e | ⟨j, e, hj, hk⟩)
      · exact hno k (.inl e)
      · exact hno k (.inr (.inl e))
      · exact hno k (.inr (.inr (.inl e)))
      · exact hno k (.inr (.inr (.inr ⟨j, e, (drop_some hj).1, hk⟩)))
    refine ⟨(h2.only ho2 hno2).turn hsz (fun k e hk => exec_page hs hx e.pc (fun f' t' hw => ?_)), fun k e hk => ⟨ho2.heap (hno _ (.inr (.inr (.inr ⟨k, e, hk, .inl rfl⟩)))) (hf'.2.1 k e hk), ?_⟩, ?_⟩
    · cases hw
      exact (drop_some hk).2
    · obtain ⟨q, _, hE⟩ := h1.ent k e hk
      refine ownsRow_only (ownsRow_only hE.recs hf'.2.2 (fun g hg => ?_)) ho2 (fun g hg => hno _ (.inr (.inr (.inr ⟨k, e, hk, .inr hg⟩))))
      obtain ⟨g', cap, cur, hv, _, hg', _⟩ := recs_form hE.recs hE.pos
      rw [hv] at hg
      simp only [Value.ownBlock, Option.some.injEq] at hg
      subst hg
      rintro (e1 | ⟨j', e', hj', hk'⟩)
      · exact blk_ne hg' h1.sl.row (by decide) e1
      · exact blk_ne hg' (h1.sl.blk j' e' hj') (by decide) hk'
    · refine ((ho1.mono (fun _ _ h => Or.inl h)).trans (hf'.2.2.mono (fun _ _ h => Or.inr h)) (fun _ _ h => h) (fun _ _ h => h)).then (ho2.mono (fun _ _ h => Or.inl h))

/-! ### What a run may change: blocks from 'B' on of the machine's and the cache's types -/
def Own (B : Nat) (w : World) (k : Nat) : Prop := B ≤ k ∧ ((∃ cs T, w.heap[k]? = some (.cells cs T (0, 0)) ∧ (MTy T ∨ CT T)) ∨ ∃ es clock, w.heap[k]? = some (.map es clock))
theorem Own.trans {B : Nat} {a b c : World} (h : Only (Own B a) a b) (k : Only (Own B b) b c) : Only (Own B a) a c := by
  refine h.trans k (fun _ _ s => s) (fun i hi s => Classical.byContradiction fun hn => hn ?_)
  have e := h.block i hi hn
  obtain ⟨hB, hor⟩ := s
  rw [e] at hor
  exact ⟨hB, hor⟩
theorem own_not {B k : Nat} {w : World} {cs : Array Value} {T : TypeId} {fr : Nat × Nat} (hk : w.heap[k]? = some (.cells cs T fr)) (hT : ¬ (MTy T ∨ CT T)) : ¬ Own B w k := by
  rintro ⟨_, ⟨cs', T', h', hT'⟩ | ⟨es, clock, h'⟩⟩
  · rw [hk] at h'
    simp only [Option.some.injEq, Obj.cells.injEq] at h'
    obtain ⟨_, rfl, _⟩ := h'
    exact hT hT'
  · rw [hk] at h'; cases h'
/-- The machine's blocks lie from 'B' on. -/
def Up (B b : Nat) (x : Raw) : Prop := ∀ k, Mb b x k → B ≤ k
theorem Up.keep {B b : Nat} {w : World} {x y : Raw} (h : Up B b x) (k : Keep w x y) (hB : B ≤ w.heap.size) : Up B b y := by
  rintro j (e | e | e)
  · exact h j (.inl e)
  · exact h j (.inr (.inl (by rw [e, k.1])))
  · rcases k.2.2.2 with q | ⟨g, q, hg⟩
    · exact h j (.inr (.inr (by rw [← q, e])))
    · rw [q] at e
      cases e
      omega
theorem own_mach {B b k : Nat} {w : World} {s : St} {x : Raw} (hM : Mach w b s x) (hu : Up B b x) (h : Mb b x k) : Own B w k := by
  obtain ⟨cs, T, h1, h2⟩ := mach_ty hM h
  exact ⟨hu k h, .inl ⟨cs, T, h1, .inl h2⟩⟩
theorem CacheR.own {w : World} {B cb b slb mb n : Nat} {mem : List Int} {arena used built : Int} {slots : List (Int × Int)} {bl : List Blk} {l : CEs} (h : CacheR w B cb b slb mb n mem arena used built slots bl l) {k : Nat} (hk : k = cb ∨ k = mb ∨ Fb slb l k) : Own B w k := by
  rcases hk with rfl | rfl | rfl | ⟨j, e, hj, rfl⟩
  · exact ⟨h.Bs.1, .inl ⟨_, _, h.hc, .inr (.inr (.inr (.inl rfl)))⟩⟩
  · exact ⟨h.Bs.2.2, .inr (map_obj h.map)⟩
  · exact ⟨h.Bs.2.1, .inl ⟨_, _, h.sl.row, .inr (.inl rfl)⟩⟩
  · obtain ⟨q, _, hE⟩ := h.ent j e hj
    exact ⟨hE.g, .inl ⟨_, _, h.sl.blk j e hj, .inr (.inr (.inl rfl))⟩⟩
end Go.Proofs.YtanccjaikocefaaGreatDoor
namespace Go.Proofs.YtanccjaikocefaaGreatDoor
open Go.ChangeShapes Go.WideShapes Go.ChangeAt Go.RowKit Go.Maps
set_option linter.unusedVariables false

theorem runR_step (k : Nat) {q : RS} (h : q.ended = false) : runR (k + 1) q = runR k q.step := by
  rw [runR, if_neg (by rw [h]; decide)]
theorem runR_end (k : Nat) {q : RS} (h : q.ended = true) : runR k q = q := by
  cases k with
  | zero => rfl
  | succ k => rw [runR, if_pos h]
theorem runR_fuel (k : Nat) {q : RS} (h : q.ended = false) (hf : q.fuel ≤ q.s.steps) : runR (k + 1) q = q.end_ 0 := by
  rw [runR_step k h]
  have : q.step = q.end_ 0 := by unfold RS.step; rw [if_pos hf]
  rw [this]
  exact runR_end k rfl
theorem runR_trap (k : Nat) {q : RS} {o : Int} (h : q.ended = false) (hf : ¬ q.fuel ≤ q.s.steps) (hx : fetch q.s = .inl o) : runR (k + 1) q = q.end_ o := by
  rw [runR_step k h]
  have : q.step = q.end_ o := by unfold RS.step; rw [if_neg hf, hx]
  rw [this]
  exact runR_end k rfl
theorem step_act {q : RS} {i : Ins} (hf : ¬ q.fuel ≤ q.s.steps) (hx : fetch q.s = .inr i) : q.step = q.seek.act i := by
  unfold RS.step
  rw [if_neg hf, hx]
  rfl
theorem runR_lies (k : Nat) {q : RS} {i : Ins} {s' : St} {o : Int} (h : q.ended = false) (hf : ¬ q.fuel ≤ q.s.steps) (hx : fetch q.s = .inr i) (he : exec q.s i = .trap s' o) : runR (k + 1) q = RS.end_ { q.seek with s := s', at_ := q.seek.at_ + 1 } o := by
  rw [runR_step k h, step_act hf hx]
  have : q.seek.act i = RS.end_ { q.seek with s := s', at_ := q.seek.at_ + 1 } o := by
    unfold RS.act RS.do_
    have e : q.seek.inc.s = q.s := (seek_s q).1
    rw [e, he]
    rfl
  rw [this]
  exact runR_end k rfl
/-- The block that is being done, behind a writing. -/
def curBy (wr : Option (Int × Int)) (j : Bool) (c : Int × Int) : Int × Int := if j then (0, 0) else match wr with | none => c | some (f, t) => forget1 f t c
theorem act_go {q : RS} {i : Ins} {s' : St} {next : Int} {wr : Option (Int × Int)} (he : exec q.s i = .go s' next wr) :
    q.seek.act i = { q.seek with s := s'.step next, at_ := q.seek.at_ + 1, slots := slotsBy wr q.seek.slots, cur := curBy wr (jumps q.s i) q.seek.cur } := by
  unfold RS.act RS.do_
  have e : q.seek.inc.s = q.s := (seek_s q).1
  rw [e, he]
  dsimp only
  unfold RS.leave curBy
  cases wr with
  | none =>
    split <;> rfl
  | some p =>
    obtain ⟨f, t⟩ := p
    split <;> rfl
theorem need_zero {q : RS} (h : 0 < q.slots.length) (hc : q.cur = (0, 0)) : q.need = true := by
  unfold RS.need
  rw [hc]
  simp [h]
theorem need_full {q : RS} (h : 0 < q.slots.length) (hc : q.cur.2 ≤ q.at_) : q.need = true := by
  unfold RS.need
  simp [h, hc]
theorem slotsBy_len (wr : Option (Int × Int)) (l : List (Int × Int)) : (slotsBy wr l).length = l.length := by
  cases wr with
  | none => rfl
  | some p => simp [slotsBy]
/-- Behind an instruction of a block: the next block is to be found, or the next instruction of this one. -/
theorem block_after {q : RS} {pc : Int} {P : List Ins} {j : Nat} {i : Ins} {s' : St} {next : Int} {wr : Option (Int × Int)} (h : q.seek.InBlock pc P j) (hs : q.s.Ok) (hm : q.s.mem.length % 64 = 0) (hi : P[j]? = some i) (he : exec q.s i = .go s' next wr) :
    ((∀ f t, wr = some (f, t) → inPages pc f t = false) → j + 1 = P.length → (q.seek.act i).need = true) ∧
    ((∃ f t, wr = some (f, t) ∧ inPages pc f t = true) → (q.seek.act i).need = true) ∧
    ((∀ f t, wr = some (f, t) → inPages pc f t = false) → j + 1 < P.length → (q.seek.act i).InBlock pc P (j + 1) ∧ (q.seek.act i).seek = q.seek.act i) := by
  have hsk : q.seek.s = q.s := (seek_s q).1
  have hg := block_get q.seek.s.mem 8 pc j i (by rw [h.ins]; exact hi)
  rw [hsk] at hg
  have hiOk : i.Ok := decO_ok (wordAt_ok hs _).1 (wordAt_ok hs _).2 hg.1
  have hsl : 0 < (slotsBy wr q.seek.slots).length := by rw [slotsBy_len]; exact h.slots
  have hact := act_go he
  refine ⟨fun hno hj => ?_, fun ⟨f, t, hw, hin⟩ => ?_, fun hno hj => ?_⟩
  · rw [hact]
    by_cases hju : jumps q.s i = true
    · exact need_zero hsl (by unfold curBy; rw [if_pos hju])
    · refine need_full hsl ?_
      unfold curBy
      rw [if_neg hju]
      have ha := h.at_
      have hc := h.cur
      cases wr with
      | none =>
        show q.seek.cur.2 ≤ q.seek.at_ + 1
        rw [hc, ha]
        show (P.length : Int) ≤ (j : Int) + 1
        omega
      | some p =>
        obtain ⟨f, t⟩ := p
        show (forget1 f t q.seek.cur).2 ≤ q.seek.at_ + 1
        unfold forget1
        rw [hc, ha, if_neg (by rw [hno f t rfl]; decide)]
        show (P.length : Int) ≤ (j : Int) + 1
        omega
  · subst hw
    rw [hact]
    refine need_zero hsl ?_
    unfold curBy forget1
    rw [h.cur]
    dsimp only
    rw [hin]
    simp
  · have hends := hg.2 (by rw [← hsk, h.ins]; exact hj)
    obtain ⟨hnx, hju⟩ := exec_next hiOk hends.1 he
    have hx := exec_ok hs hiOk
    rw [he] at hx
    obtain ⟨hT, hss, m0, m1⟩ := hx
    have hpc := h.at_pc
    rw [hsk] at hpc
    have hfit := h.fits
    rw [hsk] at hfit
    have hlen := hs.len
    have hp0 := h.pc0
    have hp4 := h.pc4
    have hin : (q.seek.act i).InBlock pc P (j + 1) := by
      rw [hact]
      refine ⟨?_, ?_, ?_, ?_, h.pc0, h.pc4, hj, ?_, hsl⟩
      · show curBy wr (jumps q.s i) q.seek.cur = _
        unfold curBy
        rw [hju, if_neg (by decide)]
        cases wr with
        | none => exact h.cur
        | some p =>
          obtain ⟨f, t⟩ := p
          show forget1 f t q.seek.cur = _
          unfold forget1
          rw [h.cur, if_neg (by rw [hno f t rfl]; decide)]
      · show q.seek.at_ + 1 = _
        rw [h.at_]
        omega
      · show next = _
        rw [hnx, hpc]
        unfold u32
        omega
      · show blockIns s'.mem pc 8 = P
        have hb := h.ins
        rw [hsk] at hb
        rw [← hb]
        exact block_page 8 pc (exec_page hs he pc hno) h.pc0 h.pc4
      · show pc + 4 * ((j + 1 : Nat) : Int) + 4 ≤ (s'.mem.length : Int)
        rw [hT.size]
        have := hends.2
        omega
    refine ⟨hin, ?_⟩
    have hok : (q.seek.act i).s.Ok := by rw [hact]; exact step_ok hT.ok m0 m1
    have hn := block_need hin hok
    generalize q.seek.act i = z at hn ⊢
    unfold RS.seek
    rw [hn]
    rfl
end Go.Proofs.YtanccjaikocefaaGreatDoor
