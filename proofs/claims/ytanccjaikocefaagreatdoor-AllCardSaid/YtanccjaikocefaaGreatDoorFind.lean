/-
  The contract of the cache's 'find': the block at the pc, found or built, as the document's machine has it. Conditions: the cache and the machine lie in memory; numbers are in their ranges; the table lies.
-/
import Derived.Test.YtanccjaikocefaaGreatDoorCacheR
import Derived.Deep.QuietTactic
import Derived.Lib.SliceRun
namespace Go.Proofs.YtanccjaikocefaaGreatDoor
open Go.ChangeShapes Go.WideShapes Go.ChangeAt Go.RowKit Go.Maps
set_option linter.unusedVariables false

theorem blkAt_put (x : Blk) : ∀ l : List Blk, blkAt (putB l x) x.pc = x := by
  intro l
  induction l with
  | nil => simp [putB, blkAt]
  | cons y r ih =>
    unfold putB
    split
    · simp [blkAt]
    · split
      · simp [blkAt]
      · rename_i h1 h2
        have : (y.pc == x.pc) = false := by simpa using h2
        unfold blkAt at ih ⊢
        rw [List.find?_cons_of_neg (by simp [h2])]
        exact ih
theorem putB_cons (x y : Blk) (r : List Blk) : putB (y :: r) x = if x.pc < y.pc then x :: y :: r else if y.pc = x.pc then x :: r else y :: putB r x := rfl
theorem put_put (x y : Blk) (h : x.pc = y.pc) : ∀ l : List Blk, putB (putB l x) y = putB l y := by
  intro l
  induction l with
  | nil => simp [putB, h]
  | cons z r ih =>
    rw [putB_cons, putB_cons]
    by_cases h1 : x.pc < z.pc
    · rw [if_pos h1, if_pos (by omega)]
      simp [putB, h]
    · rw [if_neg h1, if_neg (show ¬ y.pc < z.pc by omega)]
      by_cases h2 : z.pc = x.pc
      · rw [if_pos h2, if_pos (show z.pc = y.pc by omega)]
        simp [putB, h]
      · rw [if_neg h2, if_neg (show ¬ z.pc = y.pc by omega), putB_cons]
        rw [if_neg (by omega), if_neg (by omega), ih]
theorem putB_keep (x : Blk) : ∀ (l : List Blk) (z : Blk), z ∈ l → ∃ z' ∈ putB l x, z'.pc = z.pc := by
  intro l
  induction l with
  | nil => intro z hz; cases hz
  | cons y r ih =>
    intro z hz
    unfold putB
    split
    · exact ⟨z, List.mem_cons_of_mem _ hz, rfl⟩
    · split
      · rename_i h1 h2
        rcases List.mem_cons.1 hz with rfl | hz
        · exact ⟨x, List.mem_cons_self, h2.symm⟩
        · exact ⟨z, List.mem_cons_of_mem _ hz, rfl⟩
      · rcases List.mem_cons.1 hz with rfl | hz
        · exact ⟨z, List.mem_cons_self, rfl⟩
        · obtain ⟨z', h1, h2⟩ := ih z hz
          exact ⟨z', List.mem_cons_of_mem _ h1, h2⟩
theorem putB_self (x : Blk) : ∀ l : List Blk, x ∈ putB l x := by
  intro l
  induction l with
  | nil => simp [putB]
  | cons y r ih =>
    unfold putB
    split
    · exact List.mem_cons_self
    · split
      · exact List.mem_cons_self
      · exact List.mem_cons_of_mem _ ih
/-- The document's 'find' where the block is there. -/
theorem find_hit {r : RS} {q : Int × Int} (hk : r.slots[r.slotK]? = some q) (h1 : q.1 = r.s.pc) (h2 : q.2 ≠ 0) (hr : Rising r.blocks) (hs : ∃ z ∈ r.blocks, z.pc = r.s.pc) :
    r.find = { r with cur := q, at_ := 0, blocks := putB r.blocks ⟨r.s.pc, (blkAt r.blocks r.s.pc).len, (blkAt r.blocks r.s.pc).built, (blkAt r.blocks r.s.pc).entered + 1⟩ } := by
  have hg : r.slots.getD r.slotK (0, 0) = q := by rw [List.getD_eq_getElem?_getD, hk]; rfl
  have hm : r.make = r := by
    unfold RS.make
    dsimp only
    rw [hg, if_neg]
    simp [h1, h2]
  unfold RS.find
  dsimp only
  rw [hm, hg, h1, count_put _ _ _ _ _ hr, if_neg]
  · simp
  · rintro (h | h)
    · exact absurd h (by decide)
    · obtain ⟨z, hz, he⟩ := hs
      exact h z hz he
/-- The document's 'find' where the block is built. -/
theorem find_miss {r : RS} (hp : 0 < r.slots.length) (hk : ∀ q, r.slots[r.slotK]? = some q → q.2 = 0 ∨ q.1 ≠ r.s.pc) (hr : Rising r.blocks) (N : Int) (hN : N = ((blockIns r.s.mem r.s.pc 8).length : Int)) :
    r.find = { r with slots := (if r.arena < r.used + N then List.replicate r.slots.length (0, 0) else r.slots).set r.slotK (r.s.pc, N), used := (if r.arena < r.used + N then 0 else r.used) + N, built := r.built + 1, cur := (r.s.pc, N), at_ := 0, blocks := putB r.blocks ⟨r.s.pc, N, (blkAt r.blocks r.s.pc).built + 1, (blkAt r.blocks r.s.pc).entered + 1⟩ } := by
  subst hN
  have hlt : r.slotK < r.slots.length := by
    unfold RS.slotK
    have h0 := Int.emod_nonneg (r.s.pc / 4) (show (r.slots.length : Int) ≠ 0 by omega)
    have h1 := Int.emod_lt_of_pos (r.s.pc / 4) (show 0 < (r.slots.length : Int) by omega)
    omega
  obtain ⟨q, hq⟩ : ∃ q, r.slots[r.slotK]? = some q := ⟨_, List.getElem?_eq_getElem hlt⟩
  have hg : r.slots.getD r.slotK (0, 0) = q := by rw [List.getD_eq_getElem?_getD, hq]; rfl
  have hb : (q.2 == 0 || q.1 != r.s.pc) = true := by
    rcases hk q hq with h | h
    · simp [h]
    · simp [h]
  generalize hNN : ((blockIns r.s.mem r.s.pc 8).length : Int) = N
  have hm : r.make = { r with slots := (if r.arena < r.used + N then List.replicate r.slots.length (0, 0) else r.slots).set r.slotK (r.s.pc, N), used := (if r.arena < r.used + N then 0 else r.used) + N, built := r.built + 1, blocks := countB r.blocks r.s.pc N 1 0 } := by
    unfold RS.make
    dsimp only
    rw [hg, if_pos hb, hNN]
    by_cases hc : r.arena < r.used + N
    · simp [hc]
    · simp [hc]
  have hsl : ({ r with slots := (if r.arena < r.used + N then List.replicate r.slots.length (0, 0) else r.slots).set r.slotK (r.s.pc, N), used := (if r.arena < r.used + N then 0 else r.used) + N, built := r.built + 1, blocks := countB r.blocks r.s.pc N 1 0 } : RS).slotK = r.slotK := by
    unfold RS.slotK
    dsimp only
    rw [List.length_set]
    split <;> simp
  have hc : ((if r.arena < r.used + N then List.replicate r.slots.length (0, 0) else r.slots).set r.slotK (r.s.pc, N)).getD r.slotK (0, 0) = (r.s.pc, N) := by
    rw [List.getD_eq_getElem?_getD, List.getElem?_set_self]
    · rfl
    · split <;> simp [hlt]
  unfold RS.find
  dsimp only
  rw [hm, hsl]
  dsimp only
  rw [hc]
  dsimp only
  have h1 := count_put r.s.pc N 1 0 r.blocks hr
  rw [if_pos (.inl (by decide))] at h1
  have hr2 : Rising (countB r.blocks r.s.pc N 1 0) := by rw [h1]; exact putB_rising _ _ hr
  rw [count_put r.s.pc N 0 1 _ hr2]
  rw [h1]
  have hat := blkAt_put ⟨r.s.pc, N, (blkAt r.blocks r.s.pc).built + 1, (blkAt r.blocks r.s.pc).entered + 0⟩ r.blocks
  dsimp only at hat
  rw [hat]
  simp only [ite_self]
  have hpp := put_put ⟨r.s.pc, N, (blkAt r.blocks r.s.pc).built + 1, (blkAt r.blocks r.s.pc).entered + 0⟩ ⟨r.s.pc, N, (blkAt r.blocks r.s.pc).built + 1 + 0, (blkAt r.blocks r.s.pc).entered + 0 + 1⟩ rfl r.blocks
  rw [hpp]
  simp
/-- What 'find' comes to. -/
def FindP (B cb b slb mb n : Nat) (r : RS) (x : Raw) (w : World) (e : Ending) (w' : World) : Int ⊕ Ins → Prop
  | .inl o => e = trapE o ∧ Only (fun _ => False) w w'
  | .inr i => ∃ (l' : CEs) (k : Nat) (e0 : CEnt), e = .returned (.pointer (some ⟨e0.g, 0, none⟩)) ∧ l'[k]? = some (some e0) ∧ e0.pc = r.s.pc ∧ r.find.cur = (r.s.pc, ((blockIns r.s.mem r.s.pc 8).length : Int)) ∧ r.find.at_ = 0 ∧ CacheR w' B cb b slb mb (n + 1) r.find.s.mem r.find.arena r.find.used r.find.built r.find.slots r.find.blocks l' ∧ Mach w' b r.s x ∧ Only (Own B w) w w'
theorem blkAt_ok {l : List Blk} {B E pc : Int} (h : ∀ x ∈ l, BlkOk B E x) (hB : 0 ≤ B) (hE : 0 ≤ E) : 0 ≤ (blkAt l pc).built ∧ (blkAt l pc).built ≤ B ∧ 0 ≤ (blkAt l pc).entered ∧ (blkAt l pc).entered ≤ E := by
  unfold blkAt
  cases hf : l.find? (fun x => x.pc == pc) with
  | none => exact ⟨Int.le_refl 0, hB, Int.le_refl 0, hE⟩
  | some z =>
    have := h z (List.mem_of_find?_eq_some hf)
    unfold BlkOk at this
    dsimp only [Option.getD_some]
    omega
/-- A block that no machine and no text lies in. -/
def CBm (w : World) (k : Nat) : Prop := CB w k ∨ ∃ es clock, w.heap[k]? = some (.map es clock)
theorem CBm.notMb {w : World} {b : Nat} {s : St} {x : Raw} {k : Nat} (h : CBm w k) (hM : Mach w b s x) : ¬ Mb b x k := by
  rcases h with h | ⟨es, clock, h⟩
  · exact h.notMb hM
  · intro hk
    obtain ⟨cs, T, h1, _⟩ := mach_ty hM hk
    exact map_ne h h1 rfl
theorem Mach.apart2 {S : Nat → Prop} {w w' : World} {b : Nat} {s : St} {x : Raw} (h : Mach w b s x) (ho : Only S w w') (hS : ∀ k, k < w.heap.size → S k → CBm w k) : Mach w' b s x := by
  have hb : ¬ S b := fun e => (hS b h.mac.lt e).notMb h (.inl rfl)
  have hm : ¬ S x.mb := fun e => (hS x.mb (heap_lt h.mem) e).notMb h (.inr (.inl rfl))
  have he : ∀ g, x.evs.ownBlock = some g → ¬ S g := fun g hg e => (hS g (h.evs.lt g hg).2 e).notMb h (.inr (.inr hg))
  refine ⟨ho.heap hb h.mac, ho.heap hm h.mem, h.ne, ?_, Nat.lt_of_lt_of_le h.abLt ho.size, h.nea, ownsRow_only h.evs ho he, h.nee⟩
  obtain ⟨a, c, hv, hc, hcm, hcl⟩ := h.ans
  refine ⟨a, c, hv, hc, hcm, fun hne => ?_⟩
  obtain ⟨off, ha, hcells⟩ := hcl hne
  have hna : ¬ S x.ab := by
    intro e
    obtain ⟨t, l', hl'⟩ : ∃ t l', s.ans = t :: l' := by
      cases hq : s.ans with
      | nil => exact absurd hq hne
      | cons t l' => exact ⟨t, l', rfl⟩
    have := (hcells 0 t (by rw [hl']; rfl)).2
    rcases hS x.ab h.abLt e with ⟨cs, T, h1, _, h3⟩ | ⟨es, clock, h1⟩
    · rw [cell_of_row w x.ab _ _ _ _ h1] at this
      exact h3 _ _ this
    · simp [World.cell?, h1] at this
  exact ⟨off, ha, fun j t hj => ⟨(hcells j t hj).1, ho.cell hna (hcells j t hj).2⟩⟩
theorem map_other {w : World} {k mb n : Nat} {l : List Blk} {cs : Array Value} {T : TypeId} {fr : Nat × Nat} (h : SeenIs w mb n l) (hk : w.heap[k]? = some (.cells cs T fr)) : ¬ k = mb := by
  obtain ⟨es, clock, h1⟩ := map_obj h
  exact map_ne h1 hk
theorem CacheR.note {w w' : World} {B cb b slb mb n : Nat} {mem : List Int} {arena used built : Int} {slots : List (Int × Int)} {bl : List Blk} {l : CEs} {y : Blk} (h : CacheR w B cb b slb mb n mem arena used built slots bl l) (ho : Only (· = mb) w w') (hm : SeenIs w' mb (n + 1) (putB bl y)) : CacheR w' B cb b slb mb (n + 1) mem arena used built slots (putB bl y) l := by
  have hgs : ∀ (j : Nat) e, l[j]? = some (some e) → ¬ e.g = mb := fun j e hj => map_other h.map (h.sl.blk j e hj)
  refine ⟨ho.heap (map_other h.map h.hc) h.hc, h.sl.only ho (map_other h.map h.sl.row) hgs, h.len, h.pos, h.max, h.emp, fun k e hk => ?_, hm, putB_rising _ _ h.rising, h.Bs⟩
  obtain ⟨q, hq, hE⟩ := h.ent k e hk
  obtain ⟨z, hz, hzp⟩ := hE.seen
  obtain ⟨z', hz', hzp'⟩ := putB_keep y bl z hz
  obtain ⟨g, cap, cur, hv, _, hg, _⟩ := recs_form hE.recs hE.pos
  refine ⟨q, hq, hE.pc, hE.len, hE.pos, hE.p0, hE.p4, hE.fit, ownsRow_only hE.recs ho (fun g' hg' => ?_), hE.g, z', hz', by rw [hzp', hzp]⟩
  rw [hv] at hg'
  simp only [Value.ownBlock, Option.some.injEq] at hg'
  subst hg'
  exact map_other h.map hg
set_option maxRecDepth 100000 in
set_option maxHeartbeats 1000000 in
theorem cfind_hit (B cb b slb mb n : Nat) (hn : n < 1000000) (r : RS) (hr : r.Head) (l : CEs) (x : Raw) (w : World) (h : Mach w b r.s x) (hC : CacheR w B cb b slb mb n r.s.mem r.arena r.used r.built r.slots r.blocks l) (hB : B ≤ w.heap.size)
    (e : CEnt) (hk : l[r.slotK]? = some (some e)) (he : e.pc = r.s.pc) (i : Ins) :
    Calls Tryz.prog 82 #[.pointer (some ⟨cb, 0, none⟩), .int .u32 r.s.pc] w fun en w' => FindP B cb b slb mb n r x w en w' (.inr i) := by
  obtain ⟨pc0, pc1⟩ := hr.ok.s.pc
  have st := hr.ok.steps
  have fu := hr.ok.fuel
  obtain ⟨q, hq, hE⟩ := hC.ent _ _ hk
  obtain ⟨g', cap, cur, hv, hgB, hg', hcap⟩ := recs_form hE.recs hE.pos
  have hbd := blkAt_ok (pc := r.s.pc) hr.cnt.blocks st.1 st.1
  have hlen := blockIns_len r.s.mem 8 e.pc
  have hpos := hC.pos
  have hmax := hC.max
  have hl0 : (0 : Int) < l.length := by omega
  have hK : r.s.pc / 4 % (l.length : Int) = (r.slotK : Int) := by
    unfold RS.slotK
    rw [hC.len]
    have h0 := Int.emod_nonneg (r.s.pc / 4) (show (r.slots.length : Int) ≠ 0 by rw [← hC.len]; omega)
    omega
  have hKlt : r.slotK < l.length := (List.getElem?_eq_some_iff.1 hk).1
  have c1 : w.cell? ⟨cb, 1, none⟩ = some (.slice (some ⟨slb, 0, none⟩) l.length l.length) := cell_of_row w _ 1 _ _ _ hC.hc
  have sk : w.cell? ⟨slb, r.slotK, none⟩ = some (.pointer (some ⟨e.g, 0, none⟩)) := by
    rw [cell_of_row w slb r.slotK _ _ _ hC.sl.row]
    simp [hk, entVal]
  have hbl := hC.sl.blk _ _ hk
  have g0 : w.cell? ⟨e.g, 0, none⟩ = some (.int .u32 r.s.pc) := by rw [← he]; exact cell_of_row w _ 0 _ _ _ hbl
  have hnote := fun W (hW : Only (fun _ => False) w W) => note_any cb b slb l.length r.arena r.used r.built mb n r.blocks hC.rising (by unfold maxLen; omega) e false (some ⟨g', 0, none⟩) (blockIns r.s.mem e.pc 8).length cap hv hlen hE.p0 (by omega) (by rw [he]; omega) (by rw [he]; omega) (by rw [he]; omega) (by rw [he]; omega) 0 (.inl rfl) W (hW.heap (fun h => h) hC.hc) (hW.heap (fun h => h) hbl) (hC.map.only hW (fun h => h))
  have H := Lib.hid h
  have HC := Lib.hid hC
  have HE := Lib.hid hE
  have HN := Lib.hid hnote
  have HK := Lib.hid hk
  have HQ := Lib.hid hq
  have HR := Lib.hid hr
  have HV := Lib.hid hv
  generalize hKK : r.slotK = K at *
  have HKK := Lib.hid hKK
  have HEE := Lib.hid he
  clear h hC hE hnote hk hq hr hbl hv hg' hgB hcap hKK he
  go_enter Tryz.func82, Tryz.ntmps82
  go_wp2_with fail
  go_quiet (fail)
  go_wp2_with fail
  refine (HN.out _ ((Only.refl _ w).drewN _)).mono ?_
  rintro en w2 ⟨rfl, hmap, ho2⟩
  go_wp2_with fail
  go_ret
  have hf := find_hit (r := r) (q := q) (by rw [HKK.out]; exact HQ.out) (by rw [HE.out.pc, HEE.out]) (by have := HE.out.len; have := HE.out.pos; omega) HC.out.rising (by obtain ⟨z, hz, h⟩ := HE.out.seen; exact ⟨z, hz, by rw [h, HEE.out]⟩)
  have ho3 : Only (· = mb) w w2 := ((Only.refl _ w).drewN _).then ho2
  rw [HEE.out] at hmap
  simp only [Int.lt_irrefl, if_false, Int.add_zero] at hmap
  have hCN := HC.out.note ho3 hmap
  refine ⟨l, K, e, rfl, HK.out, HEE.out, by rw [hf]; exact Prod.ext (by rw [HE.out.pc, HEE.out]) (by rw [HE.out.len, HEE.out]), by rw [hf], ?_, H.out.apart2 ho3 (fun k _ h => .inr (by rw [h]; exact map_obj HC.out.map)), ho3.mono (fun k _ h => HC.out.own (.inr (.inl h)))⟩
  rw [hf]
  exact hCN
theorem fetch_word {s : St} {i : Ins} (h : fetch s = .inr i) : s.pc % 4 = 0 ∧ s.pc + 4 ≤ (s.mem.length : Int) ∧ decO (wordAt s.mem s.pc) = some i := by
  unfold fetch at h
  by_cases h4 : s.pc % 4 = 0
  · rw [if_neg (by omega)] at h
    by_cases hl : lies s s.pc 4 = true
    · rw [if_pos hl] at h
      refine ⟨h4, by unfold lies at hl; simpa using hl, ?_⟩
      cases hd : decO (wordAt s.mem s.pc) with
      | none => rw [hd] at h; cases h
      | some j => rw [hd] at h; simp only [Sum.inr.injEq] at h; rw [h]
    · rw [if_neg hl] at h; cases h
  · rw [if_pos h4] at h; cases h
theorem crow_set {w : World} {cb b slb m : Nat} {arena used built : Int} {mv : Value} (hc : w.heap[cb]? = some (.cells (cRow b slb m arena used built mv) 93 (0, 0))) (u bt : Int) : ((w.setCell ⟨cb, 3, none⟩ (.int .i64 u)).setCell ⟨cb, 4, none⟩ (.int .i64 bt)).heap[cb]? = some (.cells (cRow b slb m arena u bt mv) 93 (0, 0)) := by
  rw [heap_setCell_same _ cb 4 _ _ _ (heap_setCell_same _ cb 3 _ _ _ hc)]
  simp [cRow]
theorem slot_set {w : World} {slb K : Nat} {L : CEs} (hs : w.heap[slb]? = some (.cells (L.map entVal).toArray 130 (0, 0))) (e : CEnt) : (w.setCell ⟨slb, K, none⟩ (.pointer (some ⟨e.g, 0, none⟩))).heap[slb]? = some (.cells ((L.set K (some e)).map entVal).toArray 130 (0, 0)) := by
  rw [heap_setCell_same _ slb K _ _ _ hs, List.map_set]
  simp [entVal]
/-- The blocks that a miss writes into, ahead of 'note'. -/
def MissS (cb slb : Nat) (l : CEs) (K : Nat) (k : Nat) : Prop := k = cb ∨ k = slb ∨ ∃ q : CEnt, l[K]? = some (some q) ∧ k = q.g
theorem miss_done {B cb b slb mb n N K : Nat} {r : RS} {l L : CEs} {LS : List (Int × Int)} {x : Raw} {w W w2 : World} {recs : Value} {u : Int} {i : Ins} (hr : r.Head) (h : Mach w b r.s x) (hC : CacheR w B cb b slb mb n r.s.mem r.arena r.used r.built r.slots r.blocks l) (hB : B ≤ w.heap.size)
    (hN : N = (blockIns r.s.mem r.s.pc 8).length) (hf : fetch r.s = .inr i) (hKK : r.slotK = K) (hKlt : K < l.length)
    (hL : L.length = l.length) (hLS : LS.length = r.slots.length) (h1 : ∀ (j : Nat) q, L[j]? = some (some q) → l[j]? = some (some q) ∧ LS[j]? = r.slots[j]?) (h2 : ∀ j : Nat, L[j]? = some none → LS[j]? = some (0, 0))
    (hfind : r.find = { r with slots := LS.set K (r.s.pc, (N : Int)), used := u, built := r.built + 1, cur := (r.s.pc, (N : Int)), at_ := 0, blocks := putB r.blocks ⟨r.s.pc, N, (blkAt r.blocks r.s.pc).built + 1, (blkAt r.blocks r.s.pc).entered + 1⟩ })
    (ho : Only (MissS cb slb l K) w W) (hrow : W.heap[cb]? = some (.cells (cRow b slb l.length r.arena u (r.built + 1) (.map (some mb))) 93 (0, 0))) (hsl : W.heap[slb]? = some (.cells ((L.set K (some ⟨w.heap.size, r.s.pc, recs⟩)).map entVal).toArray 130 (0, 0)))
    (hnew : W.heap[w.heap.size]? = some (.cells (blkRow ⟨w.heap.size, r.s.pc, recs⟩ false) 134 (0, 0))) (hrec : RecsAt W w.heap.size recs (blockIns r.s.mem r.s.pc 8))
    (ho2 : Only (· = mb) W w2) (hm : SeenIs w2 mb (n + 1) (putB r.blocks ⟨r.s.pc, N, (blkAt r.blocks r.s.pc).built + 1, (blkAt r.blocks r.s.pc).entered + 1⟩)) :
    FindP B cb b slb mb n r x w (.returned (.pointer (some ⟨w.heap.size, 0, none⟩))) w2 (.inr i) := by
  obtain ⟨p4, pf, hd⟩ := fetch_word hf
  have hNpos : 0 < (blockIns r.s.mem r.s.pc 8).length := block_pos hd
  obtain ⟨es, clock, hmo⟩ := map_obj hC.map
  have hmlt := heap_lt hmo
  have hKL : K < L.length := by omega
  have hget : ∀ (j : Nat) q, (L.set K (some ⟨w.heap.size, r.s.pc, recs⟩))[j]? = some q → (j = K ∧ q = some ⟨w.heap.size, r.s.pc, recs⟩) ∨ (j ≠ K ∧ L[j]? = some q) := by
    intro j q hj
    by_cases e : j = K
    · subst e
      rw [List.getElem?_set_self hKL] at hj
      simp only [Option.some.injEq] at hj
      exact .inl ⟨rfl, hj.symm⟩
    · rw [List.getElem?_set_ne (Ne.symm e)] at hj
      exact .inr ⟨e, hj⟩
  have hglt : ∀ (j : Nat) q, l[j]? = some (some q) → q.g < w.heap.size := fun j q hj => heap_lt (hC.sl.blk j q hj)
  have hkeep : ∀ (j : Nat) q, j ≠ K → l[j]? = some (some q) → ¬ MissS cb slb l K q.g := by
    rintro j q hjK hj (e | e | ⟨q', hq', e⟩)
    · exact blk_ne (hC.sl.blk j q hj) hC.hc (by decide) e
    · exact blk_ne (hC.sl.blk j q hj) hC.sl.row (by decide) e
    · exact hjK (hC.sl.inj j K q q' hj hq' e)
  have hrk : ∀ (j : Nat) q g, l[j]? = some (some q) → q.recs.ownBlock = some g → ¬ MissS cb slb l K g ∧ g ≠ mb := by
    intro j q g hj hg
    obtain ⟨q2, _, hE⟩ := hC.ent j q hj
    obtain ⟨g', cap, cur, hv, _, hg', _⟩ := recs_form hE.recs hE.pos
    rw [hv] at hg
    simp only [Value.ownBlock, Option.some.injEq] at hg
    subst hg
    refine ⟨?_, map_ne hmo hg'⟩
    rintro (e | e | ⟨q', hq', e⟩)
    · exact blk_ne hg' hC.hc (by decide) e
    · exact blk_ne hg' hC.sl.row (by decide) e
    · exact blk_ne hg' (hC.sl.blk K q' hq') (by decide) e
  have hgm : ∀ (j : Nat) q, l[j]? = some (some q) → ¬ q.g = mb := fun j q hj => map_ne hmo (hC.sl.blk j q hj)
  have hcm : ¬ cb = mb := map_ne hmo hC.hc
  have hsm : ¬ slb = mb := map_ne hmo hC.sl.row
  have hown : Only (Own B w) w w2 := by
    refine ho.trans ho2 (fun k _ hk => ?_) (fun k _ hk => hC.own (.inr (.inl hk)))
    rcases hk with e | e | ⟨q, hq, e⟩
    · exact hC.own (.inl e)
    · exact hC.own (.inr (.inr (.inl e)))
    · exact hC.own (.inr (.inr (.inr ⟨K, q, hq, e⟩)))
  refine ⟨L.set K (some ⟨w.heap.size, r.s.pc, recs⟩), K, ⟨w.heap.size, r.s.pc, recs⟩, rfl, List.getElem?_set_self hKL, rfl, by rw [hfind, hN], by rw [hfind], ?_, ?_, hown⟩
  · rw [hfind]
    dsimp only
    refine ⟨?_, ⟨ho2.heap hsm hsl, fun k e hk => ?_, fun j k e e' hj hk hg => ?_⟩, ?_, ?_, ?_, fun k hk => ?_, fun k e hk => ?_, hm, putB_rising _ _ hC.rising, hC.Bs⟩
    · rw [List.length_set, hL]
      exact ho2.heap hcm hrow
    · rcases hget k _ hk with ⟨rfl, he⟩ | ⟨hne, hLk⟩
      · simp only [Option.some.injEq] at he
        subst he
        exact ho2.heap (by show ¬ w.heap.size = mb; omega) hnew
      · have hlk := (h1 k e hLk).1
        exact ho2.heap (hgm k e hlk) (ho.heap (hkeep k e hne hlk) (hC.sl.blk k e hlk))
    · rcases hget j _ hj with ⟨rfl, he⟩ | ⟨hne, hLj⟩
      · rcases hget k _ hk with ⟨rfl, he'⟩ | ⟨hne', hLk⟩
        · rfl
        · simp only [Option.some.injEq] at he
          subst he
          have := hglt k e' (h1 k e' hLk).1
          have hg' : w.heap.size = e'.g := hg
          omega
      · rcases hget k _ hk with ⟨rfl, he'⟩ | ⟨hne', hLk⟩
        · simp only [Option.some.injEq] at he'
          subst he'
          have := hglt j e (h1 j e hLj).1
          have hg' : e.g = w.heap.size := hg
          omega
        · exact hC.sl.inj j k e e' (h1 j e hLj).1 (h1 k e' hLk).1 hg
    · rw [List.length_set, List.length_set, hL, hLS, hC.len]
    · rw [List.length_set, hL]; exact hC.pos
    · rw [List.length_set, hL]; exact hC.max
    · rcases hget k _ hk with ⟨rfl, he⟩ | ⟨hne, hLk⟩
      · cases he
      · rw [List.getElem?_set_ne (Ne.symm hne)]
        exact h2 k hLk
    · rcases hget k _ hk with ⟨rfl, he⟩ | ⟨hne, hLk⟩
      · simp only [Option.some.injEq] at he
        subst he
        refine ⟨(r.s.pc, (N : Int)), List.getElem?_set_self (by rw [hLS, ← hC.len]; exact hKlt), rfl, by rw [hN], hNpos, hr.ok.s.pc.1, p4, pf, ?_, hB, _, putB_self _ _, rfl⟩
        refine ownsRow_base (ownsRow_only hrec ho2 (fun g hg => ?_)) hB
        have := (ownsRow_ge hrec g hg).1
        omega
      · obtain ⟨hlk, hsk⟩ := h1 k e hLk
        obtain ⟨q, hq, hE⟩ := hC.ent k e hlk
        obtain ⟨z, hz, hzp⟩ := hE.seen
        obtain ⟨z', hz', hzp'⟩ := putB_keep ⟨r.s.pc, N, (blkAt r.blocks r.s.pc).built + 1, (blkAt r.blocks r.s.pc).entered + 1⟩ r.blocks z hz
        refine ⟨q, by rw [List.getElem?_set_ne (Ne.symm hne), hsk]; exact hq, hE.pc, hE.len, hE.pos, hE.p0, hE.p4, hE.fit, ?_, hE.g, z', hz', by rw [hzp', hzp]⟩
        exact ownsRow_only (ownsRow_only hE.recs ho (fun g hg => (hrk k e g hlk hg).1)) ho2 (fun g hg => (hrk k e g hlk hg).2)
  · refine h.apart2 (ho.trans ho2 (U := fun k => MissS cb slb l K k ∨ k = mb) (fun _ _ h => .inl h) (fun _ _ h => .inr h)) (fun k _ hk => ?_)
    rcases hk with (e | e | ⟨q, hq, e⟩) | e
    · rw [e]; exact .inl (row_cb (fun t h => by cases h) hC.hc)
    · rw [e]; exact .inl hC.sl.cb
    · rw [e]
      obtain ⟨q2, _, hE⟩ := hC.ent K q hq
      obtain ⟨g', cap, cur, hv, _⟩ := recs_form hE.recs hE.pos
      exact .inl (blk_cb ⟨_, _, _, hv⟩ (hC.sl.blk K q hq))
    · rw [e]; exact .inr ⟨es, clock, hmo⟩
set_option maxRecDepth 100000 in
set_option maxHeartbeats 1000000 in
theorem cfind_none (B cb b slb mb n : Nat) (hn : n < 1000000) (r : RS) (hr : r.Head) (l : CEs) (x : Raw) (w : World) (h : Mach w b r.s x) (ht : Tab w) (hC : CacheR w B cb b slb mb n r.s.mem r.arena r.used r.built r.slots r.blocks l) (hB : B ≤ w.heap.size)
    (hk : l[r.slotK]? = some none) (N : Nat) (hN : N = (blockIns r.s.mem r.s.pc 8).length) (hbig : r.used + N ≤ r.arena) (i : Ins) (hf : fetch r.s = .inr i) :
    Calls Tryz.prog 82 #[.pointer (some ⟨cb, 0, none⟩), .int .u32 r.s.pc] w fun en w' => FindP B cb b slb mb n r x w en w' (.inr i) := by
  obtain ⟨pc0, pc1⟩ := hr.ok.s.pc
  have st := hr.ok.steps
  have fu := hr.ok.fuel
  have us := hr.cnt.used
  have ar := hr.cnt.arena (by have := hC.len; have := hC.pos; omega)
  have bu := hr.cnt.built
  have hbd := blkAt_ok (pc := r.s.pc) hr.cnt.blocks st.1 st.1
  have hlen := blockIns_len r.s.mem 8 r.s.pc
  rw [← hN] at hlen
  have hpos := hC.pos
  have hmax := hC.max
  have hl0 : (0 : Int) < l.length := by omega
  have hK : r.s.pc / 4 % (l.length : Int) = (r.slotK : Int) := by
    unfold RS.slotK
    rw [hC.len]
    have h0 := Int.emod_nonneg (r.s.pc / 4) (show (r.slots.length : Int) ≠ 0 by rw [← hC.len]; omega)
    omega
  have hKlt : r.slotK < l.length := (List.getElem?_eq_some_iff.1 hk).1
  have c1 : w.cell? ⟨cb, 1, none⟩ = some (.slice (some ⟨slb, 0, none⟩) l.length l.length) := cell_of_row w _ 1 _ _ _ hC.hc
  have sk : w.cell? ⟨slb, r.slotK, none⟩ = some (.pointer none) := by
    rw [cell_of_row w slb r.slotK _ _ _ hC.sl.row]
    simp [hk, entVal]
  have hbuild := fun W (hW : Only (fun _ => False) w W) => build_any cb b slb l.length r.arena r.used r.built (.map (some mb)) r.s hr.ok.s hr.ok.mem64 x W (h.no hW) (ht.only hW (fun h => h)) (hW.heap (fun h => h) hC.hc)
  have HF := Lib.hid hf
  rw [hf] at hbuild
  have H := Lib.hid h
  have HC := Lib.hid hC
  have HN := Lib.hid hN
  have HK := Lib.hid hk
  have HR := Lib.hid hr
  have HBU := Lib.hid hbuild
  generalize hKK : r.slotK = K at *
  have HKK := Lib.hid hKK
  clear h hC hk hr hKK hN hbuild hf ht
  go_enter Tryz.func82, Tryz.ntmps82
  go_wp2_with fail
  go_quiet (fail)
  go_wp2_with fail
  refine (HBU.out _ ((Only.refl _ w).drewN _)).mono ?_
  rintro en w1 ⟨recs, rfl, hg1, hrec1, ho1⟩
  have e0 : (w.drewN nq).heap.size = w.heap.size := rfl
  rw [e0] at hg1 hrec1
  rw [e0]
  clear e0
  have HO1 := Lib.hid (((Only.refl _ w).drewN _).then ho1)
  have hNp : 0 < N := by rw [HN.out]; exact block_pos (fetch_word HF.out).2.2
  obtain ⟨g', cap, cur, hv, hgB, hg', hcap⟩ := recs_form hrec1 (by rw [← HN.out]; exact hNp)
  subst hv
  have HG1 := Lib.hid hg1
  have HREC1 := Lib.hid hrec1
  have b0 : w1.cell? ⟨w.heap.size, 0, none⟩ = some (.int .u32 r.s.pc) := cell_of_row w1 _ 0 _ _ _ hg1
  have b1 : w1.cell? ⟨w.heap.size, 1, none⟩ = some (.slice (some ⟨g', 0, none⟩) N cap) := by rw [HN.out]; exact cell_of_row w1 _ 1 _ _ _ hg1
  have hc1 := HO1.out.heap (fun h => h) HC.out.hc
  have hs1 := HO1.out.heap (fun h => h) HC.out.sl.row
  have k2 : w1.cell? ⟨cb, 2, none⟩ = some (.int .i64 r.arena) := cell_of_row w1 _ 2 _ _ _ hc1
  have k3 : w1.cell? ⟨cb, 3, none⟩ = some (.int .i64 r.used) := cell_of_row w1 _ 3 _ _ _ hc1
  have k4 : w1.cell? ⟨cb, 4, none⟩ = some (.int .i64 r.built) := cell_of_row w1 _ 4 _ _ _ hc1
  have z3 : w1.frozen? ⟨cb, 3, none⟩ = false := frozen_of_row w1 _ 3 _ _ hc1
  have z4 : w1.frozen? ⟨cb, 4, none⟩ = false := frozen_of_row w1 _ 4 _ _ hc1
  have sk1 : w1.cell? ⟨slb, K, none⟩ = some (.pointer none) := HO1.out.cell (fun h => h) sk
  have zk1 : w1.frozen? ⟨slb, K, none⟩ = false := frozen_of_row w1 _ K _ _ hs1
  have hcs : ¬ cb = slb := blk_ne hc1 hs1 (by decide)
  have hsc : ¬ slb = cb := fun e => hcs e.symm
  clear hg1 hrec1 ho1 hg' hc1 hs1 sk c1
  go_wp2_with fail
  go_quiet (fail)
  go_wp2_with fail
  obtain ⟨W, hW⟩ : ∃ W, W = ((((w1.drewN nq).setCell ⟨cb, 3, none⟩ (.int .i64 (r.used + N))).setCell ⟨cb, 4, none⟩ (.int .i64 (r.built + 1))).setCell ⟨slb, K, none⟩ (.pointer (some ⟨w.heap.size, 0, none⟩))) := ⟨_, rfl⟩
  have hWo : Only (MissS cb slb l K) w1 W := by
    rw [hW]
    exact ((((Only.refl _ w1).drewN _).setS (.inl rfl) _ _).setS (.inl rfl) _ _).setS (.inr (.inl rfl)) _ _
  have hgn : ∀ q : CEnt, l[K]? = some (some q) → ¬ w.heap.size = q.g := fun q hq => by have := heap_lt (HC.out.sl.blk K q hq); omega
  have hnS : ∀ k, w.heap.size ≤ k → ¬ MissS cb slb l K k := by
    rintro k hk (e | e | ⟨q, hq, e⟩)
    · have := heap_lt HC.out.hc; omega
    · have := heap_lt HC.out.sl.row; omega
    · have := heap_lt (HC.out.sl.blk K q hq); omega
  have hrowW : W.heap[cb]? = some (.cells (cRow b slb l.length r.arena (r.used + N) (r.built + 1) (.map (some mb))) 93 (0, 0)) := by
    rw [hW]
    exact ((Only.refl (· = slb) _).set1 K _).heap hcs (crow_set (w := w1.drewN nq) (HO1.out.heap (fun h => h) HC.out.hc) _ _)
  have hslW : W.heap[slb]? = some (.cells ((l.set K (some ⟨w.heap.size, r.s.pc, .slice (some ⟨g', 0, none⟩) (blockIns r.s.mem r.s.pc 8).length cap⟩)).map entVal).toArray 130 (0, 0)) := by
    rw [hW]
    exact slot_set (L := l) ((((Only.refl (· = cb) (w1.drewN nq)).set1 3 _).set1 4 _).heap hsc (HO1.out.heap (fun h => h) HC.out.sl.row)) ⟨w.heap.size, r.s.pc, _⟩
  have hnewW := hWo.heap (hnS _ (Nat.le_refl _)) HG1.out
  have hmW : SeenIs W mb n r.blocks := (HC.out.map.only HO1.out (fun h => h)).only hWo (by
    rintro (e | e | ⟨q, hq, e⟩)
    · exact map_other HC.out.map HC.out.hc e.symm
    · exact map_other HC.out.map HC.out.sl.row e.symm
    · exact map_other HC.out.map (HC.out.sl.blk K q hq) e.symm)
  rw [← hW]
  have HB := Lib.hid hB
  have hnote := note_any cb b slb l.length r.arena (r.used + N) (r.built + 1) mb n r.blocks HC.out.rising (by unfold maxLen; omega) ⟨w.heap.size, r.s.pc, .slice (some ⟨g', 0, none⟩) (blockIns r.s.mem r.s.pc 8).length cap⟩ false (some ⟨g', 0, none⟩) N cap (by rw [← HN.out]) hlen pc0 pc1 (by show 0 ≤ (blkAt r.blocks r.s.pc).built; omega) (by show (blkAt r.blocks r.s.pc).built ≤ _; omega) (by show 0 ≤ (blkAt r.blocks r.s.pc).entered; omega) (by show (blkAt r.blocks r.s.pc).entered ≤ _; omega) 1 (.inr rfl) W hrowW hnewW hmW
  refine hnote.mono ?_
  rintro en w2 ⟨rfl, hmap, ho2⟩
  dsimp only at hmap
  rw [if_pos (by decide)] at hmap
  go_wp2_with fail
  go_ret
  have hfind := find_miss (r := r) (by rw [← HC.out.len]; exact hpos) (fun q hq => by
    rw [HKK.out, HC.out.emp K HK.out] at hq
    simp only [Option.some.injEq] at hq
    exact .inl (by rw [← hq])) HC.out.rising N (by rw [HN.out])
  rw [if_neg (by omega), if_neg (by omega), HKK.out] at hfind
  refine miss_done (L := l) (LS := r.slots) (K := K) HR.out H.out HC.out HB.out HN.out HF.out HKK.out hKlt rfl rfl (fun j q hj => ⟨hj, rfl⟩) (fun j hj => HC.out.emp j hj) hfind (HO1.out.no.then hWo) hrowW hslW hnewW (ownsRow_only HREC1.out hWo (fun g hg => hnS g (ownsRow_ge HREC1.out g hg).1)) ho2 hmap
/-! ### The other ways -/
set_option maxRecDepth 100000 in
set_option maxHeartbeats 1000000 in
theorem cfind_old (B cb b slb mb n : Nat) (hn : n < 1000000) (r : RS) (hr : r.Head) (l : CEs) (x : Raw) (w : World) (h : Mach w b r.s x) (ht : Tab w) (hC : CacheR w B cb b slb mb n r.s.mem r.arena r.used r.built r.slots r.blocks l) (hB : B ≤ w.heap.size)
    (e : CEnt) (hk : l[r.slotK]? = some (some e)) (hep : ¬ e.pc = r.s.pc) (N : Nat) (hN : N = (blockIns r.s.mem r.s.pc 8).length) (hbig : r.used + N ≤ r.arena) (i : Ins) (hf : fetch r.s = .inr i) :
    Calls Tryz.prog 82 #[.pointer (some ⟨cb, 0, none⟩), .int .u32 r.s.pc] w fun en w' => FindP B cb b slb mb n r x w en w' (.inr i) := by
  obtain ⟨pc0, pc1⟩ := hr.ok.s.pc
  have st := hr.ok.steps
  have fu := hr.ok.fuel
  have us := hr.cnt.used
  have ar := hr.cnt.arena (by have := hC.len; have := hC.pos; omega)
  have bu := hr.cnt.built
  have hbd := blkAt_ok (pc := r.s.pc) hr.cnt.blocks st.1 st.1
  have hlen := blockIns_len r.s.mem 8 r.s.pc
  rw [← hN] at hlen
  have hpos := hC.pos
  have hmax := hC.max
  have hl0 : (0 : Int) < l.length := by omega
  have hK : r.s.pc / 4 % (l.length : Int) = (r.slotK : Int) := by
    unfold RS.slotK
    rw [hC.len]
    have h0 := Int.emod_nonneg (r.s.pc / 4) (show (r.slots.length : Int) ≠ 0 by rw [← hC.len]; omega)
    omega
  have hKlt : r.slotK < l.length := (List.getElem?_eq_some_iff.1 hk).1
  have c1 : w.cell? ⟨cb, 1, none⟩ = some (.slice (some ⟨slb, 0, none⟩) l.length l.length) := cell_of_row w _ 1 _ _ _ hC.hc
  have sk : w.cell? ⟨slb, r.slotK, none⟩ = some (.pointer (some ⟨e.g, 0, none⟩)) := by
    rw [cell_of_row w slb r.slotK _ _ _ hC.sl.row]
    simp [hk, entVal]
  have hbl := hC.sl.blk _ _ hk
  have g0 : w.cell? ⟨e.g, 0, none⟩ = some (.int .u32 e.pc) := cell_of_row w _ 0 _ _ _ hbl
  have g2 : w.cell? ⟨e.g, 2, none⟩ = some (.bool false) := cell_of_row w _ 2 _ _ _ hbl
  have gz : w.frozen? ⟨e.g, 2, none⟩ = false := frozen_of_row w _ 2 _ _ hbl
  have heb : (e.pc == r.s.pc) = false := by simpa using hep
  have hegc : ¬ e.g = cb := blk_ne hbl hC.hc (by decide)
  have hegs : ¬ e.g = slb := blk_ne hbl hC.sl.row (by decide)
  have hcge : ¬ cb = e.g := fun h => hegc h.symm
  have hsge : ¬ slb = e.g := fun h => hegs h.symm
  have hegl := heap_lt hbl
  have HBL := Lib.hid hbl
  have hbuild := fun W (hW : Only (fun _ => False) w W) => build_any cb b slb l.length r.arena r.used r.built (.map (some mb)) r.s hr.ok.s hr.ok.mem64 x W (h.no hW) (ht.only hW (fun h => h)) (hW.heap (fun h => h) hC.hc)
  have HF := Lib.hid hf
  rw [hf] at hbuild
  have H := Lib.hid h
  have HC := Lib.hid hC
  have HN := Lib.hid hN
  have HK := Lib.hid hk
  have HR := Lib.hid hr
  have HBU := Lib.hid hbuild
  generalize hKK : r.slotK = K at *
  have HKK := Lib.hid hKK
  clear h hC hk hr hKK hN hbuild hf ht hbl
  go_enter Tryz.func82, Tryz.ntmps82
  go_wp2_with fail
  go_quiet (fail)
  go_wp2_with fail
  refine (HBU.out _ ((Only.refl _ w).drewN _)).mono ?_
  rintro en w1 ⟨recs, rfl, hg1, hrec1, ho1⟩
  have e0 : (w.drewN nq).heap.size = w.heap.size := rfl
  rw [e0] at hg1 hrec1
  rw [e0]
  clear e0
  have HO1 := Lib.hid (((Only.refl _ w).drewN _).then ho1)
  have hNp : 0 < N := by rw [HN.out]; exact block_pos (fetch_word HF.out).2.2
  obtain ⟨g', cap, cur, hv, hgB, hg', hcap⟩ := recs_form hrec1 (by rw [← HN.out]; exact hNp)
  subst hv
  have HG1 := Lib.hid hg1
  have HREC1 := Lib.hid hrec1
  have b0 : w1.cell? ⟨w.heap.size, 0, none⟩ = some (.int .u32 r.s.pc) := cell_of_row w1 _ 0 _ _ _ hg1
  have b1 : w1.cell? ⟨w.heap.size, 1, none⟩ = some (.slice (some ⟨g', 0, none⟩) N cap) := by rw [HN.out]; exact cell_of_row w1 _ 1 _ _ _ hg1
  have hc1 := HO1.out.heap (fun h => h) HC.out.hc
  have hs1 := HO1.out.heap (fun h => h) HC.out.sl.row
  have k2 : w1.cell? ⟨cb, 2, none⟩ = some (.int .i64 r.arena) := cell_of_row w1 _ 2 _ _ _ hc1
  have k3 : w1.cell? ⟨cb, 3, none⟩ = some (.int .i64 r.used) := cell_of_row w1 _ 3 _ _ _ hc1
  have k4 : w1.cell? ⟨cb, 4, none⟩ = some (.int .i64 r.built) := cell_of_row w1 _ 4 _ _ _ hc1
  have z3 : w1.frozen? ⟨cb, 3, none⟩ = false := frozen_of_row w1 _ 3 _ _ hc1
  have z4 : w1.frozen? ⟨cb, 4, none⟩ = false := frozen_of_row w1 _ 4 _ _ hc1
  have sk1 : w1.cell? ⟨slb, K, none⟩ = some (.pointer (some ⟨e.g, 0, none⟩)) := HO1.out.cell (fun h => h) sk
  have g21 : w1.cell? ⟨e.g, 2, none⟩ = some (.bool false) := HO1.out.cell (fun h => h) g2
  have gz1 : w1.frozen? ⟨e.g, 2, none⟩ = false := HO1.out.free (fun h => h) hegl gz
  have zk1 : w1.frozen? ⟨slb, K, none⟩ = false := frozen_of_row w1 _ K _ _ hs1
  have hcs : ¬ cb = slb := blk_ne hc1 hs1 (by decide)
  have hsc : ¬ slb = cb := fun e => hcs e.symm
  clear hg1 hrec1 ho1 hg' hc1 hs1 sk c1
  go_wp2_with fail
  go_quiet (fail)
  go_wp2_with fail
  obtain ⟨W, hW⟩ : ∃ W, W = (((((w1.drewN nq).setCell ⟨cb, 3, none⟩ (.int .i64 (r.used + N))).setCell ⟨cb, 4, none⟩ (.int .i64 (r.built + 1))).setCell ⟨e.g, 2, none⟩ (.bool true)).setCell ⟨slb, K, none⟩ (.pointer (some ⟨w.heap.size, 0, none⟩))) := ⟨_, rfl⟩
  have hWo : Only (MissS cb slb l K) w1 W := by
    rw [hW]
    exact (((((Only.refl _ w1).drewN _).setS (.inl rfl) _ _).setS (.inl rfl) _ _).setS (.inr (.inr ⟨e, HK.out, rfl⟩)) _ _).setS (.inr (.inl rfl)) _ _
  have hgn : ∀ q : CEnt, l[K]? = some (some q) → ¬ w.heap.size = q.g := fun q hq => by have := heap_lt (HC.out.sl.blk K q hq); omega
  have hnS : ∀ k, w.heap.size ≤ k → ¬ MissS cb slb l K k := by
    rintro k hk (e | e | ⟨q, hq, e⟩)
    · have := heap_lt HC.out.hc; omega
    · have := heap_lt HC.out.sl.row; omega
    · have := heap_lt (HC.out.sl.blk K q hq); omega
  have hrowW : W.heap[cb]? = some (.cells (cRow b slb l.length r.arena (r.used + N) (r.built + 1) (.map (some mb))) 93 (0, 0)) := by
    rw [hW]
    exact ((Only.refl (fun k => k = slb ∨ k = e.g) _).setS (.inr rfl) 2 _ |>.setS (.inl rfl) K _).heap (fun h => h.elim hcs hcge) (crow_set (w := w1.drewN nq) (HO1.out.heap (fun h => h) HC.out.hc) _ _)
  have hslW : W.heap[slb]? = some (.cells ((l.set K (some ⟨w.heap.size, r.s.pc, .slice (some ⟨g', 0, none⟩) (blockIns r.s.mem r.s.pc 8).length cap⟩)).map entVal).toArray 130 (0, 0)) := by
    rw [hW]
    exact slot_set (L := l) ((((Only.refl (fun k => k = cb ∨ k = e.g) (w1.drewN nq)).setS (.inl rfl) 3 _).setS (.inl rfl) 4 _ |>.setS (.inr rfl) 2 _).heap (fun h => h.elim hsc hsge) (HO1.out.heap (fun h => h) HC.out.sl.row)) ⟨w.heap.size, r.s.pc, _⟩
  have hnewW := hWo.heap (hnS _ (Nat.le_refl _)) HG1.out
  have hmW : SeenIs W mb n r.blocks := (HC.out.map.only HO1.out (fun h => h)).only hWo (by
    rintro (e | e | ⟨q, hq, e⟩)
    · exact map_other HC.out.map HC.out.hc e.symm
    · exact map_other HC.out.map HC.out.sl.row e.symm
    · exact map_other HC.out.map (HC.out.sl.blk K q hq) e.symm)
  rw [← hW]
  have HB := Lib.hid hB
  have hnote := note_any cb b slb l.length r.arena (r.used + N) (r.built + 1) mb n r.blocks HC.out.rising (by unfold maxLen; omega) ⟨w.heap.size, r.s.pc, .slice (some ⟨g', 0, none⟩) (blockIns r.s.mem r.s.pc 8).length cap⟩ false (some ⟨g', 0, none⟩) N cap (by rw [← HN.out]) hlen pc0 pc1 (by show 0 ≤ (blkAt r.blocks r.s.pc).built; omega) (by show (blkAt r.blocks r.s.pc).built ≤ _; omega) (by show 0 ≤ (blkAt r.blocks r.s.pc).entered; omega) (by show (blkAt r.blocks r.s.pc).entered ≤ _; omega) 1 (.inr rfl) W hrowW hnewW hmW
  refine hnote.mono ?_
  rintro en w2 ⟨rfl, hmap, ho2⟩
  dsimp only at hmap
  rw [if_pos (by decide)] at hmap
  go_wp2_with fail
  go_ret
  have hfind := find_miss (r := r) (by rw [← HC.out.len]; exact hpos) (fun q hq => by
    obtain ⟨q', hq', hE⟩ := HC.out.ent K e HK.out
    rw [HKK.out, hq'] at hq
    simp only [Option.some.injEq] at hq
    exact .inr (by rw [← hq, hE.pc]; exact hep)) HC.out.rising N (by rw [HN.out])
  rw [if_neg (by omega), if_neg (by omega), HKK.out] at hfind
  refine miss_done (L := l) (LS := r.slots) (K := K) HR.out H.out HC.out HB.out HN.out HF.out HKK.out hKlt rfl rfl (fun j q hj => ⟨hj, rfl⟩) (fun j hj => HC.out.emp j hj) hfind (HO1.out.no.then hWo) hrowW hslW hnewW (ownsRow_only HREC1.out hWo (fun g hg => hnS g (ownsRow_ge HREC1.out g hg).1)) ho2 hmap
theorem rep_no (m j : Nat) (q : CEnt) : ¬ (List.replicate m (none : Option CEnt))[j]? = some (some q) := by
  intro h
  rw [List.getElem?_replicate] at h
  split at h <;> cases h
theorem rep_zero {m j : Nat} (h : (List.replicate m (none : Option CEnt))[j]? = some none) : (List.replicate m ((0 : Int), (0 : Int)))[j]? = some (0, 0) := by
  rw [List.getElem?_replicate] at h ⊢
  split at h
  · rename_i hj; rw [if_pos hj]
  · cases h
theorem only_setCells (b : Nat) : ∀ (vs : List Value) (o : Nat) (w : World), Only (· = b) w (w.setCells b o vs) := by
  intro vs
  induction vs with
  | nil => intro o w; exact Only.refl _ w
  | cons v vs ih => intro o w; exact ((Only.refl (· = b) w).set1 o v).then (ih (o + 1) _)
theorem setCells_heap (b : Nat) : ∀ (vs : List Value) (o : Nat) (w : World) (cs : List Value) (T : TypeId), w.heap[b]? = some (.cells cs.toArray T (0, 0)) → o + vs.length ≤ cs.length → (w.setCells b o vs).heap[b]? = some (.cells (cs.take o ++ vs ++ cs.drop (o + vs.length)).toArray T (0, 0)) := by
  intro vs
  induction vs with
  | nil => intro o w cs T h _; show w.heap[b]? = _; rw [h]; simp
  | cons v vs ih =>
    intro o w cs T h hl
    simp only [List.length_cons] at hl
    have h1 := heap_setCell_same w b o _ _ v h
    have h2 := ih (o + 1) (w.setCell ⟨b, o, none⟩ v) (cs.set o v) T (by rw [h1]; simp) (by rw [List.length_set]; omega)
    show ((w.setCell ⟨b, o, none⟩ v).setCells b (o + 1) vs).heap[b]? = _
    rw [h2]
    congr 3
    rw [List.take_succ_eq_append_getElem (by rw [List.length_set]; omega), List.take_set_of_le (Nat.le_refl o), List.getElem_set_self, List.drop_set_of_lt (by omega)]
    rw [show o + 1 + vs.length = o + (vs.length + 1) by omega]
    simp
set_option maxRecDepth 100000 in
set_option maxHeartbeats 1000000 in
theorem cfind_big_none (B cb b slb mb n : Nat) (hn : n < 1000000) (r : RS) (hr : r.Head) (l : CEs) (x : Raw) (w : World) (h : Mach w b r.s x) (ht : Tab w) (hC : CacheR w B cb b slb mb n r.s.mem r.arena r.used r.built r.slots r.blocks l) (hB : B ≤ w.heap.size)
    (hk : l[r.slotK]? = some none) (N : Nat) (hN : N = (blockIns r.s.mem r.s.pc 8).length) (hbig : r.arena < r.used + N) (i : Ins) (hf : fetch r.s = .inr i) :
    Calls Tryz.prog 82 #[.pointer (some ⟨cb, 0, none⟩), .int .u32 r.s.pc] w fun en w' => FindP B cb b slb mb n r x w en w' (.inr i) := by
  obtain ⟨pc0, pc1⟩ := hr.ok.s.pc
  have st := hr.ok.steps
  have fu := hr.ok.fuel
  have us := hr.cnt.used
  have ar := hr.cnt.arena (by have := hC.len; have := hC.pos; omega)
  have bu := hr.cnt.built
  have hbd := blkAt_ok (pc := r.s.pc) hr.cnt.blocks st.1 st.1
  have hlen := blockIns_len r.s.mem 8 r.s.pc
  rw [← hN] at hlen
  have hpos := hC.pos
  have hmax := hC.max
  have hl0 : (0 : Int) < l.length := by omega
  have hK : r.s.pc / 4 % (l.length : Int) = (r.slotK : Int) := by
    unfold RS.slotK
    rw [hC.len]
    have h0 := Int.emod_nonneg (r.s.pc / 4) (show (r.slots.length : Int) ≠ 0 by rw [← hC.len]; omega)
    omega
  have hKlt : r.slotK < l.length := (List.getElem?_eq_some_iff.1 hk).1
  have c1 : w.cell? ⟨cb, 1, none⟩ = some (.slice (some ⟨slb, 0, none⟩) l.length l.length) := cell_of_row w _ 1 _ _ _ hC.hc
  have sk : w.cell? ⟨slb, r.slotK, none⟩ = some (.pointer none) := by
    rw [cell_of_row w slb r.slotK _ _ _ hC.sl.row]
    simp [hk, entVal]
  have hbuild := fun W (hW : Only (fun _ => False) w W) => build_any cb b slb l.length r.arena r.used r.built (.map (some mb)) r.s hr.ok.s hr.ok.mem64 x W (h.no hW) (ht.only hW (fun h => h)) (hW.heap (fun h => h) hC.hc)
  have HF := Lib.hid hf
  rw [hf] at hbuild
  have H := Lib.hid h
  have HC := Lib.hid hC
  have HN := Lib.hid hN
  have HK := Lib.hid hk
  have HR := Lib.hid hr
  have HBU := Lib.hid hbuild
  generalize hKK : r.slotK = K at *
  have HKK := Lib.hid hKK
  clear h hC hk hr hKK hN hbuild hf ht
  go_enter Tryz.func82, Tryz.ntmps82
  go_wp2_with fail
  go_quiet (fail)
  go_wp2_with fail
  refine (HBU.out _ ((Only.refl _ w).drewN _)).mono ?_
  rintro en w1 ⟨recs, rfl, hg1, hrec1, ho1⟩
  have e0 : (w.drewN nq).heap.size = w.heap.size := rfl
  rw [e0] at hg1 hrec1
  rw [e0]
  clear e0
  have HO1 := Lib.hid (((Only.refl _ w).drewN _).then ho1)
  have hNp : 0 < N := by rw [HN.out]; exact block_pos (fetch_word HF.out).2.2
  obtain ⟨g', cap, cur, hv, hgB, hg', hcap⟩ := recs_form hrec1 (by rw [← HN.out]; exact hNp)
  subst hv
  have HG1 := Lib.hid hg1
  have HREC1 := Lib.hid hrec1
  have b0 : w1.cell? ⟨w.heap.size, 0, none⟩ = some (.int .u32 r.s.pc) := cell_of_row w1 _ 0 _ _ _ hg1
  have b1 : w1.cell? ⟨w.heap.size, 1, none⟩ = some (.slice (some ⟨g', 0, none⟩) N cap) := by rw [HN.out]; exact cell_of_row w1 _ 1 _ _ _ hg1
  have hc1 := HO1.out.heap (fun h => h) HC.out.hc
  have hs1 := HO1.out.heap (fun h => h) HC.out.sl.row
  have k2 : w1.cell? ⟨cb, 2, none⟩ = some (.int .i64 r.arena) := cell_of_row w1 _ 2 _ _ _ hc1
  have k3 : w1.cell? ⟨cb, 3, none⟩ = some (.int .i64 r.used) := cell_of_row w1 _ 3 _ _ _ hc1
  have k4 : w1.cell? ⟨cb, 4, none⟩ = some (.int .i64 r.built) := cell_of_row w1 _ 4 _ _ _ hc1
  have z3 : w1.frozen? ⟨cb, 3, none⟩ = false := frozen_of_row w1 _ 3 _ _ hc1
  have z4 : w1.frozen? ⟨cb, 4, none⟩ = false := frozen_of_row w1 _ 4 _ _ hc1
  have sk1 : w1.cell? ⟨slb, K, none⟩ = some (.pointer none) := HO1.out.cell (fun h => h) sk
  have zk1 : w1.frozen? ⟨slb, K, none⟩ = false := frozen_of_row w1 _ K _ _ hs1
  have hcs : ¬ cb = slb := blk_ne hc1 hs1 (by decide)
  have hsc : ¬ slb = cb := fun e => hcs e.symm
  clear hg1 hrec1 ho1 hg' hc1 hs1 sk c1
  have c11 : w1.cell? ⟨cb, 1, none⟩ = some (.slice (some ⟨slb, 0, none⟩) l.length l.length) := HO1.out.cell (fun h => h) (cell_of_row w _ 1 _ _ _ HC.out.hc)
  go_wp2_with fail
  go_quiet (fail)
  obtain ⟨wz, hwz⟩ : ∃ wz, wz = (w1.drewN nq).setCells slb 0 (List.replicate l.length (.pointer none)) := ⟨_, rfl⟩
  have hslr := HO1.out.heap (fun h => h) HC.out.sl.row
  have hcl : ∀ ty, (Builtin.clear_ #[90] ty #[.slice (some ⟨slb, 0, none⟩) l.length l.length]).run Tryz.prog (w1.drewN nq) = .ok (.tuple #[]) wz := by
    intro ty
    rw [hwz]
    refine Lib.run_clear_slice (w1.drewN nq) 90 130 ty (.pointer none) Tryz.underlying90 (fun _ => by kernel_rfl) rfl rfl slb 0 l.length l.length hpos (fun j hj => ?_) (fun j hj => ?_)
    · show (w1.cell? ⟨slb, 0 + j, none⟩).isSome = true
      rw [cell_of_row w1 slb (0 + j) _ _ _ hslr]
      simp [hj]
    · exact frozen_of_row w1 slb _ _ _ hslr
  have hzo : Only (· = slb) w1 wz := by rw [hwz]; exact ((Only.refl _ w1).drewN _).then (only_setCells slb _ _ _)
  have hzs : wz.heap[slb]? = some (.cells ((List.replicate l.length (none : Option CEnt)).map entVal).toArray 130 (0, 0)) := by
    rw [hwz, setCells_heap slb _ 0 (w1.drewN nq) _ _ hslr (by simp), List.drop_eq_nil_of_le (by simp)]
    simp [entVal]
  have hzc : wz.heap[cb]? = some (.cells (cRow b slb l.length r.arena r.used r.built (.map (some mb))) 93 (0, 0)) := hzo.heap hcs (HO1.out.heap (fun h => h) HC.out.hc)
  have q3 : wz.cell? ⟨cb, 3, none⟩ = some (.int .i64 r.used) := cell_of_row wz _ 3 _ _ _ hzc
  have q4 : wz.cell? ⟨cb, 4, none⟩ = some (.int .i64 r.built) := cell_of_row wz _ 4 _ _ _ hzc
  have y3 : wz.frozen? ⟨cb, 3, none⟩ = false := frozen_of_row wz _ 3 _ _ hzc
  have y4 : wz.frozen? ⟨cb, 4, none⟩ = false := frozen_of_row wz _ 4 _ _ hzc
  have skz : wz.cell? ⟨slb, K, none⟩ = some (.pointer none) := by
    rw [cell_of_row wz slb K _ _ _ hzs]
    simp [hKlt, entVal]
  have zkz : wz.frozen? ⟨slb, K, none⟩ = false := frozen_of_row wz _ K _ _ hzs
  have HZO := Lib.hid hzo
  have HZS := Lib.hid hzs
  have HZC := Lib.hid hzc
  clear hzo hzs hzc hwz hslr
  go_wp2_with fail
  obtain ⟨W, hW⟩ : ∃ W, W = ((((wz.setCell ⟨cb, 3, none⟩ (.int .i64 0)).setCell ⟨cb, 3, none⟩ (.int .i64 N)).setCell ⟨cb, 4, none⟩ (.int .i64 (r.built + 1))).setCell ⟨slb, K, none⟩ (.pointer (some ⟨w.heap.size, 0, none⟩))) := ⟨_, rfl⟩
  have hWo : Only (MissS cb slb l K) w1 W := by
    rw [hW]
    exact ((((HZO.out.mono (fun _ _ h => .inr (.inl h))).setS (.inl rfl) _ _).setS (.inl rfl) _ _).setS (.inl rfl) _ _).setS (.inr (.inl rfl)) _ _
  have hgn : ∀ q : CEnt, l[K]? = some (some q) → ¬ w.heap.size = q.g := fun q hq => by have := heap_lt (HC.out.sl.blk K q hq); omega
  have hnS : ∀ k, w.heap.size ≤ k → ¬ MissS cb slb l K k := by
    rintro k hk (e | e | ⟨q, hq, e⟩)
    · have := heap_lt HC.out.hc; omega
    · have := heap_lt HC.out.sl.row; omega
    · have := heap_lt (HC.out.sl.blk K q hq); omega
  have hrowW : W.heap[cb]? = some (.cells (cRow b slb l.length r.arena N (r.built + 1) (.map (some mb))) 93 (0, 0)) := by
    rw [hW]
    refine ((Only.refl (· = slb) _).set1 K _).heap hcs (crow_set (w := wz.setCell ⟨cb, 3, none⟩ (.int .i64 0)) (used := 0) (built := r.built) ?_ _ _)
    rw [heap_setCell_same _ cb 3 _ _ _ HZC.out]
    simp [cRow]
  have hslW : W.heap[slb]? = some (.cells (((List.replicate l.length none).set K (some ⟨w.heap.size, r.s.pc, .slice (some ⟨g', 0, none⟩) (blockIns r.s.mem r.s.pc 8).length cap⟩)).map entVal).toArray 130 (0, 0)) := by
    rw [hW]
    exact slot_set (L := List.replicate l.length none) (((((Only.refl (· = cb) wz).set1 3 _).set1 3 _).set1 4 _).heap hsc HZS.out) ⟨w.heap.size, r.s.pc, _⟩
  have hnewW := hWo.heap (hnS _ (Nat.le_refl _)) HG1.out
  have hmW : SeenIs W mb n r.blocks := (HC.out.map.only HO1.out (fun h => h)).only hWo (by
    rintro (e | e | ⟨q, hq, e⟩)
    · exact map_other HC.out.map HC.out.hc e.symm
    · exact map_other HC.out.map HC.out.sl.row e.symm
    · exact map_other HC.out.map (HC.out.sl.blk K q hq) e.symm)
  rw [← hW]
  have HB := Lib.hid hB
  have hnote := note_any cb b slb l.length r.arena N (r.built + 1) mb n r.blocks HC.out.rising (by unfold maxLen; omega) ⟨w.heap.size, r.s.pc, .slice (some ⟨g', 0, none⟩) (blockIns r.s.mem r.s.pc 8).length cap⟩ false (some ⟨g', 0, none⟩) N cap (by rw [← HN.out]) hlen pc0 pc1 (by show 0 ≤ (blkAt r.blocks r.s.pc).built; omega) (by show (blkAt r.blocks r.s.pc).built ≤ _; omega) (by show 0 ≤ (blkAt r.blocks r.s.pc).entered; omega) (by show (blkAt r.blocks r.s.pc).entered ≤ _; omega) 1 (.inr rfl) W hrowW hnewW hmW
  refine hnote.mono ?_
  rintro en w2 ⟨rfl, hmap, ho2⟩
  dsimp only at hmap
  rw [if_pos (by decide)] at hmap
  go_wp2_with fail
  go_ret
  have hfind := find_miss (r := r) (by rw [← HC.out.len]; exact hpos) (fun q hq => by
    rw [HKK.out, HC.out.emp K HK.out] at hq
    simp only [Option.some.injEq] at hq
    exact .inl (by rw [← hq])) HC.out.rising N (by rw [HN.out])
  rw [if_pos (by omega), if_pos (by omega), HKK.out] at hfind
  refine miss_done (L := List.replicate l.length none) (LS := List.replicate r.slots.length (0, 0)) (u := (N : Int)) (K := K) HR.out H.out HC.out HB.out HN.out HF.out HKK.out hKlt (by simp) (by simp) (fun j q hj => absurd hj (rep_no _ _ _)) (fun j hj => rep_zero (by rw [← HC.out.len]; exact hj)) (by rw [hfind, Int.zero_add]) (HO1.out.no.then hWo) hrowW hslW hnewW (ownsRow_only HREC1.out hWo (fun g hg => hnS g (ownsRow_ge HREC1.out g hg).1)) ho2 hmap
set_option maxRecDepth 100000 in
set_option maxHeartbeats 1000000 in
theorem cfind_big_old (B cb b slb mb n : Nat) (hn : n < 1000000) (r : RS) (hr : r.Head) (l : CEs) (x : Raw) (w : World) (h : Mach w b r.s x) (ht : Tab w) (hC : CacheR w B cb b slb mb n r.s.mem r.arena r.used r.built r.slots r.blocks l) (hB : B ≤ w.heap.size)
    (e : CEnt) (hk : l[r.slotK]? = some (some e)) (hep : ¬ e.pc = r.s.pc) (N : Nat) (hN : N = (blockIns r.s.mem r.s.pc 8).length) (hbig : r.arena < r.used + N) (i : Ins) (hf : fetch r.s = .inr i) :
    Calls Tryz.prog 82 #[.pointer (some ⟨cb, 0, none⟩), .int .u32 r.s.pc] w fun en w' => FindP B cb b slb mb n r x w en w' (.inr i) := by
  obtain ⟨pc0, pc1⟩ := hr.ok.s.pc
  have st := hr.ok.steps
  have fu := hr.ok.fuel
  have us := hr.cnt.used
  have ar := hr.cnt.arena (by have := hC.len; have := hC.pos; omega)
  have bu := hr.cnt.built
  have hbd := blkAt_ok (pc := r.s.pc) hr.cnt.blocks st.1 st.1
  have hlen := blockIns_len r.s.mem 8 r.s.pc
  rw [← hN] at hlen
  have hpos := hC.pos
  have hmax := hC.max
  have hl0 : (0 : Int) < l.length := by omega
  have hK : r.s.pc / 4 % (l.length : Int) = (r.slotK : Int) := by
    unfold RS.slotK
    rw [hC.len]
    have h0 := Int.emod_nonneg (r.s.pc / 4) (show (r.slots.length : Int) ≠ 0 by rw [← hC.len]; omega)
    omega
  have hKlt : r.slotK < l.length := (List.getElem?_eq_some_iff.1 hk).1
  have c1 : w.cell? ⟨cb, 1, none⟩ = some (.slice (some ⟨slb, 0, none⟩) l.length l.length) := cell_of_row w _ 1 _ _ _ hC.hc
  have sk : w.cell? ⟨slb, r.slotK, none⟩ = some (.pointer (some ⟨e.g, 0, none⟩)) := by
    rw [cell_of_row w slb r.slotK _ _ _ hC.sl.row]
    simp [hk, entVal]
  have hbl := hC.sl.blk _ _ hk
  have g0 : w.cell? ⟨e.g, 0, none⟩ = some (.int .u32 e.pc) := cell_of_row w _ 0 _ _ _ hbl
  have g2 : w.cell? ⟨e.g, 2, none⟩ = some (.bool false) := cell_of_row w _ 2 _ _ _ hbl
  have gz : w.frozen? ⟨e.g, 2, none⟩ = false := frozen_of_row w _ 2 _ _ hbl
  have heb : (e.pc == r.s.pc) = false := by simpa using hep
  have hegc : ¬ e.g = cb := blk_ne hbl hC.hc (by decide)
  have hegs : ¬ e.g = slb := blk_ne hbl hC.sl.row (by decide)
  have hcge : ¬ cb = e.g := fun h => hegc h.symm
  have hsge : ¬ slb = e.g := fun h => hegs h.symm
  have hegl := heap_lt hbl
  have HBL := Lib.hid hbl
  have hbuild := fun W (hW : Only (fun _ => False) w W) => build_any cb b slb l.length r.arena r.used r.built (.map (some mb)) r.s hr.ok.s hr.ok.mem64 x W (h.no hW) (ht.only hW (fun h => h)) (hW.heap (fun h => h) hC.hc)
  have HF := Lib.hid hf
  rw [hf] at hbuild
  have H := Lib.hid h
  have HC := Lib.hid hC
  have HN := Lib.hid hN
  have HK := Lib.hid hk
  have HR := Lib.hid hr
  have HBU := Lib.hid hbuild
  generalize hKK : r.slotK = K at *
  have HKK := Lib.hid hKK
  clear h hC hk hr hKK hN hbuild hf ht hbl
  go_enter Tryz.func82, Tryz.ntmps82
  go_wp2_with fail
  go_quiet (fail)
  go_wp2_with fail
  refine (HBU.out _ ((Only.refl _ w).drewN _)).mono ?_
  rintro en w1 ⟨recs, rfl, hg1, hrec1, ho1⟩
  have e0 : (w.drewN nq).heap.size = w.heap.size := rfl
  rw [e0] at hg1 hrec1
  rw [e0]
  clear e0
  have HO1 := Lib.hid (((Only.refl _ w).drewN _).then ho1)
  have hNp : 0 < N := by rw [HN.out]; exact block_pos (fetch_word HF.out).2.2
  obtain ⟨g', cap, cur, hv, hgB, hg', hcap⟩ := recs_form hrec1 (by rw [← HN.out]; exact hNp)
  subst hv
  have HG1 := Lib.hid hg1
  have HREC1 := Lib.hid hrec1
  have b0 : w1.cell? ⟨w.heap.size, 0, none⟩ = some (.int .u32 r.s.pc) := cell_of_row w1 _ 0 _ _ _ hg1
  have b1 : w1.cell? ⟨w.heap.size, 1, none⟩ = some (.slice (some ⟨g', 0, none⟩) N cap) := by rw [HN.out]; exact cell_of_row w1 _ 1 _ _ _ hg1
  have hc1 := HO1.out.heap (fun h => h) HC.out.hc
  have hs1 := HO1.out.heap (fun h => h) HC.out.sl.row
  have k2 : w1.cell? ⟨cb, 2, none⟩ = some (.int .i64 r.arena) := cell_of_row w1 _ 2 _ _ _ hc1
  have k3 : w1.cell? ⟨cb, 3, none⟩ = some (.int .i64 r.used) := cell_of_row w1 _ 3 _ _ _ hc1
  have k4 : w1.cell? ⟨cb, 4, none⟩ = some (.int .i64 r.built) := cell_of_row w1 _ 4 _ _ _ hc1
  have z3 : w1.frozen? ⟨cb, 3, none⟩ = false := frozen_of_row w1 _ 3 _ _ hc1
  have z4 : w1.frozen? ⟨cb, 4, none⟩ = false := frozen_of_row w1 _ 4 _ _ hc1
  have sk1 : w1.cell? ⟨slb, K, none⟩ = some (.pointer (some ⟨e.g, 0, none⟩)) := HO1.out.cell (fun h => h) sk
  have zk1 : w1.frozen? ⟨slb, K, none⟩ = false := frozen_of_row w1 _ K _ _ hs1
  have hcs : ¬ cb = slb := blk_ne hc1 hs1 (by decide)
  have hsc : ¬ slb = cb := fun e => hcs e.symm
  clear hg1 hrec1 ho1 hg' hc1 hs1 sk c1
  have c11 : w1.cell? ⟨cb, 1, none⟩ = some (.slice (some ⟨slb, 0, none⟩) l.length l.length) := HO1.out.cell (fun h => h) (cell_of_row w _ 1 _ _ _ HC.out.hc)
  go_wp2_with fail
  go_quiet (fail)
  obtain ⟨wz, hwz⟩ : ∃ wz, wz = (w1.drewN nq).setCells slb 0 (List.replicate l.length (.pointer none)) := ⟨_, rfl⟩
  have hslr := HO1.out.heap (fun h => h) HC.out.sl.row
  have hcl : ∀ ty, (Builtin.clear_ #[90] ty #[.slice (some ⟨slb, 0, none⟩) l.length l.length]).run Tryz.prog (w1.drewN nq) = .ok (.tuple #[]) wz := by
    intro ty
    rw [hwz]
    refine Lib.run_clear_slice (w1.drewN nq) 90 130 ty (.pointer none) Tryz.underlying90 (fun _ => by kernel_rfl) rfl rfl slb 0 l.length l.length hpos (fun j hj => ?_) (fun j hj => ?_)
    · show (w1.cell? ⟨slb, 0 + j, none⟩).isSome = true
      rw [cell_of_row w1 slb (0 + j) _ _ _ hslr]
      simp [hj]
    · exact frozen_of_row w1 slb _ _ _ hslr
  have hzo : Only (· = slb) w1 wz := by rw [hwz]; exact ((Only.refl _ w1).drewN _).then (only_setCells slb _ _ _)
  have hzs : wz.heap[slb]? = some (.cells ((List.replicate l.length (none : Option CEnt)).map entVal).toArray 130 (0, 0)) := by
    rw [hwz, setCells_heap slb _ 0 (w1.drewN nq) _ _ hslr (by simp), List.drop_eq_nil_of_le (by simp)]
    simp [entVal]
  have hzc : wz.heap[cb]? = some (.cells (cRow b slb l.length r.arena r.used r.built (.map (some mb))) 93 (0, 0)) := hzo.heap hcs (HO1.out.heap (fun h => h) HC.out.hc)
  have q3 : wz.cell? ⟨cb, 3, none⟩ = some (.int .i64 r.used) := cell_of_row wz _ 3 _ _ _ hzc
  have q4 : wz.cell? ⟨cb, 4, none⟩ = some (.int .i64 r.built) := cell_of_row wz _ 4 _ _ _ hzc
  have y3 : wz.frozen? ⟨cb, 3, none⟩ = false := frozen_of_row wz _ 3 _ _ hzc
  have y4 : wz.frozen? ⟨cb, 4, none⟩ = false := frozen_of_row wz _ 4 _ _ hzc
  have skz : wz.cell? ⟨slb, K, none⟩ = some (.pointer none) := by
    rw [cell_of_row wz slb K _ _ _ hzs]
    simp [hKlt, entVal]
  have zkz : wz.frozen? ⟨slb, K, none⟩ = false := frozen_of_row wz _ K _ _ hzs
  have HZO := Lib.hid hzo
  have HZS := Lib.hid hzs
  have HZC := Lib.hid hzc
  clear hzo hzs hzc hwz hslr
  go_wp2_with fail
  obtain ⟨W, hW⟩ : ∃ W, W = ((((wz.setCell ⟨cb, 3, none⟩ (.int .i64 0)).setCell ⟨cb, 3, none⟩ (.int .i64 N)).setCell ⟨cb, 4, none⟩ (.int .i64 (r.built + 1))).setCell ⟨slb, K, none⟩ (.pointer (some ⟨w.heap.size, 0, none⟩))) := ⟨_, rfl⟩
  have hWo : Only (MissS cb slb l K) w1 W := by
    rw [hW]
    exact ((((HZO.out.mono (fun _ _ h => .inr (.inl h))).setS (.inl rfl) _ _).setS (.inl rfl) _ _).setS (.inl rfl) _ _).setS (.inr (.inl rfl)) _ _
  have hgn : ∀ q : CEnt, l[K]? = some (some q) → ¬ w.heap.size = q.g := fun q hq => by have := heap_lt (HC.out.sl.blk K q hq); omega
  have hnS : ∀ k, w.heap.size ≤ k → ¬ MissS cb slb l K k := by
    rintro k hk (e | e | ⟨q, hq, e⟩)
    · have := heap_lt HC.out.hc; omega
    · have := heap_lt HC.out.sl.row; omega
    · have := heap_lt (HC.out.sl.blk K q hq); omega
  have hrowW : W.heap[cb]? = some (.cells (cRow b slb l.length r.arena N (r.built + 1) (.map (some mb))) 93 (0, 0)) := by
    rw [hW]
    refine ((Only.refl (· = slb) _).set1 K _).heap hcs (crow_set (w := wz.setCell ⟨cb, 3, none⟩ (.int .i64 0)) (used := 0) (built := r.built) ?_ _ _)
    rw [heap_setCell_same _ cb 3 _ _ _ HZC.out]
    simp [cRow]
  have hslW : W.heap[slb]? = some (.cells (((List.replicate l.length none).set K (some ⟨w.heap.size, r.s.pc, .slice (some ⟨g', 0, none⟩) (blockIns r.s.mem r.s.pc 8).length cap⟩)).map entVal).toArray 130 (0, 0)) := by
    rw [hW]
    exact slot_set (L := List.replicate l.length none) (((((Only.refl (· = cb) wz).set1 3 _).set1 3 _).set1 4 _).heap hsc HZS.out) ⟨w.heap.size, r.s.pc, _⟩
  have hnewW := hWo.heap (hnS _ (Nat.le_refl _)) HG1.out
  have hmW : SeenIs W mb n r.blocks := (HC.out.map.only HO1.out (fun h => h)).only hWo (by
    rintro (e | e | ⟨q, hq, e⟩)
    · exact map_other HC.out.map HC.out.hc e.symm
    · exact map_other HC.out.map HC.out.sl.row e.symm
    · exact map_other HC.out.map (HC.out.sl.blk K q hq) e.symm)
  rw [← hW]
  have HB := Lib.hid hB
  have hnote := note_any cb b slb l.length r.arena N (r.built + 1) mb n r.blocks HC.out.rising (by unfold maxLen; omega) ⟨w.heap.size, r.s.pc, .slice (some ⟨g', 0, none⟩) (blockIns r.s.mem r.s.pc 8).length cap⟩ false (some ⟨g', 0, none⟩) N cap (by rw [← HN.out]) hlen pc0 pc1 (by show 0 ≤ (blkAt r.blocks r.s.pc).built; omega) (by show (blkAt r.blocks r.s.pc).built ≤ _; omega) (by show 0 ≤ (blkAt r.blocks r.s.pc).entered; omega) (by show (blkAt r.blocks r.s.pc).entered ≤ _; omega) 1 (.inr rfl) W hrowW hnewW hmW
  refine hnote.mono ?_
  rintro en w2 ⟨rfl, hmap, ho2⟩
  dsimp only at hmap
  rw [if_pos (by decide)] at hmap
  go_wp2_with fail
  go_ret
  have hfind := find_miss (r := r) (by rw [← HC.out.len]; exact hpos) (fun q hq => by
    obtain ⟨q', hq', hE⟩ := HC.out.ent K e HK.out
    rw [HKK.out, hq'] at hq
    simp only [Option.some.injEq] at hq
    exact .inr (by rw [← hq, hE.pc]; exact hep)) HC.out.rising N (by rw [HN.out])
  rw [if_pos (by omega), if_pos (by omega), HKK.out] at hfind
  refine miss_done (L := List.replicate l.length none) (LS := List.replicate r.slots.length (0, 0)) (u := (N : Int)) (K := K) HR.out H.out HC.out HB.out HN.out HF.out HKK.out hKlt (by simp) (by simp) (fun j q hj => absurd hj (rep_no _ _ _)) (fun j hj => rep_zero (by rw [← HC.out.len]; exact hj)) (by rw [hfind, Int.zero_add]) (HO1.out.no.then hWo) hrowW hslW hnewW (ownsRow_only HREC1.out hWo (fun g hg => hnS g (ownsRow_ge HREC1.out g hg).1)) ho2 hmap
set_option maxRecDepth 100000 in
set_option maxHeartbeats 1000000 in
theorem cfind_end (B cb b slb mb n : Nat) (r : RS) (hr : r.Head) (l : CEs) (x : Raw) (w : World) (h : Mach w b r.s x) (ht : Tab w) (hC : CacheR w B cb b slb mb n r.s.mem r.arena r.used r.built r.slots r.blocks l)
    (o : Int) (hf : fetch r.s = .inl o) :
    Calls Tryz.prog 82 #[.pointer (some ⟨cb, 0, none⟩), .int .u32 r.s.pc] w fun en w' => FindP B cb b slb mb n r x w en w' (.inl o) := by
  obtain ⟨pc0, pc1⟩ := hr.ok.s.pc
  have hpos := hC.pos
  have hmax := hC.max
  have hl0 : (0 : Int) < l.length := by omega
  have hK : r.s.pc / 4 % (l.length : Int) = (r.slotK : Int) := by
    unfold RS.slotK
    rw [hC.len]
    have h0 := Int.emod_nonneg (r.s.pc / 4) (show (r.slots.length : Int) ≠ 0 by rw [← hC.len]; omega)
    omega
  have hKlt : r.slotK < l.length := by
    have h1 := Int.emod_lt_of_pos (r.s.pc / 4) hl0
    omega
  have c1 : w.cell? ⟨cb, 1, none⟩ = some (.slice (some ⟨slb, 0, none⟩) l.length l.length) := cell_of_row w _ 1 _ _ _ hC.hc
  obtain ⟨q, hq⟩ : ∃ q, l[r.slotK]? = some q := ⟨_, List.getElem?_eq_getElem hKlt⟩
  have sk : w.cell? ⟨slb, r.slotK, none⟩ = some (entVal q) := by
    rw [cell_of_row w slb r.slotK _ _ _ hC.sl.row]
    simp [hq]
  have hbuild := fun W (hW : Only (fun _ => False) w W) => build_any cb b slb l.length r.arena r.used r.built (.map (some mb)) r.s hr.ok.s hr.ok.mem64 x W (h.no hW) (ht.only hW (fun h => h)) (hW.heap (fun h => h) hC.hc)
  rw [hf] at hbuild
  have HBU := Lib.hid hbuild
  have hno : ∀ e, q = some e → ¬ e.pc = r.s.pc := by
    rintro e rfl he
    obtain ⟨q', _, hE⟩ := hC.ent _ e hq
    have hp := hE.p4
    have hfit := hE.fit
    rw [he] at hp hfit
    have hps := hE.pos
    rw [he] at hps
    unfold fetch at hf
    rw [if_neg (by omega), if_pos (by unfold lies; simpa using hfit)] at hf
    cases hd : decO (wordAt r.s.mem r.s.pc) with
    | none =>
      rw [blockIns, hd] at hps
      exact absurd hps (by simp)
    | some i => rw [hd] at hf; cases hf
  cases q with
  | none =>
    unfold entVal at sk
    have HC := Lib.hid hC
    clear h hC hr hbuild hf ht hno hq
    generalize r.slotK = K at *
    go_enter Tryz.func82, Tryz.ntmps82
    go_wp2_with fail
    go_quiet (fail)
    go_wp2_with fail
    refine (HBU.out _ ((Only.refl _ w).drewN _)).mono ?_
    rintro en w1 ⟨rfl, ho1⟩
    exact ⟨rfl, rfl, ((Only.refl _ w).drewN _).then ho1⟩
  | some e =>
    unfold entVal at sk
    have hep := hno e rfl
    have heb : (e.pc == r.s.pc) = false := by simpa using hep
    have hbl := hC.sl.blk _ _ hq
    have g0 : w.cell? ⟨e.g, 0, none⟩ = some (.int .u32 e.pc) := cell_of_row w _ 0 _ _ _ hbl
    clear h hC hr hbuild hf ht hno hq hbl
    generalize r.slotK = K at *
    go_enter Tryz.func82, Tryz.ntmps82
    go_wp2_with fail
    go_quiet (fail)
    go_wp2_with fail
    refine (HBU.out _ ((Only.refl _ w).drewN _)).mono ?_
    rintro en w1 ⟨rfl, ho1⟩
    exact ⟨rfl, rfl, ((Only.refl _ w).drewN _).then ho1⟩
/-- 'find', whatever the slot holds. -/
theorem cfind_any (B cb b slb mb n : Nat) (hn : n < 1000000) (r : RS) (hr : r.Head) (l : CEs) (x : Raw) (w : World) (h : Mach w b r.s x) (ht : Tab w) (hC : CacheR w B cb b slb mb n r.s.mem r.arena r.used r.built r.slots r.blocks l) (hB : B ≤ w.heap.size) :
    Calls Tryz.prog 82 #[.pointer (some ⟨cb, 0, none⟩), .int .u32 r.s.pc] w fun en w' => FindP B cb b slb mb n r x w en w' (fetch r.s) := by
  cases hf : fetch r.s with
  | inl o => exact cfind_end B cb b slb mb n r hr l x w h ht hC o hf
  | inr i =>
    have hpos := hC.pos
    have hKlt : r.slotK < l.length := by
      unfold RS.slotK
      rw [hC.len]
      have h0 := Int.emod_nonneg (r.s.pc / 4) (show (r.slots.length : Int) ≠ 0 by rw [← hC.len]; omega)
      have h1 := Int.emod_lt_of_pos (r.s.pc / 4) (show 0 < (r.slots.length : Int) by rw [← hC.len]; omega)
      have := hC.len
      omega
    obtain ⟨q, hq⟩ : ∃ q, l[r.slotK]? = some q := ⟨_, List.getElem?_eq_getElem hKlt⟩
    cases q with
    | none =>
      by_cases hb : r.used + ((blockIns r.s.mem r.s.pc 8).length : Int) ≤ r.arena
      · exact cfind_none B cb b slb mb n hn r hr l x w h ht hC hB hq _ rfl hb i hf
      · exact cfind_big_none B cb b slb mb n hn r hr l x w h ht hC hB hq _ rfl (by omega) i hf
    | some e =>
      by_cases he : e.pc = r.s.pc
      · exact cfind_hit B cb b slb mb n hn r hr l x w h hC hB e hq he i
      · by_cases hb : r.used + ((blockIns r.s.mem r.s.pc 8).length : Int) ≤ r.arena
        · exact cfind_old B cb b slb mb n hn r hr l x w h ht hC hB e hq he _ rfl hb i hf
        · exact cfind_big_old B cb b slb mb n hn r hr l x w h ht hC hB e hq he _ rfl (by omega) i hf
end Go.Proofs.YtanccjaikocefaaGreatDoor
