/-
  The cache's slots in memory, and the contract of 'forget': blocks of the pages that were written are dropped and marked. Conditions: the slots lie in memory; they are at most 64.
  'forget' as what is told of each writing: the write's contract with the cache behind it. Conditions: the slots lie in memory.
-/
import Derived.Test.YtanccjaikocefaaGreatDoorKept
import Derived.Test.YtanccjaikocefaaGreatDoorStore
namespace Go.Proofs.YtanccjaikocefaaGreatDoor
open Go.ChangeShapes Go.WideShapes Go.ChangeAt Go.RowKit
set_option linter.unusedVariables false

/-- A block that is kept: its object, its address, its records. -/
structure CEnt where
  g : Nat
  pc : Int
  recs : Value
abbrev CEs := List (Option CEnt)
def entVal : Option CEnt → Value
  | none => .pointer none
  | some e => .pointer (some ⟨e.g, 0, none⟩)
def blkRow (e : CEnt) (gone : Bool) : Array Value := #[.int .u32 e.pc, e.recs, .bool gone]
structure Slots (w : World) (slb : Nat) (l : CEs) : Prop where
  row : w.heap[slb]? = some (.cells (l.map entVal).toArray 130 (0, 0))
  blk : ∀ (k : Nat) e, l[k]? = some (some e) → w.heap[e.g]? = some (.cells (blkRow e false) 134 (0, 0))
  inj : ∀ (j k : Nat) e f, l[j]? = some (some e) → l[k]? = some (some f) → e.g = f.g → j = k
def drop1 (f l : Int) : Option CEnt → Option CEnt
  | none => none
  | some e => if inPages e.pc f l then none else some e
theorem drop1_some (f l : Int) (e : CEnt) : drop1 f l (some e) = if inPages e.pc f l then none else some e := rfl
/-- The cache's struct. -/
def cRow (b slb n : Nat) (arena used built : Int) (mv : Value) : Array Value := #[.pointer (some ⟨b, 0, none⟩), .slice (some ⟨slb, 0, none⟩) n n, .int .i64 arena, .int .i64 used, .int .i64 built, mv]
/-- In the midst of 'forget': of the slots the first 'k' are looked at. -/
structure Mid (w : World) (slb : Nat) (l : CEs) (f t : Int) (k : Nat) : Prop where
  row : w.heap[slb]? = some (.cells (((l.take k).map (drop1 f t) ++ l.drop k).map entVal).toArray 130 (0, 0))
  blk : ∀ (j : Nat) e, l[j]? = some (some e) → w.heap[e.g]? = some (.cells (blkRow e (decide (j < k) && inPages e.pc f t)) 134 (0, 0))
/-- The blocks that 'forget' may change. -/
def Fb (slb : Nat) (l : CEs) : Nat → Prop := fun k => k = slb ∨ ∃ (j : Nat) (e : CEnt), l[j]? = some (some e) ∧ k = e.g
/-- What 'forget' comes to. -/
def Forgot (slb : Nat) (l : CEs) (f t : Int) (w w' : World) : Prop :=
  w'.heap[slb]? = some (.cells ((l.map (drop1 f t)).map entVal).toArray 130 (0, 0)) ∧ (∀ (j : Nat) e, l[j]? = some (some e) → w'.heap[e.g]? = some (.cells (blkRow e (inPages e.pc f t)) 134 (0, 0))) ∧ Only (Fb slb l) w w'
theorem mid_keep {w w' : World} {slb : Nat} {l : CEs} {f t : Int} {k : Nat} (h : Mid w slb l f t k) (ho : Only (fun _ => False) w w') (q : Option CEnt) (hk : l[k]? = some q) (hq : drop1 f t q = q) : Mid w' slb l f t (k + 1) := by
  have hlt := (List.getElem?_eq_some_iff.1 hk).1
  have hge := (List.getElem?_eq_some_iff.1 hk).2
  refine ⟨?_, fun j e hj => ?_⟩
  · have := ho.heap (fun h => h) h.row
    rw [this]
    congr 4
    rw [List.take_succ_eq_append_getElem hlt, List.drop_eq_getElem_cons hlt, hge, List.map_append]
    simp [hq]
  · rw [ho.heap (fun h => h) (h.blk j e hj)]
    by_cases hjk : j = k
    · subst hjk
      rw [hk] at hj
      simp only [Option.some.injEq] at hj
      subst hj
      have hin : inPages e.pc f t = false := by
        rw [drop1_some] at hq
        by_cases hi : inPages e.pc f t = true
        · rw [if_pos hi] at hq; cases hq
        · simpa using hi
      rw [hin]; simp
    · have e1 : decide (j < k) = decide (j < k + 1) := by
        rw [decide_eq_decide]; omega
      rw [e1]
theorem mid_drop {w w1 w' : World} {slb : Nat} {l : CEs} {f t : Int} {k : Nat} (h : Mid w slb l f t k) (hinj : ∀ (j k : Nat) e f, l[j]? = some (some e) → l[k]? = some (some f) → e.g = f.g → j = k) (hns : ∀ (j : Nat) e, l[j]? = some (some e) → e.g ≠ slb) (e : CEnt) (hk : l[k]? = some (some e)) (hin : inPages e.pc f t = true)
    (h1 : w1 = w.setCell ⟨e.g, 2, none⟩ (.bool true)) (h2 : w' = w1.setCell ⟨slb, k, none⟩ (.pointer none)) : Mid w' slb l f t (k + 1) := by
  have hlt := (List.getElem?_eq_some_iff.1 hk).1
  have hge := (List.getElem?_eq_some_iff.1 hk).2
  have ho1 : Only (· = e.g) w w1 := h1 ▸ (Only.refl _ w).set1 _ _
  have ho2 : Only (· = slb) w1 w' := h2 ▸ (Only.refl _ w1).set1 _ _
  have hne := hns k e hk
  refine ⟨?_, fun j e' hj => ?_⟩
  · have hr1 := ho1.heap (Ne.symm hne) h.row
    rw [h2, heap_setCell_same _ slb k _ _ _ hr1]
    congr 2
    have hl : ((l.take k).map (drop1 f t)).length = k := by simp; omega
    have : (((l.take k).map (drop1 f t) ++ l.drop k).map entVal).set k (.pointer none) = ((l.take (k + 1)).map (drop1 f t) ++ l.drop (k + 1)).map entVal := by
      rw [List.map_append, List.set_append, if_neg (by simp; omega)]
      rw [List.take_succ_eq_append_getElem hlt, List.drop_eq_getElem_cons hlt, hge]
      simp only [List.length_map, List.length_take, Nat.min_eq_left (Nat.le_of_lt hlt), Nat.sub_self, List.map_cons, List.set_cons_zero, List.map_append, List.map_nil, List.append_assoc, List.singleton_append]
      have hd : drop1 f t (some e) = none := by rw [drop1_some, if_pos hin]
      rw [hd]
      rfl
    rw [← this]
    simp
  · by_cases hjk : j = k
    · subst hjk
      rw [hk] at hj
      simp only [Option.some.injEq] at hj
      subst hj
      have hb := h.blk j e hk
      have h3 := heap_setCell_same w e.g 2 _ _ (.bool true) hb
      rw [← h1] at h3
      rw [ho2.heap hne h3, hin]
      simp [blkRow]
    · have hg : e'.g ≠ e.g := fun hgg => hjk (hinj j k e' e hj hk hgg)
      have e1 : decide (j < k) = decide (j < k + 1) := by
        rw [decide_eq_decide]; omega
      rw [ho2.heap (hns j e' hj) (ho1.heap hg (h.blk j e' hj)), e1]
set_option maxRecDepth 100000 in
set_option maxHeartbeats 400000 in
theorem forget_any (cb b slb : Nat) (l : CEs) (hl : l.length ≤ 64) (arena used built : Int) (mv : Value) (f t : Int) (f0 : 0 ≤ f) (t0 : 0 ≤ t) (hpc : ∀ (j : Nat) e, l[j]? = some (some e) → 0 ≤ e.pc ∧ e.pc < 4294967296) (w : World) (hc : w.heap[cb]? = some (.cells (cRow b slb l.length arena used built mv) 93 (0, 0))) (hs : Slots w slb l) :
    Calls Tryz.prog 80 #[.pointer (some ⟨cb, 0, none⟩), .int .u32 f, .int .u32 t] w (fun e w' => e = .returned (.tuple #[]) ∧ Forgot slb l f t w w') := by
  have hcs : cb ≠ slb := by
    intro h
    rw [h, hs.row] at hc
    simp only [Option.some.injEq, Obj.cells.injEq] at hc
    exact absurd hc.2.1 (by decide)
  have hcg : ∀ (j : Nat) e, l[j]? = some (some e) → e.g ≠ cb := by
    intro j e hj h
    have := hs.blk j e hj
    rw [h, hc] at this
    simp only [Option.some.injEq, Obj.cells.injEq] at this
    exact absurd this.2.1 (by decide)
  have hns : ∀ (j : Nat) e, l[j]? = some (some e) → e.g ≠ slb := by
    intro j e hj h
    have := hs.blk j e hj
    rw [h, hs.row] at this
    simp only [Option.some.injEq, Obj.cells.injEq] at this
    exact absurd this.2.1 (by decide)
  have c1 : w.cell? ⟨cb, 1, none⟩ = some (.slice (some ⟨slb, 0, none⟩) l.length l.length) := cell_of_row w _ 1 _ _ _ hc
  have HS := Lib.hid hs
  have HC := Lib.hid hc
  have HPC := Lib.hid hpc
  have HCG := Lib.hid hcg
  have HNS := Lib.hid hns
  clear hs hc hpc hcg hns
  go_enter Tryz.func80, Tryz.ntmps80
  go_wp2_with fail
  go_loopw [13] (fun i wr => ∃ k : Nat, k ≤ l.length ∧ i = .int .i64 k ∧ Mid wr slb l f t k ∧ Only (Fb slb l) w wr) (fun i _ => l.length - (intOf i).toNat)
  case atStart =>
    refine ⟨0, Nat.zero_le _, rfl, ⟨by simpa using HS.out.row, fun j e hj => ?_⟩, Only.refl _ _⟩
    have := HS.out.blk j e hj
    simpa using this
  case round =>
    obtain ⟨k, hk, rfl, hm, ho⟩ := hrel
    have hcF : ¬ Fb slb l cb := by
      rintro (h | ⟨j, e, hj, h⟩)
      · exact hcs h
      · exact HCG.out j e hj h.symm
    have q1 := ho.cell hcF c1
    by_cases hlt : k < l.length
    · obtain ⟨q, hq⟩ : ∃ q, l[k]? = some q := ⟨_, List.getElem?_eq_getElem hlt⟩
      have hrk : wr.cell? ⟨slb, k, none⟩ = some (entVal q) := by
        rw [cell_of_row wr slb k _ _ _ hm.row]
        have h1 : (((l.take k).map (drop1 f t) ++ l.drop k))[k]? = some q := by
          rw [List.getElem?_append_right (by simp; omega)]
          simp only [List.length_map, List.length_take, Nat.min_eq_left (Nat.le_of_lt hlt), Nat.sub_self]
          rw [List.getElem?_drop, Nat.add_zero]
          exact hq
        simp only [List.getElem?_toArray, List.getElem?_map, h1, Option.map_some]
      have hfk : wr.frozen? ⟨slb, k, none⟩ = false := frozen_of_row wr slb k _ _ hm.row
      have HM := Lib.hid hm
      have HO := Lib.hid ho
      have HQ := Lib.hid hq
      clear hm ho hcF
      cases q with
      | none =>
        unfold entVal at hrk
        clear hq
        go_wp2_with fail
        go_roundw
        case rel => exact ⟨k + 1, by omega, by go_num, mid_keep HM.out (Only.refl _ _) none HQ.out rfl, HO.out⟩
        case measure => simp [intOf]; omega
      | some e =>
        unfold entVal at hrk
        obtain ⟨p0, p1⟩ := HPC.out k e hq
        have hbr := HM.out.blk k e hq
        rw [show (decide (k < k) && inPages e.pc f t) = false by simp] at hbr
        have g0 : wr.cell? ⟨e.g, 0, none⟩ = some (.int .u32 e.pc) := cell_of_row wr _ 0 _ _ _ hbr
        have g2 : wr.cell? ⟨e.g, 2, none⟩ = some (.bool false) := cell_of_row wr _ 2 _ _ _ hbr
        have z2 : wr.frozen? ⟨e.g, 2, none⟩ = false := frozen_of_row wr _ 2 _ _ hbr
        have hgs := HNS.out k e hq
        have hgc := HCG.out k e hq
        clear hq hbr
        cases hin : inPages e.pc f t
        · have HI := Lib.hid hin
          unfold inPages at hin
          by_cases hf1 : f ≤ e.pc / 64
          · have hl1 : ¬ e.pc / 64 ≤ t := by simpa [hf1] using hin
            clear hin
            go_wp2_with fail
            go_roundw
            case rel => exact ⟨k + 1, by omega, by go_num, mid_keep HM.out (Only.refl _ _) (some e) HQ.out (by rw [drop1_some, HI.out]; rfl), HO.out⟩
            case measure => simp [intOf]; omega
          · clear hin
            go_wp2_with fail
            go_roundw
            case rel => exact ⟨k + 1, by omega, by go_num, mid_keep HM.out (Only.refl _ _) (some e) HQ.out (by rw [drop1_some, HI.out]; rfl), HO.out⟩
            case measure => simp [intOf]; omega
        · have HI := Lib.hid hin
          unfold inPages at hin
          obtain ⟨hf1, hl1⟩ : f ≤ e.pc / 64 ∧ e.pc / 64 ≤ t := by simpa using hin
          clear hin
          go_wp2_with fail
          go_roundw
          case rel => exact ⟨k + 1, by omega, by go_num, mid_drop HM.out HS.out.inj HNS.out e HQ.out HI.out rfl rfl, (HO.out.setS (.inr ⟨k, e, HQ.out, rfl⟩) _ _).setS (.inl rfl) _ _⟩
          case measure => simp [intOf]; omega
    · have hk2 : k = l.length := by omega
      subst hk2
      have HM := Lib.hid hm
      have HO := Lib.hid ho
      clear hm ho hcF
      go_wp2_with fail
      first | go_end0 | refine bodyPost_ret (results_none rfl _ _ _) rfl ?_
      refine ⟨rfl, ?_, fun j e hj => ?_, HO.out⟩
      · have := HM.out.row
        simpa using this
      · have := HM.out.blk j e hj
        rw [this, decide_eq_true (List.getElem?_eq_some_iff.1 hj).1]
        simp
end Go.Proofs.YtanccjaikocefaaGreatDoor
namespace Go.Proofs.YtanccjaikocefaaGreatDoor
open Go.ChangeShapes Go.WideShapes Go.ChangeAt Go.RowKit
set_option linter.unusedVariables false

/-- The types of the cache's blocks. -/
def CT (T : TypeId) : Prop := T = 130 ∨ T = 134 ∨ T = 93 ∨ T = 136
/-- A block of the cache: its type is the cache's, no text lies in it. -/
def CB (w : World) (k : Nat) : Prop := ∃ cs T, w.heap[k]? = some (.cells cs T (0, 0)) ∧ CT T ∧ ∀ (j : Nat) t, cs[j]? ≠ some (.string t)
theorem ct_ne {w : World} {k : Nat} {cs : Array Value} {T : TypeId} (h : CB w k) (hk : w.heap[k]? = some (.cells cs T (0, 0))) (hT : T = 70 ∨ T = 5 ∨ T = 86) : False := by
  obtain ⟨cs', T', h1, h2, _⟩ := h
  rw [hk] at h1
  simp only [Option.some.injEq, Obj.cells.injEq] at h1
  obtain ⟨_, rfl, _⟩ := h1
  unfold CT at h2
  rcases hT with rfl | rfl | rfl <;> revert h2 <;> decide
theorem CB.notMb {w : World} {b : Nat} {s : St} {x : Raw} {k : Nat} (h : CB w k) (hM : Mach w b s x) : ¬ Mb b x k := by
  rintro (e | e | e)
  · subst e; exact ct_ne h hM.mac (.inl rfl)
  · subst e; exact ct_ne h hM.mem (.inr (.inl rfl))
  · rcases hM.evs.2 with ⟨hv, _⟩ | ⟨g, cap, cur, hv, _, hg, _⟩
    · rw [hv] at e; cases e
    · rw [hv] at e
      simp only [Value.ownBlock, Option.some.injEq] at e
      subst e
      exact ct_ne h hg (.inr (.inr rfl))
/-- The machine behind a change of blocks of the cache. -/
theorem Mach.apart {S : Nat → Prop} {w w' : World} {b : Nat} {s : St} {x : Raw} (h : Mach w b s x) (ho : Only S w w') (hS : ∀ k, k < w.heap.size → S k → CB w k) : Mach w' b s x := by
  have hb : ¬ S b := fun e => (hS b h.mac.lt e).notMb h (.inl rfl)
  have hm : ¬ S x.mb := fun e => (hS x.mb (heap_lt h.mem) e).notMb h (.inr (.inl rfl))
  have he : ∀ g, x.evs.ownBlock = some g → ¬ S g := fun g hg e => (hS g (h.evs.lt g hg).2 e).notMb h (.inr (.inr hg))
  refine ⟨ho.heap hb h.mac, ho.heap hm h.mem, h.ne, ?_, Nat.lt_of_lt_of_le h.abLt ho.size, h.nea, ownsRow_only h.evs ho he, h.nee⟩
  obtain ⟨a, c, hv, hc, hcm, hcl⟩ := h.ans
  refine ⟨a, c, hv, hc, hcm, fun hne => ?_⟩
  obtain ⟨off, ha, hcells⟩ := hcl hne
  have hna : ¬ S x.ab := by
    intro e
    obtain ⟨cs, T, h1, _, h3⟩ := hS x.ab h.abLt e
    obtain ⟨t, l', hl'⟩ : ∃ t l', s.ans = t :: l' := by
      cases hq : s.ans with
      | nil => exact absurd hq hne
      | cons t l' => exact ⟨t, l', rfl⟩
    have := (hcells 0 t (by rw [hl']; rfl)).2
    rw [cell_of_row w x.ab _ _ _ _ h1] at this
    exact h3 _ _ this
  exact ⟨off, ha, fun j t hj => ⟨(hcells j t hj).1, ho.cell hna (hcells j t hj).2⟩⟩
theorem Slots.unique {w : World} {slb : Nat} {a c : CEs} (ha : Slots w slb a) (hc : Slots w slb c) : a = c := by
  have h1 := ha.row
  rw [hc.row] at h1
  simp only [Option.some.injEq, Obj.cells.injEq] at h1
  have h2 : c.map entVal = a.map entVal := by
    have := congrArg Array.toList h1.1
    simpa using this
  apply List.ext_getElem?
  intro k
  have h3 : (c.map entVal)[k]? = (a.map entVal)[k]? := by rw [h2]
  rw [List.getElem?_map, List.getElem?_map] at h3
  cases hak : a[k]? with
  | none =>
    rw [hak] at h3
    cases hck : c[k]? with
    | none => rfl
    | some q => rw [hck] at h3; cases h3
  | some qa =>
    rw [hak] at h3
    cases hck : c[k]? with
    | none => rw [hck] at h3; cases h3
    | some qc =>
      rw [hck] at h3
      simp only [Option.map_some, Option.some.injEq] at h3
      cases qa with
      | none =>
        cases qc with
        | none => rfl
        | some f => simp [entVal] at h3
      | some e =>
        cases qc with
        | none => simp [entVal] at h3
        | some f =>
          have hg : f.g = e.g := by simpa [entVal] using h3
          have b1 := ha.blk k e hak
          have b2 := hc.blk k f hck
          rw [hg, b1] at b2
          simp only [Option.some.injEq, Obj.cells.injEq, blkRow] at b2
          have b3 : e.pc = f.pc ∧ e.recs = f.recs := by
            have := congrArg Array.toList b2.1
            simpa using this
          cases e
          cases f
          simp only at hg b3
          rw [hg, b3.1, b3.2]
/-- Each value of a block of the cache but a text. -/
def NoText (v : Value) : Prop := ∀ t, v ≠ .string t
theorem Slots.cb {w : World} {slb : Nat} {l : CEs} (h : Slots w slb l) : CB w slb := by
  refine ⟨_, _, h.row, .inl rfl, fun j t hj => ?_⟩
  simp only [List.getElem?_toArray, List.getElem?_map] at hj
  cases hq : l[j]? with
  | none => rw [hq] at hj; cases hj
  | some q =>
    rw [hq] at hj
    simp only [Option.map_some, Option.some.injEq] at hj
    cases q <;> simp [entVal] at hj
/-- Is a value a slice? -/
def IsSl (v : Value) : Prop := ∃ a n c, v = .slice a n c
theorem blk_cb {w : World} {e : CEnt} {g : Bool} (hr : IsSl e.recs) (h : w.heap[e.g]? = some (.cells (blkRow e g) 134 (0, 0))) : CB w e.g := by
  obtain ⟨a, n, c, hv⟩ := hr
  refine ⟨_, _, h, .inr (.inl rfl), fun j t hj => ?_⟩
  unfold blkRow at hj
  rw [hv] at hj
  match j, hj with
  | 0, hj => simp at hj
  | 1, hj => simp at hj
  | 2, hj => simp at hj
  | j + 3, hj => simp at hj
/-- The cache lies in memory: what 'forget' asks. -/
def CacheIn (b cb slb : Nat) (w : World) : Prop := ∃ (l : CEs) (arena used built : Int) (m : Value), l.length ≤ 64 ∧ (∀ (j : Nat) e, l[j]? = some (some e) → 0 ≤ e.pc ∧ e.pc < 4294967296 ∧ IsSl e.recs) ∧ NoText m ∧ w.heap[cb]? = some (.cells (cRow b slb l.length arena used built m) 93 (0, 0)) ∧ Slots w slb l
/-- What a writing does to the cache. -/
def effC (slb : Nat) : Int → Int → World → World → Prop := fun f t w w' => ∀ l, Slots w slb l → Forgot slb l f t w w'
theorem row_cb {w : World} {b cb slb n : Nat} {arena used built : Int} {m : Value} (hm : NoText m) (h : w.heap[cb]? = some (.cells (cRow b slb n arena used built m) 93 (0, 0))) : CB w cb := by
  refine ⟨_, _, h, .inr (.inr (.inl rfl)), fun j t hj => ?_⟩
  unfold cRow at hj
  match j, hj with
  | 0, hj => simp at hj
  | 1, hj => simp at hj
  | 2, hj => simp at hj
  | 3, hj => simp at hj
  | 4, hj => simp at hj
  | 5, hj => simp at hj; exact hm t hj
  | j + 6, hj => simp at hj
/-- Slots behind a change that leaves their blocks alone. -/
theorem Slots.only {S : Nat → Prop} {w w' : World} {slb : Nat} {l : CEs} (h : Slots w slb l) (ho : Only S w w') (h1 : ¬ S slb) (h2 : ∀ (j : Nat) e, l[j]? = some (some e) → ¬ S e.g) : Slots w' slb l :=
  ⟨ho.heap h1 h.row, fun k e hk => ho.heap (h2 k e hk) (h.blk k e hk), h.inj⟩
theorem cache_stable (b cb slb : Nat) : Stable (CacheIn b cb slb) b := by
  intro x s w w' hM ⟨l, arena, used, built, m, hl, hpc, hm, hc, hs⟩ ho
  refine ⟨l, arena, used, built, m, hl, hpc, hm, ho.heap ((row_cb hm hc).notMb hM) hc, hs.only ho (hs.cb.notMb hM) (fun j e hj => (blk_cb (hpc j e hj).2.2 (hs.blk j e hj)).notMb hM)⟩
def cloF (cb : Nat) : Value := .func (.func 80) #[.pointer (some ⟨cb, 0, none⟩)] #[]
set_option maxRecDepth 100000 in
set_option maxHeartbeats 400000 in
theorem write_cache (b cb slb : Nat) : WriteSpec (effC slb) b (cloF cb) (CacheIn b cb slb) := by
  intro s x n bs g o c w h hclo hpre hlen hfit hsrc hcap
  have H := h
  have h33 := h.mac.mem
  have h36 := h.mac.wrote
  rw [hclo] at h36
  unfold cloF at h36
  cases hne : ((bs.length : Int) == 0)
  · have hpos : 0 < bs.length := by
      cases bs with
      | nil => simp at hne
      | cons a l => simp
    go_enter Tryz.func72, Tryz.ntmps72
    have hle : bs.length ≤ s.mem.length - n := by omega
    go_wp2_with ((with_reducible refine wpList_copy_mem (.tmp 14) (.tmp 15) 67 x.mb n (s.mem.length - n) (s.mem.length - n) ⟨g, o, none⟩ c s.mem bs ?_ ?_ H.mem hle ?_ hfit ?_); (focus rfl); (focus rfl); (focus exact (fun j v hj => by rw [Addr.add_mid]; exact hsrc j v hj)))
    intro w1 ho1 hg1
    have k36 : w1.cell? ⟨b, 36, none⟩ = some (.func (.func 80) #[.pointer (some ⟨cb, 0, none⟩)] #[]) := ho1.cell H.ne h36
    obtain ⟨l, arena, used, built, m, hl, hpc, hm, hc, hs⟩ := cache_stable b cb slb x s w w1 H hpre (ho1.mono (fun _ _ h => .inr (.inl h)))
    have HC := Lib.hid hc
    have HS := Lib.hid hs
    have HPC := Lib.hid hpc
    have HM1 := Lib.hid (H.mem' ho1 hg1 hfit)
    have HO1 := Lib.hid ho1
    clear h33 h36 hsrc hpre hc hs hpc ho1 hg1
    go_wp2_with fail
    refine (forget_any cb b slb l hl arena used built m ((n : Int) / 64) (((n : Int) + bs.length - 1) / 64) (by omega) (by omega) (fun j e hj => ⟨(HPC.out j e hj).1, (HPC.out j e hj).2.1⟩) w1 HC.out HS.out).mono ?_
    rintro e w2 ⟨rfl, hf⟩
    go_wp2_with fail
    first | go_end0 | refine bodyPost_ret (results_none rfl _ _ _) rfl ?_
    have hfb : ∀ k, k < w1.heap.size → Fb slb l k → CB w1 k := by
      rintro k _ (e | ⟨j, e, hj, hk⟩)
      · subst e; exact HS.out.cb
      · subst hk; exact blk_cb (HPC.out j e hj).2.2 (HS.out.blk j e hj)
    refine ⟨rfl, HM1.out.apart hf.2.2 hfb, Nat.le_trans HO1.out.size hf.2.2.size, fun e => ?_, fun _ => ⟨w1, HO1.out.mono (fun _ _ h => .inr (.inl h)), fun l' hl' => ?_⟩⟩
    · rw [e] at hpos
      exact absurd hpos (by decide)
    · rw [Slots.unique hl' HS.out]
      exact hf
  · go_enter Tryz.func72, Tryz.ntmps72
    go_wp2_with fail
    have e0 : bs = [] := by simpa using hne
    subst e0
    refine bodyPost_ret (results_none rfl _ _ _) rfl ⟨rfl, ?_, Nat.le_refl _, fun _ => rfl, fun h => absurd rfl h⟩
    have : putAt s.mem n [] = s.mem := by simp [putAt]
    rw [this]
    exact H
end Go.Proofs.YtanccjaikocefaaGreatDoor
