/-
  What a step of the document's machine keeps: its numbers stay in their ranges. No program in sight.
-/
import Derived.Test.YtanccjaikocefaaDoorRefPlain
namespace Go.Proofs.YtanccjaikocefaaDoor
open Go.ChangeShapes Go.WideShapes Go.ChangeAt Go.RowKit
set_option linter.unusedVariables false

def SlotOk (q : Int × Int) : Prop := 0 ≤ q.1 ∧ q.1 < 4294967296 ∧ 0 ≤ q.2 ∧ q.2 ≤ 8
def BlkOk (B E : Int) (x : Blk) : Prop := 0 ≤ x.pc ∧ x.pc < 4294967296 ∧ 0 ≤ x.len ∧ x.len ≤ 8 ∧ 0 ≤ x.built ∧ x.built ≤ B ∧ 0 ≤ x.entered ∧ x.entered ≤ E
/-- The numbers of the counting part are in their ranges; 'K': how often something may have been counted. -/
structure RS.Cnt (r : RS) (B E A : Int) : Prop where
  nslots : r.slots.length ≤ 64
  slots : ∀ q ∈ r.slots, SlotOk q
  arena : 0 < r.slots.length → 0 ≤ r.arena ∧ r.arena ≤ 256
  used : 0 ≤ r.used ∧ r.used ≤ 264
  cur : SlotOk r.cur
  at_ : 0 ≤ r.at_ ∧ r.at_ ≤ A
  built : 0 ≤ r.built ∧ r.built ≤ B
  nblocks : (r.blocks.length : Int) ≤ B + E
  blocks : ∀ x ∈ r.blocks, BlkOk B E x
structure RS.Ok (r : RS) : Prop where
  s : r.s.Ok
  mem64 : r.s.mem.length % 64 = 0
  fuel : 0 ≤ r.fuel ∧ r.fuel ≤ 2000
  steps : 0 ≤ r.s.steps ∧ r.s.steps ≤ r.fuel
  evs : (r.s.evs.length : Int) ≤ r.s.steps
theorem SlotOk.zero : SlotOk (0, 0) := by unfold SlotOk; decide
theorem forget1_ok {f l : Int} {q : Int × Int} (h : SlotOk q) : SlotOk (forget1 f l q) := by
  unfold forget1; split
  · exact SlotOk.zero
  · exact h
theorem RS.Cnt.wrote {r : RS} {B E A : Int} (h : r.Cnt B E A) (wr : Option (Int × Int)) : (r.wrote wr).Cnt B E A := by
  cases wr with
  | none => exact h
  | some p =>
    obtain ⟨f, l⟩ := p
    refine ⟨by simpa [RS.wrote] using h.nslots, ?_, fun g => h.arena (by simpa [RS.wrote] using g), h.used, forget1_ok h.cur, h.at_, h.built, h.nblocks, h.blocks⟩
    intro q hq
    simp only [RS.wrote, List.mem_map] at hq
    obtain ⟨p, hp, rfl⟩ := hq
    exact forget1_ok (h.slots p hp)
theorem RS.Cnt.leave {r : RS} {B E A : Int} (h : r.Cnt B E A) (b : Bool) : (r.leave b).Cnt B E A := by
  unfold RS.leave
  split
  · exact ⟨h.nslots, h.slots, h.arena, h.used, SlotOk.zero, h.at_, h.built, h.nblocks, h.blocks⟩
  · exact h
theorem RS.Cnt.of_s {r q : RS} {B E A : Int} (h : r.Cnt B E A) (e1 : q.slots = r.slots) (e2 : q.arena = r.arena) (e3 : q.used = r.used) (e4 : q.cur = r.cur) (e5 : q.at_ = r.at_) (e6 : q.built = r.built) (e7 : q.blocks = r.blocks) : q.Cnt B E A := by
  refine ⟨by rw [e1]; exact h.nslots, by rw [e1]; exact h.slots, by rw [e1, e2]; exact h.arena, by rw [e3]; exact h.used, by rw [e4]; exact h.cur, by rw [e5]; exact h.at_, by rw [e6]; exact h.built, by rw [e7]; exact h.nblocks, by rw [e7]; exact h.blocks⟩
theorem RS.Cnt.do_ {r : RS} {B E A : Int} (h : r.Cnt B E A) (i : Ins) : (r.do_ i).Cnt B E A := by
  unfold RS.do_
  split
  · exact h.of_s rfl rfl rfl rfl rfl rfl rfl
  · rename_i s' next wr _
    exact RS.Cnt.leave (RS.Cnt.wrote (r := { r with s := s'.step next }) (h.of_s rfl rfl rfl rfl rfl rfl rfl) wr) _
theorem blockIns_len (mem : List Int) : ∀ (n : Nat) (pc : Int), (blockIns mem pc n).length ≤ n := by
  intro n
  induction n with
  | zero => intro pc; simp [blockIns]
  | succ n ih =>
    intro pc
    unfold blockIns
    split
    · simp
    · split
      · simp
      · have := ih (pc + 4)
        simp; omega
theorem countB_len (l : List Blk) (pc len bu en : Int) : (countB l pc len bu en).length ≤ l.length + 1 := by
  unfold countB
  split
  · simp
  · simp; omega
theorem countB_ok {l : List Blk} {B E pc len bu en : Int} (hB : 0 ≤ B) (hE : 0 ≤ E) (h : ∀ x ∈ l, BlkOk B E x) (hp : 0 ≤ pc) (hp1 : pc < 4294967296) (hl : 0 ≤ len) (hl1 : len ≤ 8) (hb : 0 ≤ bu) (he : 0 ≤ en) : ∀ x ∈ countB l pc len bu en, BlkOk (B + bu) (E + en) x := by
  have mono : ∀ x, BlkOk B E x → BlkOk (B + bu) (E + en) x := by
    intro x hx; unfold BlkOk at *; omega
  intro x hx
  unfold countB at hx
  split at hx
  · rename_i i hi
    rw [List.mem_iff_getElem?] at hx
    obtain ⟨j, hj⟩ := hx
    rw [List.getElem?_modify] at hj
    cases hq : l[j]? with
    | none => rw [hq] at hj; cases hj
    | some y =>
      rw [hq] at hj
      have hy := h y (List.mem_of_getElem? hq)
      simp only [Option.map_eq_map, Option.map_some, Option.some.injEq] at hj
      split at hj
      · subst hj
        unfold BlkOk bump at *
        dsimp only
        split <;> omega
      · subst hj
        exact mono _ hy
  · simp only [List.mem_append, List.mem_singleton] at hx
    rcases hx with (hx | hx) | hx
    · exact mono _ (h x (List.mem_of_mem_take hx))
    · subst hx
      unfold BlkOk; dsimp only; omega
    · exact mono _ (h x (List.mem_of_mem_drop hx))
theorem getD_ok {l : List (Int × Int)} (h : ∀ q ∈ l, SlotOk q) (k : Nat) : SlotOk (l.getD k (0, 0)) := by
  rw [List.getD_eq_getElem?_getD]
  cases hq : l[k]? with
  | none => exact SlotOk.zero
  | some v => exact h v (List.mem_of_getElem? hq)
theorem RS.Cnt.make {r : RS} {B E A : Int} (h : r.Cnt B E A) (hs : r.s.Ok) (h0 : 0 < r.slots.length) (hB : 0 ≤ B) (hE : 0 ≤ E) : r.make.Cnt (B + 1) E A := by
  have hn := blockIns_len r.s.mem 8 r.s.pc
  have ha := h.arena h0
  have hu := h.used
  have hpc := hs.pc
  unfold RS.make
  dsimp only
  split
  · have hb := countB_ok (pc := r.s.pc) (len := ((blockIns r.s.mem r.s.pc 8).length : Int)) (bu := 1) (en := 0) hB hE h.blocks hpc.1 hpc.2 (by omega) (by omega) (by decide) (by decide)
    have hl := countB_len r.blocks r.s.pc ((blockIns r.s.mem r.s.pc 8).length : Int) 1 0
    have hsl : ∀ q ∈ (if decide (r.arena < r.used + ((blockIns r.s.mem r.s.pc 8).length : Int)) = true then List.replicate r.slots.length ((0 : Int), (0 : Int)) else r.slots), SlotOk q := by
      intro q hq
      split at hq
      · rw [List.mem_replicate] at hq
        rw [hq.2]; exact SlotOk.zero
      · exact h.slots q hq
    refine ⟨?_, ?_, fun _ => ha, ?_, h.cur, h.at_, ?_, ?_, ?_⟩
    · dsimp only
      rw [List.length_set]
      split
      · simpa using h.nslots
      · exact h.nslots
    · intro q hq
      dsimp only at hq
      rcases List.mem_or_eq_of_mem_set hq with hq | hq
      · exact hsl q hq
      · subst hq
        unfold SlotOk; dsimp only; omega
    · dsimp only
      split
      · omega
      · rename_i hc
        have := mt decide_eq_true hc
        omega
    · have := h.built
      dsimp only; omega
    · have := h.nblocks
      dsimp only; omega
    · have e : E + 0 = E := by omega
      rw [e] at hb
      exact hb
  · refine ⟨h.nslots, h.slots, h.arena, h.used, h.cur, h.at_, ?_, ?_, ?_⟩
    · have := h.built; omega
    · have := h.nblocks; omega
    · intro x hx
      have := h.blocks x hx
      unfold BlkOk at *; omega
theorem RS.Cnt.find {r : RS} {B E A : Int} (h : r.Cnt B E A) (hs : r.s.Ok) (h0 : 0 < r.slots.length) (hB : 0 ≤ B) (hE : 0 ≤ E) (hA : 0 ≤ A) : r.find.Cnt (B + 1) (E + 1) A := by
  have hm := h.make hs h0 hB hE
  have hc := getD_ok hm.slots r.make.slotK
  obtain ⟨c0, c1, c2, c3⟩ := hc
  have hb := countB_ok (pc := (r.make.slots.getD r.make.slotK (0, 0)).1) (len := (r.make.slots.getD r.make.slotK (0, 0)).2) (bu := 0) (en := 1) (by omega) hE hm.blocks c0 c1 c2 c3 (by decide) (by decide)
  have hl := countB_len r.make.blocks (r.make.slots.getD r.make.slotK (0, 0)).1 (r.make.slots.getD r.make.slotK (0, 0)).2 0 1
  refine ⟨hm.nslots, hm.slots, hm.arena, hm.used, ⟨c0, c1, c2, c3⟩, ⟨Int.le_refl 0, hA⟩, hm.built, ?_, ?_⟩
  · have := hm.nblocks
    show (((countB _ _ _ _ _).length : Nat) : Int) ≤ _
    omega
  · have e : B + 1 + 0 = B + 1 := by omega
    rw [e] at hb
    exact hb
theorem RS.Cnt.more {r : RS} {B E A B' E' A' : Int} (h : r.Cnt B E A) (hB : B ≤ B') (hE : E ≤ E') (hA : A ≤ A') : r.Cnt B' E' A' :=
  ⟨h.nslots, h.slots, h.arena, h.used, h.cur, ⟨h.at_.1, by have := h.at_.2; omega⟩, ⟨h.built.1, by have := h.built.2; omega⟩, by have := h.nblocks; omega, fun x hx => by have := h.blocks x hx; unfold BlkOk at *; omega⟩
theorem RS.Cnt.seek {r : RS} {B E A : Int} (h : r.Cnt B E A) (hs : r.s.Ok) (hB : 0 ≤ B) (hE : 0 ≤ E) (hA : 0 ≤ A) : r.seek.Cnt (B + 1) (E + 1) A := by
  unfold RS.seek
  split
  · rename_i hn
    refine h.find hs ?_ hB hE hA
    unfold RS.need at hn
    simp only [Bool.and_eq_true, decide_eq_true_eq] at hn
    exact hn.1
  · exact h.more (by omega) (by omega) (by omega)
theorem RS.Cnt.inc {r : RS} {B E A : Int} (h : r.Cnt B E A) : r.inc.Cnt B E (A + 1) :=
  ⟨h.nslots, h.slots, h.arena, h.used, h.cur, ⟨by have := h.at_.1; show 0 ≤ r.at_ + 1; omega, by have := h.at_.2; show r.at_ + 1 ≤ A + 1; omega⟩, h.built, h.nblocks, h.blocks⟩
/-- At the head of a step: the machine's numbers and the counts. -/
structure RS.Head (r : RS) : Prop where
  ok : r.Ok
  cnt : r.Cnt r.s.steps r.s.steps r.s.steps
theorem exec_mem {s s' : St} {i : Ins} {next : Int} {wr : Option (Int × Int)} (hs : s.Ok) (hi : i.Ok) (h : exec s i = .go s' next wr) : Turned s s' ∧ s'.steps = s.steps ∧ 0 ≤ next ∧ next < 4294967296 := by
  have := exec_ok hs hi
  rw [h] at this
  exact this
theorem step_go {r : RS} (he : r.ended = false) (h : r.Head) (hn : r.step.ended = false) : r.step.Head ∧ r.step.s.steps = r.s.steps + 1 := by
  have hst := step_s r he
  obtain ⟨hfu, hst⟩ := hst
  by_cases hf : r.fuel ≤ r.s.steps
  · rw [if_pos hf] at hst; rw [hst.1] at hn; cases hn
  · rw [if_neg hf] at hst
    cases hq : fetch r.s with
    | inl o => rw [hq] at hst; dsimp only at hst; rw [hst.1] at hn; cases hn
    | inr i =>
      rw [hq] at hst
      dsimp only at hst
      have hi := fetch_ok h.ok.s hq
      cases hx : exec r.s i with
      | trap s' o => rw [hx] at hst; dsimp only at hst; rw [hst.1] at hn; cases hn
      | go s' next wr =>
        rw [hx] at hst
        dsimp only at hst
        obtain ⟨hT, hss, m0, m1⟩ := exec_mem h.ok.s hi hx
        have e1 : r.step.s.steps = r.s.steps + 1 := by rw [hst.2]; show s'.steps + 1 = _; rw [hss]
        have s0 := h.ok.steps
        have ev := h.ok.evs
        have tev := hT.evs
        refine ⟨⟨⟨?_, ?_, ?_, ?_, ?_⟩, ?_⟩, e1⟩
        · rw [hst.2]; exact step_ok hT.ok m0 m1
        · rw [hst.2]; show s'.mem.length % 64 = 0; rw [hT.size]; exact h.ok.mem64
        · rw [hfu]; exact h.ok.fuel
        · rw [e1, hfu]; omega
        · rw [e1, hst.2]; show ((s'.evs.length : Nat) : Int) ≤ _; omega
        · rw [e1]
          unfold RS.step
          rw [if_neg hf, hq]
          dsimp only
          exact RS.Cnt.do_ (RS.Cnt.inc (RS.Cnt.seek h.cnt h.ok.s s0.1 s0.1 s0.1)) i
theorem step_end {r : RS} (h : r.Head) : r.step.Cnt (r.s.steps + 1) (r.s.steps + 1) (r.s.steps + 1) := by
  have s0 := h.ok.steps
  have hm : r.Cnt (r.s.steps + 1) (r.s.steps + 1) (r.s.steps + 1) := h.cnt.more (by omega) (by omega) (by omega)
  unfold RS.step
  split
  · exact hm.of_s rfl rfl rfl rfl rfl rfl rfl
  · split
    · exact hm.of_s rfl rfl rfl rfl rfl rfl rfl
    · exact RS.Cnt.do_ (RS.Cnt.inc (RS.Cnt.seek h.cnt h.ok.s s0.1 s0.1 s0.1)) _
end Go.Proofs.YtanccjaikocefaaDoor
