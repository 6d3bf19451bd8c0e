/-
  What was counted, as the datum of a map: plain laws: a look-up, a put, against the list that the document keeps. No program in sight.
  What a step changes in memory, and that a block lies in its page: plain laws for the cache. No program in sight.
  How a run in blocks goes along with the document's machine: plain laws. No program in sight.
-/
import Derived.Test.YtanccjaikocefaaGreatDoorKept
import Derived.Maps.Own
namespace Go.Proofs.YtanccjaikocefaaGreatDoor
open Go.ChangeShapes Go.WideShapes Go.ChangeAt Go.RowKit
set_option linter.unusedVariables false

def blkD (x : Blk) : DataW Unit := .agg [.lit (.int .u32 x.pc), .lit (.int .i64 x.len), .lit (.int .i64 x.built), .lit (.int .i64 x.entered)]
def blkE (x : Blk) : Lit × DataW Unit := (.int .u32 x.pc, blkD x)
def blksD (l : List Blk) : DataW Unit := .map (l.map blkE)
/-- The addresses rise. -/
def Rising (l : List Blk) : Prop := l.Pairwise (fun a c => a.pc < c.pc)
/-- What is known of a block at an address. -/
def blkAt (l : List Blk) (pc : Int) : Blk := (l.find? (fun x => x.pc == pc)).getD ⟨0, 0, 0, 0⟩
theorem at_blks (l : List Blk) (pc : Int) : (blksD l).atKey (.int .u32 pc) (blkD ⟨0, 0, 0, 0⟩) = blkD (blkAt l pc) := by
  unfold blksD DataW.atKey blkAt
  dsimp only
  rw [List.find?_map]
  have e : ((fun p : Lit × DataW Unit => p.1.sameKey (.int .u32 pc)) ∘ blkE) = fun x => x.pc == pc := by
    funext x
    simp [blkE, Lit.sameKey, Function.comp]
    rfl
  rw [e]
  cases l.find? (fun x => x.pc == pc) with
  | none => rfl
  | some x => rfl
/-- A block laid into the list in its place, in the place of one at its address. -/
def putB (l : List Blk) (x : Blk) : List Blk :=
  match l with
  | [] => [x]
  | y :: r => if x.pc < y.pc then x :: y :: r else if y.pc = x.pc then x :: r else y :: putB r x
theorem rising_gt {y : Blk} {r : List Blk} (h : Rising (y :: r)) : ∀ z ∈ r, y.pc < z.pc := (List.pairwise_cons.1 h).1
theorem filter_all {r : List Blk} {pc : Int} (h : ∀ z ∈ r, z.pc ≠ pc) : (r.map blkE).filter (fun p => !p.1.sameKey (.int .u32 pc)) = r.map blkE := by
  rw [List.filter_eq_self]
  intro p hp
  obtain ⟨z, hz, rfl⟩ := List.mem_map.1 hp
  simp [blkE, Lit.sameKey, h z hz]
theorem insert_lt {x : Blk} {r : List Blk} (h : ∀ z ∈ r, x.pc < z.pc) : DataW.insert (blkE x) (r.map blkE) = (x :: r).map blkE := by
  cases r with
  | nil => rfl
  | cons y r =>
    have := h y List.mem_cons_self
    simp [DataW.insert, blkE, Lit.before, this]
theorem put_list (x : Blk) : ∀ l : List Blk, Rising l → DataW.insert (blkE x) ((l.map blkE).filter (fun p => !p.1.sameKey (.int .u32 x.pc))) = (putB l x).map blkE := by
  intro l
  induction l with
  | nil => intro _; rfl
  | cons y r ih =>
    intro h
    have hr := (List.pairwise_cons.1 h).2
    have hg := rising_gt h
    unfold putB
    by_cases h1 : x.pc < y.pc
    · rw [if_pos h1]
      rw [filter_all (fun z hz => ?_)]
      · exact insert_lt (fun z hz => by
          rcases List.mem_cons.1 hz with rfl | hz
          · exact h1
          · have := hg z hz; omega)
      · rcases List.mem_cons.1 hz with rfl | hz
        · omega
        · have := hg z hz; omega
    · rw [if_neg h1]
      by_cases h2 : y.pc = x.pc
      · rw [if_pos h2]
        rw [List.map_cons, List.filter_cons_of_neg (by simp [blkE, Lit.sameKey, h2])]
        rw [filter_all (fun z hz => by have := hg z hz; omega)]
        exact insert_lt (fun z hz => by have := hg z hz; omega)
      · rw [if_neg h2]
        rw [List.map_cons, List.filter_cons_of_pos (by simp [blkE, Lit.sameKey, h2])]
        have hb : (blkE x).1.before (blkE y).1 = false := by
          simp [blkE, Lit.before]; omega
        simp only [DataW.insert, hb, Bool.false_eq_true, if_false]
        rw [ih hr]
        rfl
theorem put_blks (l : List Blk) (h : Rising l) (x : Blk) : (blksD l).put (.int .u32 x.pc) (blkD x) = blksD (putB l x) := by
  unfold blksD DataW.put
  dsimp only
  exact congrArg DataW.map (put_list x l h)
theorem put_blks4 (l : List Blk) (h : Rising l) (pc len bu en : Int) : (blksD l).put (.int .u32 pc) (blkD ⟨pc, len, bu, en⟩) = blksD (putB l ⟨pc, len, bu, en⟩) := put_blks l h ⟨pc, len, bu, en⟩
theorem putB_mem (x : Blk) : ∀ (l : List Blk) (z : Blk), z ∈ putB l x → z = x ∨ z ∈ l := by
  intro l
  induction l with
  | nil => intro z hz; simp [putB] at hz; exact .inl hz
  | cons y r ih =>
    intro z hz
    unfold putB at hz
    split at hz
    · rcases List.mem_cons.1 hz with h | h
      · exact .inl h
      · exact .inr h
    · split at hz
      · rcases List.mem_cons.1 hz with h | h
        · exact .inl h
        · exact .inr (List.mem_cons_of_mem _ h)
      · rcases List.mem_cons.1 hz with h | h
        · exact .inr (h ▸ List.mem_cons_self)
        · rcases ih z h with h | h
          · exact .inl h
          · exact .inr (List.mem_cons_of_mem _ h)
theorem putB_rising (x : Blk) : ∀ l : List Blk, Rising l → Rising (putB l x) := by
  intro l
  induction l with
  | nil => intro _; exact List.pairwise_singleton _ _
  | cons y r ih =>
    intro h
    have hr := (List.pairwise_cons.1 h).2
    have hg := rising_gt h
    unfold putB
    split
    · rename_i h1
      refine List.pairwise_cons.2 ⟨fun z hz => ?_, h⟩
      rcases List.mem_cons.1 hz with rfl | hz
      · exact h1
      · have := hg z hz; omega
    · rename_i h1
      split
      · rename_i h2
        exact List.pairwise_cons.2 ⟨fun z hz => by have := hg z hz; omega, hr⟩
      · rename_i h2
        refine List.pairwise_cons.2 ⟨fun z hz => ?_, ih hr⟩
        rcases putB_mem x r z hz with rfl | hz
        · omega
        · exact hg z hz
/-- The document's counting lays the block in its place. -/
theorem count_put (pc len bu en : Int) : ∀ l : List Blk, Rising l → countB l pc len bu en = putB l ⟨pc, if 0 < bu ∨ (∀ z ∈ l, z.pc ≠ pc) then len else (blkAt l pc).len, (blkAt l pc).built + bu, (blkAt l pc).entered + en⟩ := by
  intro l
  induction l with
  | nil =>
    intro _
    simp [countB, putB, blkAt]
  | cons y r ih =>
    intro h
    have hr := (List.pairwise_cons.1 h).2
    have hg := rising_gt h
    by_cases h2 : y.pc = pc
    · have hb : blkAt (y :: r) pc = y := by simp [blkAt, h2]
      have hex : ¬ ∀ z ∈ y :: r, z.pc ≠ pc := fun hh => hh y List.mem_cons_self h2
      rw [hb]
      unfold countB putB
      simp [List.findIdx?_cons, h2, bump, List.modify_cons]
    · have hb : blkAt (y :: r) pc = blkAt r pc := by simp [blkAt, h2]
      rw [hb]
      have hall : (∀ z ∈ y :: r, z.pc ≠ pc) ↔ (∀ z ∈ r, z.pc ≠ pc) := by
        constructor
        · intro hh z hz; exact hh z (List.mem_cons_of_mem _ hz)
        · intro hh z hz
          rcases List.mem_cons.1 hz with rfl | hz
          · exact h2
          · exact hh z hz
      have hih := ih hr
      by_cases h1 : pc < y.pc
      · have hno : ∀ z ∈ r, z.pc ≠ pc := fun z hz => by have := hg z hz; omega
        have hnf : r.findIdx? (fun x => x.pc == pc) = none := by
          rw [List.findIdx?_eq_none_iff]
          intro z hz
          simpa using hno z hz
        have hbn : blkAt r pc = ⟨0, 0, 0, 0⟩ := by
          unfold blkAt
          have : r.find? (fun x => x.pc == pc) = none := by
            rw [List.find?_eq_none]
            intro z hz
            simpa using hno z hz
          rw [this]; rfl
        rw [hbn]
        have hall2 : 0 < bu ∨ ∀ z ∈ y :: r, z.pc ≠ pc := .inr (hall.2 hno)
        rw [if_pos hall2]
        unfold countB putB
        have hlt : ¬ y.pc < pc := by omega
        simp [List.findIdx?_cons, h2, hnf, h1, hlt]
      · have hlt : y.pc < pc := by omega
        have e1 : countB (y :: r) pc len bu en = y :: countB r pc len bu en := by
          unfold countB
          cases hf : r.findIdx? (fun x => x.pc == pc) with
          | none => simp [List.findIdx?_cons, h2, hf, hlt]
          | some k => simp [List.findIdx?_cons, h2, hf]
        rw [e1, hih]
        conv => rhs; unfold putB
        rw [if_neg h1, if_neg h2]
        simp only [hall]
end Go.Proofs.YtanccjaikocefaaGreatDoor
namespace Go.Proofs.YtanccjaikocefaaGreatDoor
open Go.ChangeShapes Go.WideShapes Go.ChangeAt Go.RowKit
set_option linter.unusedVariables false

/-- What an outcome wrote into memory is what it tells of. -/
def OutLocal (s : St) : Out → Prop
  | .go s' _ wr => (wr = none ∧ s'.mem = s.mem) ∨ ∃ (a : Int) (bs : List Int), 0 ≤ a ∧ 0 < bs.length ∧ a + bs.length ≤ (s.mem.length : Int) ∧ s'.mem = putAt s.mem a bs ∧ wr = some (a / 64, (a + bs.length - 1) / 64)
  | .trap .. => True
theorem iteL {c : Prop} [Decidable c] {s : St} {x y : Out} (h : c → OutLocal s x) (g : ¬ c → OutLocal s y) : OutLocal s (if c then x else y) := by
  by_cases e : c
  · rw [if_pos e]; exact h e
  · rw [if_neg e]; exact g e
theorem local_put {s s' : St} {a n m : Int} {bs : List Int} (h0 : 0 ≤ a) (hn : (bs.length : Int) = n) (hf : a + n ≤ (s.mem.length : Int)) (hm : s'.mem = putAt s.mem a bs) : OutLocal s (.go s' m (wrOf a n)) := by
  unfold wrOf
  by_cases e : n = 0
  · rw [if_pos e]
    have : bs = [] := List.eq_nil_of_length_eq_zero (by omega)
    subst this
    exact .inl ⟨rfl, by rw [hm]; simp [putAt]⟩
  · rw [if_neg e]
    exact .inr ⟨a, bs, h0, by omega, by omega, hm, by rw [hn]⟩
theorem call_local (s : St) (h : s.Ok) (n : Int) : OutLocal s (doCall s n) := by
  have r11 := h.regs 11
  have r12 := h.regs 12
  unfold doCall
  extract_lets a at_ k
  refine iteL (fun _ => trivial) (fun _ => ?_)
  refine iteL (fun _ => iteL (fun _ => .inl ⟨rfl, rfl⟩) (fun _ => .inl ⟨rfl, rfl⟩)) (fun _ => ?_)
  refine iteL (fun _ => iteL (fun hl => ?_) (fun _ => .inl ⟨rfl, rfl⟩)) (fun _ => ?_)
  · unfold lies at hl
    have hl2 : s.regs 11 + s.regs 12 ≤ (s.mem.length : Int) := of_decide_eq_true hl
    have hs := extract_size (s.ans.headD ByteArray.empty) (s.regs 12).toNat
    have hb : (bytesOf ((s.ans.headD ByteArray.empty).extract 0 (s.regs 12).toNat)).length = ((s.ans.headD ByteArray.empty).extract 0 (s.regs 12).toNat).size := by simp [bytesOf]
    exact local_put (a := s.regs 11) (bs := bytesOf ((s.ans.headD ByteArray.empty).extract 0 (s.regs 12).toNat)) r11.1 (by rw [hb]) (by show s.regs 11 + (((s.ans.headD ByteArray.empty).extract 0 (s.regs 12).toNat).size : Int) ≤ _; omega) rfl
  · exact iteL (fun _ => .inl ⟨rfl, rfl⟩) (fun _ => .inl ⟨rfl, rfl⟩)
theorem exec_local {s : St} {i : Ins} (h : s.Ok) : OutLocal s (exec s i) := by
  have q1 := u32_ok (s.regs i.rs1.toNat + i.imm)
  unfold exec
  extract_lets a b next
  refine iteL (fun _ => .inl ⟨rfl, rfl⟩) (fun _ => ?_)
  refine iteL (fun _ => .inl ⟨rfl, rfl⟩) (fun _ => ?_)
  refine iteL (fun _ => iteL (fun _ => .inl ⟨rfl, rfl⟩) (fun _ => trivial)) (fun _ => ?_)
  refine iteL (fun _ => iteL (fun _ => .inl ⟨rfl, rfl⟩) (fun _ => trivial)) (fun _ => ?_)
  refine iteL (fun _ => iteL (fun _ => iteL (fun _ => .inl ⟨rfl, rfl⟩) (fun _ => trivial)) (fun _ => .inl ⟨rfl, rfl⟩)) (fun _ => ?_)
  refine iteL (fun _ => iteL (fun _ => trivial) (fun _ => iteL (fun _ => .inl ⟨rfl, rfl⟩) (fun _ => trivial))) (fun _ => ?_)
  refine iteL (fun _ => iteL (fun _ => trivial) (fun _ => iteL (fun hl => ?_) (fun _ => trivial))) (fun _ => ?_)
  · unfold lies at hl
    have hl2 : u32 (s.regs i.rs1.toNat + i.imm) + wide i.op ≤ (s.mem.length : Int) := of_decide_eq_true hl
    have hb := storeB_ok i.op (s.regs i.rs2.toNat)
    have hw : 0 ≤ wide i.op := by
      unfold wide
      repeat' split
      all_goals decide
    exact local_put (a := u32 (s.regs i.rs1.toNat + i.imm)) (bs := storeB i.op (s.regs i.rs2.toNat)) q1.1 (by rw [hb.2]; omega) hl2 rfl
  refine iteL (fun _ => .inl ⟨rfl, rfl⟩) (fun _ => ?_)
  refine iteL (fun _ => .inl ⟨rfl, rfl⟩) (fun _ => ?_)
  refine iteL (fun _ => .inl ⟨rfl, rfl⟩) (fun _ => ?_)
  exact iteL (fun _ => call_local s h next) (fun _ => trivial)
theorem byteAt_put (mem bs : List Int) (a k : Int) (h0 : 0 ≤ a) (k0 : 0 ≤ k) (hf : a + bs.length ≤ (mem.length : Int)) (hk : k < a ∨ a + bs.length ≤ k) : byteAt (putAt mem a bs) k = byteAt mem k := by
  obtain ⟨A, rfl⟩ := Int.eq_ofNat_of_zero_le h0
  obtain ⟨K, rfl⟩ := Int.eq_ofNat_of_zero_le k0
  unfold byteAt putAt
  simp only [List.getD_eq_getElem?_getD]
  congr 1
  simp only [Int.toNat_natCast] at *
  rcases hk with hk | hk
  · rw [List.append_assoc, List.getElem?_append_left (by simp; omega), List.getElem?_take_of_lt (by omega)]
  · rw [List.getElem?_append_right (by simp; omega), List.getElem?_drop]
    congr 1
    simp
    omega
/-- Two memories that agree on a page. -/
def SamePage (m m' : List Int) (p : Int) : Prop := ∀ k, 0 ≤ k → k / 64 = p → byteAt m' k = byteAt m k
theorem word_page {m m' : List Int} {pc : Int} (h : SamePage m m' (pc / 64)) (h0 : 0 ≤ pc) (h4 : pc % 4 = 0) : wordAt m' pc = wordAt m pc := by
  unfold wordAt
  simp only [leAt]
  rw [h pc h0 rfl, h (pc + 1) (by omega) (by omega), h (pc + 1 + 1) (by omega) (by omega), h (pc + 1 + 1 + 1) (by omega) (by omega)]
/-- A block is what it was where its page is what it was. -/
theorem block_page {m m' : List Int} (n : Nat) : ∀ (pc : Int), SamePage m m' (pc / 64) → 0 ≤ pc → pc % 4 = 0 → blockIns m' pc n = blockIns m pc n := by
  induction n with
  | zero => intro pc _ _ _; rfl
  | succ n ih =>
    intro pc h h0 h4
    unfold blockIns
    rw [word_page h h0 h4]
    cases hd : decO (wordAt m pc) with
    | none => rfl
    | some i =>
      dsimp only
      by_cases he : (endsI i.op || (pc + 4) % 64 == 0) = true
      · rw [if_pos he, if_pos he]
      · rw [if_neg he, if_neg he]
        have hne : ¬ (pc + 4) % 64 = 0 := by
          intro e
          apply he
          rw [Bool.or_eq_true]
          exact .inr (by simpa using e)
        have hp : (pc + 4) / 64 = pc / 64 := by omega
        rw [ih (pc + 4) (by rw [hp]; exact h) (by omega) (by omega)]
/-- Where a step tells of no writing into a page the page is what it was. -/
theorem exec_page {s s' : St} {i : Ins} {next : Int} {wr : Option (Int × Int)} (h : s.Ok) (he : exec s i = .go s' next wr) (pc : Int) (hp : ∀ f l, wr = some (f, l) → inPages pc f l = false) : SamePage s.mem s'.mem (pc / 64) := by
  have hl := exec_local (i := i) h
  rw [he] at hl
  rcases hl with ⟨_, hm⟩ | ⟨a, bs, a0, b0, hf, hm, hw⟩
  · intro k _ _
    rw [hm]
  · intro k k0 kp
    rw [hm]
    refine byteAt_put _ _ _ _ a0 k0 hf ?_
    have hin := hp _ _ hw
    unfold inPages at hin
    rw [Bool.and_eq_false_iff] at hin
    rcases hin with hin | hin
    · have := of_decide_eq_false hin
      omega
    · have := of_decide_eq_false hin
      omega
theorem exec_size {s s' : St} {i : Ins} {next : Int} {wr : Option (Int × Int)} (h : s.Ok) (hi : i.Ok) (he : exec s i = .go s' next wr) : s'.mem.length = s.mem.length := (exec_mem h hi he).1.size
/-- The instructions of a block, one by one: what stands at each of its addresses. -/
theorem block_get (m : List Int) (n : Nat) : ∀ (pc : Int) (j : Nat) (i : Ins), (blockIns m pc n)[j]? = some i → decO (wordAt m (pc + 4 * j)) = some i ∧ (j + 1 < (blockIns m pc n).length → endsI i.op = false ∧ (pc + 4 * j + 4) % 64 ≠ 0) := by
  induction n with
  | zero => intro pc j i h; simp [blockIns] at h
  | succ n ih =>
    intro pc j i h
    unfold blockIns at h ⊢
    cases hd : decO (wordAt m pc) with
    | none => rw [hd] at h; simp at h
    | some k =>
      rw [hd] at h
      dsimp only at h ⊢
      by_cases he : (endsI k.op || (pc + 4) % 64 == 0) = true
      · rw [if_pos he] at h ⊢
        cases j with
        | zero =>
          simp only [List.getElem?_cons_zero, Option.some.injEq] at h
          subst h
          exact ⟨by simpa using hd, fun hlt => by simp at hlt⟩
        | succ j => simp at h
      · rw [if_neg he] at h ⊢
        cases j with
        | zero =>
          simp only [List.getElem?_cons_zero, Option.some.injEq] at h
          subst h
          refine ⟨by simpa using hd, fun _ => ?_⟩
          simp only [Bool.not_eq_true, Bool.or_eq_false_iff] at he
          exact ⟨he.1, by have := he.2; simp at this; simpa using this⟩
        | succ j =>
          rw [List.getElem?_cons_succ] at h
          obtain ⟨h1, h2⟩ := ih (pc + 4) j i h
          have e : pc + 4 + 4 * (j : Int) = pc + 4 * ((j + 1 : Nat) : Int) := by omega
          rw [e] at h1 h2
          refine ⟨h1, fun hlt => h2 ?_⟩
          rw [List.length_cons] at hlt
          omega
theorem block_pos {m : List Int} {pc : Int} {n : Nat} {i : Ins} (h : decO (wordAt m pc) = some i) : 0 < (blockIns m pc (n + 1)).length := by
  unfold blockIns
  rw [h]
  dsimp only
  split <;> simp
end Go.Proofs.YtanccjaikocefaaGreatDoor
namespace Go.Proofs.YtanccjaikocefaaGreatDoor
open Go.ChangeShapes Go.WideShapes Go.ChangeAt Go.RowKit
set_option linter.unusedVariables false

theorem block_le (m : List Int) (n : Nat) (pc : Int) : (blockIns m pc n).length ≤ n := blockIns_len m n pc
/-- What comes behind an instruction of a block. -/
theorem block_next (m : List Int) (n : Nat) : ∀ (pc : Int) (j : Nat) (i : Ins), (blockIns m pc n)[j]? = some i →
    ((endsI i.op || (pc + 4 * j + 4) % 64 == 0) = true → (blockIns m pc n).length = j + 1) ∧
    ((endsI i.op || (pc + 4 * j + 4) % 64 == 0) = false → j + 1 = n → (blockIns m pc n).length = j + 1) ∧
    ((endsI i.op || (pc + 4 * j + 4) % 64 == 0) = false → j + 1 < n → decO (wordAt m (pc + 4 * j + 4)) = none → (blockIns m pc n).length = j + 1) ∧
    ((endsI i.op || (pc + 4 * j + 4) % 64 == 0) = false → j + 1 < n → ∀ i', decO (wordAt m (pc + 4 * j + 4)) = some i' → (blockIns m pc n)[j + 1]? = some i') := by
  induction n with
  | zero => intro pc j i h; simp [blockIns] at h
  | succ n ih =>
    intro pc j i h
    unfold blockIns at h ⊢
    cases hd : decO (wordAt m pc) with
    | none => rw [hd] at h; simp at h
    | some k =>
      rw [hd] at h
      dsimp only at h ⊢
      by_cases he : (endsI k.op || (pc + 4) % 64 == 0) = true
      · rw [if_pos he] at h ⊢
        cases j with
        | zero =>
          simp only [List.getElem?_cons_zero, Option.some.injEq] at h
          subst h
          have e0 : pc + 4 * ((0 : Nat) : Int) + 4 = pc + 4 := by omega
          rw [e0]
          exact ⟨fun _ => rfl, fun hf => absurd he (by rw [hf]; decide), fun hf => absurd he (by rw [hf]; decide), fun hf => absurd he (by rw [hf]; decide)⟩
        | succ j => simp at h
      · rw [if_neg he] at h ⊢
        have hef : (endsI k.op || (pc + 4) % 64 == 0) = false := by simpa using he
        cases j with
        | zero =>
          simp only [List.getElem?_cons_zero, Option.some.injEq] at h
          subst h
          have e0 : pc + 4 * ((0 : Nat) : Int) + 4 = pc + 4 := by omega
          rw [e0]
          refine ⟨fun hf => absurd hf he, fun _ hn => ?_, fun _ hn hw => ?_, fun _ hn i' hw => ?_⟩
          · obtain rfl : n = 0 := by omega
            rfl
          · obtain ⟨n', rfl⟩ : ∃ n', n = n' + 1 := ⟨n - 1, by omega⟩
            simp [blockIns, hw]
          · obtain ⟨n', rfl⟩ : ∃ n', n = n' + 1 := ⟨n - 1, by omega⟩
            rw [List.getElem?_cons_succ]
            unfold blockIns
            rw [hw]
            dsimp only
            split <;> rfl
        | succ j =>
          rw [List.getElem?_cons_succ] at h
          obtain ⟨h1, h2, h3, h4⟩ := ih (pc + 4) j i h
          have e : pc + 4 + 4 * (j : Int) + 4 = pc + 4 * ((j + 1 : Nat) : Int) + 4 := by omega
          rw [e] at h1 h2 h3 h4
          simp only [List.length_cons, List.getElem?_cons_succ]
          refine ⟨fun hf => by rw [h1 hf], fun hf hn => by rw [h2 hf (by omega)], fun hf hn hw => by rw [h3 hf (by omega) hw], fun hf hn i' hw => h4 hf (by omega) i' hw⟩
/-- An outcome that goes on at an address. -/
def NextIs (n : Int) : Out → Prop
  | .go _ m _ => m = n
  | .trap .. => True
theorem iteN {c : Prop} [Decidable c] {n : Int} {x y : Out} (h : c → NextIs n x) (g : ¬ c → NextIs n y) : NextIs n (if c then x else y) := by
  by_cases e : c
  · rw [if_pos e]; exact h e
  · rw [if_neg e]; exact g e
theorem call_nextIs (s : St) (n : Int) : NextIs n (doCall s n) := by
  unfold doCall
  extract_lets a at_ k b
  refine iteN (fun _ => trivial) (fun _ => ?_)
  refine iteN (fun _ => iteN (fun _ => rfl) (fun _ => rfl)) (fun _ => ?_)
  refine iteN (fun _ => iteN (fun _ => rfl) (fun _ => rfl)) (fun _ => ?_)
  exact iteN (fun _ => rfl) (fun _ => rfl)
theorem exec_nextIs (s : St) (i : Ins) (h2 : i.op ≠ 2) (h3 : i.op ≠ 3) (h9 : i.op < 4 ∨ 10 ≤ i.op) (h0 : 0 ≤ i.op) : NextIs (u32 (s.pc + 4)) (exec s i) := by
  unfold exec
  extract_lets a b next
  refine iteN (fun _ => rfl) (fun g0 => ?_)
  refine iteN (fun _ => rfl) (fun g1 => ?_)
  refine iteN (fun g => absurd (by simpa using g) h2) (fun _ => ?_)
  refine iteN (fun g => absurd (by simpa using g) h3) (fun _ => ?_)
  refine iteN (fun g => ?_) (fun _ => ?_)
  · have g' := of_decide_eq_true g
    have e0 : ¬ i.op = 0 := by simpa using g0
    have e1 : ¬ i.op = 1 := by simpa using g1
    exfalso; omega
  refine iteN (fun _ => iteN (fun _ => trivial) (fun _ => iteN (fun _ => rfl) (fun _ => trivial))) (fun _ => ?_)
  refine iteN (fun _ => iteN (fun _ => trivial) (fun _ => iteN (fun _ => rfl) (fun _ => trivial))) (fun _ => ?_)
  refine iteN (fun _ => rfl) (fun _ => ?_)
  refine iteN (fun _ => rfl) (fun _ => ?_)
  refine iteN (fun _ => rfl) (fun _ => ?_)
  exact iteN (fun _ => call_nextIs s next) (fun _ => trivial)
theorem jumps_no (s : St) (i : Ins) (h : i.op < 2 ∨ 10 ≤ i.op) : jumps s i = false := by
  have h2 : (i.op == 2) = false := by simp; omega
  have h3 : (i.op == 3) = false := by simp; omega
  unfold jumps
  rw [h2, h3]
  by_cases h4 : 4 ≤ i.op
  · have h9 : decide (i.op ≤ 9) = false := by simp; omega
    rw [h9]; simp
  · have h9 : decide (4 ≤ i.op) = false := by simpa using h4
    rw [h9]; simp
/-- Where no block ends the next address is the one behind. -/
theorem exec_next {s s' : St} {i : Ins} {next : Int} {wr : Option (Int × Int)} (hi : i.Ok) (he : endsI i.op = false) (hx : exec s i = .go s' next wr) : next = u32 (s.pc + 4) ∧ jumps s i = false := by
  obtain ⟨o0, o1⟩ := hi.op
  have h1 : ¬ (2 ≤ i.op ∧ i.op ≤ 9) ∧ i.op ≠ 46 ∧ i.op ≠ 47 := by
    unfold endsI at he
    simp at he
    omega
  have hn := exec_nextIs s i (by omega) (by omega) (by omega) o0
  rw [hx] at hn
  exact ⟨hn, jumps_no _ _ (by omega)⟩
/-- In the midst of a block: the document's machine has done so many of its instructions. -/
structure RS.InBlock (q : RS) (pc : Int) (P : List Ins) (j : Nat) : Prop where
  cur : q.cur = (pc, (P.length : Int))
  at_ : q.at_ = j
  at_pc : q.s.pc = pc + 4 * j
  ins : blockIns q.s.mem pc 8 = P
  pc0 : 0 ≤ pc
  pc4 : pc % 4 = 0
  lt : j < P.length
  fits : pc + 4 * j + 4 ≤ (q.s.mem.length : Int)
  slots : 0 < q.slots.length
theorem block_word {q : RS} {pc : Int} {P : List Ins} {j : Nat} (h : q.InBlock pc P j) (hs : q.s.Ok) {i : Ins} (hi : P[j]? = some i) : fetch q.s = .inr i := by
  have hg := block_get q.s.mem 8 pc j i (by rw [h.ins]; exact hi)
  unfold fetch
  rw [if_neg (by rw [h.at_pc]; have := h.pc4; omega), if_pos (show lies q.s q.s.pc 4 = true from decide_eq_true (by rw [h.at_pc]; exact h.fits)), h.at_pc, hg.1]
/-- Past the first instruction no block is to be found. -/
theorem block_need {q : RS} {pc : Int} {P : List Ins} {j : Nat} (h : q.InBlock pc P j) (hs : q.s.Ok) : q.need = false := by
  unfold RS.need
  rw [h.cur, h.at_, h.at_pc]
  have h1 := h.lt
  have h2 := h.fits
  have h3 := h.pc0
  have h4 := hs.len
  have e1 : ((P.length : Int) == 0) = false := by rw [beq_eq_false_iff_ne]; omega
  have e2 : decide ((P.length : Int) ≤ (j : Int)) = false := decide_eq_false (by omega)
  have e3 : (u32 (pc + 4 * (j : Int)) != pc + 4 * (j : Int)) = false := by
    have : u32 (pc + 4 * (j : Int)) = pc + 4 * (j : Int) := by unfold u32; omega
    rw [this]; simp
  simp only [e1, e2, e3, Bool.or_false, Bool.and_false]
/-- One step within a block. -/
def RS.act (q : RS) (i : Ins) : RS := q.inc.do_ i
theorem block_step {q : RS} {pc : Int} {P : List Ins} {j : Nat} (h : q.InBlock pc P j) (hs : q.s.Ok) {i : Ins} (hi : P[j]? = some i) (hf : ¬ q.fuel ≤ q.s.steps) : q.step = q.act i := by
  unfold RS.step
  rw [if_neg hf, block_word h hs hi]
  dsimp only
  have : q.seek = q := by unfold RS.seek; rw [block_need h hs]; rfl
  rw [this]
  rfl
/-- A block that is entered. -/
theorem find_step {r : RS} (hn : r.need = true) {i : Ins} (hf : ¬ r.fuel ≤ r.s.steps) (hi : fetch r.s = .inr i) : r.step = r.find.act i := by
  unfold RS.step
  rw [if_neg hf, hi]
  dsimp only
  have : r.seek = r.find := by unfold RS.seek; rw [hn]; rfl
  rw [this]
  rfl
end Go.Proofs.YtanccjaikocefaaGreatDoor
