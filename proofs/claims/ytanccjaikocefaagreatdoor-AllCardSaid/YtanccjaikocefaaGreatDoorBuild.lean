/-
  The contract of the cache's 'build': the block at an address, its instructions ready to be done. Conditions: the cache and the machine lie in memory; numbers are in their ranges; the table lies.
-/
import Derived.Test.YtanccjaikocefaaGreatDoorAt
import Derived.Test.YtanccjaikocefaaGreatDoorCache
import Derived.Test.YtanccjaikocefaaGreatDoorCachePlain
import Derived.Deep.AppendLies
import Derived.Deep.RegionLaw
import Derived.Deep.CutRange
namespace Go.Proofs.YtanccjaikocefaaGreatDoor
open Go.ChangeShapes Go.WideShapes Go.ChangeAt Go.RowKit
set_option linter.unusedVariables false

theorem ends_any (op : Int) (w : World) (h0 : 0 ≤ op) (h1 : op ≤ 47) :
    Calls Tryz.prog 94 #[.int .i64 op] w fun e w' => e = .returned (.bool (endsI op)) ∧ w = w' := by
  go_enter Tryz.func94, Tryz.ntmps94
  go_wp2
  all_goals
    go_ret
    refine ⟨congrArg (fun a => Ending.returned (.bool a)) (?_ : _ = endsI _), rfl⟩
    unfold endsI
    rw [Bool.eq_iff_iff]
    simp
    try omega
theorem findV_form (op : Int) : ∃ f : Nat, findV op = .func (.func f) #[] #[] := by
  unfold findV
  repeat' split
  all_goals exact ⟨_, rfl⟩
theorem find_form (op : Int) (f : Nat) (h : findV op = .func (.func f) #[] #[]) (w : World) : Calls Tryz.prog 33 #[.int .i64 op] w fun e w' => e = .returned (.func (.func f) #[] #[]) ∧ w' = w :=
  (find_any op w).mono (fun _ _ g => ⟨by rw [← h]; exact g.1, g.2.symm⟩)
/-- The cells of records. -/
def recCells (l : List Ins) : List Value := l.flatMap fun i => findV i.op :: i.cells.toList
theorem recCells_snoc (l : List Ins) (i : Ins) : recCells (l ++ [i]) = recCells l ++ [findV i.op, .int .i64 i.op, .int .i64 i.rd, .int .i64 i.rs1, .int .i64 i.rs2, .int .i32 i.imm] := by simp [recCells, Ins.cells]
theorem recInfo : (Tryz.prog.info? 136).map (fun i => (i.zero, i.size, i.bytes)) = some (some (.agg #[.nilFunc, .int .i64 0, .int .i64 0, .int .i64 0, .int .i64 0, .int .i32 0]), 6, 48) := by kernel_rfl
/-- Records in memory. -/
abbrev RecsAt (w : World) (base : Nat) (v : Value) (l : List Ins) : Prop := w.ownsRow base 136 6 v l.length (recCells l)
theorem ownsRow_base {w : World} {B b : Nat} {e : TypeId} {n size : Nat} {v : Value} {xs : List Value} (h : w.ownsRow B e size v n xs) (hb : b ≤ B) : w.ownsRow b e size v n xs := by
  obtain ⟨hl, hr⟩ := h
  refine ⟨hl, ?_⟩
  rcases hr with hr | ⟨g, cap, cur, rfl, hb', hg, hn, hm, hc, ht⟩
  · exact .inl hr
  · exact .inr ⟨g, cap, cur, rfl, Nat.le_trans hb hb', hg, hn, hm, hc, ht⟩
theorem ownsRow_ge {w : World} {B : Nat} {e : TypeId} {n size : Nat} {v : Value} {xs : List Value} (h : w.ownsRow B e size v n xs) : ∀ g, v.ownBlock = some g → B ≤ g ∧ g < w.heap.size := by
  intro g hg
  rcases h.2 with ⟨e, _⟩ | ⟨g', cap, cur, rfl, hb', hg', _⟩
  · rw [e] at hg; cases hg
  · simp only [Value.ownBlock, Option.some.injEq] at hg
    subst hg
    exact ⟨hb', heap_lt hg'⟩
/-- What 'build' comes to. -/
def BuildP (s : St) (w : World) (e : Ending) (w' : World) : Int ⊕ Ins → Prop
  | .inl o => e = trapE o ∧ Only (fun _ => False) w w'
  | .inr i => ∃ recs, e = .returned (.pointer (some ⟨w.heap.size, 0, none⟩)) ∧ w'.heap[w.heap.size]? = some (.cells (blkRow ⟨w.heap.size, s.pc, recs⟩ false) 134 (0, 0)) ∧ RecsAt w' w.heap.size recs (blockIns s.mem s.pc 8) ∧ Only (fun _ => False) w w'
/-- In the midst of 'build': of the block so many instructions are there, the next one is at hand. -/
structure BMid (mem : List Int) (pc : Int) (k : Nat) (l : List Ins) (i : Ins) : Prop where
  lt : k < 8
  len : l.length = k
  all : l ++ blockIns mem (pc + 4 * k) (8 - k) = blockIns mem pc 8
  at_ : decO (wordAt mem (pc + 4 * k)) = some i
  page : (pc + 4 * (k : Int)) / 64 = pc / 64
theorem BMid.stop {mem : List Int} {pc : Int} {k : Nat} {l : List Ins} {i : Ins} (h : BMid mem pc k l i) (he : endsI i.op = true ∨ (pc + 4 * (k : Int) + 4) % 64 = 0 ∨ k = 7) : l ++ [i] = blockIns mem pc 8 := by
  rw [← h.all]
  congr 1
  obtain ⟨m, hm⟩ : ∃ m, 8 - k = m + 1 := ⟨7 - k, by have := h.lt; omega⟩
  rw [hm, blockIns, h.at_]
  dsimp only
  split
  · rfl
  · rename_i hn
    rcases he with he | he | he
    · exact absurd (by rw [he]; rfl) hn
    · exact absurd (by rw [he]; simp) hn
    · obtain rfl : m = 0 := by omega
      rfl
theorem BMid.go {mem : List Int} {pc : Int} {k : Nat} {l : List Ins} {i : Ins} (h : BMid mem pc k l i) (h1 : endsI i.op = false) (h2 : ¬ (pc + 4 * (k : Int) + 4) % 64 = 0) (h3 : ¬ k = 7) : (l ++ [i]) ++ blockIns mem (pc + 4 * ((k + 1 : Nat) : Int)) (8 - (k + 1)) = blockIns mem pc 8 := by
  rw [← h.all]
  have hlt := h.lt
  obtain ⟨m, hm⟩ : ∃ m, 8 - k = m + 1 := ⟨7 - k, by omega⟩
  have hm2 : 8 - (k + 1) = m := by omega
  rw [hm, hm2, List.append_assoc]
  congr 1
  conv => rhs; rw [blockIns, h.at_]
  dsimp only
  rw [if_neg (by rw [h1]; simpa using h2)]
  have e : pc + 4 * (k : Int) + 4 = pc + 4 * ((k + 1 : Nat) : Int) := by omega
  rw [e]
  rfl
theorem BMid.none {mem : List Int} {pc : Int} {k : Nat} {l : List Ins} {i : Ins} (h : BMid mem pc k l i) (hd : decO (wordAt mem (pc + 4 * (k : Int) + 4)) = none) : l ++ [i] = blockIns mem pc 8 := by
  by_cases h1 : endsI i.op = true ∨ (pc + 4 * (k : Int) + 4) % 64 = 0 ∨ k = 7
  · exact h.stop h1
  · have e1 : endsI i.op = false := by cases he : endsI i.op
                                       · rfl
                                       · exact absurd (.inl he) h1
    have hg := h.go e1 (fun e => h1 (.inr (.inl e))) (fun e => h1 (.inr (.inr e)))
    have hlt := h.lt
    obtain ⟨m, hm⟩ : ∃ m, 8 - (k + 1) = m + 1 := ⟨6 - k, by omega⟩
    have e : pc + 4 * ((k + 1 : Nat) : Int) = pc + 4 * (k : Int) + 4 := by omega
    rw [hm, blockIns, e, hd] at hg
    dsimp only at hg
    rw [List.append_nil] at hg
    exact hg
theorem BMid.next {mem : List Int} {pc : Int} {k : Nat} {l : List Ins} {i j : Ins} (h : BMid mem pc k l i) (h1 : endsI i.op = false) (h2 : ¬ (pc + 4 * (k : Int) + 4) % 64 = 0) (h3 : ¬ k = 7) (h4 : pc % 4 = 0) (hd : decO (wordAt mem (pc + 4 * (k : Int) + 4)) = some j) : BMid mem pc (k + 1) (l ++ [i]) j := by
  have hlt := h.lt
  have hp := h.page
  refine ⟨by omega, by rw [List.length_append, h.len]; rfl, h.go h1 h2 h3, ?_, by omega⟩
  have e : pc + 4 * ((k + 1 : Nat) : Int) = pc + 4 * (k : Int) + 4 := by omega
  rw [e]
  exact hd
/-- The end of a block's page or of its length. -/
def EndIs (pc E : Int) : Prop := E ≤ (pc / 64 + 1) * 64 ∧ E ≤ pc + 32 ∧ (E = (pc / 64 + 1) * 64 ∨ E = pc + 32)
theorem build_meet {w wr w2 : World} {pc : Int} {v : Value} {k g cap F : Nat} {l : List Ins} {j : Ins} {n : Nat} (hn : w.heap.size < n) (hll : l.length = k) (hF : findV j.op = .func (.func F) #[] #[])
    (HAGE : ∀ g, v.ownBlock = some g → n + 1 ≤ g ∧ g < wr.heap.size) (HO : Only (fun _ => False) w wr) (HO3 : Only (fun q => v.ownBlock = some q) wr w2) (hgn : n + 1 ≤ g)
    (HG2 : w2.heap[w.heap.size]? = some (.cells (blkRow ⟨w.heap.size, pc, v⟩ false) 134 (0, 0))) (HI2 : InsAt w2 n j) (hsz : n + 1 ≤ wr.heap.size)
    (hown : w2.ownsRow (n + 1) 136 6 (.slice (some ⟨g, 0, none⟩) (k + 1) cap) (k + 1) (recCells l ++ [.func (.func F) #[] #[], .int .i64 j.op, .int .i64 j.rd, .int .i64 j.rs1, .int .i64 j.rs2, .int .i32 j.imm])) :
    ∃ v2, (w2.setCell ⟨w.heap.size, 1, none⟩ (.slice (some ⟨g, 0, none⟩) (k + 1) cap)).heap[w.heap.size]? = some (.cells (blkRow ⟨w.heap.size, pc, v2⟩ false) 134 (0, 0)) ∧ InsAt (w2.setCell ⟨w.heap.size, 1, none⟩ (.slice (some ⟨g, 0, none⟩) (k + 1) cap)) n j ∧ RecsAt (w2.setCell ⟨w.heap.size, 1, none⟩ (.slice (some ⟨g, 0, none⟩) (k + 1) cap)) (n + 1) v2 (l ++ [j]) ∧ Only (fun _ => False) w (w2.setCell ⟨w.heap.size, 1, none⟩ (.slice (some ⟨g, 0, none⟩) (k + 1) cap)) ∧ n + 1 ≤ (w2.setCell ⟨w.heap.size, 1, none⟩ (.slice (some ⟨g, 0, none⟩) (k + 1) cap)).heap.size := by
  have hO : Only (· = w.heap.size) w2 (w2.setCell ⟨w.heap.size, 1, none⟩ (.slice (some ⟨g, 0, none⟩) (k + 1) cap)) := (Only.refl _ w2).set1 1 _
  refine ⟨.slice (some ⟨g, 0, none⟩) (k + 1) cap, ?_, hO.heap (by omega) HI2, ?_, ?_, ?_⟩
  · rw [heap_setCell_same w2 w.heap.size 1 _ _ _ HG2]
    simp [blkRow]
  · have h := ownsRow_only hown hO (fun q hq => by simp only [Value.ownBlock, Option.some.injEq] at hq; omega)
    unfold RecsAt
    rw [recCells_snoc, hF, List.length_append, hll]
    exact h
  · exact (HO.trans HO3 (fun _ _ h => h) (fun q hq h => absurd (HAGE q h).1 (by omega))).setW 1 _
  · have := hO.size
    have := HO3.size
    omega
set_option maxRecDepth 100000 in
set_option maxHeartbeats 8000000 in
theorem build_any (cb b slb m : Nat) (arena used bt : Int) (mv : Value) (s : St) (hs : s.Ok) (hm64 : s.mem.length % 64 = 0) (x : Raw) (w : World) (h : Mach w b s x) (ht : Tab w)
    (hc : w.heap[cb]? = some (.cells (cRow b slb m arena used bt mv) 93 (0, 0))) :
    Calls Tryz.prog 90 #[.pointer (some ⟨cb, 0, none⟩), .int .u32 s.pc] w fun e w' => BuildP s w e w' (fetch s) := by
  obtain ⟨i0, hi, hz0, hz1, hz2⟩ := info_parts recInfo
  obtain ⟨pc0, pc1⟩ := hs.pc
  have hlen := hs.len
  have hcz := heap_lt hc
  have c0 : w.cell? ⟨cb, 0, none⟩ = some (.pointer (some ⟨b, 0, none⟩)) := cell_of_row w _ 0 _ _ _ hc
  have hat : ∀ W, Only (fun _ => False) w W → Calls Tryz.prog 31 #[.pointer (some ⟨b, 0, none⟩), .int .u32 s.pc] W fun e w' => AtP W e w' (fetch s) := fun W hW => at_any b s hs x W (h.no hW) (ht.only hW (fun h => h))
  have HM := Lib.hid h
  have HT := Lib.hid ht
  have HC := Lib.hid hc
  clear h ht hc
  cases hf : fetch s with
  | inl o =>
    rw [hf] at hat
    clear hf
    go_enter Tryz.func90, Tryz.ntmps90
    go_wp2_with fail
    all_goals
      refine (hat _ ((Only.refl _ w).alloc _)).mono ?_
      rintro e w1 ⟨rfl, ho⟩
      unfold trapE
      go_wp2_with fail
      exact ⟨rfl, rfl, ((Only.refl _ w).alloc _).then ho⟩
  | inr i =>
    rw [hf] at hat
    have hpc4 : s.pc % 4 = 0 := by
      unfold fetch at hf
      by_cases h4 : s.pc % 4 = 0
      · exact h4
      · rw [if_pos h4] at hf; cases hf
    have hfit : s.pc + 4 ≤ (s.mem.length : Int) := by
      unfold fetch at hf
      rw [if_neg (by omega)] at hf
      by_cases hl : lies s s.pc 4 = true
      · unfold lies at hl; simpa using hl
      · rw [if_neg hl] at hf; cases hf
    have hdec : decO (wordAt s.mem s.pc) = some i := by
      unfold fetch at hf
      rw [if_neg (by omega), if_pos (by unfold lies; simpa using hfit)] at hf
      cases hd : decO (wordAt s.mem s.pc) with
      | none => rw [hd] at hf; cases hf
      | some j => rw [hd] at hf; simp only [Sum.inr.injEq] at hf; rw [hf]
    have HDEC := Lib.hid hdec
    have q1 : s.pc ≤ 508 := by omega
    have HP4 := Lib.hid hpc4
    have HFIT := Lib.hid hfit
    clear hf hdec
    unfold AtP Ins.cells at hat
    go_enter Tryz.func90, Tryz.ntmps90
    go_upto_region 2 with fail
    go_cut [6] from 12 to 18 (fun v wx => ∃ E, v = .int .u32 E ∧ EndIs s.pc E ∧ wx = w.alloc (.cells #[.int .u32 s.pc, .slice none 0 0, .bool false] 134))
    case first =>
      go_wp2_with fail
      all_goals go_meet
      all_goals exact ⟨_, rfl, ⟨by omega, by omega, by omega⟩, rfl⟩
    case rest =>
      obtain ⟨E, rfl, hE, rfl⟩ := hcut
      have HE := Lib.hid hE
      obtain ⟨e1, e2, _⟩ := hE
      go_wp2_with fail
      refine (hat _ ((Only.refl _ w).alloc _)).mono ?_
      rintro e w1 ⟨rfl, ho⟩
      have hg1 := ho.heap (fun h => h) (heap_alloc_new w _)
      have hgs := heap_lt hg1
      have HO1 := Lib.hid (((Only.refl _ w).alloc _).then ho)
      have HG1 := Lib.hid hg1
      clear ho hg1
      have y0 : ((w1.alloc (.cells #[.int .i64 i.op, .int .i64 i.rd, .int .i64 i.rs1, .int .i64 i.rs2, .int .i32 i.imm] 32))).heap.size = w1.heap.size + 1 := by simp
      go_wp2_with fail
      go_loopw [1] (fun pv wr => ∃ (k : Nat) (l : List Ins) (v : Value) (j : Ins), pv = .int .u32 (s.pc + 4 * k) ∧ BMid s.mem s.pc k l j ∧ wr.heap[w.heap.size]? = some (.cells (blkRow ⟨w.heap.size, s.pc, v⟩ false) 134 (0, 0)) ∧ InsAt wr w1.heap.size j ∧ RecsAt wr (w1.heap.size + 1) v l ∧ Only (fun _ => False) w wr ∧ w1.heap.size + 1 ≤ wr.heap.size) (fun pv _ => 1000 - (intOf pv).toNat)
      case atStart =>
        refine ⟨0, [], .slice none 0 0, i, by simp, ⟨by omega, rfl, by simp, by simpa using HDEC.out, by simp⟩, ?_, ?_, World.ownsRow_nil _ _ _ _, ?_, ?_⟩
        · exact heap_alloc_old' _ HG1.out
        · exact heap_alloc_new w1 _
        · exact HO1.out.alloc _
        · rw [World.size_alloc]; exact Nat.le_refl _
      case round =>
        obtain ⟨k, l, v, j, rfl, hb, hg, hins, hown, ho, hsz⟩ := hrel
        have hkl := hb.lt
        have hll := hb.len
        have hjOk : j.Ok := decO_ok (wordAt_ok hs _).1 (wordAt_ok hs _).2 hb.at_
        obtain ⟨j0, j1⟩ := hjOk.op
        obtain ⟨F, hF⟩ := findV_form j.op
        have g0 : wr.cell? ⟨w.heap.size, 0, none⟩ = some (.int .u32 s.pc) := cell_of_row wr _ 0 _ _ _ hg
        have g1 : wr.cell? ⟨w.heap.size, 1, none⟩ = some v := cell_of_row wr _ 1 _ _ _ hg
        have z1 : wr.frozen? ⟨w.heap.size, 1, none⟩ = false := frozen_of_row wr _ 1 _ _ hg
        have t0 : wr.cell? ⟨w1.heap.size, 0, none⟩ = some (.int .i64 j.op) := hins.cell 0
        have t1 : wr.cell? ⟨w1.heap.size, 1, none⟩ = some (.int .i64 j.rd) := hins.cell 1
        have t2 : wr.cell? ⟨w1.heap.size, 2, none⟩ = some (.int .i64 j.rs1) := hins.cell 2
        have t3 : wr.cell? ⟨w1.heap.size, 3, none⟩ = some (.int .i64 j.rs2) := hins.cell 3
        have t4 : wr.cell? ⟨w1.heap.size, 4, none⟩ = some (.int .i32 j.imm) := hins.cell 4
        have hgw := heap_lt hg
        have htw := heap_lt hins
        have hage := ownsRow_ge hown
        have HB := Lib.hid hb
        have HG := Lib.hid hg
        have HI := Lib.hid hins
        have HOWN := Lib.hid hown
        have HO := Lib.hid ho
        have HF := Lib.hid hF
        have HAGE := Lib.hid hage
        clear hb hg hins hown ho hF hage
        have hod : ∀ o, (wr.drew.alloc o).ownsRow (w1.heap.size + 1) 136 6 v k (recCells l) := fun o => by
          have := HOWN.out
          rw [← HB.out.len]
          exact World.ownsRow.alloc (w := wr.drew) this o
        go_wp2_with fail
        go_cut [] from 25 to 62 (fun wx => ∃ v2, wx.heap[w.heap.size]? = some (.cells (blkRow ⟨w.heap.size, s.pc, v2⟩ false) 134 (0, 0)) ∧ InsAt wx w1.heap.size j ∧ RecsAt wx (w1.heap.size + 1) v2 (l ++ [j]) ∧ Only (fun _ => False) w wx ∧ w1.heap.size + 1 ≤ wx.heap.size)
        case first =>
          clear hat c0 q1 pc0 pc1 hlen e1 e2
          go_region_law (first | (refine step_append_lies _ (by rfl) (.tmp 29) (.tmp 35) 132 (by rfl) (w1.heap.size + 1) 136 i0 _ 6 48 Tryz.underlying132 hi hz0 hz1 hz2 (by rfl) (by omega) v k (recCells l) (by rfl) (hod _) ⟨wr.heap.size, 0, none⟩ 1 1 [.func (.func F) #[] #[], .int .i64 j.op, .int .i64 j.rd, .int .i64 j.rs1, .int .i64 j.rs2, .int .i32 j.imm] (by rfl) (by rfl) (World.news_of_block (heap_alloc_new wr.drew _)) (by simp [Value.oneCell']) (by omega) (by unfold maxLen; omega) (by omega) (by simp; omega) (wr.heap.size + 1) (by simp) ?_; intro g cap w2 hown2 hgrow hat2 hlt2; have hne1 : ¬ v.ownBlock = some w.heap.size := (fun e => absurd (HAGE.out _ e).1 (by omega)); have hne2 : ¬ v.ownBlock = some w1.heap.size := (fun e => absurd (HAGE.out _ e).1 (by omega)); have HO2 : Only (fun q => v.ownBlock = some q) wr w2 := ((Only.refl _ wr).drew.alloc _).of_grown hgrow (fun q h => h.symm ▸ rfl); have k1 : w2.cell? ⟨w.heap.size, 1, none⟩ = some v := HO2.cell hne1 g1; have HI2' : InsAt w2 w1.heap.size j := HO2.heap hne2 HI.out; have y1 : w2.frozen? ⟨w.heap.size, 1, none⟩ = false := HO2.free hne1 hgw z1; have hgn : w1.heap.size + 1 ≤ g := (hat2.elim (fun e => (HAGE.out _ e).1) (fun e => by omega)); have HG2 := Lib.hid (HO2.heap hne1 HG.out); have HI2 := Lib.hid HI2'; have HOW2 := Lib.hid hown2; have HO3 := Lib.hid HO2; clear hgrow hat2 hown2 HO2 HI2') | (go_simp; go_at_call 33; refine (find_form j.op F HF.out _).mono ?_; rintro e w' ⟨rfl, rfl⟩))
          all_goals go_wp2_with fail
          all_goals go_meet
          all_goals exact build_meet (F := F) hgs HB.out.len HF.out HAGE.out HO.out HO3.out hgn HG2.out HI2.out hsz HOW2.out
        case rest =>
          obtain ⟨v2, hg2, hi2, hown2, ho2, hs2⟩ := hcut
          have s0 : wc.cell? ⟨w1.heap.size, 0, none⟩ = some (.int .i64 j.op) := hi2.cell 0
          have c1 : wc.cell? ⟨cb, 0, none⟩ = some (.pointer (some ⟨b, 0, none⟩)) := ho2.cell (fun h => h) c0
          have hts := heap_lt hi2
          have HG2 := Lib.hid hg2
          have HI2 := Lib.hid hi2
          have HOW2 := Lib.hid hown2
          have HO2 := Lib.hid ho2
          clear t0 t1 t2 t3 t4 g0 g1 z1 hod hg2 hi2 hown2 ho2
          have hrec : ∀ W, Only (· = w1.heap.size) wc W → RecsAt W (w1.heap.size + 1) v2 (l ++ [j]) := fun W hW => ownsRow_only HOW2.out hW (fun g hg => by have := (ownsRow_ge HOW2.out g hg).1; omega)
          have hfin : ∀ W, Only (· = w1.heap.size) wc W → l ++ [j] = blockIns s.mem s.pc 8 → BuildP s w (.returned (.pointer (some ⟨w.heap.size, 0, none⟩))) W (.inr i) := by
            intro W hW hl
            refine ⟨v2, rfl, hW.heap (by omega) HG2.out, ?_, HO2.out.trans hW (fun _ _ h => h) (fun q hq h => by omega)⟩
            rw [← hl]
            exact ownsRow_base (hrec W hW) (by omega)
          have HREC := Lib.hid hrec
          clear hrec
          have HFIN := Lib.hid hfin
          clear hfin
          go_wp2_with fail
          refine (ends_any j.op _ j0 j1).mono ?_
          rintro e w3 ⟨rfl, rfl⟩
          cases he : endsI j.op
          · by_cases hst : E ≤ s.pc + 4 * (k : Int) + 4
            · go_wp2_with fail
              go_ret
              refine HFIN.out _ (Only.refl _ _) (HB.out.stop (.inr ?_))
              have := HB.out.page
              obtain ⟨_, _, hor⟩ := HE.out
              have := HP4.out
              omega
            · have hw := wordAt_ok hs (s.pc + 4 * (k : Int) + 4)
              have hfit2 : s.pc + 4 * (k : Int) + 4 + 4 ≤ (s.mem.length : Int) := by
                have := HB.out.page
                have := HP4.out
                have := HFIT.out
                omega
              have HF2 := Lib.hid hfit2
              clear hfit2
              go_wp2_with fail
              refine (word_any b s hs x (s.pc + 4 * (k : Int) + 4) (by omega) HF2.out _ (HM.out.no HO2.out)).mono ?_
              rintro e w3 ⟨rfl, rfl⟩
              go_wp2_with fail
              refine (decode_any _ hw.1 hw.2 _ (HT.out.only HO2.out (fun h => h))).mono ?_
              rintro e w3 ⟨rfl, ho3⟩
              rw [decP_form]
              have hd : decO (wordAt s.mem (s.pc + 4 * (k : Int) + 4)) = if decB (wordAt s.mem (s.pc + 4 * (k : Int) + 4)) then some (decI (wordAt s.mem (s.pc + 4 * (k : Int) + 4))) else none := by
                unfold decB decI
                cases decO (wordAt s.mem (s.pc + 4 * (k : Int) + 4)) <;> rfl
              have hi3 : InsAt w3 w1.heap.size j := ho3.heap (fun h => h) HI2.out
              have hts3 := heap_lt hi3
              have q0 : w3.cell? ⟨w1.heap.size, 0, none⟩ = some (.int .i64 j.op) := hi3.cell 0
              have q1 : w3.cell? ⟨w1.heap.size, 1, none⟩ = some (.int .i64 j.rd) := hi3.cell 1
              have q2 : w3.cell? ⟨w1.heap.size, 2, none⟩ = some (.int .i64 j.rs1) := hi3.cell 2
              have q3 : w3.cell? ⟨w1.heap.size, 3, none⟩ = some (.int .i64 j.rs2) := hi3.cell 3
              have q4 : w3.cell? ⟨w1.heap.size, 4, none⟩ = some (.int .i32 j.imm) := hi3.cell 4
              have r0 : w3.frozen? ⟨w1.heap.size, 0, none⟩ = false := hi3.free 0
              have r1 : w3.frozen? ⟨w1.heap.size, 1, none⟩ = false := hi3.free 1
              have r2 : w3.frozen? ⟨w1.heap.size, 2, none⟩ = false := hi3.free 2
              have r3 : w3.frozen? ⟨w1.heap.size, 3, none⟩ = false := hi3.free 3
              have r4 : w3.frozen? ⟨w1.heap.size, 4, none⟩ = false := hi3.free 4
              have HI3 := Lib.hid hi3
              have HO3 := Lib.hid ho3
              have HD := Lib.hid hd
              clear hi3 ho3 hd hw s0 c1
              generalize decI (wordAt s.mem (s.pc + 4 * (k : Int) + 4)) = I at *
              generalize decB (wordAt s.mem (s.pc + 4 * (k : Int) + 4)) = B at *
              have hset : ∀ a b c d e, Only (· = w1.heap.size) w3 (((((w3.setCell ⟨w1.heap.size, 0, none⟩ a).setCell ⟨w1.heap.size, 1, none⟩ b).setCell ⟨w1.heap.size, 2, none⟩ c).setCell ⟨w1.heap.size, 3, none⟩ d).setCell ⟨w1.heap.size, 4, none⟩ e) := fun a b c d e => (((((Only.refl _ w3).set1 _ _).set1 _ _).set1 _ _).set1 _ _).set1 _ _
              have HSET := Lib.hid hset
              clear hset
              cases B with
              | false =>
                go_wp2_with fail
                go_ret
                exact HFIN.out _ ((HO3.out.mono (fun _ _ h => h.elim)).then (HSET.out _ _ _ _ _)) (HB.out.none (by rw [HD.out]; rfl))
              | true =>
                go_wp2_with fail
                go_roundw
                case measure => simp [intOf]; omega
                case rel =>
                  have hp := HB.out.page
                  obtain ⟨e3, e4, hor⟩ := HE.out
                  have hw3 := (HO3.out.mono (fun _ _ h => h.elim)).then (HSET.out (.int .i64 I.op) (.int .i64 I.rd) (.int .i64 I.rs1) (.int .i64 I.rs2) (.int .i32 I.imm))
                  refine ⟨k + 1, l ++ [j], v2, I, by go_num, HB.out.next he (by omega) (by omega) HP4.out (by rw [HD.out]; rfl), ?_, ?_, ?_, ?_, ?_⟩
                  · exact hw3.heap (by omega) HG2.out
                  · exact ins_store5 HI3.out _ _ _ _ _
                  · exact HREC.out _ hw3
                  · exact HO2.out.trans hw3 (fun _ _ h => h) (fun q hq h => by omega)
                  · exact Nat.le_trans hs2 hw3.size
          · go_wp2_with fail
            go_ret
            exact HFIN.out _ (Only.refl _ _) (HB.out.stop (.inl he))
end Go.Proofs.YtanccjaikocefaaGreatDoor
