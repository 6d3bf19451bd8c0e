/-
  The contract of the document's 'block': the block at an address. Conditions: the machine lies in memory; at the address lies a word.
  The contract of the document's 'find': the block at the pc is entered. Conditions: the machine lies in memory; at the pc lies a word.
-/
import Derived.Test.YtanccjaikocefaaGreatDoorRStep
import Derived.Test.YtanccjaikocefaaGreatDoorRCount
namespace Go.Proofs.YtanccjaikocefaaGreatDoor
open Go.ChangeShapes Go.WideShapes Go.ChangeAt Go.RowKit
set_option linter.unusedVariables false

def slotV (pc : Int) (n : Nat) : Array Value := #[.int .u32 pc, .int .i64 n]
def BlockP (r : RS) (pc : Int) (w : World) (e : Ending) (w' : World) : Prop := e = .returned (.agg (slotV pc (blockIns r.s.mem pc 8).length)) ∧ Only (fun _ => False) w w'
theorem blockIns_none {mem : List Int} {pc : Int} {n : Nat} (h : decO (wordAt mem pc) = none) : (blockIns mem pc (n + 1)).length = 0 := by
  rw [blockIns, h]; rfl
theorem blockIns_end {mem : List Int} {pc : Int} {n : Nat} {i : Ins} (h : decO (wordAt mem pc) = some i) (he : (endsI i.op || (pc + 4) % 64 == 0) = true) : (blockIns mem pc (n + 1)).length = 1 := by
  rw [blockIns, h]
  dsimp only
  rw [if_pos he]; rfl
theorem blockIns_on {mem : List Int} {pc : Int} {n : Nat} {i : Ins} (h : decO (wordAt mem pc) = some i) (he : (endsI i.op || (pc + 4) % 64 == 0) = false) : (blockIns mem pc (n + 1)).length = 1 + (blockIns mem (pc + 4) n).length := by
  rw [blockIns, h]
  dsimp only
  rw [if_neg (by rw [he]; decide), List.length_cons]
  omega
theorem results_slot {fn : Func} {p : Tmp} (hres : fn.results = #[.cell p 82]) (tmps : Array Value) (w : World) (g : Nat) (cells : Array Value) (h2 : tmps.getD p undef = .pointer (some ⟨g, 0, none⟩)) (hi : w.heap[g]? = some (.cells cells 82 (0, 0))) (hs : cells.size = 2) :
    (results fn tmps).run Tryz.prog w = .ok (.agg cells) w := by
  have h2' : tmps[p]?.getD undef = .pointer (some ⟨g, 0, none⟩) := by simpa using h2
  have hz : (Tryz.prog.info? 82).map (·.size) = some 2 := by kernel_rfl
  have hl := run_loadVar_row (P := Tryz.prog) w g _ 82 cells _ _ hi Tryz.underlying82 rfl (by rw [hz, hs])
  simp [results, hres, asAddr, h2', hl]
theorem slot_put (W : World) (g : Nat) (a : Int) (n : Nat) (p : Int) (m : Nat) (h : W.heap[g]? = some (.cells (slotV a n) 82 (0, 0))) : ((W.setCell ⟨g, 0, none⟩ (.int .u32 p)).setCell ⟨g, 1, none⟩ (.int .i64 m)).heap[g]? = some (.cells (slotV p m) 82 (0, 0)) := by
  rw [heap_setCell_same _ g 1 _ _ _ (heap_setCell_same W g 0 _ _ _ h)]
  rfl
theorem slot_put1 (W : World) (g : Nat) (a : Int) (n : Nat) (m : Nat) (h : W.heap[g]? = some (.cells (slotV a n) 82 (0, 0))) : (W.setCell ⟨g, 1, none⟩ (.int .i64 m)).heap[g]? = some (.cells (slotV a m) 82 (0, 0)) := by
  rw [heap_setCell_same W g 1 _ _ _ h]
  rfl
set_option maxRecDepth 100000 in
set_option maxHeartbeats 1000000 in
theorem rblock_any (b : Nat) (r : RS) (hs : r.s.Ok) (hm64 : r.s.mem.length % 64 = 0) (pc : Int) (p0 : 0 ≤ pc) (hp4 : pc % 4 = 0) (hpl : pc + 4 ≤ (r.s.mem.length : Int)) (x : RRaw) (w : World) (h : RAt w b r x) (hmem : w.heap[x.mb]? = some (.cells (r.s.mem.map (Value.int .u8)).toArray 5 (0, 0))) :
    Calls Tryz.prog 74 #[.pointer (some ⟨b, 0, none⟩), .int .u32 pc] w (BlockP r pc w) := by
  have hlen := hs.len
  have H := Lib.hid h
  have HMEM := Lib.hid hmem
  clear h hmem
  go_enter Tryz.func74, Tryz.ntmps74
  go_wp2_with fail
  go_loopw [1] (fun pv wr => ∃ (k : Nat) (q : Int), k ≤ 8 ∧ pv = .int .u32 q ∧ 0 ≤ q ∧ q % 4 = 0 ∧ q + 4 ≤ (r.s.mem.length : Int) ∧ (blockIns r.s.mem pc 8).length = k + (blockIns r.s.mem q (8 - k)).length ∧ Only (fun _ => False) w wr ∧ wr.heap[w.heap.size]? = some (.cells (slotV 0 0) 82 (0, 0)) ∧ wr.heap[w.heap.size + 1]? = some (.cells (slotV pc k) 82 (0, 0))) (fun pv _ => 1000 - (intOf pv).toNat)
  case atStart =>
    refine ⟨0, pc, Nat.zero_le _, rfl, p0, hp4, hpl, by simp, ((Only.refl _ w).alloc _).alloc _, heap_alloc_old' _ (heap_alloc_new w _), ?_⟩
    have := heap_alloc_new (w.alloc (.cells (slotV 0 0) 82)) (.cells (slotV pc 0) 82)
    rw [World.size_alloc] at this
    exact this
  case round =>
    obtain ⟨k, q, hk, rfl, q0, q4, ql, hlk, ho, hr4, hr5⟩ := hrel
    have e1 : wr.cell? ⟨w.heap.size + 1, 1, none⟩ = some (.int .i64 k) := cell_of_row wr _ 1 _ _ _ hr5
    have e0 : wr.cell? ⟨w.heap.size + 1, 0, none⟩ = some (.int .u32 pc) := cell_of_row wr _ 0 _ _ _ hr5
    have d0 : wr.cell? ⟨w.heap.size, 0, none⟩ = some (.int .u32 0) := cell_of_row wr _ 0 _ _ _ hr4
    have d1 : wr.cell? ⟨w.heap.size, 1, none⟩ = some (.int .i64 0) := cell_of_row wr _ 1 _ _ _ hr4
    have z0 : wr.frozen? ⟨w.heap.size, 0, none⟩ = false := frozen_of_row wr _ 0 _ _ hr4
    have z1 : wr.frozen? ⟨w.heap.size, 1, none⟩ = false := frozen_of_row wr _ 1 _ _ hr4
    have HR4 := Lib.hid hr4
    have HR5 := Lib.hid hr5
    have HO := Lib.hid ho
    have HLK := Lib.hid hlk
    by_cases h8 : k = 8
    · subst h8
      have hlk8 : (blockIns r.s.mem pc 8).length = 8 := hlk
      have HL8 := Lib.hid hlk8
      clear hr4 hr5 ho hlk hlk8
      go_wp2_with fail
      exact bodyPost_ret (results_slot Tryz.results74 _ _ w.heap.size (slotV pc 8) (by rfl) (slot_put _ _ _ _ pc 8 HR4.out) rfl) rfl ⟨by rw [HL8.out], (HO.out.setW _ _).setW _ _⟩
    · have hk8 : k < 8 := by omega
      clear hr4 hr5 ho hlk d0 d1 z0 z1
      go_wp2_with fail
      refine (rload_any b r hs x q 4 (by omega) q0 (by show q + 4 ≤ _; exact ql) wr (HO.out.heap (fun h => h) H.out) (HO.out.heap (fun h => h) HMEM.out)).mono ?_
      rintro e wr' ⟨rfl, rfl⟩
      go_wp2_with fail
      refine (rdecode_any _ (wd_bd _ hs.mem _).1 (wd_bd _ hs.mem _).2 wr).mono ?_
      rintro e w1 ⟨rfl, ho1⟩
      have hr4 := ho1.heap (fun h => h) HR4.out
      have hr5 := ho1.heap (fun h => h) HR5.out
      have e1 : w1.cell? ⟨w.heap.size + 1, 1, none⟩ = some (.int .i64 k) := cell_of_row w1 _ 1 _ _ _ hr5
      have e0 : w1.cell? ⟨w.heap.size + 1, 0, none⟩ = some (.int .u32 pc) := cell_of_row w1 _ 0 _ _ _ hr5
      have y1 : w1.frozen? ⟨w.heap.size + 1, 1, none⟩ = false := frozen_of_row w1 _ 1 _ _ hr5
      have d0 : w1.cell? ⟨w.heap.size, 0, none⟩ = some (.int .u32 0) := cell_of_row w1 _ 0 _ _ _ hr4
      have d1 : w1.cell? ⟨w.heap.size, 1, none⟩ = some (.int .i64 0) := cell_of_row w1 _ 1 _ _ _ hr4
      have z0 : w1.frozen? ⟨w.heap.size, 0, none⟩ = false := frozen_of_row w1 _ 0 _ _ hr4
      have z1 : w1.frozen? ⟨w.heap.size, 1, none⟩ = false := frozen_of_row w1 _ 1 _ _ hr4
      have hsz := heap_lt hr5
      have hsz0 : w.heap.size < w1.heap.size := heap_lt hr4
      have HS4 := Lib.hid hr4
      have HS5 := Lib.hid hr5
      have HO1 := Lib.hid (HO.out.then ho1)
      clear hr4 hr5 ho1
      obtain ⟨m, hm⟩ : ∃ m, 8 - k = m + 1 := ⟨7 - k, by omega⟩
      cases hde : decO (wordAt r.s.mem q) with
      | none =>
        have hd2 : decP (leAt r.s.mem q 4) = .tuple #[.agg Ins.zero.cells, .bool false] := by
          have e : decO (leAt r.s.mem q 4) = none := hde
          unfold decP
          rw [e]
        rw [hd2]
        unfold Ins.cells Ins.zero
        have hl0 : (blockIns r.s.mem pc 8).length = k := by
          have := HLK.out
          rw [hm, blockIns_none hde] at this
          omega
        have HL0 := Lib.hid hl0
        clear hde hd2 hl0
        go_wp2_with fail
        exact bodyPost_ret (results_slot Tryz.results74 _ _ w.heap.size (slotV pc k) (by rfl) (heap_alloc_old' _ (slot_put _ _ _ _ pc k HS4.out)) rfl) rfl ⟨by rw [HL0.out], ((HO1.out.setW _ _).setW _ _).alloc _⟩
      | some i =>
        have hd2 : decP (leAt r.s.mem q 4) = .tuple #[.agg i.cells, .bool true] := by
          have e : decO (leAt r.s.mem q 4) = some i := hde
          unfold decP
          rw [e]
        rw [hd2]
        unfold Ins.cells
        have hiOk : i.Ok := decO_ok (wd_bd _ hs.mem _).1 (wd_bd _ hs.mem _).2 hde
        obtain ⟨i0, i1⟩ := hiOk.op
        have HDE := Lib.hid hde
        clear hde hd2
        go_wp2_with fail
        refine (rends_any i.op _ i0 i1).mono ?_
        rintro e w3 ⟨rfl, hw3⟩
        have hr5 : w3.heap[w.heap.size + 1]? = some (.cells (slotV pc (k + 1)) 82 (0, 0)) := by
          rw [← hw3]
          exact heap_alloc_old' _ (slot_put1 _ _ _ _ (k + 1) HS5.out)
        have hr4 : w3.heap[w.heap.size]? = some (.cells (slotV 0 0) 82 (0, 0)) := by
          rw [← hw3]
          exact heap_alloc_old' _ (((Only.refl (· = w.heap.size + 1) w1).set1 _ _).heap (fun e => by have : w.heap.size = w.heap.size + 1 := e; omega) HS4.out)
        have ho3 : Only (fun _ => False) w w3 := by
          rw [← hw3]
          exact (HO1.out.setW1 _ _ _).alloc _
        have e1 : w3.cell? ⟨w.heap.size + 1, 1, none⟩ = some (.int .i64 (k + 1)) := cell_of_row w3 _ 1 _ _ _ hr5
        have e0 : w3.cell? ⟨w.heap.size + 1, 0, none⟩ = some (.int .u32 pc) := cell_of_row w3 _ 0 _ _ _ hr5
        have d0 : w3.cell? ⟨w.heap.size, 0, none⟩ = some (.int .u32 0) := cell_of_row w3 _ 0 _ _ _ hr4
        have d1 : w3.cell? ⟨w.heap.size, 1, none⟩ = some (.int .i64 0) := cell_of_row w3 _ 1 _ _ _ hr4
        have z0 : w3.frozen? ⟨w.heap.size, 0, none⟩ = false := frozen_of_row w3 _ 0 _ _ hr4
        have z1 : w3.frozen? ⟨w.heap.size, 1, none⟩ = false := frozen_of_row w3 _ 1 _ _ hr4
        have hg0 := heap_lt hr4
        have HR4' := Lib.hid hr4
        have HR5' := Lib.hid hr5
        have HO3 := Lib.hid ho3
        clear hw3 hr4 hr5 ho3 hsz hsz0 y1
        by_cases hen : endsI i.op = true
        · have hl1 : (blockIns r.s.mem pc 8).length = k + 1 := by
            have := HLK.out
            rw [hm, blockIns_end HDE.out (by rw [hen]; rfl)] at this
            exact this
          have HL1 := Lib.hid hl1
          clear hl1
          rw [hen]
          go_wp2_with fail
          exact bodyPost_ret (results_slot Tryz.results74 _ _ w.heap.size (slotV pc (k + 1)) (by rfl) (slot_put _ _ _ _ pc (k + 1) HR4'.out) rfl) rfl ⟨by rw [HL1.out], (HO3.out.setW _ _).setW _ _⟩
        · have hen2 : endsI i.op = false := by simpa using hen
          rw [hen2]
          by_cases h64 : (q + 4) % 64 = 0
          · have hl1 : (blockIns r.s.mem pc 8).length = k + 1 := by
              have := HLK.out
              rw [hm, blockIns_end HDE.out (by rw [h64]; simp)] at this
              exact this
            have HL1 := Lib.hid hl1
            clear hl1
            go_wp2_with fail
            exact bodyPost_ret (results_slot Tryz.results74 _ _ w.heap.size (slotV pc (k + 1)) (by rfl) (slot_put _ _ _ _ pc (k + 1) HR4'.out) rfl) rfl ⟨by rw [HL1.out], (HO3.out.setW _ _).setW _ _⟩
          · have hl1 : (blockIns r.s.mem pc 8).length = k + 1 + (blockIns r.s.mem (q + 4) (8 - (k + 1))).length := by
              have := HLK.out
              have hm2 : 8 - (k + 1) = m := by omega
              rw [hm, blockIns_on HDE.out (by rw [hen2]; simpa using h64)] at this
              rw [hm2]
              omega
            have HL1 := Lib.hid hl1
            clear hl1
            go_wp2_with fail
            refine ⟨⟨k + 1, q + 4, by omega, rfl, by omega, by omega, by omega, HL1.out, HO3.out, HR4'.out, HR5'.out⟩, ?_⟩
            simp [intOf]
            omega
end Go.Proofs.YtanccjaikocefaaGreatDoor
namespace Go.Proofs.YtanccjaikocefaaGreatDoor
open Go.ChangeShapes Go.WideShapes Go.ChangeAt Go.RowKit
set_option linter.unusedVariables false

theorem slots_form {w : World} {sb : Nat} {v : Value} {l : List (Int × Int)} (h : SlotsAt w sb v l) (hl : 0 < l.length) : v = .slice (some ⟨sb, 0, none⟩) l.length l.length ∧ w.heap[sb]? = some (.cells (slotCells l).toArray 82 (0, 0)) := by
  rcases h with ⟨e, _⟩ | ⟨_, a, b⟩
  · rw [e] at hl; exact absurd hl (Nat.lt_irrefl 0)
  · exact ⟨a, b⟩
theorem slot_info : (Tryz.prog.info? 82).map (fun i => (i.zero, i.size, i.bytes)) = some (some (.agg #[.int .u32 0, .int .i64 0]), 2, 16) := by kernel_rfl
theorem made_slots (n : Nat) : madeCells (Value.agg #[.int .u32 0, .int .i64 0]).cells (n * 2) = (slotCells (List.replicate n (0, 0))).toArray := by
  apply Array.ext'
  simp only [madeCells, Value.cells, Array.toList_map, Array.toList_range]
  induction n with
  | zero => rfl
  | succ n ih =>
    rw [show (n + 1) * 2 = n * 2 + 1 + 1 by omega, List.range_succ, List.range_succ, List.map_append, List.map_append, ih, List.replicate_succ']
    simp only [slotCells, List.flatMap_append, List.flatMap_cons, List.flatMap_nil, List.append_nil, List.map_cons, List.map_nil, List.append_assoc]
    congr 1
    have h0 : (n * 2) % 2 = 0 := by omega
    have h1 : (n * 2 + 1) % 2 = 1 := by omega
    simp [h0, h1]
theorem rmake_slots (c : Nat) (h1 : c ≤ 64) (w : World) : (Instr.makeSlice 80 (.int .i64 c) (.int .i64 c)).run Tryz.prog w = .ok (.slice (some ⟨w.heap.size, 0, none⟩) c c) (w.alloc (.cells (slotCells (List.replicate c (0, 0))).toArray 82)) := by
  obtain ⟨i0, hi, hz0, hz1, hz2⟩ := info_parts slot_info
  have h := run_make (P := Tryz.prog) w 80 82 i0 _ Tryz.underlying80 hi hz0 .i64 .i64 (c : Int) (c : Int) (by omega) (Int.le_refl _) (by rw [hz2]; omega) (by omega)
  rw [hz1] at h
  simp only [Int.toNat_natCast] at h
  rw [made_slots] at h
  exact h
/-- New slots. -/
theorem RMach.newSlots {B b : Nat} {r : RS} {x : RRaw} {w w2 : World} {l : List (Int × Int)} (h : RMach B w b r x) (hO : Only (fun _ => False) w w2) (hrow : w2.heap[w.heap.size]? = some (.cells (slotCells l).toArray 82 (0, 0))) {N : Nat} (hl : l.length = N) (h0 : 0 < l.length) :
    RMach B ((w2.setCell ⟨b, 44, none⟩ (.slice (some ⟨w.heap.size, 0, none⟩) N N)).setCell ⟨b, 46, none⟩ (.int .i64 0)) b { r with slots := l, used := 0 } { x with slv := .slice (some ⟨w.heap.size, 0, none⟩) N N, sb := w.heap.size } := by
  have h2 := h.no hO
  have hS : Only (· = b) w2 ((w2.setCell ⟨b, 44, none⟩ (.slice (some ⟨w.heap.size, 0, none⟩) N N)).setCell ⟨b, 46, none⟩ (.int .i64 0)) := ((Only.refl _ _).set1 _ _).set1 _ _
  have hblt := h.mac.lt
  have hmlt := heap_lt h.mem
  have hslt := heap_lt hrow
  have hB := h.from_.1
  have hab := h.ab
  refine ⟨?_, ?_, ?_, ?_, ?_, ?_, h.ab, ⟨h.from_.1, h.from_.2.1, by show B ≤ w.heap.size; omega⟩, Nat.lt_of_lt_of_le hslt hS.size, ⟨h.ne.1, by show b ≠ w.heap.size; omega, by show x.mb ≠ w.heap.size; omega⟩, fun g hg => ?_, fun g hg => ?_⟩
  · exact ((h2.mac.putSlv _ w.heap.size).putUsed 0).sub rfl
  · exact hS.heap (fun e => h.ne.1 e.symm) h2.mem
  · exact .inr ⟨h0, by subst hl; rfl, hS.heap (fun e => by have : w.heap.size = b := e; omega) hrow⟩
  · exact h2.ans.only hS (fun e => by have : x.ab = b := e; omega)
  · exact ownsRow_only h2.evs hS (fun g hg => (h2.nee g hg).1)
  · exact ownsRow_only h2.blocks hS (fun g hg => (h2.neb g hg).1)
  · obtain ⟨a, b', c, d⟩ := h.nee g hg
    have := (h.evs.lt g hg).2
    exact ⟨a, b', by show g ≠ w.heap.size; omega, d⟩
  · obtain ⟨a, b', c⟩ := h.neb g hg
    have := (h.blocks.lt g hg).2
    exact ⟨a, b', by show g ≠ w.heap.size; omega⟩
theorem RMach.sub2 {B b : Nat} {r r' : RS} {x : RRaw} {w : World} (h : RMach B w b r x) (e1 : rCells r x = rCells r' x) (e2 : r'.s = r.s) (e3 : r'.slots = r.slots) (e4 : r'.blocks = r.blocks) : RMach B w b r' x :=
  ⟨h.mac.sub e1, by rw [e2]; exact h.mem, by rw [e3]; exact h.slots, by rw [e2]; exact h.ans, by rw [e2]; exact h.evs, by rw [e4]; exact h.blocks, h.ab, h.from_, h.sbLt, h.ne, h.nee, h.neb⟩
theorem RMach.slotPut {B b : Nat} {r : RS} {x : RRaw} {w : World} (h : RMach B w b r x) (k : Nat) (q : Int × Int) (hl : 0 < r.slots.length) :
    RMach B ((w.setCell ⟨x.sb, k * 2, none⟩ (.int .u32 q.1)).setCell ⟨x.sb, k * 2 + 1, none⟩ (.int .i64 q.2)) b { r with slots := r.slots.set k q } x := by
  obtain ⟨hslv, hrow⟩ := slots_form h.slots hl
  have hS : Only (· = x.sb) w ((w.setCell ⟨x.sb, k * 2, none⟩ (.int .u32 q.1)).setCell ⟨x.sb, k * 2 + 1, none⟩ (.int .i64 q.2)) := ((Only.refl _ _).set1 _ _).set1 _ _
  have hab := h.ab
  have hB := h.from_.2.2
  refine ⟨?_, ?_, ?_, ?_, ?_, ?_, h.ab, h.from_, Nat.lt_of_lt_of_le h.sbLt hS.size, h.ne, h.nee, h.neb⟩
  · exact RAt.sub (r := r) (x := x) (hS.heap (fun e => h.ne.2.1 e) h.mac) rfl
  · exact hS.heap (fun e => h.ne.2.2 e) h.mem
  · refine .inr ⟨by show 0 < (r.slots.set k q).length; rw [List.length_set]; exact hl, by show x.slv = .slice (some ⟨x.sb, 0, none⟩) (r.slots.set k q).length (r.slots.set k q).length; rw [List.length_set]; exact hslv, ?_⟩
    rw [heap_setCell_same _ x.sb (k * 2 + 1) _ _ _ (heap_setCell_same w x.sb (k * 2) _ _ _ hrow)]
    congr 2
    show _ = (slotCells (r.slots.set k q)).toArray
    rw [← slotCells_set]
    simp
  · exact h.ans.only hS (fun e => by have : x.ab = x.sb := e; omega)
  · exact ownsRow_only h.evs hS (fun g hg => (h.nee g hg).2.2.1)
  · exact ownsRow_only h.blocks hS (fun g hg => (h.neb g hg).2.2)
theorem Only.no' {S : Nat → Prop} {a b c : World} (h : Only S a b) (k : Only (fun _ => False) b c) : Only S a c := h.then k.no
/-- Of the blocks below 'n' no new ones are its own. -/
def Kin (n b : Nat) (x x' : RRaw) : Prop := ∀ k, k < n → Rb b x' k → Rb b x k
theorem Kin.refl (n b : Nat) (x : RRaw) : Kin n b x x := fun _ _ h => h
theorem Kin.trans {n b : Nat} {x y z : RRaw} (h : Kin n b x y) (k : Kin n b y z) : Kin n b x z := fun j hj hz => h j hj (k j hj hz)
/-- Behind 'count'. -/
theorem RMach.counted {B b : Nat} {r : RS} {x : RRaw} {w w' : World} {e : Ending} {bl : List Blk} (h : RMach B w b r x) (hc : CountP B b r { r with blocks := bl } x w e w') :
    e = .returned (.tuple #[]) ∧ ∃ x', RMach B w' b { r with blocks := bl } x' ∧ Only (Rb b x) w w' ∧ (∀ n, n ≤ w.heap.size → Kin n b x x') ∧ x'.sb = x.sb ∧ x'.slv = x.slv := by
  obtain ⟨he, v', hR, hrow, hor, hO⟩ := hc
  have hbl : ∀ g, x.blv.ownBlock = some g → B ≤ g ∧ g < w.heap.size := fun g hg => h.blocks.lt g hg
  have hev : ∀ g, x.evs.ownBlock = some g → B ≤ g ∧ g < w.heap.size := fun g hg => h.evs.lt g hg
  have hmlt := heap_lt h.mem
  have hblt := h.mac.lt
  have hslt := h.sbLt
  have hne := h.ne
  refine ⟨he, { x with blv := v' }, ⟨hR, ?_, ?_, ?_, ?_, hrow, h.ab, h.from_, Nat.lt_of_lt_of_le h.sbLt hO.size, h.ne, ?_, ?_⟩, ?_, ?_, rfl, rfl⟩
  · exact hO.heap (fun k => by rcases k with k | k; exact hne.1 k.symm; exact (h.neb _ k).2.1 rfl) h.mem
  · exact h.slots.only hO (fun k => by rcases k with k | k; exact hne.2.1 k.symm; exact (h.neb _ k).2.2 rfl)
  · refine h.ans.only hO (fun k => ?_)
    have := h.ab
    have := h.from_.1
    rcases k with k | k
    · omega
    · have := (hbl _ k).1; omega
  · refine ownsRow_only h.evs hO (fun g hg k => ?_)
    rcases k with k | k
    · exact (h.nee g hg).1 k
    · exact (h.nee g hg).2.2.2 k
  · intro g hg
    obtain ⟨a, b', c, d⟩ := h.nee g hg
    refine ⟨a, b', c, fun k => ?_⟩
    rcases hor with e | e
    · exact d (e ▸ k)
    · have := e g k
      have := (hev g hg).2
      omega
  · intro g hg
    rcases hor with e | e
    · exact h.neb g (e ▸ hg)
    · have := e g hg
      exact ⟨fun k => by omega, fun k => by have : g = x.mb := k; omega, fun k => by have : g = x.sb := k; omega⟩
  · exact hO.mono (fun k _ hk => by rcases hk with hk | hk; exact .inl hk; exact .inr (.inr (.inr (.inr hk))))
  · intro n hn k hk hr
    rcases hr with e | e | e | e | e
    · exact .inl e
    · exact .inr (.inl e)
    · exact .inr (.inr (.inl e))
    · exact .inr (.inr (.inr (.inl e)))
    · rcases hor with e2 | e2
      · exact .inr (.inr (.inr (.inr (e2 ▸ e))))
      · have := e2 k e
        omega
/-- Behind the first part of 'find'. -/
def MakeR (B b : Nat) (r' : RS) (x : RRaw) (w wx : World) : Prop := ∃ x1, RMach B wx b r' x1 ∧ Only (Rb b x) w wx ∧ Kin w.heap.size b x x1
theorem slot_cells {w : World} {sb : Nat} {l : List (Int × Int)} (h : w.heap[sb]? = some (.cells (slotCells l).toArray 82 (0, 0))) {k : Nat} {q : Int × Int} (hk : l[k]? = some q) : w.cell? ⟨sb, k * 2, none⟩ = some (.int .u32 q.1) ∧ w.cell? ⟨sb, k * 2 + 1, none⟩ = some (.int .i64 q.2) := by
  obtain ⟨a, b⟩ := slotCells_get l k q hk
  exact ⟨(cell_of_row w sb _ _ _ _ h).trans (by simpa using a), (cell_of_row w sb _ _ _ _ h).trans (by simpa using b)⟩
theorem slotK_lt (r : RS) (h : 0 < r.slots.length) (hp : 0 ≤ r.s.pc) : r.slotK < r.slots.length ∧ (r.slotK : Int) = r.s.pc / 4 % (r.slots.length : Int) := by
  have h1 : 0 ≤ r.s.pc / 4 % (r.slots.length : Int) := Int.emod_nonneg _ (by omega)
  have h2 : r.s.pc / 4 % (r.slots.length : Int) < (r.slots.length : Int) := Int.emod_lt_of_pos _ (by omega)
  unfold RS.slotK
  omega
set_option maxRecDepth 100000 in
set_option maxHeartbeats 1000000 in
theorem rfind_any (B b : Nat) (r : RS) (hh : r.Head) (hsl : 0 < r.slots.length) (hp4 : r.s.pc % 4 = 0) (hpl : r.s.pc + 4 ≤ (r.s.mem.length : Int)) (w : World) (x : RRaw) (h : RMach B w b r x) :
    Calls Tryz.prog 62 #[.pointer (some ⟨b, 0, none⟩)] w (RFindP B b w r.find x) := by
  have hN := hh.cnt.nslots
  have hpc := hh.ok.s.pc
  obtain ⟨pc0, pc1⟩ := hpc
  obtain ⟨hK, hKe⟩ := slotK_lt r hsl pc0
  obtain ⟨q, hq⟩ : ∃ q, r.slots[r.slotK]? = some q := ⟨_, List.getElem?_eq_getElem hK⟩
  have hqd : r.slots.getD r.slotK (0, 0) = q := by rw [List.getD_eq_getElem?_getD, hq]; rfl
  have hqok := hh.cnt.slots q (List.mem_of_getElem? hq)
  obtain ⟨hslv, hrow⟩ := slots_form h.slots hsl
  obtain ⟨s0, s1⟩ := slot_cells hrow hq
  have c1 := h.mac.pc
  have c44 := h.mac.slots
  rw [hslv] at c44
  generalize hKK : r.slotK = K at *
  have H := Lib.hid h
  have HH := Lib.hid hh
  have HQ := Lib.hid hq
  have HQD := Lib.hid hqd
  have HROW := Lib.hid hrow
  have HKE := Lib.hid hKe
  have HKK := Lib.hid hKK
  obtain ⟨qa0, qa1, qb0, qb1⟩ := hqok
  clear h hh hq hqd hrow hKe hKK hslv
  go_enter Tryz.func62, Tryz.ntmps62
  go_wp2_with fail
  go_quiet (fail)
  go_upto_region 1 with fail
  rw [← HKE.out]
  go_cut [41] from 17 to 40 (fun v wx => v = .bool (q.2 == 0 || q.1 != r.s.pc) ∧ Only (fun _ => False) w wx)
  case first =>
    by_cases h1 : q.2 = 0
    · go_quiet (fail)
      go_wp2_with fail
      go_meet
      exact ⟨by rw [h1]; rfl, ((Only.refl _ _).drewN _).drewN _⟩
    · have h1' : (q.2 == 0) = false := by simpa using h1
      by_cases h2 : q.1 = r.s.pc
      · rw [h2] at s0
        go_quiet (fail)
        go_wp2_with fail
        go_meet
        exact ⟨by rw [h1', h2]; simp, ((Only.refl _ _).drewN _).drewN _⟩
      · have h2' : (q.1 != r.s.pc) = true := by simpa using h2
        go_quiet (fail)
        go_wp2_with fail
        go_meet
        exact ⟨by rw [h1', h2']; rfl, ((Only.refl _ _).drewN _).drewN _⟩
  case rest =>
    obtain ⟨rfl, ho⟩ := hcut
    have HO := Lib.hid ho
    clear ho s0 s1 c1 c44
    go_upto_if 41 with fail
    go_cut [3] from 41 to 101 (fun v wx => MakeR B b r.make x w wx)
    case first =>
      by_cases hm : (q.2 == 0 || q.1 != r.s.pc) = true
      · rw [hm]
        have hM0 := H.out.no HO.out
        have c1 := hM0.mac.pc
        have HM0 := Lib.hid hM0
        clear hM0
        have hblt := HM0.out.mac.lt
        have hbb := HM0.out.from_.1
        go_wp2_with fail
        refine (rblock_any b r HH.out.ok.s HH.out.ok.mem64 r.s.pc pc0 hp4 hpl x wc HM0.out.mac HM0.out.mem).mono ?_
        rintro e w1 ⟨rfl, ho1⟩
        obtain ⟨n, hn⟩ : ∃ n, n = (blockIns r.s.mem r.s.pc 8).length := ⟨_, rfl⟩
        have hn8 : n ≤ 8 := by rw [hn]; exact blockIns_len _ _ _
        have HNN := Lib.hid hn
        rw [← hn]
        have hM1 := HM0.out.no ho1
        have HO1 := Lib.hid (HO.out.then ho1)
        have hus := HH.out.cnt.used
        have har := HH.out.cnt.arena hsl
        obtain ⟨us0, us1⟩ := hus
        obtain ⟨ar0, ar1⟩ := har
        have d7 := hM1.mac.arena
        have d8 := hM1.mac.used
        have HM1 := Lib.hid hM1
        unfold slotV
        clear ho1 hn hM1 c1
        have hms := fun W => rmake_slots r.slots.length hN W
        obtain ⟨W2, hW2⟩ : ∃ W2, W2 = w1.alloc (.cells #[.int .u32 r.s.pc, .int .i64 n] 82) := ⟨_, rfl⟩
        have hO2 : Only (fun _ => False) w1 W2 := by rw [hW2]; exact (Only.refl _ _).alloc _
        have hg2 : W2.heap[w1.heap.size]? = some (.cells (slotV r.s.pc n) 82 (0, 0)) := by rw [hW2]; exact heap_alloc_new w1 _
        have d7 := hO2.cell (fun h => h) d7
        have d8 := hO2.cell (fun h => h) d8
        have t1 : W2.cell? ⟨w1.heap.size, 1, none⟩ = some (.int .i64 n) := cell_of_row W2 _ 1 _ _ _ hg2
        have HG2 := Lib.hid hg2
        have HO2 := Lib.hid hO2
        have HM2 := Lib.hid (HM1.out.no hO2)
        clear hO2 hg2
        go_wp2_with fail
        rw [← hW2]
        clear hW2
        go_quiet (fail)
        go_upto_if 60 with fail
        have hOV : Only (fun _ => False) w1 (W2.drewN nq) := HO2.out.drewN _
        have hgV : (W2.drewN nq).heap[w1.heap.size]? = some (.cells (slotV r.s.pc n) 82 (0, 0)) := HG2.out
        generalize hV : W2.drewN nq = V at *
        have HOV := Lib.hid hOV
        have HGV := Lib.hid hgV
        have HMV := Lib.hid (HM1.out.no hOV)
        clear hOV hgV hV d7 d8 t1
        go_cut [] from 60 to 72 (fun wx => ∃ x2, RMach B wx b { r with slots := (if decide (r.arena < r.used + n) then List.replicate r.slots.length (0, 0) else r.slots), used := (if decide (r.arena < r.used + n) then 0 else r.used) } x2 ∧ wx.heap[w1.heap.size]? = some (.cells (slotV r.s.pc n) 82 (0, 0)) ∧ Only (Rb b x) w wx ∧ Kin w.heap.size b x x2 ∧ x2.sb ≠ w1.heap.size)
        case first =>
          by_cases hbig : r.arena < r.used + n
          · obtain ⟨V2, hV2⟩ : ∃ V2, V2 = V.alloc (.cells (slotCells (List.replicate r.slots.length (0, 0))).toArray 82) := ⟨_, rfl⟩
            have hO2 : Only (fun _ => False) V V2 := by rw [hV2]; exact (Only.refl _ _).alloc _
            have hrow2 : V2.heap[V.heap.size]? = some (.cells (slotCells (List.replicate r.slots.length (0, 0))).toArray 82 (0, 0)) := by rw [hV2]; exact heap_alloc_new V _
            have hMV2 := HMV.out.no hO2
            have g44 := hMV2.mac.slots
            have g46 := hMV2.mac.used
            have z44 := hMV2.mac.free 44
            have z46 := hMV2.mac.free 46
            have hlt1 := hMV2.mac.lt
            obtain ⟨hslv, _⟩ := slots_form hMV2.slots hsl
            rw [hslv] at g44
            have hnew := RMach.newSlots (N := r.slots.length) (HMV.out) hO2 hrow2 (by simp) (by simpa using hsl)
            have k44 := HMV.out.mac.slots
            rw [hslv] at k44
            have HNEW := Lib.hid hnew
            have HO2' := Lib.hid hO2
            have hgV2 := hO2.heap (fun h => h) HGV.out
            have HGV2 := Lib.hid hgV2
            have hms2 := hms V
            rw [← hV2] at hms2
            clear hslv hnew hO2 hrow2 hMV2 hV2 hgV2 hms
            have hd : decide (r.arena < r.used + n) = true := by simpa using hbig
            go_wp2_with fail
            go_meet
            have hw1 := HO1.out.size
            have hb1 := HM1.out.mac.lt
            have hwV := HOV.out.size
            have hS : Only (· = b) V2 ((V2.setCell ⟨b, 44, none⟩ (.slice (some ⟨V.heap.size, 0, none⟩) r.slots.length r.slots.length)).setCell ⟨b, 46, none⟩ (.int .i64 0)) := ((Only.refl _ _).set1 _ _).set1 _ _
            refine ⟨{ x with slv := .slice (some ⟨V.heap.size, 0, none⟩) r.slots.length r.slots.length, sb := V.heap.size }, by rw [hd]; exact HNEW.out.sub2 rfl rfl rfl rfl, hS.heap (fun e => by have : w1.heap.size = b := e; omega) HGV2.out, ?_, ?_, by have := HGV.out; have := heap_lt this; show V.heap.size ≠ w1.heap.size; omega⟩
            · exact (HO1.out.no.then (HOV.out.no.then (HO2'.out.no))).then (hS.mono (fun _ _ e => .inl e))
            · intro k hk hr
              rcases hr with e | e | e | e | e
              · exact .inl e
              · exact .inr (.inl e)
              · have : k = V.heap.size := e
                omega
              · exact .inr (.inr (.inr (.inl e)))
              · exact .inr (.inr (.inr (.inr e)))
          · have hd : decide (r.arena < r.used + n) = false := by simpa using hbig
            go_wp2_with fail
            go_meet
            exact ⟨x, by rw [hd]; exact HMV.out.sub2 rfl rfl rfl rfl, HGV.out, HO1.out.no.then (HOV.out.no), Kin.refl _ _ _, by have := H.out.sbLt; have := HO1.out.size; omega⟩
        case rest =>
          clear hms
          obtain ⟨x2, hM2, hg2, hO2, hk2, hx2⟩ := hcut
          obtain ⟨S0, hS0⟩ : ∃ S0, S0 = (if decide (r.arena < r.used + n) then List.replicate r.slots.length (0, 0) else r.slots) := ⟨_, rfl⟩
          obtain ⟨U0, hU0⟩ : ∃ U0, U0 = (if decide (r.arena < r.used + n) then 0 else r.used) := ⟨_, rfl⟩
          have hSl : S0.length = r.slots.length := by rw [hS0]; split <;> simp
          have hU1 : 0 ≤ U0 ∧ U0 ≤ 264 := by rw [hU0]; split <;> omega
          obtain ⟨hU1, hU2⟩ := hU1
          rw [← hS0, ← hU0] at hM2
          obtain ⟨hslv, hrow⟩ := slots_form hM2.slots (by show 0 < S0.length; omega)
          have c44 := hM2.mac.slots
          have c46 := hM2.mac.used
          have z46 := hM2.mac.free 46
          have hblt2 := hM2.mac.lt
          have hne2 := hM2.ne
          have hslt2 := hM2.sbLt
          rw [hslv] at c44
          have hnl : (({ r with slots := S0, used := U0 } : RS).slots.length) = r.slots.length := hSl
          rw [hnl] at c44
          have t0 : wc.cell? ⟨w1.heap.size, 0, none⟩ = some (.int .u32 r.s.pc) := cell_of_row wc _ 0 _ _ _ hg2
          have t1 : wc.cell? ⟨w1.heap.size, 1, none⟩ = some (.int .i64 n) := cell_of_row wc _ 1 _ _ _ hg2
          have hg2lt := heap_lt hg2
          have hnb1 : b < w1.heap.size := HM1.out.mac.lt
          have zs0 : wc.frozen? ⟨x2.sb, K * 2, none⟩ = false := frozen_of_row wc _ _ _ _ hrow
          have zs1 : wc.frozen? ⟨x2.sb, K * 2 + 1, none⟩ = false := frozen_of_row wc _ _ _ _ hrow
          obtain ⟨q0, hq0⟩ : ∃ q, S0[K]? = some q := ⟨_, List.getElem?_eq_getElem (by omega)⟩
          obtain ⟨v0, v1⟩ := slot_cells hrow hq0
          have c38 := hM2.mac.built
          have z38 := hM2.mac.free 38
          have hbu := HH.out.cnt.built
          have hst := HH.out.ok.steps
          have hfu := HH.out.ok.fuel
          have HMM := Lib.hid hM2
          have HS0 := Lib.hid hS0
          have HU0 := Lib.hid hU0
          have HOO := Lib.hid hO2
          have HK2 := Lib.hid hk2
          have HROW2 := Lib.hid hrow
          have HG3 := Lib.hid hg2
          obtain ⟨hbu0, hbu1⟩ := hbu
          obtain ⟨hst0, hst1⟩ := hst
          obtain ⟨hfu0, hfu1⟩ := hfu
          clear hM2 hS0 hU0 hO2 hk2 hrow hslv hg2 hnl hq0
          go_wp2_with fail
          refine wp_region_still_tail 10 (by kernel_rfl) (by kernel_rfl) ?_
          simp only [List.take_succ_cons, List.take_zero, List.drop_succ_cons, List.drop_zero]
          change wpStill _ _ (World.drew _) _ _ _
          repeat still_step
          refine wpStill_nil ?_
          change wpList _ _ _ _ _ (World.drew _)
          go_wp2_with fail
          refine wp_region_still_tail 7 (by kernel_rfl) (by kernel_rfl) ?_
          simp only [List.take_succ_cons, List.take_zero, List.drop_succ_cons, List.drop_zero]
          change wpStill _ _ (World.drew _) _ _ _
          repeat still_step
          refine wpStill_nil ?_
          change wpList _ _ _ _ _ (World.drew _)
          go_wp2_with fail
          have hA : RMach B (wc.setCell ⟨b, 46, none⟩ (.int .i64 (U0 + n))) b { r with slots := S0, used := U0 + n } x2 :=
            HMM.out.struct ((Only.refl _ _).set1 _ _) ((HMM.out.mac.putUsed (U0 + n)).sub rfl) rfl HMM.out.ans rfl rfl rfl rfl
          have hB2 := hA.slotPut K (r.s.pc, (n : Int)) (by show 0 < S0.length; omega)
          have hC : RMach B ((((wc.setCell ⟨b, 46, none⟩ (.int .i64 (U0 + n))).setCell ⟨x2.sb, K * 2, none⟩ (.int .u32 r.s.pc)).setCell ⟨x2.sb, K * 2 + 1, none⟩ (.int .i64 n)).setCell ⟨b, 38, none⟩ (.int .i64 (r.built + 1))) b { r with slots := S0.set K (r.s.pc, (n : Int)), used := U0 + n, built := r.built + 1 } x2 :=
            hB2.struct ((Only.refl _ _).set1 _ _) ((hB2.mac.putBuilt (r.built + 1)).sub rfl) rfl hB2.ans rfl rfl rfl rfl
          have hOC : Only (Rb b x2) wc ((((wc.setCell ⟨b, 46, none⟩ (.int .i64 (U0 + n))).setCell ⟨x2.sb, K * 2, none⟩ (.int .u32 r.s.pc)).setCell ⟨x2.sb, K * 2 + 1, none⟩ (.int .i64 n)).setCell ⟨b, 38, none⟩ (.int .i64 (r.built + 1))) :=
            ((((Only.refl _ _).setS (.inl rfl) _ _).setS (.inr (.inr (.inl rfl))) _ _).setS (.inr (.inr (.inl rfl))) _ _).setS (.inl rfl) _ _
          have HC := Lib.hid hC
          have HOC := Lib.hid hOC
          clear hA hB2 hC hOC t0 t1 zs0 zs1 v0 v1 c38 z38 c44 c46 z46
          have hD := HC.out.no (((Only.refl (fun _ => False) _).drew).drew)
          have hOD : Only (fun _ => False) ((((wc.setCell ⟨b, 46, none⟩ (.int .i64 (U0 + n))).setCell ⟨x2.sb, K * 2, none⟩ (.int .u32 r.s.pc)).setCell ⟨x2.sb, K * 2 + 1, none⟩ (.int .i64 n)).setCell ⟨b, 38, none⟩ (.int .i64 (r.built + 1))) ((((wc.setCell ⟨b, 46, none⟩ (.int .i64 (U0 + n))).setCell ⟨x2.sb, K * 2, none⟩ (.int .u32 r.s.pc)).setCell ⟨x2.sb, K * 2 + 1, none⟩ (.int .i64 n)).setCell ⟨b, 38, none⟩ (.int .i64 (r.built + 1))).drew.drew := ((Only.refl (fun _ => False) _).drew).drew
          have hnb2 := HH.out.cnt.nblocks
          have hbk : ∀ y ∈ r.blocks, BlkOk 3000 3000 y := (HH.out.cnt.more (B' := 3000) (E' := 3000) (A' := 3000) (by omega) (by omega) (by omega)).blocks
          have hBw := Nat.le_trans HMM.out.from_.1 (Nat.le_trans (Nat.le_of_lt hblt2) (HOC.out.no' hOD).size)
          have hcnt := rcount_any B b { r with slots := S0.set K (r.s.pc, (n : Int)), used := U0 + n, built := r.built + 1 } x2 r.s.pc n 1 0 _ hD.mac hD.blocks (fun g hg => (hD.neb g hg).1) (by show r.blocks.length ≤ 5000; omega) hBw hbk pc0 pc1 (by omega) (by omega) (.inr rfl) (.inl rfl)
          refine hcnt.mono ?_
          intro e w4 hc4
          obtain ⟨rfl, x4, hM4, hO4, hk4, _⟩ := RMach.counted hD hc4
          have hmk : r.make = { { r with slots := S0.set K (r.s.pc, (n : Int)), used := U0 + n, built := r.built + 1 } with blocks := countB r.blocks r.s.pc n 1 0 } := by
            unfold RS.make
            dsimp only
            rw [HKK.out, HQD.out, if_pos hm, ← HNN.out, HS0.out, HU0.out]
          have hsz2 := HOO.out.size
          have hfin : MakeR B b r.make x w w4 := by
            refine ⟨x4, by rw [hmk]; exact hM4, ?_, fun k hk hr => HK2.out k hk ?_⟩
            · have h1 := HOO.out.trans HOC.out (U := Rb b x) (fun _ _ h => h) (fun k hk hr => HK2.out k hk hr)
              have h2 := h1.then (hOD.no)
              exact h2.trans hO4 (fun _ _ h => h) (fun k hk hr => HK2.out k hk hr)
            · exact hk4 _ (Nat.le_trans hsz2 (HOC.out.no' hOD).size) k hk hr
          clear hcnt hD hOD hM4 hO4 hk4 hmk hc4 hbk hBw
          go_wp2_with fail
          go_meet
          exact hfin
      · have hm2 : (q.2 == 0 || q.1 != r.s.pc) = false := by simpa using hm
        rw [hm2]
        have hmk : r.make = r := by
          unfold RS.make
          dsimp only
          rw [HKK.out, HQD.out, if_neg hm]
        have HMK := Lib.hid hmk
        clear hmk hm hm2
        go_wp2_with fail
        go_meet
        exact ⟨x, by rw [HMK.out]; exact H.out.no HO.out, HO.out.no, Kin.refl _ _ _⟩
    case rest =>
      obtain ⟨x1, hM1, hO1, hk1⟩ := hcut
      have e1 : r.make.s.pc = r.s.pc := by rw [(make_s r).1]
      have e2 : r.make.slots.length = r.slots.length := (make_s r).2.2.2.2
      obtain ⟨hslv, hrow⟩ := slots_form hM1.slots (by rw [e2]; exact hsl)
      obtain ⟨c, hc⟩ : ∃ c, r.make.slots[K]? = some c := ⟨_, List.getElem?_eq_getElem (by rw [e2]; exact hK)⟩
      obtain ⟨s0, s1⟩ := slot_cells hrow hc
      have c44 := hM1.mac.slots
      rw [hslv, e2] at c44
      have g47 := hM1.mac.cur1
      have g48 := hM1.mac.cur2
      have g49 := hM1.mac.at_
      have z47 := hM1.mac.free 47
      have z48 := hM1.mac.free 48
      have z49 := hM1.mac.free 49
      have hblt := hM1.mac.lt
      have hnb := hM1.ne.2.1
      have hslt := hM1.sbLt
      have HM1 := Lib.hid hM1
      have HO1 := Lib.hid hO1
      have HK1 := Lib.hid hk1
      have HC := Lib.hid hc
      clear hM1 hO1 hk1 hc hrow hslv
      have hst := HH.out.ok.steps
      have hfu := HH.out.ok.fuel
      have hcm := RS.Cnt.make HH.out.cnt HH.out.ok.s hsl hst.1 hst.1
      have hnb1 := hcm.nblocks
      have hcm2 : r.make.Cnt 3000 3000 3000 := hcm.more (by omega) (by omega) (by omega)
      obtain ⟨ca0, ca1, cb0, cb1⟩ := hcm2.slots c (List.mem_of_getElem? HC.out)
      have hM2 : RMach B (((wc.setCell ⟨b, 47, none⟩ (.int .u32 c.1)).setCell ⟨b, 48, none⟩ (.int .i64 c.2)).setCell ⟨b, 49, none⟩ (.int .i64 0)) b { r.make with cur := c, at_ := 0 } x1 :=
        HM1.out.struct ((((Only.refl _ _).set1 _ _).set1 _ _).set1 _ _) ((((HM1.out.mac.putCur1 c.1).putCur2 c.2).putAt_ 0).sub rfl) rfl HM1.out.ans rfl rfl rfl rfl
      have hO2 : Only (· = b) wc (((wc.setCell ⟨b, 47, none⟩ (.int .u32 c.1)).setCell ⟨b, 48, none⟩ (.int .i64 c.2)).setCell ⟨b, 49, none⟩ (.int .i64 0)) := (((Only.refl _ _).set1 _ _).set1 _ _).set1 _ _
      have hBw : B ≤ (((wc.setCell ⟨b, 47, none⟩ (.int .u32 c.1)).setCell ⟨b, 48, none⟩ (.int .i64 c.2)).setCell ⟨b, 49, none⟩ (.int .i64 0)).heap.size := Nat.le_trans (Nat.le_trans HM1.out.from_.1 (Nat.le_of_lt hblt)) hO2.size
      have hcnt := rcount_any B b { r.make with cur := c, at_ := 0 } x1 c.1 c.2 0 1 _ hM2.mac hM2.blocks (fun g hg => (hM2.neb g hg).1) (by show r.make.blocks.length ≤ 5000; omega) hBw hcm2.blocks ca0 ca1 cb0 cb1 (.inl rfl) (.inr rfl)
      have HCNT := Lib.hid hcnt
      have HM2 := Lib.hid hM2
      have HO2 := Lib.hid hO2
      clear hcnt hM2 hO2 hBw hcm hcm2
      go_wp2_with fail
      refine HCNT.out.mono ?_
      intro e w3 hc3
      obtain ⟨rfl, x2, hM3, hO3, hk3, _⟩ := RMach.counted HM2.out hc3
      have hfind : r.find = { { r.make with cur := c, at_ := 0 } with blocks := countB r.make.blocks c.1 c.2 0 1 } := by
        have hsk : r.make.slotK = K := by rw [← HKK.out]; unfold RS.slotK; rw [e1, e2]
        have hgd : r.make.slots.getD r.make.slotK (0, 0) = c := by rw [hsk, List.getD_eq_getElem?_getD, HC.out]; rfl
        unfold RS.find
        dsimp only
        rw [hgd]
      have hfin : RFindP B b w r.find x (.returned (.tuple #[])) w3 := by
        refine ⟨rfl, ⟨x2, by rw [hfind]; exact hM3⟩, ?_⟩
        refine (HO1.out.then (HO2.out.mono (fun _ _ e => .inl e))).trans hO3 (fun _ _ h => h) (fun k hk hr => HK1.out k hk hr)
      go_wp2_with fail
      go_end0
      exact hfin
end Go.Proofs.YtanccjaikocefaaGreatDoor
