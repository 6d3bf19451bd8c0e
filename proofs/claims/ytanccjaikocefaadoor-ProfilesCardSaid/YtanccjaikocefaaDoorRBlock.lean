/-
  The contract of the document's 'block': the block at an address. Conditions: the machine lies in memory; at the address lies a word.
-/
import Derived.Test.YtanccjaikocefaaDoorRStep
namespace Go.Proofs.YtanccjaikocefaaDoor
open Go.ChangeShapes Go.WideShapes Go.ChangeAt Go.RowKit
set_option linter.unusedVariables false

def slotV (pc : Int) (n : Nat) : Array Value := #[.int .u32 pc, .int .i64 n]
def BlockP (r : RS) (pc : Int) (w : World) (e : Ending) (w' : World) : Prop := e = .returned (.agg (slotV pc (blockIns r.s.mem pc 8).length)) ∧ Only (fun _ => False) w w'
theorem blockIns_none {mem : List Int} {pc : Int} {n : Nat} (h : decO (wordAt mem pc) = none) : (blockIns mem pc (n + 1)).length = 0 := by
  rw [blockIns, h]; rfl
theorem blockIns_end {mem : List Int} {pc : Int} {n : Nat} {i : Ins} (h : decO (wordAt mem pc) = some i) (he : (endsI i.op || (pc + 4) % 64 == 0) = true) : (blockIns mem pc (n + 1)).length = 1 := by
  rw [blockIns, h]
  dsimp only
  rw [if_pos he]; rfl
theorem blockIns_on {mem : List Int} {pc : Int} {n : Nat} {i : Ins} (h : decO (wordAt mem pc) = some i) (he : (endsI i.op || (pc + 4) % 64 == 0) = false) : (blockIns mem pc (n + 1)).length = 1 + (blockIns mem (pc + 4) n).length := by
  rw [blockIns, h]
  dsimp only
  rw [if_neg (by rw [he]; decide), List.length_cons]
  omega
theorem results_slot {fn : Func} {p : Tmp} (hres : fn.results = #[.cell p 87]) (tmps : Array Value) (w : World) (g : Nat) (cells : Array Value) (h2 : tmps.getD p undef = .pointer (some ⟨g, 0, none⟩)) (hi : w.heap[g]? = some (.cells cells 87 (0, 0))) (hs : cells.size = 2) :
    (results fn tmps).run Tryd.prog w = .ok (.agg cells) w := by
  have h2' : tmps[p]?.getD undef = .pointer (some ⟨g, 0, none⟩) := by simpa using h2
  have hz : (Tryd.prog.info? 87).map (·.size) = some 2 := by kernel_rfl
  have hl := run_loadVar_row (P := Tryd.prog) w g _ 87 cells _ _ hi Tryd.underlying87 rfl (by rw [hz, hs])
  simp [results, hres, asAddr, h2', hl]
theorem slot_put (W : World) (g : Nat) (a : Int) (n : Nat) (p : Int) (m : Nat) (h : W.heap[g]? = some (.cells (slotV a n) 87 (0, 0))) : ((W.setCell ⟨g, 0, none⟩ (.int .u32 p)).setCell ⟨g, 1, none⟩ (.int .i64 m)).heap[g]? = some (.cells (slotV p m) 87 (0, 0)) := by
  rw [heap_setCell_same _ g 1 _ _ _ (heap_setCell_same W g 0 _ _ _ h)]
  rfl
theorem slot_put1 (W : World) (g : Nat) (a : Int) (n : Nat) (m : Nat) (h : W.heap[g]? = some (.cells (slotV a n) 87 (0, 0))) : (W.setCell ⟨g, 1, none⟩ (.int .i64 m)).heap[g]? = some (.cells (slotV a m) 87 (0, 0)) := by
  rw [heap_setCell_same W g 1 _ _ _ h]
  rfl
set_option maxRecDepth 100000 in
set_option maxHeartbeats 1000000 in
theorem rblock_any (b : Nat) (r : RS) (hs : r.s.Ok) (hm64 : r.s.mem.length % 64 = 0) (pc : Int) (p0 : 0 ≤ pc) (hp4 : pc % 4 = 0) (hpl : pc + 4 ≤ (r.s.mem.length : Int)) (x : RRaw) (w : World) (h : RAt w b r x) (hmem : w.heap[x.mb]? = some (.cells (r.s.mem.map (Value.int .u8)).toArray 5 (0, 0))) :
    Calls Tryd.prog 79 #[.pointer (some ⟨b, 0, none⟩), .int .u32 pc] w (BlockP r pc w) := by
  have hlen := hs.len
  have H := Lib.hid h
  have HMEM := Lib.hid hmem
  clear h hmem
  go_enter Tryd.func79, Tryd.ntmps79
  go_wp2_with fail
  go_loopw [1] (fun pv wr => ∃ (k : Nat) (q : Int), k ≤ 8 ∧ pv = .int .u32 q ∧ 0 ≤ q ∧ q % 4 = 0 ∧ q + 4 ≤ (r.s.mem.length : Int) ∧ (blockIns r.s.mem pc 8).length = k + (blockIns r.s.mem q (8 - k)).length ∧ Only (fun _ => False) w wr ∧ wr.heap[w.heap.size]? = some (.cells (slotV 0 0) 87 (0, 0)) ∧ wr.heap[w.heap.size + 1]? = some (.cells (slotV pc k) 87 (0, 0))) (fun pv _ => 1000 - (intOf pv).toNat)
  case atStart =>
    refine ⟨0, pc, Nat.zero_le _, rfl, p0, hp4, hpl, by simp, ((Only.refl _ w).alloc _).alloc _, heap_alloc_old' _ (heap_alloc_new w _), ?_⟩
    have := heap_alloc_new (w.alloc (.cells (slotV 0 0) 87)) (.cells (slotV pc 0) 87)
    rw [World.size_alloc] at this
    exact this
  case round =>
    obtain ⟨k, q, hk, rfl, q0, q4, ql, hlk, ho, hr4, hr5⟩ := hrel
    have e1 : wr.cell? ⟨w.heap.size + 1, 1, none⟩ = some (.int .i64 k) := cell_of_row wr _ 1 _ _ _ hr5
    have e0 : wr.cell? ⟨w.heap.size + 1, 0, none⟩ = some (.int .u32 pc) := cell_of_row wr _ 0 _ _ _ hr5
    have d0 : wr.cell? ⟨w.heap.size, 0, none⟩ = some (.int .u32 0) := cell_of_row wr _ 0 _ _ _ hr4
    have d1 : wr.cell? ⟨w.heap.size, 1, none⟩ = some (.int .i64 0) := cell_of_row wr _ 1 _ _ _ hr4
    have z0 : wr.frozen? ⟨w.heap.size, 0, none⟩ = false := frozen_of_row wr _ 0 _ _ hr4
    have z1 : wr.frozen? ⟨w.heap.size, 1, none⟩ = false := frozen_of_row wr _ 1 _ _ hr4
    have HR4 := Lib.hid hr4
    have HR5 := Lib.hid hr5
    have HO := Lib.hid ho
    have HLK := Lib.hid hlk
    by_cases h8 : k = 8
    · subst h8
      have hlk8 : (blockIns r.s.mem pc 8).length = 8 := hlk
      have HL8 := Lib.hid hlk8
      clear hr4 hr5 ho hlk hlk8
      go_wp2_with fail
      exact bodyPost_ret (results_slot Tryd.results79 _ _ w.heap.size (slotV pc 8) (by rfl) (slot_put _ _ _ _ pc 8 HR4.out) rfl) rfl ⟨by rw [HL8.out], (HO.out.setW _ _).setW _ _⟩
    · have hk8 : k < 8 := by omega
      clear hr4 hr5 ho hlk d0 d1 z0 z1
      go_wp2_with fail
      refine (rload_any b r hs x q 4 (by omega) q0 (by show q + 4 ≤ _; exact ql) wr (HO.out.heap (fun h => h) H.out) (HO.out.heap (fun h => h) HMEM.out)).mono ?_
      rintro e wr' ⟨rfl, rfl⟩
      go_wp2_with fail
      refine (rdecode_any _ (wd_bd _ hs.mem _).1 (wd_bd _ hs.mem _).2 wr).mono ?_
      rintro e w1 ⟨rfl, ho1⟩
      have hr4 := ho1.heap (fun h => h) HR4.out
      have hr5 := ho1.heap (fun h => h) HR5.out
      have e1 : w1.cell? ⟨w.heap.size + 1, 1, none⟩ = some (.int .i64 k) := cell_of_row w1 _ 1 _ _ _ hr5
      have e0 : w1.cell? ⟨w.heap.size + 1, 0, none⟩ = some (.int .u32 pc) := cell_of_row w1 _ 0 _ _ _ hr5
      have y1 : w1.frozen? ⟨w.heap.size + 1, 1, none⟩ = false := frozen_of_row w1 _ 1 _ _ hr5
      have d0 : w1.cell? ⟨w.heap.size, 0, none⟩ = some (.int .u32 0) := cell_of_row w1 _ 0 _ _ _ hr4
      have d1 : w1.cell? ⟨w.heap.size, 1, none⟩ = some (.int .i64 0) := cell_of_row w1 _ 1 _ _ _ hr4
      have z0 : w1.frozen? ⟨w.heap.size, 0, none⟩ = false := frozen_of_row w1 _ 0 _ _ hr4
      have z1 : w1.frozen? ⟨w.heap.size, 1, none⟩ = false := frozen_of_row w1 _ 1 _ _ hr4
      have hsz := heap_lt hr5
      have hsz0 : w.heap.size < w1.heap.size := heap_lt hr4
      have HS4 := Lib.hid hr4
      have HS5 := Lib.hid hr5
      have HO1 := Lib.hid (HO.out.then ho1)
      clear hr4 hr5 ho1
      obtain ⟨m, hm⟩ : ∃ m, 8 - k = m + 1 := ⟨7 - k, by omega⟩
      cases hde : decO (wordAt r.s.mem q) with
      | none =>
        have hd2 : decP (leAt r.s.mem q 4) = .tuple #[.agg Ins.zero.cells, .bool false] := by
          have e : decO (leAt r.s.mem q 4) = none := hde
          unfold decP
          rw [e]
        rw [hd2]
        unfold Ins.cells Ins.zero
        have hl0 : (blockIns r.s.mem pc 8).length = k := by
          have := HLK.out
          rw [hm, blockIns_none hde] at this
          omega
        have HL0 := Lib.hid hl0
        clear hde hd2 hl0
        go_wp2_with fail
        exact bodyPost_ret (results_slot Tryd.results79 _ _ w.heap.size (slotV pc k) (by rfl) (heap_alloc_old' _ (slot_put _ _ _ _ pc k HS4.out)) rfl) rfl ⟨by rw [HL0.out], ((HO1.out.setW _ _).setW _ _).alloc _⟩
      | some i =>
        have hd2 : decP (leAt r.s.mem q 4) = .tuple #[.agg i.cells, .bool true] := by
          have e : decO (leAt r.s.mem q 4) = some i := hde
          unfold decP
          rw [e]
        rw [hd2]
        unfold Ins.cells
        have hiOk : i.Ok := decO_ok (wd_bd _ hs.mem _).1 (wd_bd _ hs.mem _).2 hde
        obtain ⟨i0, i1⟩ := hiOk.op
        have HDE := Lib.hid hde
        clear hde hd2
        go_wp2_with fail
        refine (rends_any i.op _ i0 i1).mono ?_
        rintro e w3 ⟨rfl, hw3⟩
        have hr5 : w3.heap[w.heap.size + 1]? = some (.cells (slotV pc (k + 1)) 87 (0, 0)) := by
          rw [← hw3]
          exact heap_alloc_old' _ (slot_put1 _ _ _ _ (k + 1) HS5.out)
        have hr4 : w3.heap[w.heap.size]? = some (.cells (slotV 0 0) 87 (0, 0)) := by
          rw [← hw3]
          exact heap_alloc_old' _ (((Only.refl (· = w.heap.size + 1) w1).set1 _ _).heap (fun e => by have : w.heap.size = w.heap.size + 1 := e; omega) HS4.out)
        have ho3 : Only (fun _ => False) w w3 := by
          rw [← hw3]
          exact (HO1.out.setW1 _ _ _).alloc _
        have e1 : w3.cell? ⟨w.heap.size + 1, 1, none⟩ = some (.int .i64 (k + 1)) := cell_of_row w3 _ 1 _ _ _ hr5
        have e0 : w3.cell? ⟨w.heap.size + 1, 0, none⟩ = some (.int .u32 pc) := cell_of_row w3 _ 0 _ _ _ hr5
        have d0 : w3.cell? ⟨w.heap.size, 0, none⟩ = some (.int .u32 0) := cell_of_row w3 _ 0 _ _ _ hr4
        have d1 : w3.cell? ⟨w.heap.size, 1, none⟩ = some (.int .i64 0) := cell_of_row w3 _ 1 _ _ _ hr4
        have z0 : w3.frozen? ⟨w.heap.size, 0, none⟩ = false := frozen_of_row w3 _ 0 _ _ hr4
        have z1 : w3.frozen? ⟨w.heap.size, 1, none⟩ = false := frozen_of_row w3 _ 1 _ _ hr4
        have hg0 := heap_lt hr4
        have HR4' := Lib.hid hr4
        have HR5' := Lib.hid hr5
        have HO3 := Lib.hid ho3
        clear hw3 hr4 hr5 ho3 hsz hsz0 y1
        by_cases hen : endsI i.op = true
        · have hl1 : (blockIns r.s.mem pc 8).length = k + 1 := by
            have := HLK.out
            rw [hm, blockIns_end HDE.out (by rw [hen]; rfl)] at this
            exact this
          have HL1 := Lib.hid hl1
          clear hl1
          rw [hen]
          go_wp2_with fail
          exact bodyPost_ret (results_slot Tryd.results79 _ _ w.heap.size (slotV pc (k + 1)) (by rfl) (slot_put _ _ _ _ pc (k + 1) HR4'.out) rfl) rfl ⟨by rw [HL1.out], (HO3.out.setW _ _).setW _ _⟩
        · have hen2 : endsI i.op = false := by simpa using hen
          rw [hen2]
          by_cases h64 : (q + 4) % 64 = 0
          · have hl1 : (blockIns r.s.mem pc 8).length = k + 1 := by
              have := HLK.out
              rw [hm, blockIns_end HDE.out (by rw [h64]; simp)] at this
              exact this
            have HL1 := Lib.hid hl1
            clear hl1
            go_wp2_with fail
            exact bodyPost_ret (results_slot Tryd.results79 _ _ w.heap.size (slotV pc (k + 1)) (by rfl) (slot_put _ _ _ _ pc (k + 1) HR4'.out) rfl) rfl ⟨by rw [HL1.out], (HO3.out.setW _ _).setW _ _⟩
          · have hl1 : (blockIns r.s.mem pc 8).length = k + 1 + (blockIns r.s.mem (q + 4) (8 - (k + 1))).length := by
              have := HLK.out
              have hm2 : 8 - (k + 1) = m := by omega
              rw [hm, blockIns_on HDE.out (by rw [hen2]; simpa using h64)] at this
              rw [hm2]
              omega
            have HL1 := Lib.hid hl1
            clear hl1
            go_wp2_with fail
            refine ⟨⟨k + 1, q + 4, by omega, rfl, by omega, by omega, by omega, HL1.out, HO3.out, HR4'.out, HR5'.out⟩, ?_⟩
            simp [intOf]
            omega
end Go.Proofs.YtanccjaikocefaaDoor
