/-
  The contract of the document's 'memory', an operation at a time: loads and stores as the plain machine has them. Conditions: the machine lies in memory; the numbers are in their ranges.
  What the document's machine comes to behind an event more, and behind bytes that were written. No further condition.
-/
import Derived.Test.YtanccjaikocefaaGreatDoorRWrote
import Derived.Test.YtanccjaikocefaaGreatDoorRDec
import Derived.Test.YtanccjaikocefaaGreatDoorMeth3
namespace Go.Proofs.YtanccjaikocefaaGreatDoor
open Go.ChangeShapes Go.WideShapes Go.ChangeAt Go.RowKit
set_option linter.unusedVariables false

theorem sgn2_yes (v n : Int) (hn : n = 8 ∨ n = 16) (h0 : 0 ≤ v) (h1 : v < 2 ^ n.toNat) (h : (bits BinOp.and IntKind.u32 (v / 2 ^ (n.toNat - 1)) 1 == 1) = true) :
    wrap32 (bits BinOp.or IntKind.u32 v (4294967295 * 2 ^ n.toNat % 4294967296)) = sgn v n := by
  rcases hn with rfl | rfl
  · simp at h h1
    rw [bit_sp _ (by omega) (by omega)] at h
    simp [sgn, h]
    rw [or_comm_u32 _ _ h0 (by omega) (by omega) (by omega), or_add _ _ 8 (by omega) (by omega) (by omega) (by omega) (by omega) (by omega)]
    unfold wrap32; omega
  · simp at h h1
    rw [bit_sp _ (by omega) (by omega)] at h
    simp [sgn, h]
    rw [or_comm_u32 _ _ h0 (by omega) (by omega) (by omega), or_add _ _ 16 (by omega) (by omega) (by omega) (by omega) (by omega) (by omega)]
    unfold wrap32; omega
theorem sgn2_no (v n : Int) (hn : n = 8 ∨ n = 16) (h0 : 0 ≤ v) (h1 : v < 2 ^ n.toNat) (h : (bits BinOp.and IntKind.u32 (v / 2 ^ (n.toNat - 1)) 1 == 1) = false) :
    wrap32 v = sgn v n := by
  rcases hn with rfl | rfl
  all_goals
    simp at h h1
    rw [bit_sp _ (by omega) (by omega)] at h
    simp [sgn, h]
    unfold wrap32; omega
theorem rsigned2_any (v n : Int) (hn : n = 8 ∨ n = 16) (h0 : 0 ≤ v) (h1 : v < 2 ^ n.toNat) (w : World) :
    Calls Tryz.prog 23 #[.int .u32 v, .int .i64 n] w fun e w' => e = .returned (.int .i32 (sgn v n)) ∧ w = w' := by
  have hb : 2 ≤ n ∧ n ≤ 31 := by omega
  obtain ⟨hb, hab⟩ := hb
  have H1 := Lib.hid h1
  have HN := Lib.hid hn
  clear h1 hn
  go_enter Tryz.func23, Tryz.ntmps23
  go_wp2
  · go_ret
    exact ⟨ret_int (sgn2_yes v n HN.out h0 H1.out ‹_›), rfl⟩
  · go_ret
    exact ⟨ret_int (sgn2_no v n HN.out h0 H1.out ‹_›), rfl⟩
/-- What a method that turns the machine comes to. -/
def RP (B b : Nat) (w : World) (v : Value) (r' : RS) (e : Ending) (w' : World) : Prop := e = .returned v ∧ RM B w' b r' ∧ Only (RUp B) w w'
def RS.putM (r : RS) (at_ : Int) (bs : List Int) : RS := { r with s := { r.s with mem := putAt r.s.mem at_ bs } }
theorem RSt.rp {B b : Nat} {w w0 w' : World} {v : Value} {r r' : RS} {x : RRaw} (h : RMach B w b r x) (ho : Only (fun _ => False) w0 w) (hc : RAt w' b r' x) (h2 : Only (· = b) w w') (e1 : r'.s.mem = r.s.mem) (e2 : r'.s.ans = r.s.ans) (e3 : r'.s.evs = r.s.evs) (e4 : r'.slots = r.slots) (e5 : r'.blocks = r.blocks) :
    RP B b w0 v r' (.returned v) w' :=
  ⟨rfl, ⟨x, h.struct h2 hc rfl (by rw [e2]; exact h.ans) e1 e3 e4 e5⟩, (ho.mono (fun _ _ h => h.elim)).then (h2.upb h.from_.1)⟩
/-- One byte more is written. -/
theorem put_step (mem bs : List Int) (a k : Nat) (c : Int) (h : bs[k]? = some c) (hfit : a + bs.length ≤ mem.length) : (putAt mem (a : Int) (bs.take k)).set (a + k) c = putAt mem (a : Int) (bs.take (k + 1)) := by
  have hk := (List.getElem?_eq_some_iff.1 h).1
  have he := (List.getElem?_eq_some_iff.1 h).2
  unfold putAt
  simp only [Int.toNat_natCast]
  rw [List.set_append, if_neg (by simp; omega)]
  rw [List.take_succ_eq_append_getElem hk, he]
  have l1 : (bs.take k).length = k := by simp; omega
  have l2 : (mem.take a ++ bs.take k).length = a + k := by simp; omega
  rw [l2, Nat.sub_self, List.drop_eq_getElem_cons (by rw [l1]; omega), List.set_cons_zero]
  simp [l1]
  congr 1
theorem put_none (mem : List Int) (a : Int) : putAt mem a [] = mem := by simp [putAt]
theorem put_take_len (mem bs : List Int) (a k : Nat) (h : a + bs.length ≤ mem.length) : (putAt mem (a : Int) (bs.take k)).length = mem.length := by
  rw [putAt_len]
  simp; omega
theorem put_cell {w : World} {mb : Nat} {l : List Int} (h : w.heap[mb]? = some (.cells (l.map (Value.int .u8)).toArray 5 (0, 0))) (k : Nat) (hk : k < l.length) : ∃ c, w.cell? ⟨mb, k, none⟩ = some (.int .u8 c) :=
  ⟨(l[k]'hk), by rw [cell_of_row w mb k _ _ _ h]; simp [List.getElem?_eq_getElem hk]⟩
theorem store_byte_1 (v : Int) (k : Nat) (hk : k < 1) : (storeB 15 v)[k]? = some (v / 2 ^ (8 * k) % 256) := by
  have hs : k = 0 := by omega
  subst hs; simp [storeB, wide]
theorem store_byte_2 (v : Int) (k : Nat) (hk : k < 2) : (storeB 16 v)[k]? = some (v / 2 ^ (8 * k) % 256) := by
  have hs : k = 0 ∨ k = 1 := by omega
  rcases hs with rfl | rfl <;> simp [storeB, wide]
theorem store_byte_4 (v : Int) (k : Nat) (hk : k < 4) : (storeB 17 v)[k]? = some (v / 2 ^ (8 * k) % 256) := by
  have hs : k = 0 ∨ k = 1 ∨ k = 2 ∨ k = 3 := by omega
  rcases hs with rfl | rfl | rfl | rfl <;> simp [storeB, wide]
/-- Behind a change of the memory's bytes alone. -/
theorem RMach.memTo {B b : Nat} {r : RS} {x : RRaw} {w w' : World} {m : List Int} (h : RMach B w b r x) (ho : Only (· = x.mb) w w') (hm : w'.heap[x.mb]? = some (.cells (m.map (Value.int .u8)).toArray 5 (0, 0))) (hl : m.length = r.s.mem.length) : RMach B w' b { r with s := { r.s with mem := m } } x := by
  refine ⟨?_, hm, h.slots.only ho (Ne.symm h.ne.2.2), h.ans.only ho (by have := h.ab; have := h.from_.2.1; omega), ownsRow_only h.evs ho (fun g hg => (h.nee g hg).2.1), ownsRow_only h.blocks ho (fun g hg => (h.neb g hg).2.1), h.ab, h.from_, Nat.lt_of_lt_of_le h.sbLt ho.size, h.ne, h.nee, h.neb⟩
  have h1 : RAt w' b r x := ho.heap h.ne.1 h.mac
  refine h1.sub ?_
  unfold rCells rTail
  simp only [hl]
set_option maxRecDepth 100000 in
set_option maxHeartbeats 400000 in
theorem rmem_10_fault (B b : Nat) (i : Ins) (hi : i.Ok) (r : RS) (hs : r.s.Ok) (a v : Int) (a0 : 0 ≤ a) (a1 : a < 4294967296) (v0 : 0 ≤ v) (v1 : v < 4294967296) (x : RRaw) (w : World) (h : RMach B w b r x) (ho : i.op = 10) (hl : lies r.s a 1 = false) :
    Calls Tryz.prog 79 #[.pointer (some ⟨b, 0, none⟩), .agg i.cells, .int .u32 a, .int .u32 v] w (RP B b w (.bool false) (r.end_ 6)) := by
  unfold Ins.cells
  obtain ⟨d0, d1⟩ := hi.rd
  have hlen := hs.len
  have HL := Lib.hid hl
  clear hl
  go_enter Tryz.func79, Tryz.ntmps79
  go_wp2_with fail
  refine (rlies_any b a 1 r x _ ?_ a0 a1 (by omega) (by omega) hlen).mono ?_
  · repeat (first | with_reducible refine RAt.drew ?_ | with_reducible refine RAt.drewN ?_ _ | with_reducible refine RAt.alloc ?_ _)
    exact h.mac
  rintro e w1 ⟨rfl, rfl⟩
  rw [HL.out]
  go_wp2_with fail
  refine (rstop_any b 6 r x _ ?_).mono ?_
  · repeat (first | with_reducible refine RAt.drew ?_ | with_reducible refine RAt.drewN ?_ _ | with_reducible refine RAt.alloc ?_ _)
    exact h.mac
  rintro e w1 ⟨rfl, h1, ho1⟩
  go_wp2_with fail
  go_ret
  exact RSt.rp (h.no (((Only.refl _ w).alloc _).alloc _)) (((Only.refl _ w).alloc _).alloc _) h1 ho1 rfl rfl rfl rfl rfl
set_option maxRecDepth 100000 in
set_option maxHeartbeats 400000 in
theorem rmem_10_ok (B b : Nat) (i : Ins) (hi : i.Ok) (r : RS) (hs : r.s.Ok) (a v : Int) (a0 : 0 ≤ a) (a1 : a < 4294967296) (v0 : 0 ≤ v) (v1 : v < 4294967296) (x : RRaw) (w : World) (h : RMach B w b r x) (ho : i.op = 10) (hl : lies r.s a 1 = true) :
    Calls Tryz.prog 79 #[.pointer (some ⟨b, 0, none⟩), .agg i.cells, .int .u32 a, .int .u32 v] w (RP B b w (.bool true) (r.setr i.rd (loadV 10 r.s.mem a))) := by
  unfold Ins.cells
  obtain ⟨d0, d1⟩ := hi.rd
  have hlen := hs.len
  have hl2 : a + (1 : Nat) ≤ (r.s.mem.length : Int) := by simpa [lies] using hl
  have hbd := leAt_bd r.s.mem hs.mem 1 a
  have HL := Lib.hid hl
  have HI := Lib.hid hl2
  clear hl hl2
  go_enter Tryz.func79, Tryz.ntmps79
  go_wp2_with fail
  refine (rlies_any b a 1 r x _ ?_ a0 a1 (by omega) (by omega) hlen).mono ?_
  · repeat (first | with_reducible refine RAt.drew ?_ | with_reducible refine RAt.drewN ?_ _ | with_reducible refine RAt.alloc ?_ _)
    exact h.mac
  rintro e w1 ⟨rfl, rfl⟩
  rw [HL.out]
  go_wp2_with fail
  refine (rload_any b r hs x a 1 (by omega) a0 HI.out _ ?_ ?_).mono ?_
  · repeat (first | with_reducible refine RAt.drew ?_ | with_reducible refine RAt.drewN ?_ _ | with_reducible refine RAt.alloc ?_ _)
    exact h.mac
  · exact heap_alloc_old' _ (heap_alloc_old' _ h.mem)
  rintro e w1 ⟨rfl, rfl⟩
  have hV : loadV 10 r.s.mem a = sgn (leAt r.s.mem a 1) 8 % 4294967296 := by
    have b0 := hbd.1
    have b1 : leAt r.s.mem a 1 < 256 := by simpa using hbd.2
    have e : loadV 10 r.s.mem a = if leAt r.s.mem a 1 < 128 then leAt r.s.mem a 1 else leAt r.s.mem a 1 - 256 + 4294967296 := rfl
    rw [e]
    unfold sgn
    simp
    split <;> split <;> omega
  have HV := Lib.hid hV
  have HB := Lib.hid hbd
  clear hV hbd
  generalize leAt r.s.mem a 1 = L at *
  go_wp2_with fail
  refine (rsigned2_any L 8 (by decide) HB.out.1 (by simpa using HB.out.2) _).mono ?_
  rintro e w1 ⟨rfl, rfl⟩
  go_wp2_with fail
  refine (rset_any b i.rd (sgn L 8 % 4294967296) d0 d1 r x _ ?_).mono ?_
  · repeat (first | with_reducible refine RAt.drew ?_ | with_reducible refine RAt.drewN ?_ _ | with_reducible refine RAt.alloc ?_ _)
    exact h.mac
  rintro e w1 ⟨rfl, h1, ho1⟩
  go_wp2_with fail
  go_ret
  rw [HV.out]
  exact RSt.rp (h.no (((Only.refl _ w).alloc _).alloc _)) (((Only.refl _ w).alloc _).alloc _) h1 ho1 rfl rfl rfl rfl rfl
set_option maxRecDepth 100000 in
set_option maxHeartbeats 400000 in
theorem rmem_11_align (B b : Nat) (i : Ins) (hi : i.Ok) (r : RS) (hs : r.s.Ok) (a v : Int) (a0 : 0 ≤ a) (a1 : a < 4294967296) (v0 : 0 ≤ v) (v1 : v < 4294967296) (x : RRaw) (w : World) (h : RMach B w b r x) (ho : i.op = 11) (ha : (a % 2 != 0) = true) :
    Calls Tryz.prog 79 #[.pointer (some ⟨b, 0, none⟩), .agg i.cells, .int .u32 a, .int .u32 v] w (RP B b w (.bool false) (r.end_ 5)) := by
  unfold Ins.cells
  obtain ⟨d0, d1⟩ := hi.rd
  have hlen := hs.len
  skip
  go_enter Tryz.func79, Tryz.ntmps79
  go_wp2_with fail
  refine (rlies_any b a 2 r x _ ?_ a0 a1 (by omega) (by omega) hlen).mono ?_
  · repeat (first | with_reducible refine RAt.drew ?_ | with_reducible refine RAt.drewN ?_ _ | with_reducible refine RAt.alloc ?_ _)
    exact h.mac
  rintro e w1 ⟨rfl, rfl⟩
  go_wp2_with fail
  refine (rstop_any b 5 r x _ ?_).mono ?_
  · repeat (first | with_reducible refine RAt.drew ?_ | with_reducible refine RAt.drewN ?_ _ | with_reducible refine RAt.alloc ?_ _)
    exact h.mac
  rintro e w1 ⟨rfl, h1, ho1⟩
  go_wp2_with fail
  go_ret
  exact RSt.rp (h.no (((Only.refl _ w).alloc _).alloc _)) (((Only.refl _ w).alloc _).alloc _) h1 ho1 rfl rfl rfl rfl rfl
set_option maxRecDepth 100000 in
set_option maxHeartbeats 400000 in
theorem rmem_11_fault (B b : Nat) (i : Ins) (hi : i.Ok) (r : RS) (hs : r.s.Ok) (a v : Int) (a0 : 0 ≤ a) (a1 : a < 4294967296) (v0 : 0 ≤ v) (v1 : v < 4294967296) (x : RRaw) (w : World) (h : RMach B w b r x) (ho : i.op = 11) (ha : (a % 2 != 0) = false) (hl : lies r.s a 2 = false) :
    Calls Tryz.prog 79 #[.pointer (some ⟨b, 0, none⟩), .agg i.cells, .int .u32 a, .int .u32 v] w (RP B b w (.bool false) (r.end_ 6)) := by
  unfold Ins.cells
  obtain ⟨d0, d1⟩ := hi.rd
  have hlen := hs.len
  have HL := Lib.hid hl
  clear hl
  go_enter Tryz.func79, Tryz.ntmps79
  go_wp2_with fail
  refine (rlies_any b a 2 r x _ ?_ a0 a1 (by omega) (by omega) hlen).mono ?_
  · repeat (first | with_reducible refine RAt.drew ?_ | with_reducible refine RAt.drewN ?_ _ | with_reducible refine RAt.alloc ?_ _)
    exact h.mac
  rintro e w1 ⟨rfl, rfl⟩
  rw [HL.out]
  go_wp2_with fail
  refine (rstop_any b 6 r x _ ?_).mono ?_
  · repeat (first | with_reducible refine RAt.drew ?_ | with_reducible refine RAt.drewN ?_ _ | with_reducible refine RAt.alloc ?_ _)
    exact h.mac
  rintro e w1 ⟨rfl, h1, ho1⟩
  go_wp2_with fail
  go_ret
  exact RSt.rp (h.no (((Only.refl _ w).alloc _).alloc _)) (((Only.refl _ w).alloc _).alloc _) h1 ho1 rfl rfl rfl rfl rfl
set_option maxRecDepth 100000 in
set_option maxHeartbeats 400000 in
theorem rmem_11_ok (B b : Nat) (i : Ins) (hi : i.Ok) (r : RS) (hs : r.s.Ok) (a v : Int) (a0 : 0 ≤ a) (a1 : a < 4294967296) (v0 : 0 ≤ v) (v1 : v < 4294967296) (x : RRaw) (w : World) (h : RMach B w b r x) (ho : i.op = 11) (ha : (a % 2 != 0) = false) (hl : lies r.s a 2 = true) :
    Calls Tryz.prog 79 #[.pointer (some ⟨b, 0, none⟩), .agg i.cells, .int .u32 a, .int .u32 v] w (RP B b w (.bool true) (r.setr i.rd (loadV 11 r.s.mem a))) := by
  unfold Ins.cells
  obtain ⟨d0, d1⟩ := hi.rd
  have hlen := hs.len
  have hl2 : a + (2 : Nat) ≤ (r.s.mem.length : Int) := by simpa [lies] using hl
  have hbd := leAt_bd r.s.mem hs.mem 2 a
  have HL := Lib.hid hl
  have HI := Lib.hid hl2
  clear hl hl2
  go_enter Tryz.func79, Tryz.ntmps79
  go_wp2_with fail
  refine (rlies_any b a 2 r x _ ?_ a0 a1 (by omega) (by omega) hlen).mono ?_
  · repeat (first | with_reducible refine RAt.drew ?_ | with_reducible refine RAt.drewN ?_ _ | with_reducible refine RAt.alloc ?_ _)
    exact h.mac
  rintro e w1 ⟨rfl, rfl⟩
  rw [HL.out]
  go_wp2_with fail
  refine (rload_any b r hs x a 2 (by omega) a0 HI.out _ ?_ ?_).mono ?_
  · repeat (first | with_reducible refine RAt.drew ?_ | with_reducible refine RAt.drewN ?_ _ | with_reducible refine RAt.alloc ?_ _)
    exact h.mac
  · exact heap_alloc_old' _ (heap_alloc_old' _ h.mem)
  rintro e w1 ⟨rfl, rfl⟩
  have hV : loadV 11 r.s.mem a = sgn (leAt r.s.mem a 2) 16 % 4294967296 := by
    have b0 := hbd.1
    have b1 : leAt r.s.mem a 2 < 65536 := by simpa using hbd.2
    have e : loadV 11 r.s.mem a = if leAt r.s.mem a 2 < 32768 then leAt r.s.mem a 2 else leAt r.s.mem a 2 - 65536 + 4294967296 := rfl
    rw [e]
    unfold sgn
    simp
    split <;> split <;> omega
  have HV := Lib.hid hV
  have HB := Lib.hid hbd
  clear hV hbd
  generalize leAt r.s.mem a 2 = L at *
  go_wp2_with fail
  refine (rsigned2_any L 16 (by decide) HB.out.1 (by simpa using HB.out.2) _).mono ?_
  rintro e w1 ⟨rfl, rfl⟩
  go_wp2_with fail
  refine (rset_any b i.rd (sgn L 16 % 4294967296) d0 d1 r x _ ?_).mono ?_
  · repeat (first | with_reducible refine RAt.drew ?_ | with_reducible refine RAt.drewN ?_ _ | with_reducible refine RAt.alloc ?_ _)
    exact h.mac
  rintro e w1 ⟨rfl, h1, ho1⟩
  go_wp2_with fail
  go_ret
  rw [HV.out]
  exact RSt.rp (h.no (((Only.refl _ w).alloc _).alloc _)) (((Only.refl _ w).alloc _).alloc _) h1 ho1 rfl rfl rfl rfl rfl
set_option maxRecDepth 100000 in
set_option maxHeartbeats 400000 in
theorem rmem_12_align (B b : Nat) (i : Ins) (hi : i.Ok) (r : RS) (hs : r.s.Ok) (a v : Int) (a0 : 0 ≤ a) (a1 : a < 4294967296) (v0 : 0 ≤ v) (v1 : v < 4294967296) (x : RRaw) (w : World) (h : RMach B w b r x) (ho : i.op = 12) (ha : (a % 4 != 0) = true) :
    Calls Tryz.prog 79 #[.pointer (some ⟨b, 0, none⟩), .agg i.cells, .int .u32 a, .int .u32 v] w (RP B b w (.bool false) (r.end_ 5)) := by
  unfold Ins.cells
  obtain ⟨d0, d1⟩ := hi.rd
  have hlen := hs.len
  skip
  go_enter Tryz.func79, Tryz.ntmps79
  go_wp2_with fail
  refine (rlies_any b a 4 r x _ ?_ a0 a1 (by omega) (by omega) hlen).mono ?_
  · repeat (first | with_reducible refine RAt.drew ?_ | with_reducible refine RAt.drewN ?_ _ | with_reducible refine RAt.alloc ?_ _)
    exact h.mac
  rintro e w1 ⟨rfl, rfl⟩
  go_wp2_with fail
  refine (rstop_any b 5 r x _ ?_).mono ?_
  · repeat (first | with_reducible refine RAt.drew ?_ | with_reducible refine RAt.drewN ?_ _ | with_reducible refine RAt.alloc ?_ _)
    exact h.mac
  rintro e w1 ⟨rfl, h1, ho1⟩
  go_wp2_with fail
  go_ret
  exact RSt.rp (h.no (((Only.refl _ w).alloc _).alloc _)) (((Only.refl _ w).alloc _).alloc _) h1 ho1 rfl rfl rfl rfl rfl
set_option maxRecDepth 100000 in
set_option maxHeartbeats 400000 in
theorem rmem_12_fault (B b : Nat) (i : Ins) (hi : i.Ok) (r : RS) (hs : r.s.Ok) (a v : Int) (a0 : 0 ≤ a) (a1 : a < 4294967296) (v0 : 0 ≤ v) (v1 : v < 4294967296) (x : RRaw) (w : World) (h : RMach B w b r x) (ho : i.op = 12) (ha : (a % 4 != 0) = false) (hl : lies r.s a 4 = false) :
    Calls Tryz.prog 79 #[.pointer (some ⟨b, 0, none⟩), .agg i.cells, .int .u32 a, .int .u32 v] w (RP B b w (.bool false) (r.end_ 6)) := by
  unfold Ins.cells
  obtain ⟨d0, d1⟩ := hi.rd
  have hlen := hs.len
  have HL := Lib.hid hl
  clear hl
  go_enter Tryz.func79, Tryz.ntmps79
  go_wp2_with fail
  refine (rlies_any b a 4 r x _ ?_ a0 a1 (by omega) (by omega) hlen).mono ?_
  · repeat (first | with_reducible refine RAt.drew ?_ | with_reducible refine RAt.drewN ?_ _ | with_reducible refine RAt.alloc ?_ _)
    exact h.mac
  rintro e w1 ⟨rfl, rfl⟩
  rw [HL.out]
  go_wp2_with fail
  refine (rstop_any b 6 r x _ ?_).mono ?_
  · repeat (first | with_reducible refine RAt.drew ?_ | with_reducible refine RAt.drewN ?_ _ | with_reducible refine RAt.alloc ?_ _)
    exact h.mac
  rintro e w1 ⟨rfl, h1, ho1⟩
  go_wp2_with fail
  go_ret
  exact RSt.rp (h.no (((Only.refl _ w).alloc _).alloc _)) (((Only.refl _ w).alloc _).alloc _) h1 ho1 rfl rfl rfl rfl rfl
set_option maxRecDepth 100000 in
set_option maxHeartbeats 400000 in
theorem rmem_12_ok (B b : Nat) (i : Ins) (hi : i.Ok) (r : RS) (hs : r.s.Ok) (a v : Int) (a0 : 0 ≤ a) (a1 : a < 4294967296) (v0 : 0 ≤ v) (v1 : v < 4294967296) (x : RRaw) (w : World) (h : RMach B w b r x) (ho : i.op = 12) (ha : (a % 4 != 0) = false) (hl : lies r.s a 4 = true) :
    Calls Tryz.prog 79 #[.pointer (some ⟨b, 0, none⟩), .agg i.cells, .int .u32 a, .int .u32 v] w (RP B b w (.bool true) (r.setr i.rd (loadV 12 r.s.mem a))) := by
  unfold Ins.cells
  obtain ⟨d0, d1⟩ := hi.rd
  have hlen := hs.len
  have hl2 : a + (4 : Nat) ≤ (r.s.mem.length : Int) := by simpa [lies] using hl
  have hbd := leAt_bd r.s.mem hs.mem 4 a
  have HL := Lib.hid hl
  have HI := Lib.hid hl2
  clear hl hl2
  go_enter Tryz.func79, Tryz.ntmps79
  go_wp2_with fail
  refine (rlies_any b a 4 r x _ ?_ a0 a1 (by omega) (by omega) hlen).mono ?_
  · repeat (first | with_reducible refine RAt.drew ?_ | with_reducible refine RAt.drewN ?_ _ | with_reducible refine RAt.alloc ?_ _)
    exact h.mac
  rintro e w1 ⟨rfl, rfl⟩
  rw [HL.out]
  go_wp2_with fail
  refine (rload_any b r hs x a 4 (by omega) a0 HI.out _ ?_ ?_).mono ?_
  · repeat (first | with_reducible refine RAt.drew ?_ | with_reducible refine RAt.drewN ?_ _ | with_reducible refine RAt.alloc ?_ _)
    exact h.mac
  · exact heap_alloc_old' _ (heap_alloc_old' _ h.mem)
  rintro e w1 ⟨rfl, rfl⟩
  have hV : loadV 12 r.s.mem a = leAt r.s.mem a 4 := rfl
  have HV := Lib.hid hV
  clear hV hbd
  generalize leAt r.s.mem a 4 = L at *
  go_wp2_with fail
  refine (rset_any b i.rd L d0 d1 r x _ ?_).mono ?_
  · repeat (first | with_reducible refine RAt.drew ?_ | with_reducible refine RAt.drewN ?_ _ | with_reducible refine RAt.alloc ?_ _)
    exact h.mac
  rintro e w1 ⟨rfl, h1, ho1⟩
  go_wp2_with fail
  go_ret
  rw [HV.out]
  exact RSt.rp (h.no (((Only.refl _ w).alloc _).alloc _)) (((Only.refl _ w).alloc _).alloc _) h1 ho1 rfl rfl rfl rfl rfl
set_option maxRecDepth 100000 in
set_option maxHeartbeats 400000 in
theorem rmem_13_fault (B b : Nat) (i : Ins) (hi : i.Ok) (r : RS) (hs : r.s.Ok) (a v : Int) (a0 : 0 ≤ a) (a1 : a < 4294967296) (v0 : 0 ≤ v) (v1 : v < 4294967296) (x : RRaw) (w : World) (h : RMach B w b r x) (ho : i.op = 13) (hl : lies r.s a 1 = false) :
    Calls Tryz.prog 79 #[.pointer (some ⟨b, 0, none⟩), .agg i.cells, .int .u32 a, .int .u32 v] w (RP B b w (.bool false) (r.end_ 6)) := by
  unfold Ins.cells
  obtain ⟨d0, d1⟩ := hi.rd
  have hlen := hs.len
  have HL := Lib.hid hl
  clear hl
  go_enter Tryz.func79, Tryz.ntmps79
  go_wp2_with fail
  refine (rlies_any b a 1 r x _ ?_ a0 a1 (by omega) (by omega) hlen).mono ?_
  · repeat (first | with_reducible refine RAt.drew ?_ | with_reducible refine RAt.drewN ?_ _ | with_reducible refine RAt.alloc ?_ _)
    exact h.mac
  rintro e w1 ⟨rfl, rfl⟩
  rw [HL.out]
  go_wp2_with fail
  refine (rstop_any b 6 r x _ ?_).mono ?_
  · repeat (first | with_reducible refine RAt.drew ?_ | with_reducible refine RAt.drewN ?_ _ | with_reducible refine RAt.alloc ?_ _)
    exact h.mac
  rintro e w1 ⟨rfl, h1, ho1⟩
  go_wp2_with fail
  go_ret
  exact RSt.rp (h.no (((Only.refl _ w).alloc _).alloc _)) (((Only.refl _ w).alloc _).alloc _) h1 ho1 rfl rfl rfl rfl rfl
set_option maxRecDepth 100000 in
set_option maxHeartbeats 400000 in
theorem rmem_13_ok (B b : Nat) (i : Ins) (hi : i.Ok) (r : RS) (hs : r.s.Ok) (a v : Int) (a0 : 0 ≤ a) (a1 : a < 4294967296) (v0 : 0 ≤ v) (v1 : v < 4294967296) (x : RRaw) (w : World) (h : RMach B w b r x) (ho : i.op = 13) (hl : lies r.s a 1 = true) :
    Calls Tryz.prog 79 #[.pointer (some ⟨b, 0, none⟩), .agg i.cells, .int .u32 a, .int .u32 v] w (RP B b w (.bool true) (r.setr i.rd (loadV 13 r.s.mem a))) := by
  unfold Ins.cells
  obtain ⟨d0, d1⟩ := hi.rd
  have hlen := hs.len
  have hl2 : a + (1 : Nat) ≤ (r.s.mem.length : Int) := by simpa [lies] using hl
  have hbd := leAt_bd r.s.mem hs.mem 1 a
  have HL := Lib.hid hl
  have HI := Lib.hid hl2
  clear hl hl2
  go_enter Tryz.func79, Tryz.ntmps79
  go_wp2_with fail
  refine (rlies_any b a 1 r x _ ?_ a0 a1 (by omega) (by omega) hlen).mono ?_
  · repeat (first | with_reducible refine RAt.drew ?_ | with_reducible refine RAt.drewN ?_ _ | with_reducible refine RAt.alloc ?_ _)
    exact h.mac
  rintro e w1 ⟨rfl, rfl⟩
  rw [HL.out]
  go_wp2_with fail
  refine (rload_any b r hs x a 1 (by omega) a0 HI.out _ ?_ ?_).mono ?_
  · repeat (first | with_reducible refine RAt.drew ?_ | with_reducible refine RAt.drewN ?_ _ | with_reducible refine RAt.alloc ?_ _)
    exact h.mac
  · exact heap_alloc_old' _ (heap_alloc_old' _ h.mem)
  rintro e w1 ⟨rfl, rfl⟩
  have hV : loadV 13 r.s.mem a = leAt r.s.mem a 1 := rfl
  have HV := Lib.hid hV
  clear hV hbd
  generalize leAt r.s.mem a 1 = L at *
  go_wp2_with fail
  refine (rset_any b i.rd L d0 d1 r x _ ?_).mono ?_
  · repeat (first | with_reducible refine RAt.drew ?_ | with_reducible refine RAt.drewN ?_ _ | with_reducible refine RAt.alloc ?_ _)
    exact h.mac
  rintro e w1 ⟨rfl, h1, ho1⟩
  go_wp2_with fail
  go_ret
  rw [HV.out]
  exact RSt.rp (h.no (((Only.refl _ w).alloc _).alloc _)) (((Only.refl _ w).alloc _).alloc _) h1 ho1 rfl rfl rfl rfl rfl
set_option maxRecDepth 100000 in
set_option maxHeartbeats 400000 in
theorem rmem_14_align (B b : Nat) (i : Ins) (hi : i.Ok) (r : RS) (hs : r.s.Ok) (a v : Int) (a0 : 0 ≤ a) (a1 : a < 4294967296) (v0 : 0 ≤ v) (v1 : v < 4294967296) (x : RRaw) (w : World) (h : RMach B w b r x) (ho : i.op = 14) (ha : (a % 2 != 0) = true) :
    Calls Tryz.prog 79 #[.pointer (some ⟨b, 0, none⟩), .agg i.cells, .int .u32 a, .int .u32 v] w (RP B b w (.bool false) (r.end_ 5)) := by
  unfold Ins.cells
  obtain ⟨d0, d1⟩ := hi.rd
  have hlen := hs.len
  skip
  go_enter Tryz.func79, Tryz.ntmps79
  go_wp2_with fail
  refine (rlies_any b a 2 r x _ ?_ a0 a1 (by omega) (by omega) hlen).mono ?_
  · repeat (first | with_reducible refine RAt.drew ?_ | with_reducible refine RAt.drewN ?_ _ | with_reducible refine RAt.alloc ?_ _)
    exact h.mac
  rintro e w1 ⟨rfl, rfl⟩
  go_wp2_with fail
  refine (rstop_any b 5 r x _ ?_).mono ?_
  · repeat (first | with_reducible refine RAt.drew ?_ | with_reducible refine RAt.drewN ?_ _ | with_reducible refine RAt.alloc ?_ _)
    exact h.mac
  rintro e w1 ⟨rfl, h1, ho1⟩
  go_wp2_with fail
  go_ret
  exact RSt.rp (h.no (((Only.refl _ w).alloc _).alloc _)) (((Only.refl _ w).alloc _).alloc _) h1 ho1 rfl rfl rfl rfl rfl
set_option maxRecDepth 100000 in
set_option maxHeartbeats 400000 in
theorem rmem_14_fault (B b : Nat) (i : Ins) (hi : i.Ok) (r : RS) (hs : r.s.Ok) (a v : Int) (a0 : 0 ≤ a) (a1 : a < 4294967296) (v0 : 0 ≤ v) (v1 : v < 4294967296) (x : RRaw) (w : World) (h : RMach B w b r x) (ho : i.op = 14) (ha : (a % 2 != 0) = false) (hl : lies r.s a 2 = false) :
    Calls Tryz.prog 79 #[.pointer (some ⟨b, 0, none⟩), .agg i.cells, .int .u32 a, .int .u32 v] w (RP B b w (.bool false) (r.end_ 6)) := by
  unfold Ins.cells
  obtain ⟨d0, d1⟩ := hi.rd
  have hlen := hs.len
  have HL := Lib.hid hl
  clear hl
  go_enter Tryz.func79, Tryz.ntmps79
  go_wp2_with fail
  refine (rlies_any b a 2 r x _ ?_ a0 a1 (by omega) (by omega) hlen).mono ?_
  · repeat (first | with_reducible refine RAt.drew ?_ | with_reducible refine RAt.drewN ?_ _ | with_reducible refine RAt.alloc ?_ _)
    exact h.mac
  rintro e w1 ⟨rfl, rfl⟩
  rw [HL.out]
  go_wp2_with fail
  refine (rstop_any b 6 r x _ ?_).mono ?_
  · repeat (first | with_reducible refine RAt.drew ?_ | with_reducible refine RAt.drewN ?_ _ | with_reducible refine RAt.alloc ?_ _)
    exact h.mac
  rintro e w1 ⟨rfl, h1, ho1⟩
  go_wp2_with fail
  go_ret
  exact RSt.rp (h.no (((Only.refl _ w).alloc _).alloc _)) (((Only.refl _ w).alloc _).alloc _) h1 ho1 rfl rfl rfl rfl rfl
set_option maxRecDepth 100000 in
set_option maxHeartbeats 400000 in
theorem rmem_14_ok (B b : Nat) (i : Ins) (hi : i.Ok) (r : RS) (hs : r.s.Ok) (a v : Int) (a0 : 0 ≤ a) (a1 : a < 4294967296) (v0 : 0 ≤ v) (v1 : v < 4294967296) (x : RRaw) (w : World) (h : RMach B w b r x) (ho : i.op = 14) (ha : (a % 2 != 0) = false) (hl : lies r.s a 2 = true) :
    Calls Tryz.prog 79 #[.pointer (some ⟨b, 0, none⟩), .agg i.cells, .int .u32 a, .int .u32 v] w (RP B b w (.bool true) (r.setr i.rd (loadV 14 r.s.mem a))) := by
  unfold Ins.cells
  obtain ⟨d0, d1⟩ := hi.rd
  have hlen := hs.len
  have hl2 : a + (2 : Nat) ≤ (r.s.mem.length : Int) := by simpa [lies] using hl
  have hbd := leAt_bd r.s.mem hs.mem 2 a
  have HL := Lib.hid hl
  have HI := Lib.hid hl2
  clear hl hl2
  go_enter Tryz.func79, Tryz.ntmps79
  go_wp2_with fail
  refine (rlies_any b a 2 r x _ ?_ a0 a1 (by omega) (by omega) hlen).mono ?_
  · repeat (first | with_reducible refine RAt.drew ?_ | with_reducible refine RAt.drewN ?_ _ | with_reducible refine RAt.alloc ?_ _)
    exact h.mac
  rintro e w1 ⟨rfl, rfl⟩
  rw [HL.out]
  go_wp2_with fail
  refine (rload_any b r hs x a 2 (by omega) a0 HI.out _ ?_ ?_).mono ?_
  · repeat (first | with_reducible refine RAt.drew ?_ | with_reducible refine RAt.drewN ?_ _ | with_reducible refine RAt.alloc ?_ _)
    exact h.mac
  · exact heap_alloc_old' _ (heap_alloc_old' _ h.mem)
  rintro e w1 ⟨rfl, rfl⟩
  have hV : loadV 14 r.s.mem a = leAt r.s.mem a 2 := rfl
  have HV := Lib.hid hV
  clear hV hbd
  generalize leAt r.s.mem a 2 = L at *
  go_wp2_with fail
  refine (rset_any b i.rd L d0 d1 r x _ ?_).mono ?_
  · repeat (first | with_reducible refine RAt.drew ?_ | with_reducible refine RAt.drewN ?_ _ | with_reducible refine RAt.alloc ?_ _)
    exact h.mac
  rintro e w1 ⟨rfl, h1, ho1⟩
  go_wp2_with fail
  go_ret
  rw [HV.out]
  exact RSt.rp (h.no (((Only.refl _ w).alloc _).alloc _)) (((Only.refl _ w).alloc _).alloc _) h1 ho1 rfl rfl rfl rfl rfl
set_option maxRecDepth 100000 in
set_option maxHeartbeats 400000 in
theorem rmem_15_fault (B b : Nat) (i : Ins) (hi : i.Ok) (r : RS) (hs : r.s.Ok) (a v : Int) (a0 : 0 ≤ a) (a1 : a < 4294967296) (v0 : 0 ≤ v) (v1 : v < 4294967296) (x : RRaw) (w : World) (h : RMach B w b r x) (ho : i.op = 15) (hl : lies r.s a 1 = false) :
    Calls Tryz.prog 79 #[.pointer (some ⟨b, 0, none⟩), .agg i.cells, .int .u32 a, .int .u32 v] w (RP B b w (.bool false) (r.end_ 8)) := by
  unfold Ins.cells
  obtain ⟨d0, d1⟩ := hi.rd
  have hlen := hs.len
  have HL := Lib.hid hl
  clear hl
  go_enter Tryz.func79, Tryz.ntmps79
  go_wp2_with fail
  refine (rlies_any b a 1 r x _ ?_ a0 a1 (by omega) (by omega) hlen).mono ?_
  · repeat (first | with_reducible refine RAt.drew ?_ | with_reducible refine RAt.drewN ?_ _ | with_reducible refine RAt.alloc ?_ _)
    exact h.mac
  rintro e w1 ⟨rfl, rfl⟩
  rw [HL.out]
  go_wp2_with fail
  refine (rstop_any b 8 r x _ ?_).mono ?_
  · repeat (first | with_reducible refine RAt.drew ?_ | with_reducible refine RAt.drewN ?_ _ | with_reducible refine RAt.alloc ?_ _)
    exact h.mac
  rintro e w1 ⟨rfl, h1, ho1⟩
  go_wp2_with fail
  go_ret
  exact RSt.rp (h.no (((Only.refl _ w).alloc _).alloc _)) (((Only.refl _ w).alloc _).alloc _) h1 ho1 rfl rfl rfl rfl rfl
set_option maxRecDepth 100000 in
set_option maxHeartbeats 400000 in
theorem rmem_15_ok (B b : Nat) (i : Ins) (hi : i.Ok) (r : RS) (hs : r.s.Ok) (a v : Int) (a0 : 0 ≤ a) (a1 : a < 4294967296) (v0 : 0 ≤ v) (v1 : v < 4294967296) (x : RRaw) (w : World) (h : RMach B w b r x) (ho : i.op = 15) (hl : lies r.s a 1 = true) (hns : r.slots.length ≤ 64) (hqs : ∀ q ∈ r.slots, SlotOk q) (hcu : SlotOk r.cur) :
    Calls Tryz.prog 79 #[.pointer (some ⟨b, 0, none⟩), .agg i.cells, .int .u32 a, .int .u32 v] w (RP B b w (.bool true) ((r.putM a (storeB 15 v)).wrote (wrOf a 1))) := by
  unfold Ins.cells
  obtain ⟨d0, d1⟩ := hi.rd
  have hlen := hs.len
  have hl2 : a + 1 ≤ (r.s.mem.length : Int) := by simpa [lies] using hl
  obtain ⟨A, rfl⟩ := Int.eq_ofNat_of_zero_le a0
  have hfit : A + (storeB 15 v).length ≤ r.s.mem.length := by rw [(storeB_ok 15 v).2]; simp [wide]; omega
  have hA : A + 1 ≤ r.s.mem.length := by omega
  have hA2 : A + 1 ≤ 512 := by omega
  have k39 := h.mac.mem
  have HL := Lib.hid hl
  have HI := Lib.hid hl2
  have HF := Lib.hid hfit
  have H := Lib.hid h
  clear hl hl2 hfit
  go_enter Tryz.func79, Tryz.ntmps79
  go_wp2_with fail
  refine (rlies_any b A 1 r x _ ?_ a0 a1 (by omega) (by omega) hlen).mono ?_
  · repeat (first | with_reducible refine RAt.drew ?_ | with_reducible refine RAt.drewN ?_ _ | with_reducible refine RAt.alloc ?_ _)
    exact h.mac
  rintro e w1 ⟨rfl, rfl⟩
  clear h a0 a1
  rw [HL.out]
  go_wp2_with fail
  go_loopw [13] (fun k wr => ∃ K : Nat, K ≤ 1 ∧ k = .int .u32 K ∧ Only (· = x.mb) w wr ∧ wr.heap[x.mb]? = some (.cells ((putAt r.s.mem (A : Int) ((storeB 15 v).take K)).map (Value.int .u8)).toArray 5 (0, 0))) (fun k _ => 1 - (intOf k).toNat)
  case atStart =>
    refine ⟨0, Nat.zero_le _, rfl, ((Only.refl _ w).alloc _).alloc _, ?_⟩
    rw [List.take_zero, put_none]
    exact heap_alloc_old' _ (heap_alloc_old' _ H.out.mem)
  case round =>
    obtain ⟨K, hK, rfl, ho, hw⟩ := hrel
    have q39 : wr.cell? ⟨b, 39, none⟩ = some (.slice (some ⟨x.mb, 0, none⟩) r.s.mem.length r.s.mem.length) := ho.cell H.out.ne.1 k39
    by_cases hlt : K < 1
    · obtain ⟨c, hc⟩ := put_cell hw (A + K) (by rw [put_take_len _ _ _ _ HF.out]; omega)
      have hz : wr.frozen? ⟨x.mb, A + K, none⟩ = false := frozen_of_row wr x.mb _ _ _ hw
      have hsb : (storeB 15 v)[K]? = some (v / 2 ^ (8 * K) % 256) := store_byte_1 v K hlt
      have HW := Lib.hid hw
      have HSB := Lib.hid hsb
      clear hw hsb
      go_wp2_with fail
      go_roundw
      case rel =>
        refine ⟨K + 1, by omega, by go_num, ho.set1 _ _, ?_⟩
        rw [heap_setCell_same _ x.mb _ _ _ _ HW.out, ← put_step _ _ _ _ _ HSB.out HF.out]
        simp [List.map_set]
      case measure => simp [intOf]; omega
    · have hK2 : K = 1 := by omega
      subst hK2
      have hw2 : wr.heap[x.mb]? = some (.cells ((putAt r.s.mem (A : Int) (storeB 15 v)).map (Value.int .u8)).toArray 5 (0, 0)) := by
        rw [List.take_of_length_le (by rw [(storeB_ok 15 v).2]; simp [wide])] at hw
        exact hw
      have hM : RMach B wr b (r.putM A (storeB 15 v)) x := H.out.memTo ho hw2 (putAt_len _ _ _ HF.out)
      have HM := Lib.hid hM
      clear hw hw2 hM
      go_wp2_with fail
      refine (rwrote_any B b A 1 (r.putM A (storeB 15 v)) x wr HM.out (by omega) (by omega) (by omega) hns hqs hcu).mono ?_
      rintro e w2 ⟨rfl, hM2, ho2⟩
      go_wp2_with fail
      go_ret
      exact ⟨rfl, ⟨x, hM2⟩, (ho.mono (fun k _ hk => by subst hk; exact H.out.from_.2.1)).then ho2⟩
set_option maxRecDepth 100000 in
set_option maxHeartbeats 400000 in
theorem rmem_16_align (B b : Nat) (i : Ins) (hi : i.Ok) (r : RS) (hs : r.s.Ok) (a v : Int) (a0 : 0 ≤ a) (a1 : a < 4294967296) (v0 : 0 ≤ v) (v1 : v < 4294967296) (x : RRaw) (w : World) (h : RMach B w b r x) (ho : i.op = 16) (ha : (a % 2 != 0) = true) :
    Calls Tryz.prog 79 #[.pointer (some ⟨b, 0, none⟩), .agg i.cells, .int .u32 a, .int .u32 v] w (RP B b w (.bool false) (r.end_ 7)) := by
  unfold Ins.cells
  obtain ⟨d0, d1⟩ := hi.rd
  have hlen := hs.len
  skip
  go_enter Tryz.func79, Tryz.ntmps79
  go_wp2_with fail
  refine (rlies_any b a 2 r x _ ?_ a0 a1 (by omega) (by omega) hlen).mono ?_
  · repeat (first | with_reducible refine RAt.drew ?_ | with_reducible refine RAt.drewN ?_ _ | with_reducible refine RAt.alloc ?_ _)
    exact h.mac
  rintro e w1 ⟨rfl, rfl⟩
  go_wp2_with fail
  refine (rstop_any b 7 r x _ ?_).mono ?_
  · repeat (first | with_reducible refine RAt.drew ?_ | with_reducible refine RAt.drewN ?_ _ | with_reducible refine RAt.alloc ?_ _)
    exact h.mac
  rintro e w1 ⟨rfl, h1, ho1⟩
  go_wp2_with fail
  go_ret
  exact RSt.rp (h.no (((Only.refl _ w).alloc _).alloc _)) (((Only.refl _ w).alloc _).alloc _) h1 ho1 rfl rfl rfl rfl rfl
set_option maxRecDepth 100000 in
set_option maxHeartbeats 400000 in
theorem rmem_16_fault (B b : Nat) (i : Ins) (hi : i.Ok) (r : RS) (hs : r.s.Ok) (a v : Int) (a0 : 0 ≤ a) (a1 : a < 4294967296) (v0 : 0 ≤ v) (v1 : v < 4294967296) (x : RRaw) (w : World) (h : RMach B w b r x) (ho : i.op = 16) (ha : (a % 2 != 0) = false) (hl : lies r.s a 2 = false) :
    Calls Tryz.prog 79 #[.pointer (some ⟨b, 0, none⟩), .agg i.cells, .int .u32 a, .int .u32 v] w (RP B b w (.bool false) (r.end_ 8)) := by
  unfold Ins.cells
  obtain ⟨d0, d1⟩ := hi.rd
  have hlen := hs.len
  have HL := Lib.hid hl
  clear hl
  go_enter Tryz.func79, Tryz.ntmps79
  go_wp2_with fail
  refine (rlies_any b a 2 r x _ ?_ a0 a1 (by omega) (by omega) hlen).mono ?_
  · repeat (first | with_reducible refine RAt.drew ?_ | with_reducible refine RAt.drewN ?_ _ | with_reducible refine RAt.alloc ?_ _)
    exact h.mac
  rintro e w1 ⟨rfl, rfl⟩
  rw [HL.out]
  go_wp2_with fail
  refine (rstop_any b 8 r x _ ?_).mono ?_
  · repeat (first | with_reducible refine RAt.drew ?_ | with_reducible refine RAt.drewN ?_ _ | with_reducible refine RAt.alloc ?_ _)
    exact h.mac
  rintro e w1 ⟨rfl, h1, ho1⟩
  go_wp2_with fail
  go_ret
  exact RSt.rp (h.no (((Only.refl _ w).alloc _).alloc _)) (((Only.refl _ w).alloc _).alloc _) h1 ho1 rfl rfl rfl rfl rfl
set_option maxRecDepth 100000 in
set_option maxHeartbeats 400000 in
theorem rmem_16_ok (B b : Nat) (i : Ins) (hi : i.Ok) (r : RS) (hs : r.s.Ok) (a v : Int) (a0 : 0 ≤ a) (a1 : a < 4294967296) (v0 : 0 ≤ v) (v1 : v < 4294967296) (x : RRaw) (w : World) (h : RMach B w b r x) (ho : i.op = 16) (ha : (a % 2 != 0) = false) (hl : lies r.s a 2 = true) (hns : r.slots.length ≤ 64) (hqs : ∀ q ∈ r.slots, SlotOk q) (hcu : SlotOk r.cur) :
    Calls Tryz.prog 79 #[.pointer (some ⟨b, 0, none⟩), .agg i.cells, .int .u32 a, .int .u32 v] w (RP B b w (.bool true) ((r.putM a (storeB 16 v)).wrote (wrOf a 2))) := by
  unfold Ins.cells
  obtain ⟨d0, d1⟩ := hi.rd
  have hlen := hs.len
  have hl2 : a + 2 ≤ (r.s.mem.length : Int) := by simpa [lies] using hl
  obtain ⟨A, rfl⟩ := Int.eq_ofNat_of_zero_le a0
  have hfit : A + (storeB 16 v).length ≤ r.s.mem.length := by rw [(storeB_ok 16 v).2]; simp [wide]; omega
  have hA : A + 2 ≤ r.s.mem.length := by omega
  have hA2 : A + 2 ≤ 512 := by omega
  have k39 := h.mac.mem
  have HL := Lib.hid hl
  have HI := Lib.hid hl2
  have HF := Lib.hid hfit
  have H := Lib.hid h
  clear hl hl2 hfit
  go_enter Tryz.func79, Tryz.ntmps79
  go_wp2_with fail
  refine (rlies_any b A 2 r x _ ?_ a0 a1 (by omega) (by omega) hlen).mono ?_
  · repeat (first | with_reducible refine RAt.drew ?_ | with_reducible refine RAt.drewN ?_ _ | with_reducible refine RAt.alloc ?_ _)
    exact h.mac
  rintro e w1 ⟨rfl, rfl⟩
  clear h a0 a1
  rw [HL.out]
  go_wp2_with fail
  go_loopw [13] (fun k wr => ∃ K : Nat, K ≤ 2 ∧ k = .int .u32 K ∧ Only (· = x.mb) w wr ∧ wr.heap[x.mb]? = some (.cells ((putAt r.s.mem (A : Int) ((storeB 16 v).take K)).map (Value.int .u8)).toArray 5 (0, 0))) (fun k _ => 2 - (intOf k).toNat)
  case atStart =>
    refine ⟨0, Nat.zero_le _, rfl, ((Only.refl _ w).alloc _).alloc _, ?_⟩
    rw [List.take_zero, put_none]
    exact heap_alloc_old' _ (heap_alloc_old' _ H.out.mem)
  case round =>
    obtain ⟨K, hK, rfl, ho, hw⟩ := hrel
    have q39 : wr.cell? ⟨b, 39, none⟩ = some (.slice (some ⟨x.mb, 0, none⟩) r.s.mem.length r.s.mem.length) := ho.cell H.out.ne.1 k39
    by_cases hlt : K < 2
    · obtain ⟨c, hc⟩ := put_cell hw (A + K) (by rw [put_take_len _ _ _ _ HF.out]; omega)
      have hz : wr.frozen? ⟨x.mb, A + K, none⟩ = false := frozen_of_row wr x.mb _ _ _ hw
      have hsb : (storeB 16 v)[K]? = some (v / 2 ^ (8 * K) % 256) := store_byte_2 v K hlt
      have HW := Lib.hid hw
      have HSB := Lib.hid hsb
      clear hw hsb
      go_wp2_with fail
      go_roundw
      case rel =>
        refine ⟨K + 1, by omega, by go_num, ho.set1 _ _, ?_⟩
        rw [heap_setCell_same _ x.mb _ _ _ _ HW.out, ← put_step _ _ _ _ _ HSB.out HF.out]
        simp [List.map_set]
      case measure => simp [intOf]; omega
    · have hK2 : K = 2 := by omega
      subst hK2
      have hw2 : wr.heap[x.mb]? = some (.cells ((putAt r.s.mem (A : Int) (storeB 16 v)).map (Value.int .u8)).toArray 5 (0, 0)) := by
        rw [List.take_of_length_le (by rw [(storeB_ok 16 v).2]; simp [wide])] at hw
        exact hw
      have hM : RMach B wr b (r.putM A (storeB 16 v)) x := H.out.memTo ho hw2 (putAt_len _ _ _ HF.out)
      have HM := Lib.hid hM
      clear hw hw2 hM
      go_wp2_with fail
      refine (rwrote_any B b A 2 (r.putM A (storeB 16 v)) x wr HM.out (by omega) (by omega) (by omega) hns hqs hcu).mono ?_
      rintro e w2 ⟨rfl, hM2, ho2⟩
      go_wp2_with fail
      go_ret
      exact ⟨rfl, ⟨x, hM2⟩, (ho.mono (fun k _ hk => by subst hk; exact H.out.from_.2.1)).then ho2⟩
set_option maxRecDepth 100000 in
set_option maxHeartbeats 400000 in
theorem rmem_17_align (B b : Nat) (i : Ins) (hi : i.Ok) (r : RS) (hs : r.s.Ok) (a v : Int) (a0 : 0 ≤ a) (a1 : a < 4294967296) (v0 : 0 ≤ v) (v1 : v < 4294967296) (x : RRaw) (w : World) (h : RMach B w b r x) (ho : i.op = 17) (ha : (a % 4 != 0) = true) :
    Calls Tryz.prog 79 #[.pointer (some ⟨b, 0, none⟩), .agg i.cells, .int .u32 a, .int .u32 v] w (RP B b w (.bool false) (r.end_ 7)) := by
  unfold Ins.cells
  obtain ⟨d0, d1⟩ := hi.rd
  have hlen := hs.len
  skip
  go_enter Tryz.func79, Tryz.ntmps79
  go_wp2_with fail
  refine (rlies_any b a 4 r x _ ?_ a0 a1 (by omega) (by omega) hlen).mono ?_
  · repeat (first | with_reducible refine RAt.drew ?_ | with_reducible refine RAt.drewN ?_ _ | with_reducible refine RAt.alloc ?_ _)
    exact h.mac
  rintro e w1 ⟨rfl, rfl⟩
  go_wp2_with fail
  refine (rstop_any b 7 r x _ ?_).mono ?_
  · repeat (first | with_reducible refine RAt.drew ?_ | with_reducible refine RAt.drewN ?_ _ | with_reducible refine RAt.alloc ?_ _)
    exact h.mac
  rintro e w1 ⟨rfl, h1, ho1⟩
  go_wp2_with fail
  go_ret
  exact RSt.rp (h.no (((Only.refl _ w).alloc _).alloc _)) (((Only.refl _ w).alloc _).alloc _) h1 ho1 rfl rfl rfl rfl rfl
set_option maxRecDepth 100000 in
set_option maxHeartbeats 400000 in
theorem rmem_17_fault (B b : Nat) (i : Ins) (hi : i.Ok) (r : RS) (hs : r.s.Ok) (a v : Int) (a0 : 0 ≤ a) (a1 : a < 4294967296) (v0 : 0 ≤ v) (v1 : v < 4294967296) (x : RRaw) (w : World) (h : RMach B w b r x) (ho : i.op = 17) (ha : (a % 4 != 0) = false) (hl : lies r.s a 4 = false) :
    Calls Tryz.prog 79 #[.pointer (some ⟨b, 0, none⟩), .agg i.cells, .int .u32 a, .int .u32 v] w (RP B b w (.bool false) (r.end_ 8)) := by
  unfold Ins.cells
  obtain ⟨d0, d1⟩ := hi.rd
  have hlen := hs.len
  have HL := Lib.hid hl
  clear hl
  go_enter Tryz.func79, Tryz.ntmps79
  go_wp2_with fail
  refine (rlies_any b a 4 r x _ ?_ a0 a1 (by omega) (by omega) hlen).mono ?_
  · repeat (first | with_reducible refine RAt.drew ?_ | with_reducible refine RAt.drewN ?_ _ | with_reducible refine RAt.alloc ?_ _)
    exact h.mac
  rintro e w1 ⟨rfl, rfl⟩
  rw [HL.out]
  go_wp2_with fail
  refine (rstop_any b 8 r x _ ?_).mono ?_
  · repeat (first | with_reducible refine RAt.drew ?_ | with_reducible refine RAt.drewN ?_ _ | with_reducible refine RAt.alloc ?_ _)
    exact h.mac
  rintro e w1 ⟨rfl, h1, ho1⟩
  go_wp2_with fail
  go_ret
  exact RSt.rp (h.no (((Only.refl _ w).alloc _).alloc _)) (((Only.refl _ w).alloc _).alloc _) h1 ho1 rfl rfl rfl rfl rfl
set_option maxRecDepth 100000 in
set_option maxHeartbeats 400000 in
theorem rmem_17_ok (B b : Nat) (i : Ins) (hi : i.Ok) (r : RS) (hs : r.s.Ok) (a v : Int) (a0 : 0 ≤ a) (a1 : a < 4294967296) (v0 : 0 ≤ v) (v1 : v < 4294967296) (x : RRaw) (w : World) (h : RMach B w b r x) (ho : i.op = 17) (ha : (a % 4 != 0) = false) (hl : lies r.s a 4 = true) (hns : r.slots.length ≤ 64) (hqs : ∀ q ∈ r.slots, SlotOk q) (hcu : SlotOk r.cur) :
    Calls Tryz.prog 79 #[.pointer (some ⟨b, 0, none⟩), .agg i.cells, .int .u32 a, .int .u32 v] w (RP B b w (.bool true) ((r.putM a (storeB 17 v)).wrote (wrOf a 4))) := by
  unfold Ins.cells
  obtain ⟨d0, d1⟩ := hi.rd
  have hlen := hs.len
  have hl2 : a + 4 ≤ (r.s.mem.length : Int) := by simpa [lies] using hl
  obtain ⟨A, rfl⟩ := Int.eq_ofNat_of_zero_le a0
  have hfit : A + (storeB 17 v).length ≤ r.s.mem.length := by rw [(storeB_ok 17 v).2]; simp [wide]; omega
  have hA : A + 4 ≤ r.s.mem.length := by omega
  have hA2 : A + 4 ≤ 512 := by omega
  have k39 := h.mac.mem
  have HL := Lib.hid hl
  have HI := Lib.hid hl2
  have HF := Lib.hid hfit
  have H := Lib.hid h
  clear hl hl2 hfit
  go_enter Tryz.func79, Tryz.ntmps79
  go_wp2_with fail
  refine (rlies_any b A 4 r x _ ?_ a0 a1 (by omega) (by omega) hlen).mono ?_
  · repeat (first | with_reducible refine RAt.drew ?_ | with_reducible refine RAt.drewN ?_ _ | with_reducible refine RAt.alloc ?_ _)
    exact h.mac
  rintro e w1 ⟨rfl, rfl⟩
  clear h a0 a1
  rw [HL.out]
  go_wp2_with fail
  go_loopw [13] (fun k wr => ∃ K : Nat, K ≤ 4 ∧ k = .int .u32 K ∧ Only (· = x.mb) w wr ∧ wr.heap[x.mb]? = some (.cells ((putAt r.s.mem (A : Int) ((storeB 17 v).take K)).map (Value.int .u8)).toArray 5 (0, 0))) (fun k _ => 4 - (intOf k).toNat)
  case atStart =>
    refine ⟨0, Nat.zero_le _, rfl, ((Only.refl _ w).alloc _).alloc _, ?_⟩
    rw [List.take_zero, put_none]
    exact heap_alloc_old' _ (heap_alloc_old' _ H.out.mem)
  case round =>
    obtain ⟨K, hK, rfl, ho, hw⟩ := hrel
    have q39 : wr.cell? ⟨b, 39, none⟩ = some (.slice (some ⟨x.mb, 0, none⟩) r.s.mem.length r.s.mem.length) := ho.cell H.out.ne.1 k39
    by_cases hlt : K < 4
    · obtain ⟨c, hc⟩ := put_cell hw (A + K) (by rw [put_take_len _ _ _ _ HF.out]; omega)
      have hz : wr.frozen? ⟨x.mb, A + K, none⟩ = false := frozen_of_row wr x.mb _ _ _ hw
      have hsb : (storeB 17 v)[K]? = some (v / 2 ^ (8 * K) % 256) := store_byte_4 v K hlt
      have HW := Lib.hid hw
      have HSB := Lib.hid hsb
      clear hw hsb
      go_wp2_with fail
      go_roundw
      case rel =>
        refine ⟨K + 1, by omega, by go_num, ho.set1 _ _, ?_⟩
        rw [heap_setCell_same _ x.mb _ _ _ _ HW.out, ← put_step _ _ _ _ _ HSB.out HF.out]
        simp [List.map_set]
      case measure => simp [intOf]; omega
    · have hK2 : K = 4 := by omega
      subst hK2
      have hw2 : wr.heap[x.mb]? = some (.cells ((putAt r.s.mem (A : Int) (storeB 17 v)).map (Value.int .u8)).toArray 5 (0, 0)) := by
        rw [List.take_of_length_le (by rw [(storeB_ok 17 v).2]; simp [wide])] at hw
        exact hw
      have hM : RMach B wr b (r.putM A (storeB 17 v)) x := H.out.memTo ho hw2 (putAt_len _ _ _ HF.out)
      have HM := Lib.hid hM
      clear hw hw2 hM
      go_wp2_with fail
      refine (rwrote_any B b A 4 (r.putM A (storeB 17 v)) x wr HM.out (by omega) (by omega) (by omega) hns hqs hcu).mono ?_
      rintro e w2 ⟨rfl, hM2, ho2⟩
      go_wp2_with fail
      go_ret
      exact ⟨rfl, ⟨x, hM2⟩, (ho.mono (fun k _ hk => by subst hk; exact H.out.from_.2.1)).then ho2⟩
end Go.Proofs.YtanccjaikocefaaGreatDoor
namespace Go.Proofs.YtanccjaikocefaaGreatDoor
open Go.ChangeShapes Go.WideShapes Go.ChangeAt Go.RowKit
set_option linter.unusedVariables false

theorem RMach.told {B b g cap : Nat} {r : RS} {x : RRaw} {w W w1 : World} (e : Ev) (h : RMach B w b r x) (hW : Only (fun _ => False) w W)
    (hown : w1.ownsRow B 86 3 (.slice (some ⟨g, 0, none⟩) (r.s.evs.length + 1) cap) (r.s.evs.length + 1) (evCells r.s.evs ++ [.int .u32 e.call, .int .u32 e.result, .string e.data]))
    (hgrow : W.grownBy w1 x.evs.ownBlock) (hat : x.evs.ownBlock = some g ∨ g = W.heap.size) :
    RMach B (w1.setCell ⟨b, 36, none⟩ (.slice (some ⟨g, 0, none⟩) (r.s.evs.length + 1) cap)) b { r with s := { r.s with evs := r.s.evs ++ [e] } } { x with evs := .slice (some ⟨g, 0, none⟩) (r.s.evs.length + 1) cap } ∧ Only (RUp B) w (w1.setCell ⟨b, 36, none⟩ (.slice (some ⟨g, 0, none⟩) (r.s.evs.length + 1) cap)) ∧ RAt w1 b r x := by
  have ho1 : Only (fun k => x.evs.ownBlock = some k) w w1 := (hW.mono (fun _ _ h => h.elim)).of_grown hgrow (fun k h => h.symm ▸ rfl)
  have hup : ∀ k, x.evs.ownBlock = some k → B ≤ k := fun k hk => (h.evs.lt k hk).1
  have hs : Only (· = b) w1 (w1.setCell ⟨b, 36, none⟩ (.slice (some ⟨g, 0, none⟩) (r.s.evs.length + 1) cap)) := (Only.refl _ _).set1 _ _
  have hbw := h.mac.lt
  have hmw := heap_lt h.mem
  have hsw := h.sbLt
  have hab := h.ab
  have hfr := h.from_
  have hgn : g ≠ b ∧ g ≠ x.mb ∧ g ≠ x.sb ∧ x.blv.ownBlock ≠ some g := by
    rcases hat with hat | hat
    · exact h.nee g hat
    · have := hW.size
      refine ⟨by omega, by omega, by omega, fun e => ?_⟩
      have := (h.blocks.lt g e).2
      omega
  have m1 : RAt w1 b r x := ho1.heap (fun e => (h.nee b e).1 rfl) h.mac
  have hsize : w.heap.size ≤ (w1.setCell ⟨b, 36, none⟩ (.slice (some ⟨g, 0, none⟩) (r.s.evs.length + 1) cap)).heap.size := Nat.le_trans ho1.size hs.size
  refine ⟨⟨m1.putEvs _, ?_, ?_, ?_, ?_, ?_, h.ab, h.from_, Nat.lt_of_lt_of_le h.sbLt hsize, h.ne, ?_, h.neb⟩, ?_⟩
  · exact hs.heap (Ne.symm h.ne.1) (ho1.heap (fun e => (h.nee _ e).2.1 rfl) h.mem)
  · exact (h.slots.only ho1 (fun e => (h.nee _ e).2.2.1 rfl)).only hs (Ne.symm h.ne.2.1)
  · exact (h.ans.only ho1 (fun e => by have := hup _ e; omega)).only hs (by omega)
  · have := ownsRow_only hown hs (fun k hk => by simp [Value.ownBlock] at hk; omega)
    simp only [List.length_append, List.length_singleton]
    rw [evCells_snoc]
    exact this
  · exact ownsRow_only (ownsRow_only h.blocks ho1 (fun k hk e => (h.nee k e).2.2.2 hk)) hs (fun k hk => (h.neb k hk).1)
  · intro k hk
    simp [Value.ownBlock] at hk
    subst hk
    exact hgn
  · exact ⟨(ho1.up hup).then (hs.upb h.from_.1), m1⟩
theorem Only.up0 {B : Nat} {w w1 : World} (h : Only (fun _ => False) w w1) : Only (RUp B) w w1 := h.mono (fun _ _ h => h.elim)
end Go.Proofs.YtanccjaikocefaaGreatDoor
