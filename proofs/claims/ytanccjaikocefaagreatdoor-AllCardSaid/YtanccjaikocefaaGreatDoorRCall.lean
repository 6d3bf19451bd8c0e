/-
  The contract of the document's 'call', a case at a time: as the plain machine has it. Conditions: the machine lies in memory; the events are fewer than a million; its numbers are in their ranges.
-/
import Derived.Test.YtanccjaikocefaaGreatDoorRTell
import Derived.Test.YtanccjaikocefaaGreatDoorCall2
import Derived.Test.YtanccjaikocefaaGreatDoorNew
import Derived.Deep.RegionHeld3
namespace Go.Proofs.YtanccjaikocefaaGreatDoor
open Go.ChangeShapes Go.WideShapes Go.ChangeAt Go.RowKit
set_option linter.unusedVariables false

/-- What an instruction does before the pc goes on. -/
def RS.part (r : RS) (o : Out) : RS :=
  match o with
  | .trap s' o => RS.end_ { r with s := s' } o
  | .go s' _ wr => RS.wrote { r with s := s' } wr
theorem RM.set10 {B b : Nat} {r r' : RS} {x : RRaw} {w w1 : World} (v : Int) (h : RMach B w1 b r x) (ho : Only (RUp B) w w1) (e : r' = r.setr 10 v) : RP B b w (.tuple #[]) r' (.returned (.tuple #[])) (w1.setCell ⟨b, 12, none⟩ (.int .u32 v)) := by
  subst e
  have hs : Only (· = b) w1 (w1.setCell ⟨b, 12, none⟩ (.int .u32 v)) := (Only.refl _ w1).set1 _ _
  refine ⟨rfl, ⟨x, h.struct hs ((h.mac.putReg 10 v (by omega)).sub ?_) rfl h.ans rfl rfl rfl rfl⟩, ho.then (hs.upb h.from_.1)⟩
  have := setR_pos r.s.regs 10 v (by decide)
  unfold RS.setr St.set rCells rTail
  simp only [← this]
  rfl
def RS.evs3 (r : RS) : List Ev := r.s.evs
theorem RP.no {B b : Nat} {w w1 w2 : World} {v : Value} {r : RS} {e : Ending} (h : RP B b w v r e w1) (ho : Only (fun _ => False) w1 w2) : RP B b w v r e w2 := by
  obtain ⟨a, ⟨x, hx⟩, c⟩ := h
  exact ⟨a, ⟨x, hx.no ho⟩, c.then ho.up0⟩
theorem copy_mem (W : World) (ty : TypeId) (mb base dLen dCap : Nat) (l : List Int) (d : Option Addr) (t : ByteArray) (h : W.heap[mb]? = some (.cells (l.map (Value.int .u8)).toArray 5 (0, 0))) (hd : d = some ⟨mb, base, none⟩ ∨ t.size = 0) (hfit : base + t.size ≤ l.length) (hle : t.size ≤ dLen) :
    ∃ w2, (Builtin.copy_ #[67, 9] ty #[.slice d dLen dCap, .string t]).run Tryz.prog W = .ok (goInt t.size) w2 ∧ Only (· = mb) W w2 ∧ w2.heap[mb]? = some (.cells ((putAt l base (bytesOf t)).map (Value.int .u8)).toArray 5 (0, 0)) := by
  have hs1 : (Tryz.prog.info? 5).map (·.size) = some 1 := by kernel_rfl
  by_cases h0 : t.size = 0
  · refine ⟨W, ?_, Only.refl _ _, ?_⟩
    · rw [Lib.run_copy_empty_string W 67 9 ty 5 d dLen dCap t Tryz.underlying67 (by rw [hs1]; rfl) h0, h0]
      rfl
    · have hb : bytesOf t = [] := by
        apply List.eq_nil_of_length_eq_zero
        simpa [bytesOf] using h0
      rw [hb, h, put_none]
  · rcases hd with rfl | hd
    · have hr := Lib.run_copy_row_string (P := Tryz.prog) W 67 9 ty 5 mb base dLen dCap t _ _ Tryz.underlying67 hs1 h hle (by simpa using hfit)
      refine ⟨_, hr, ⟨rfl, rfl, rfl, by simp [World.setRow], fun k hk hne => setRow_other W mb k _ hne⟩, ?_⟩
      rw [setRow_heap W mb _ _ _ _ h, putAt_map, byteCells_of]
      have : (bytesOf t).length = t.size := by simp [bytesOf]
      simp [this]
    · exact absurd hd h0
/-- The rest of the answers. -/
theorem texts_tail {w : World} {ab off cc : Nat} {t : ByteArray} {rest : List ByteArray} (h : TextsAt w ab (.slice (some ⟨ab, off, none⟩) (rest.length + 1) cc) (t :: rest)) :
    TextsAt w ab (.slice (if cc = 1 then some ⟨ab, off, none⟩ else some ⟨ab, off + 1, none⟩) rest.length (cc - 1)) rest := by
  obtain ⟨a, c, e, hc, hcm, hcl⟩ := h
  simp only [List.length_cons, Value.slice.injEq] at e hc
  obtain ⟨rfl, _, rfl⟩ := e
  refine ⟨_, cc - 1, rfl, by omega, by omega, fun hne => ?_⟩
  have hr : 0 < rest.length := List.length_pos_iff.mpr hne
  obtain ⟨o2, e2, hcells⟩ := hcl (by simp)
  simp only [Option.some.injEq, Addr.mk.injEq, true_and, and_true] at e2
  subst e2
  refine ⟨off + 1, by rw [if_neg (by omega)], fun j u hj => ?_⟩
  rw [show off + 1 + j = off + (j + 1) by omega]
  exact hcells (j + 1) u (by simpa using hj)
theorem wpList_copy_ex {P : Program} {ops : Array Oper} {rest : List Oper} {o : Oper} {a : Act} {w : World} {Q : Exit → Act → World → Prop} (hgd : o.guard = none) (d x : Operand) (t t' : TypeId)
    (ho : o.op = .call { callee := .builtin .copy, args := #[d, x], argTypes := #[t, t'] }) (v u : Value) (hd : a.eval d = v) (hs : a.eval x = u) {y : Value} {R : World → Prop}
    (hr : ∃ w', (Builtin.copy_ #[t, t'] o.type #[v, u]).run P w = .ok y w' ∧ R w') (h : ∀ w', R w' → wpList P ops Q rest (a.put o.dst y) w') :
    wpList P ops Q (o :: rest) a w := by
  obtain ⟨w', hr, hR⟩ := hr
  exact Lib.wpList_copy_run _ hgd d x t t' ho v u hd hs hr (h w' hR)
set_option maxRecDepth 100000 in
set_option maxHeartbeats 400000 in
theorem rcall_nosys (B b : Nat) (r : RS) (hs : r.s.Ok) (next : Int) (hev : r.s.evs.length ≤ 1000000) (st0 : 0 ≤ r.s.steps) (st1 : r.s.steps ≤ 10000) (hns : r.slots.length ≤ 64) (hqs : ∀ q ∈ r.slots, SlotOk q) (hcu : SlotOk r.cur) (x : RRaw) (w : World) (h : RMach B w b r x) (hc : (r.s.regs 17 == 93) = false) (hc2 : (r.s.regs 17 == 64) = false) (hc3 : (r.s.regs 17 == 63) = false) (hc4 : (r.s.regs 17 == 214) = false) :
    Calls Tryz.prog 78 #[.pointer (some ⟨b, 0, none⟩)] w (RP B b w (.tuple #[]) (r.part (doCall r.s next))) := by
  have hd : r.part (doCall r.s next) = r.setr 10 4294967258 := by simp [RS.part, doCall, hc, hc2, hc3, hc4, RS.setr, RS.wrote]
  obtain ⟨v0, v1⟩ := hs.regs 10
  obtain ⟨at0, at1⟩ := hs.regs 11
  obtain ⟨n0, n1⟩ := hs.regs 12
  have h10 := h.mac.reg 10 (by omega)
  have h11 := h.mac.reg 11 (by omega)
  have h12 := h.mac.reg 12 (by omega)
  have h17 := h.mac.reg 17 (by omega)
  have f10 := h.mac.free 12
  have hsz := h.mac.lt
  have hlen := hs.len
  have H := Lib.hid h
  have HD := Lib.hid hd
  clear h hd
  go_enter Tryz.func78, Tryz.ntmps78
  go_wp2_with fail
  refine (rlies_any b _ _ r x _ ?_ (by omega) (by omega) (by omega) (by omega) hlen).mono ?_
  · repeat (first | with_reducible refine RAt.drew ?_ | with_reducible refine RAt.drewN ?_ _ | with_reducible refine RAt.alloc ?_ _)
    exact H.out.mac
  rintro e w1 ⟨rfl, rfl⟩
  go_wp2_with fail
  first | go_end0 | refine bodyPost_ret (results_none rfl _ _ _) rfl ?_
  exact RM.set10 _ H.out (Only.refl _ _) HD.out
set_option maxRecDepth 100000 in
set_option maxHeartbeats 400000 in
theorem rcall_w_fault (B b : Nat) (r : RS) (hs : r.s.Ok) (next : Int) (hev : r.s.evs.length ≤ 1000000) (st0 : 0 ≤ r.s.steps) (st1 : r.s.steps ≤ 10000) (hns : r.slots.length ≤ 64) (hqs : ∀ q ∈ r.slots, SlotOk q) (hcu : SlotOk r.cur) (x : RRaw) (w : World) (h : RMach B w b r x) (hc : r.s.regs 17 = 64) (hl : lies r.s (r.s.regs 11) (r.s.regs 12) = false) :
    Calls Tryz.prog 78 #[.pointer (some ⟨b, 0, none⟩)] w (RP B b w (.tuple #[]) (r.part (doCall r.s next))) := by
  have hd : r.part (doCall r.s next) = r.setr 10 4294967282 := by simp [RS.part, doCall, hc, hl, RS.setr, RS.wrote]
  obtain ⟨v0, v1⟩ := hs.regs 10
  obtain ⟨at0, at1⟩ := hs.regs 11
  obtain ⟨n0, n1⟩ := hs.regs 12
  have h10 := h.mac.reg 10 (by omega)
  have h11 := h.mac.reg 11 (by omega)
  have h12 := h.mac.reg 12 (by omega)
  have h17 := h.mac.reg 17 (by omega)
  have f10 := h.mac.free 12
  have hsz := h.mac.lt
  have hlen := hs.len
  have H := Lib.hid h
  have HD := Lib.hid hd
  clear h hd
  rw [hc] at h17
  have HL := Lib.hid hl
  clear hc hl
  go_enter Tryz.func78, Tryz.ntmps78
  go_wp2_with fail
  refine (rlies_any b _ _ r x _ ?_ (by omega) (by omega) (by omega) (by omega) hlen).mono ?_
  · repeat (first | with_reducible refine RAt.drew ?_ | with_reducible refine RAt.drewN ?_ _ | with_reducible refine RAt.alloc ?_ _)
    exact H.out.mac
  rintro e w1 ⟨rfl, rfl⟩
  rw [HL.out]
  go_wp2_with fail
  first | go_end0 | refine bodyPost_ret (results_none rfl _ _ _) rfl ?_
  exact RM.set10 _ H.out (Only.refl _ _) HD.out
set_option maxRecDepth 100000 in
set_option maxHeartbeats 400000 in
theorem rcall_r_fault (B b : Nat) (r : RS) (hs : r.s.Ok) (next : Int) (hev : r.s.evs.length ≤ 1000000) (st0 : 0 ≤ r.s.steps) (st1 : r.s.steps ≤ 10000) (hns : r.slots.length ≤ 64) (hqs : ∀ q ∈ r.slots, SlotOk q) (hcu : SlotOk r.cur) (x : RRaw) (w : World) (h : RMach B w b r x) (hc : r.s.regs 17 = 63) (hl : lies r.s (r.s.regs 11) (r.s.regs 12) = false) :
    Calls Tryz.prog 78 #[.pointer (some ⟨b, 0, none⟩)] w (RP B b w (.tuple #[]) (r.part (doCall r.s next))) := by
  have hd : r.part (doCall r.s next) = r.setr 10 4294967282 := by simp [RS.part, doCall, hc, hl, RS.setr, RS.wrote]
  obtain ⟨v0, v1⟩ := hs.regs 10
  obtain ⟨at0, at1⟩ := hs.regs 11
  obtain ⟨n0, n1⟩ := hs.regs 12
  have h10 := h.mac.reg 10 (by omega)
  have h11 := h.mac.reg 11 (by omega)
  have h12 := h.mac.reg 12 (by omega)
  have h17 := h.mac.reg 17 (by omega)
  have f10 := h.mac.free 12
  have hsz := h.mac.lt
  have hlen := hs.len
  have H := Lib.hid h
  have HD := Lib.hid hd
  clear h hd
  rw [hc] at h17
  have HL := Lib.hid hl
  clear hc hl
  go_enter Tryz.func78, Tryz.ntmps78
  go_wp2_with fail
  refine (rlies_any b _ _ r x _ ?_ (by omega) (by omega) (by omega) (by omega) hlen).mono ?_
  · repeat (first | with_reducible refine RAt.drew ?_ | with_reducible refine RAt.drewN ?_ _ | with_reducible refine RAt.alloc ?_ _)
    exact H.out.mac
  rintro e w1 ⟨rfl, rfl⟩
  rw [HL.out]
  go_wp2_with fail
  first | go_end0 | refine bodyPost_ret (results_none rfl _ _ _) rfl ?_
  exact RM.set10 _ H.out (Only.refl _ _) HD.out
set_option maxRecDepth 100000 in
set_option maxHeartbeats 400000 in
theorem rcall_exit (B b : Nat) (r : RS) (hs : r.s.Ok) (next : Int) (hev : r.s.evs.length ≤ 1000000) (st0 : 0 ≤ r.s.steps) (st1 : r.s.steps ≤ 10000) (hns : r.slots.length ≤ 64) (hqs : ∀ q ∈ r.slots, SlotOk q) (hcu : SlotOk r.cur) (x : RRaw) (w : World) (h : RMach B w b r x) (hc : r.s.regs 17 = 93) :
    Calls Tryz.prog 78 #[.pointer (some ⟨b, 0, none⟩)] w (RP B b w (.tuple #[]) (r.part (doCall r.s next))) := by
  have hd : r.part (doCall r.s next) = RS.end_ { r with s := { r.s with evs := r.s.evs ++ [Ev.mk 93 (r.s.regs 10) ByteArray.empty], steps := r.s.steps + 1 } } 1 := by simp [RS.part, doCall, hc]
  obtain ⟨i0, hi, hz0, hz1, hz2⟩ := info_parts evInfo
  have hown := h.evs
  have h36 := h.mac.evs
  have f36 := h.mac.free 36
  have HOWN := Lib.hid hown
  clear hown
  obtain ⟨v0, v1⟩ := hs.regs 10
  obtain ⟨at0, at1⟩ := hs.regs 11
  obtain ⟨n0, n1⟩ := hs.regs 12
  have h10 := h.mac.reg 10 (by omega)
  have h11 := h.mac.reg 11 (by omega)
  have h12 := h.mac.reg 12 (by omega)
  have h17 := h.mac.reg 17 (by omega)
  have f10 := h.mac.free 12
  have hsz := h.mac.lt
  have hlen := hs.len
  have H := Lib.hid h
  have HD := Lib.hid hd
  clear h hd
  rw [hc] at h17
  clear hc
  have k37 := H.out.mac.steps
  have f37 := H.out.mac.free 37
  go_enter Tryz.func78, Tryz.ntmps78
  go_wp2_with fail
  refine (rlies_any b _ _ r x _ ?_ (by omega) (by omega) (by omega) (by omega) hlen).mono ?_
  · repeat (first | with_reducible refine RAt.drew ?_ | with_reducible refine RAt.drewN ?_ _ | with_reducible refine RAt.alloc ?_ _)
    exact H.out.mac
  rintro e w1 ⟨rfl, rfl⟩
  go_wp2_with (at_builtin; refine wpList_append_lies _ (by rfl) (.tmp 47) (.tmp 50) 39 (by rfl) B 86 i0 _ 3 24 Tryz.underlying39 hi hz0 hz1 hz2 (by rfl) (by omega) x.evs r.s.evs.length (evCells r.s.evs) (by rfl) (HOWN.out.alloc _) ⟨w.heap.size, 0, none⟩ 1 1 [.int .u32 93, .int .u32 (r.s.regs 10), .string ⟨#[]⟩] (by rfl) (by rfl) (World.news_of_block (heap_alloc_new w _)) (by simp [Value.oneCell']) (by omega) (by unfold maxLen; omega) (by omega) (by have := H.out.from_.1; simp; omega) (w.heap.size + 1) (by simp) ?_)
  intro g cap w1 hown1 hgrow hat hlt
  obtain ⟨hM1, hO1, hm1⟩ := H.out.told (Ev.mk 93 (r.s.regs 10) ⟨#[]⟩) ((Only.refl _ w).alloc _) hown1 hgrow (by simpa using hat)
  have q36 := hm1.evs
  have q37 := hm1.steps
  have g36 := hm1.free 36
  have g37 := hm1.free 37
  have hs1 := hm1.lt
  have HM1 := Lib.hid hM1
  have HO1 := Lib.hid hO1
  clear h10 h11 h12 h17 f10 h36 f36 k37 f37 hown1 hgrow hat hlt hm1 hM1 hO1
  go_wp2_with fail
  have hp := HM1.out.mac.putSteps (r.s.steps + 1)
  refine (rstop_any b 1 _ _ _ hp).mono ?_
  rintro e w2 ⟨rfl, h2, ho2⟩
  go_wp2_with fail
  first | go_end0 | refine bodyPost_ret (results_none rfl _ _ _) rfl ?_
  rw [HD.out]
  have hs2 : Only (· = b) _ w2 := ((Only.refl _ (w1.setCell ⟨b, 36, none⟩ (.slice (some ⟨g, 0, none⟩) (r.s.evs.length + 1) cap))).set1 37 (.int .i64 (r.s.steps + 1))).then ho2
  exact ⟨rfl, ⟨_, HM1.out.struct hs2 h2 rfl HM1.out.ans rfl rfl rfl rfl⟩, HO1.out.then (hs2.upb H.out.from_.1)⟩
set_option maxRecDepth 100000 in
set_option maxHeartbeats 400000 in
theorem rcall_write_y (B b : Nat) (r : RS) (hs : r.s.Ok) (next : Int) (hev : r.s.evs.length ≤ 1000000) (st0 : 0 ≤ r.s.steps) (st1 : r.s.steps ≤ 10000) (hns : r.slots.length ≤ 64) (hqs : ∀ q ∈ r.slots, SlotOk q) (hcu : SlotOk r.cur) (x : RRaw) (w : World) (h : RMach B w b r x) (hc : r.s.regs 17 = 64) (hl : lies r.s (r.s.regs 11) (r.s.regs 12) = true) (hlt : r.s.regs 11 < (r.s.mem.length : Int)) :
    Calls Tryz.prog 78 #[.pointer (some ⟨b, 0, none⟩)] w (RP B b w (.tuple #[]) (r.part (doCall r.s next))) := by
  have hd : r.part (doCall r.s next) = RS.setr { r with s := { r.s with evs := r.s.evs ++ [Ev.mk 64 (r.s.regs 12) (strOfNums ((r.s.mem.drop (r.s.regs 11).toNat).take (r.s.regs 12).toNat))] } } 10 (r.s.regs 12) := by simp [RS.part, doCall, hc, hl, RS.setr, RS.wrote]
  obtain ⟨i0, hi, hz0, hz1, hz2⟩ := info_parts evInfo
  have hown := h.evs
  have h36 := h.mac.evs
  have f36 := h.mac.free 36
  have HOWN := Lib.hid hown
  clear hown
  obtain ⟨v0, v1⟩ := hs.regs 10
  obtain ⟨at0, at1⟩ := hs.regs 11
  obtain ⟨n0, n1⟩ := hs.regs 12
  have h10 := h.mac.reg 10 (by omega)
  have h11 := h.mac.reg 11 (by omega)
  have h12 := h.mac.reg 12 (by omega)
  have h17 := h.mac.reg 17 (by omega)
  have f10 := h.mac.free 12
  have hsz := h.mac.lt
  have hlen := hs.len
  rw [hc] at h17
  obtain ⟨A, hAd⟩ : ∃ A : Nat, r.s.regs 11 = A := ⟨(r.s.regs 11).toNat, by omega⟩
  obtain ⟨N, hNd⟩ : ∃ N : Nat, r.s.regs 12 = N := ⟨(r.s.regs 12).toNat, by omega⟩
  rw [hAd, hNd] at hl hd
  rw [hAd] at h11 at0 at1 hlt
  rw [hNd] at h12 n0 n1
  have hfit : A + N ≤ r.s.mem.length := by unfold lies at hl; simp at hl; omega
  have HAd := Lib.hid hAd
  have HNd := Lib.hid hNd
  clear hAd hNd at1 n1
  have HL := Lib.hid hl
  clear hc hl
  rw [Int.toNat_natCast, Int.toNat_natCast] at hd
  have hcv : ∀ l c : Nat, l = N → (convert 67 9 (.slice (some ⟨x.mb, A, none⟩) l c)).run Tryz.prog w.drew = .ok (.string (strOfNums ((r.s.mem.drop A).take N))) w.drew := by
    intro l c hl
    subst hl
    exact run_convert_bytes_arg (P := Tryz.prog) _ 67 5 Tryz.underlying67 Tryz.underlying5 x.mb A l c ((r.s.mem.drop A).take l) (by simp; omega) (fun j hj => by rw [take_getD _ _ _ _ hj]; exact mem_cell (w := w) h.mem (A + j) (by omega)) 9 Tryz.underlying9
  have k39 := h.mac.mem
  have H := Lib.hid h
  have HD := Lib.hid hd
  clear h hd
  have w1 : IntKind.u32.wrap ((A : Int) + (N : Int)) = (A : Int) + (N : Int) := by rw [u32w]; unfold u32; omega
  have w2 : (A : Int) + (N : Int) ≤ (r.s.mem.length : Int) := by omega
  have w3 : (A : Int) ≤ (A : Int) + (N : Int) := by omega
  have w4 : ¬ r.s.mem.length = A := by omega
  have w5 : ((A : Int) + (N : Int)).toNat = A + N := by omega
  go_enter Tryz.func78, Tryz.ntmps78
  go_wp2_with fail
  refine (rlies_any b A N r x _ ?_ (by omega) (by omega) (by omega) (by omega) hlen).mono ?_
  · repeat (first | with_reducible refine RAt.drew ?_ | with_reducible refine RAt.drewN ?_ _ | with_reducible refine RAt.alloc ?_ _)
    exact H.out.mac
  rintro e w1 ⟨rfl, rfl⟩
  rw [HL.out]
  go_wp2_with fail
  have hod : ∀ o, (w.drew.alloc o).ownsRow B 86 3 x.evs r.s.evs.length (evCells r.s.evs) := fun o => World.ownsRow.alloc (w := w.drew) HOWN.out o
  go_region_law ((refine step_append_lies _ (by rfl) (.tmp 80) (.tmp 93) 39 (by rfl) B 86 i0 _ 3 24 Tryz.underlying39 hi hz0 hz1 hz2 (by rfl) (by omega) x.evs r.s.evs.length (evCells r.s.evs) (by rfl) (hod _) ⟨w.heap.size, 0, none⟩ 1 1 [.int .u32 64, .int .u32 N, .string (strOfNums ((r.s.mem.drop A).take N))] (by rfl) (by rfl) (World.news_of_block (heap_alloc_new w.drew _)) (by simp [Value.oneCell']) (by omega) (by unfold maxLen; omega) (by omega) (by have := H.out.from_.1; simp; omega) (w.heap.size + 1) (by simp) ?_); intro g cap w1 hown1 hgrow hat hlt; obtain ⟨hM1, hO1, hm1⟩ := H.out.told (Ev.mk 64 N (strOfNums ((r.s.mem.drop A).take N))) ((Only.refl _ w).drew.alloc _) hown1 hgrow (by simpa using hat); have q36 := hm1.evs; have g36 := hm1.free 36; have q12 := hm1.reg 10 (by omega); have g12 := hm1.free 12; have hs1 := hm1.lt; have HM1 := Lib.hid hM1; have HO1 := Lib.hid hO1; clear hown1 hgrow hat hlt hm1 hM1 hO1)
  all_goals
    clear h10 h11 h12 h17 f10 h36 f36 k39 hcv hod
    go_wp2_with fail
    first | go_end0 | refine bodyPost_ret (results_none rfl _ _ _) rfl ?_
    exact RM.set10 _ HM1.out HO1.out HD.out
set_option maxRecDepth 100000 in
set_option maxHeartbeats 400000 in
theorem rcall_write_e (B b : Nat) (r : RS) (hs : r.s.Ok) (next : Int) (hev : r.s.evs.length ≤ 1000000) (st0 : 0 ≤ r.s.steps) (st1 : r.s.steps ≤ 10000) (hns : r.slots.length ≤ 64) (hqs : ∀ q ∈ r.slots, SlotOk q) (hcu : SlotOk r.cur) (x : RRaw) (w : World) (h : RMach B w b r x) (hc : r.s.regs 17 = 64) (hA : r.s.regs 11 = (r.s.mem.length : Int)) (hN : r.s.regs 12 = 0) :
    Calls Tryz.prog 78 #[.pointer (some ⟨b, 0, none⟩)] w (RP B b w (.tuple #[]) (r.part (doCall r.s next))) := by
  have hd : r.part (doCall r.s next) = RS.setr { r with s := { r.s with evs := r.s.evs ++ [Ev.mk 64 0 (strOfNums [])] } } 10 0 := by simp [RS.part, doCall, hc, hA, hN, lies, RS.setr, RS.wrote]
  obtain ⟨i0, hi, hz0, hz1, hz2⟩ := info_parts evInfo
  have hown := h.evs
  have h36 := h.mac.evs
  have f36 := h.mac.free 36
  have HOWN := Lib.hid hown
  clear hown
  obtain ⟨v0, v1⟩ := hs.regs 10
  obtain ⟨at0, at1⟩ := hs.regs 11
  obtain ⟨n0, n1⟩ := hs.regs 12
  have h10 := h.mac.reg 10 (by omega)
  have h11 := h.mac.reg 11 (by omega)
  have h12 := h.mac.reg 12 (by omega)
  have h17 := h.mac.reg 17 (by omega)
  have f10 := h.mac.free 12
  have hsz := h.mac.lt
  have hlen := hs.len
  rw [hc] at h17
  rw [hA] at h11 at0 at1
  rw [hN] at h12
  have hl : lies r.s (r.s.mem.length : Int) 0 = true := by simp [lies]
  have HL := Lib.hid hl
  clear hc hA hN hl n0 n1 at1
  have hcv : ∀ (g o l c : Nat), l = 0 → (convert 67 9 (.slice (some ⟨g, o, none⟩) l c)).run Tryz.prog w.drew = .ok (.string (strOfNums [])) w.drew := by
    intro g o l c hl
    subst hl
    exact run_convert_bytes_arg (P := Tryz.prog) _ 67 5 Tryz.underlying67 Tryz.underlying5 g o 0 c [] rfl (fun j hj => absurd hj (Nat.not_lt_zero _)) 9 Tryz.underlying9
  have k39 := h.mac.mem
  have H := Lib.hid h
  have HD := Lib.hid hd
  clear h hd
  have w1 : IntKind.u32.wrap (r.s.mem.length : Int) = (r.s.mem.length : Int) := by rw [u32w]; unfold u32; omega
  go_enter Tryz.func78, Tryz.ntmps78
  go_wp2_with fail
  refine (rlies_any b (r.s.mem.length : Int) 0 r x _ ?_ (by omega) (by omega) (by omega) (by omega) hlen).mono ?_
  · repeat (first | with_reducible refine RAt.drew ?_ | with_reducible refine RAt.drewN ?_ _ | with_reducible refine RAt.alloc ?_ _)
    exact H.out.mac
  rintro e w1 ⟨rfl, rfl⟩
  rw [HL.out]
  go_wp2_with fail
  have hod : ∀ o, (w.drew.alloc o).ownsRow B 86 3 x.evs r.s.evs.length (evCells r.s.evs) := fun o => World.ownsRow.alloc (w := w.drew) HOWN.out o
  go_region_law ((refine step_append_lies _ (by rfl) (.tmp 80) (.tmp 93) 39 (by rfl) B 86 i0 _ 3 24 Tryz.underlying39 hi hz0 hz1 hz2 (by rfl) (by omega) x.evs r.s.evs.length (evCells r.s.evs) (by rfl) (hod _) ⟨w.heap.size, 0, none⟩ 1 1 [.int .u32 64, .int .u32 0, .string (strOfNums [])] (by rfl) (by rfl) (World.news_of_block (heap_alloc_new w.drew _)) (by simp [Value.oneCell']) (by omega) (by unfold maxLen; omega) (by omega) (by have := H.out.from_.1; simp; omega) (w.heap.size + 1) (by simp) ?_); intro g cap w1 hown1 hgrow hat hlt; obtain ⟨hM1, hO1, hm1⟩ := H.out.told (Ev.mk 64 0 (strOfNums [])) ((Only.refl _ w).drew.alloc _) hown1 hgrow (by simpa using hat); have q36 := hm1.evs; have g36 := hm1.free 36; have q12 := hm1.reg 10 (by omega); have g12 := hm1.free 12; have hs1 := hm1.lt; have HM1 := Lib.hid hM1; have HO1 := Lib.hid hO1; clear hown1 hgrow hat hlt hm1 hM1 hO1)
  all_goals
    clear h10 h11 h12 h17 f10 h36 f36 k39 hcv hod
    go_wp2_with fail
    first | go_end0 | refine bodyPost_ret (results_none rfl _ _ _) rfl ?_
    exact RM.set10 _ HM1.out HO1.out HD.out
set_option maxRecDepth 100000 in
set_option maxHeartbeats 400000 in
theorem rcall_brk_n (B b : Nat) (r : RS) (hs : r.s.Ok) (next : Int) (hev : r.s.evs.length ≤ 1000000) (st0 : 0 ≤ r.s.steps) (st1 : r.s.steps ≤ 10000) (hns : r.slots.length ≤ 64) (hqs : ∀ q ∈ r.slots, SlotOk q) (hcu : SlotOk r.cur) (x : RRaw) (w : World) (h : RMach B w b r x) (hc : r.s.regs 17 = 214) (hl : ¬ r.s.low ≤ r.s.regs 10) :
    Calls Tryz.prog 78 #[.pointer (some ⟨b, 0, none⟩)] w (RP B b w (.tuple #[]) (r.part (doCall r.s next))) := by
  have hd : r.part (doCall r.s next) = RS.setr r 10 r.s.brk := by simp [RS.part, doCall, hc, hl, RS.setr, RS.wrote]
  obtain ⟨v0, v1⟩ := hs.regs 10
  obtain ⟨at0, at1⟩ := hs.regs 11
  obtain ⟨n0, n1⟩ := hs.regs 12
  have h10 := h.mac.reg 10 (by omega)
  have h11 := h.mac.reg 11 (by omega)
  have h12 := h.mac.reg 12 (by omega)
  have h17 := h.mac.reg 17 (by omega)
  have f10 := h.mac.free 12
  have hsz := h.mac.lt
  have hlen := hs.len
  have H := Lib.hid h
  have HD := Lib.hid hd
  clear h hd
  rw [hc] at h17
  clear hc
  have k40 := H.out.mac.low
  have k34 := H.out.mac.brk
  have f34 := H.out.mac.free 34
  have k39 := H.out.mac.mem
  obtain ⟨l0, l1⟩ := hs.low
  have hd2 : decide (r.s.low ≤ r.s.regs 10) = false := by simpa using hl
  go_enter Tryz.func78, Tryz.ntmps78
  go_wp2_with fail
  refine (rlies_any b _ _ r x _ ?_ (by omega) (by omega) (by omega) (by omega) hlen).mono ?_
  · repeat (first | with_reducible refine RAt.drew ?_ | with_reducible refine RAt.drewN ?_ _ | with_reducible refine RAt.alloc ?_ _)
    exact H.out.mac
  rintro e w1 ⟨rfl, rfl⟩
  go_wp2_with fail
  try go_quiet (fail)
  try go_wp2_with fail
  go_region
  all_goals
    go_wp2_with fail
    first | go_end0 | refine bodyPost_ret (results_none rfl _ _ _) rfl ?_
    exact (RM.set10 r.s.brk H.out (Only.refl _ _) HD.out).no ((Only.refl _ _).drewN _)
set_option maxRecDepth 100000 in
set_option maxHeartbeats 400000 in
theorem rcall_brk_f (B b : Nat) (r : RS) (hs : r.s.Ok) (next : Int) (hev : r.s.evs.length ≤ 1000000) (st0 : 0 ≤ r.s.steps) (st1 : r.s.steps ≤ 10000) (hns : r.slots.length ≤ 64) (hqs : ∀ q ∈ r.slots, SlotOk q) (hcu : SlotOk r.cur) (x : RRaw) (w : World) (h : RMach B w b r x) (hc : r.s.regs 17 = 214) (hg : r.s.low ≤ r.s.regs 10) (hl : ¬ r.s.regs 10 ≤ (r.s.mem.length : Int)) :
    Calls Tryz.prog 78 #[.pointer (some ⟨b, 0, none⟩)] w (RP B b w (.tuple #[]) (r.part (doCall r.s next))) := by
  have hd : r.part (doCall r.s next) = RS.setr r 10 r.s.brk := by simp [RS.part, doCall, hc, hl, RS.setr, RS.wrote]
  obtain ⟨v0, v1⟩ := hs.regs 10
  obtain ⟨at0, at1⟩ := hs.regs 11
  obtain ⟨n0, n1⟩ := hs.regs 12
  have h10 := h.mac.reg 10 (by omega)
  have h11 := h.mac.reg 11 (by omega)
  have h12 := h.mac.reg 12 (by omega)
  have h17 := h.mac.reg 17 (by omega)
  have f10 := h.mac.free 12
  have hsz := h.mac.lt
  have hlen := hs.len
  have H := Lib.hid h
  have HD := Lib.hid hd
  clear h hd
  rw [hc] at h17
  clear hc
  have k40 := H.out.mac.low
  have k34 := H.out.mac.brk
  have f34 := H.out.mac.free 34
  have k39 := H.out.mac.mem
  obtain ⟨l0, l1⟩ := hs.low
  go_enter Tryz.func78, Tryz.ntmps78
  go_wp2_with fail
  refine (rlies_any b _ _ r x _ ?_ (by omega) (by omega) (by omega) (by omega) hlen).mono ?_
  · repeat (first | with_reducible refine RAt.drew ?_ | with_reducible refine RAt.drewN ?_ _ | with_reducible refine RAt.alloc ?_ _)
    exact H.out.mac
  rintro e w1 ⟨rfl, rfl⟩
  go_wp2_with fail
  try go_quiet (fail)
  try go_wp2_with fail
  go_region
  all_goals
    go_wp2_with fail
    first | go_end0 | refine bodyPost_ret (results_none rfl _ _ _) rfl ?_
    exact (RM.set10 r.s.brk H.out (Only.refl _ _) HD.out).no ((Only.refl _ _).drewN _)
set_option maxRecDepth 100000 in
set_option maxHeartbeats 400000 in
theorem rcall_brk_y (B b : Nat) (r : RS) (hs : r.s.Ok) (next : Int) (hev : r.s.evs.length ≤ 1000000) (st0 : 0 ≤ r.s.steps) (st1 : r.s.steps ≤ 10000) (hns : r.slots.length ≤ 64) (hqs : ∀ q ∈ r.slots, SlotOk q) (hcu : SlotOk r.cur) (x : RRaw) (w : World) (h : RMach B w b r x) (hc : r.s.regs 17 = 214) (hg : r.s.low ≤ r.s.regs 10) (hl : r.s.regs 10 ≤ (r.s.mem.length : Int)) :
    Calls Tryz.prog 78 #[.pointer (some ⟨b, 0, none⟩)] w (RP B b w (.tuple #[]) (r.part (doCall r.s next))) := by
  have hd : r.part (doCall r.s next) = RS.setr { r with s := { r.s with brk := r.s.regs 10 } } 10 (r.s.regs 10) := by simp [RS.part, doCall, hc, hl, hg, RS.setr, RS.wrote]
  obtain ⟨v0, v1⟩ := hs.regs 10
  obtain ⟨at0, at1⟩ := hs.regs 11
  obtain ⟨n0, n1⟩ := hs.regs 12
  have h10 := h.mac.reg 10 (by omega)
  have h11 := h.mac.reg 11 (by omega)
  have h12 := h.mac.reg 12 (by omega)
  have h17 := h.mac.reg 17 (by omega)
  have f10 := h.mac.free 12
  have hsz := h.mac.lt
  have hlen := hs.len
  have H := Lib.hid h
  have HD := Lib.hid hd
  clear h hd
  rw [hc] at h17
  clear hc
  have k40 := H.out.mac.low
  have k34 := H.out.mac.brk
  have f34 := H.out.mac.free 34
  have k39 := H.out.mac.mem
  obtain ⟨l0, l1⟩ := hs.low
  go_enter Tryz.func78, Tryz.ntmps78
  go_wp2_with fail
  refine (rlies_any b _ _ r x _ ?_ (by omega) (by omega) (by omega) (by omega) hlen).mono ?_
  · repeat (first | with_reducible refine RAt.drew ?_ | with_reducible refine RAt.drewN ?_ _ | with_reducible refine RAt.alloc ?_ _)
    exact H.out.mac
  rintro e w1 ⟨rfl, rfl⟩
  go_wp2_with fail
  try go_quiet (fail)
  try go_wp2_with fail
  go_region
  all_goals
    go_wp2_with fail
    first | go_end0 | refine bodyPost_ret (results_none rfl _ _ _) rfl ?_
    have h1 : RMach B (w.setCell ⟨b, 34, none⟩ (.int .u32 (r.s.regs 10))) b { r with s := { r.s with brk := r.s.regs 10 } } x := H.out.struct ((Only.refl _ _).set1 _ _) (H.out.mac.putBrk _) rfl H.out.ans rfl rfl rfl rfl
    exact (RM.set10 (r.s.regs 10) h1 (((Only.refl _ w).set1 34 (.int .u32 (r.s.regs 10))).upb H.out.from_.1) HD.out).no ((Only.refl _ _).drewN _)
set_option maxRecDepth 100000 in
set_option maxHeartbeats 400000 in
theorem rcall_read_0_0 (B b : Nat) (r : RS) (hs : r.s.Ok) (next : Int) (hev : r.s.evs.length ≤ 1000000) (st0 : 0 ≤ r.s.steps) (st1 : r.s.steps ≤ 10000) (hns : r.slots.length ≤ 64) (hqs : ∀ q ∈ r.slots, SlotOk q) (hcu : SlotOk r.cur) (x : RRaw) (w : World) (h : RMach B w b r x) (hc : r.s.regs 17 = 63) (q : r.s.regs 11 < (r.s.mem.length : Int)) (ha : r.s.ans = []) (hl : lies r.s (r.s.regs 11) (r.s.regs 12) = true) :
    Calls Tryz.prog 78 #[.pointer (some ⟨b, 0, none⟩)] w (RP B b w (.tuple #[]) (r.part (doCall r.s next))) := by
  have hd : r.part (doCall r.s next) = RS.setr { RS.wrote { r with s := { r.s with mem := putAt r.s.mem (r.s.regs 11) (bytesOf ⟨#[]⟩) } } (wrOf (r.s.regs 11) 0) with s := { r.s with mem := putAt r.s.mem (r.s.regs 11) (bytesOf ⟨#[]⟩), evs := r.s.evs ++ [Ev.mk 63 0 ⟨#[]⟩] } } 10 0 := by
    have e0 : (ByteArray.empty : ByteArray) = ⟨#[]⟩ := rfl
    have e1 : ByteArray.extract ⟨#[]⟩ 0 (r.s.regs 12).toNat = ⟨#[]⟩ := empty_extract _
    have e2 : ByteArray.size ⟨#[]⟩ = 0 := rfl
    simp [RS.part, doCall, hc, hl, ha, RS.setr, RS.wrote, wrOf, e0, e1, e2, St.set]
  obtain ⟨i0, hi, hz0, hz1, hz2⟩ := info_parts evInfo
  obtain ⟨v0, v1⟩ := hs.regs 10
  obtain ⟨at0, at1⟩ := hs.regs 11
  obtain ⟨n0, n1⟩ := hs.regs 12
  have h10 := h.mac.reg 10 (by omega)
  have h11 := h.mac.reg 11 (by omega)
  have h12 := h.mac.reg 12 (by omega)
  have h17 := h.mac.reg 17 (by omega)
  have f10 := h.mac.free 12
  have hsz := h.mac.lt
  have hlen := hs.len
  rw [hc] at h17
  obtain ⟨A, hAd⟩ : ∃ A : Nat, r.s.regs 11 = A := ⟨(r.s.regs 11).toNat, by omega⟩
  obtain ⟨N, hNd⟩ : ∃ N : Nat, r.s.regs 12 = N := ⟨(r.s.regs 12).toNat, by omega⟩
  rw [hAd] at hl hd q
  rw [hNd] at hl
  rw [hAd] at h11 at0 at1
  rw [hNd] at h12 n0 n1
  have hfit : A + N ≤ r.s.mem.length := by unfold lies at hl; simp at hl; omega
  have hA : A ≤ r.s.mem.length := by omega
  have hAb : (A : Int) ≤ (r.s.mem.length : Int) := by omega
  have w4 : ¬ r.s.mem.length = A := by omega
  have HAd := Lib.hid hAd
  have HNd := Lib.hid hNd
  clear hAd hNd at1 n1 q
  have HL := Lib.hid hl
  clear hc hl
  have k39 := h.mac.mem
  have k41 := h.mac.ans
  have f41 := h.mac.free 41
  obtain ⟨aa, ac, hav, hac, hacm, _⟩ := h.ans
  rw [hav, ha] at k41
  clear ha hav
  have H := Lib.hid h
  have HD := Lib.hid hd
  clear h hd
  go_enter Tryz.func78, Tryz.ntmps78
  go_wp2_with fail
  refine (rlies_any b A N r x _ ?_ (by omega) (by omega) (by omega) (by omega) hlen).mono ?_
  · repeat (first | with_reducible refine RAt.drew ?_ | with_reducible refine RAt.drewN ?_ _ | with_reducible refine RAt.alloc ?_ _)
    exact H.out.mac
  rintro e w1 ⟨rfl, rfl⟩
  rw [HL.out]
  have z1 : A + ByteArray.size ⟨#[]⟩ ≤ r.s.mem.length := by show A + 0 ≤ _; omega
  have z2 : ByteArray.size ⟨#[]⟩ ≤ (r.s.mem.length - A) := Nat.zero_le _
  go_wp2_with ((with_reducible refine wpList_copy_ex rfl (.tmp 147) (.tmp 148) 67 9 ?_ (.slice (some ⟨x.mb, A, none⟩) (r.s.mem.length - A) (r.s.mem.length - A)) (.string ⟨#[]⟩) ?_ ?_ (copy_mem _ _ x.mb A (r.s.mem.length - A) (r.s.mem.length - A) r.s.mem (some ⟨x.mb, A, none⟩) ⟨#[]⟩ H.out.mem (.inl rfl) z1 z2) ?_); (focus rfl); (focus rfl); (focus rfl); rintro w2 ⟨ho2, hm2⟩)
  have hlp : (putAt r.s.mem (A : Int) (bytesOf ⟨#[]⟩)).length = r.s.mem.length := putAt_len _ _ _ (by rw [bytesOf_len]; show A + 0 ≤ _; omega)
  have hM2 := H.out.memTo ho2 hm2 hlp
  have hO2 : Only (RUp B) w w2 := (Only.refl _ w).then (ho2.mono (fun k _ e => by subst e; exact H.out.from_.2.1))
  have HO2 := Lib.hid hO2
  have HM2 := Lib.hid hM2
  clear ho2 hm2 hO2 hM2
  refine (rwrote_any B b A 0 _ _ w2 HM2.out (by omega) (by omega) (by omega) hns hqs hcu).mono ?_
  rintro e w3 ⟨rfl, hM3, ho3⟩
  have e1 : RS.evs3 (RS.wrote { r with s := { r.s with mem := putAt r.s.mem A (bytesOf ⟨#[]⟩) } } (wrOf A 0)) = r.s.evs := by cases wrOf (A : Int) 0 <;> rfl
  have q36 := hM3.mac.evs
  have g36 := hM3.mac.free 36
  have hown := hM3.evs
  have HO3 := Lib.hid (HO2.out.then ho3)
  have HM3 := Lib.hid hM3
  have hs3 := hM3.mac.lt
  have hev3 : (RS.wrote { r with s := { r.s with mem := putAt r.s.mem A (bytesOf ⟨#[]⟩) } } (wrOf A 0)).s.evs = r.s.evs := e1
  rw [hev3] at hown
  change w3.ownsRow B 86 3 x.evs r.s.evs.length (evCells r.s.evs) at hown
  change w3.cell? ⟨b, 36, none⟩ = some x.evs at q36
  have HOWN := Lib.hid hown
  have HE3 := Lib.hid hev3
  clear h10 h11 h12 h17 f10 k39 k41 f41 hown ho3 hM3 e1 hev3 
  go_wp2_with (at_builtin; refine wpList_append_lies _ (by rfl) (.tmp 161) (.tmp 167) 39 (by rfl) B 86 i0 _ 3 24 Tryz.underlying39 hi hz0 hz1 hz2 (by rfl) (by omega) x.evs r.s.evs.length (evCells r.s.evs) (by rfl) (HOWN.out.alloc _) ⟨w3.heap.size, 0, none⟩ 1 1 [.int .u32 63, .int .u32 0, .string ⟨#[]⟩] (by rfl) (by rfl) (World.news_of_block (heap_alloc_new w3 _)) (by simp [Value.oneCell']) (by omega) (by unfold maxLen; omega) (by omega) (by have := H.out.from_.1; simp; omega) (w3.heap.size + 1) (by simp) ?_)
  intro g cap w4 hown1 hgrow hat hlt
  obtain ⟨hM4, hO4, hm4⟩ := HM3.out.told (Ev.mk 63 0 ⟨#[]⟩) ((Only.refl _ w3).alloc _) (by rw [HE3.out]; exact hown1) hgrow (by simpa using hat)
  rw [HE3.out] at hM4 hO4
  have q36 := hm4.evs
  change w4.cell? ⟨b, 36, none⟩ = some x.evs at q36
  have g36 := hm4.free 36
  have q12 := hm4.reg 10 (by omega)
  have g12 := hm4.free 12
  have hs4 := hm4.lt
  have HM4 := Lib.hid hM4
  have HO4 := Lib.hid (HO3.out.then hO4)
  clear hown1 hgrow hat hlt hm4 hM4 hO4
  go_wp2_with fail
  first | go_end0 | refine bodyPost_ret (results_none rfl _ _ _) rfl ?_
  exact RM.set10 _ HM4.out HO4.out (HD.out.trans (by cases wrOf (A : Int) 0 <;> rfl))
set_option maxRecDepth 100000 in
set_option maxHeartbeats 400000 in
theorem rcall_read_0_1 (B b : Nat) (r : RS) (hs : r.s.Ok) (next : Int) (hev : r.s.evs.length ≤ 1000000) (st0 : 0 ≤ r.s.steps) (st1 : r.s.steps ≤ 10000) (hns : r.slots.length ≤ 64) (hqs : ∀ q ∈ r.slots, SlotOk q) (hcu : SlotOk r.cur) (x : RRaw) (w : World) (h : RMach B w b r x) (hc : r.s.regs 17 = 63) (q : r.s.regs 11 = (r.s.mem.length : Int)) (ha : r.s.ans = []) (hl : lies r.s (r.s.regs 11) (r.s.regs 12) = true) :
    Calls Tryz.prog 78 #[.pointer (some ⟨b, 0, none⟩)] w (RP B b w (.tuple #[]) (r.part (doCall r.s next))) := by
  have hd : r.part (doCall r.s next) = RS.setr { RS.wrote { r with s := { r.s with mem := putAt r.s.mem (r.s.regs 11) (bytesOf ⟨#[]⟩) } } (wrOf (r.s.regs 11) 0) with s := { r.s with mem := putAt r.s.mem (r.s.regs 11) (bytesOf ⟨#[]⟩), evs := r.s.evs ++ [Ev.mk 63 0 ⟨#[]⟩] } } 10 0 := by
    have e0 : (ByteArray.empty : ByteArray) = ⟨#[]⟩ := rfl
    have e1 : ByteArray.extract ⟨#[]⟩ 0 (r.s.regs 12).toNat = ⟨#[]⟩ := empty_extract _
    have e2 : ByteArray.size ⟨#[]⟩ = 0 := rfl
    simp [RS.part, doCall, hc, hl, ha, RS.setr, RS.wrote, wrOf, e0, e1, e2, St.set]
  obtain ⟨i0, hi, hz0, hz1, hz2⟩ := info_parts evInfo
  obtain ⟨v0, v1⟩ := hs.regs 10
  obtain ⟨at0, at1⟩ := hs.regs 11
  obtain ⟨n0, n1⟩ := hs.regs 12
  have h10 := h.mac.reg 10 (by omega)
  have h11 := h.mac.reg 11 (by omega)
  have h12 := h.mac.reg 12 (by omega)
  have h17 := h.mac.reg 17 (by omega)
  have f10 := h.mac.free 12
  have hsz := h.mac.lt
  have hlen := hs.len
  rw [hc] at h17
  obtain ⟨A, hAd⟩ : ∃ A : Nat, r.s.regs 11 = A := ⟨(r.s.regs 11).toNat, by omega⟩
  obtain ⟨N, hNd⟩ : ∃ N : Nat, r.s.regs 12 = N := ⟨(r.s.regs 12).toNat, by omega⟩
  rw [hAd] at hl hd q
  rw [hNd] at hl
  rw [hAd] at h11 at0 at1
  rw [hNd] at h12 n0 n1
  have hfit : A + N ≤ r.s.mem.length := by unfold lies at hl; simp at hl; omega
  have hA : A ≤ r.s.mem.length := by omega
  have hAb : (A : Int) ≤ (r.s.mem.length : Int) := by omega
  have w4 : r.s.mem.length = A := by omega
  have HAd := Lib.hid hAd
  have HNd := Lib.hid hNd
  clear hAd hNd at1 n1 q
  have HL := Lib.hid hl
  clear hc hl
  have k39 := h.mac.mem
  have k41 := h.mac.ans
  have f41 := h.mac.free 41
  obtain ⟨aa, ac, hav, hac, hacm, _⟩ := h.ans
  rw [hav, ha] at k41
  clear ha hav
  have H := Lib.hid h
  have HD := Lib.hid hd
  clear h hd
  go_enter Tryz.func78, Tryz.ntmps78
  go_wp2_with fail
  refine (rlies_any b A N r x _ ?_ (by omega) (by omega) (by omega) (by omega) hlen).mono ?_
  · repeat (first | with_reducible refine RAt.drew ?_ | with_reducible refine RAt.drewN ?_ _ | with_reducible refine RAt.alloc ?_ _)
    exact H.out.mac
  rintro e w1 ⟨rfl, rfl⟩
  rw [HL.out]
  have z1 : A + ByteArray.size ⟨#[]⟩ ≤ r.s.mem.length := by show A + 0 ≤ _; omega
  have z2 : ByteArray.size ⟨#[]⟩ ≤ 0 := Nat.zero_le _
  go_wp2_with ((with_reducible refine wpList_copy_ex rfl (.tmp 147) (.tmp 148) 67 9 ?_ (.slice (some ⟨x.mb, 0, none⟩) 0 0) (.string ⟨#[]⟩) ?_ ?_ (copy_mem _ _ x.mb A 0 0 r.s.mem (some ⟨x.mb, 0, none⟩) ⟨#[]⟩ H.out.mem (.inr rfl) z1 z2) ?_); (focus rfl); (focus rfl); (focus rfl); rintro w2 ⟨ho2, hm2⟩)
  have hlp : (putAt r.s.mem (A : Int) (bytesOf ⟨#[]⟩)).length = r.s.mem.length := putAt_len _ _ _ (by rw [bytesOf_len]; show A + 0 ≤ _; omega)
  have hM2 := H.out.memTo ho2 hm2 hlp
  have hO2 : Only (RUp B) w w2 := (Only.refl _ w).then (ho2.mono (fun k _ e => by subst e; exact H.out.from_.2.1))
  have HO2 := Lib.hid hO2
  have HM2 := Lib.hid hM2
  clear ho2 hm2 hO2 hM2
  refine (rwrote_any B b A 0 _ _ w2 HM2.out (by omega) (by omega) (by omega) hns hqs hcu).mono ?_
  rintro e w3 ⟨rfl, hM3, ho3⟩
  have e1 : RS.evs3 (RS.wrote { r with s := { r.s with mem := putAt r.s.mem A (bytesOf ⟨#[]⟩) } } (wrOf A 0)) = r.s.evs := by cases wrOf (A : Int) 0 <;> rfl
  have q36 := hM3.mac.evs
  have g36 := hM3.mac.free 36
  have hown := hM3.evs
  have HO3 := Lib.hid (HO2.out.then ho3)
  have HM3 := Lib.hid hM3
  have hs3 := hM3.mac.lt
  have hev3 : (RS.wrote { r with s := { r.s with mem := putAt r.s.mem A (bytesOf ⟨#[]⟩) } } (wrOf A 0)).s.evs = r.s.evs := e1
  rw [hev3] at hown
  change w3.ownsRow B 86 3 x.evs r.s.evs.length (evCells r.s.evs) at hown
  change w3.cell? ⟨b, 36, none⟩ = some x.evs at q36
  have HOWN := Lib.hid hown
  have HE3 := Lib.hid hev3
  clear h10 h11 h12 h17 f10 k39 k41 f41 hown ho3 hM3 e1 hev3 
  go_wp2_with (at_builtin; refine wpList_append_lies _ (by rfl) (.tmp 161) (.tmp 167) 39 (by rfl) B 86 i0 _ 3 24 Tryz.underlying39 hi hz0 hz1 hz2 (by rfl) (by omega) x.evs r.s.evs.length (evCells r.s.evs) (by rfl) (HOWN.out.alloc _) ⟨w3.heap.size, 0, none⟩ 1 1 [.int .u32 63, .int .u32 0, .string ⟨#[]⟩] (by rfl) (by rfl) (World.news_of_block (heap_alloc_new w3 _)) (by simp [Value.oneCell']) (by omega) (by unfold maxLen; omega) (by omega) (by have := H.out.from_.1; simp; omega) (w3.heap.size + 1) (by simp) ?_)
  intro g cap w4 hown1 hgrow hat hlt
  obtain ⟨hM4, hO4, hm4⟩ := HM3.out.told (Ev.mk 63 0 ⟨#[]⟩) ((Only.refl _ w3).alloc _) (by rw [HE3.out]; exact hown1) hgrow (by simpa using hat)
  rw [HE3.out] at hM4 hO4
  have q36 := hm4.evs
  change w4.cell? ⟨b, 36, none⟩ = some x.evs at q36
  have g36 := hm4.free 36
  have q12 := hm4.reg 10 (by omega)
  have g12 := hm4.free 12
  have hs4 := hm4.lt
  have HM4 := Lib.hid hM4
  have HO4 := Lib.hid (HO3.out.then hO4)
  clear hown1 hgrow hat hlt hm4 hM4 hO4
  go_wp2_with fail
  first | go_end0 | refine bodyPost_ret (results_none rfl _ _ _) rfl ?_
  exact RM.set10 _ HM4.out HO4.out (HD.out.trans (by cases wrOf (A : Int) 0 <;> rfl))
set_option maxRecDepth 100000 in
set_option maxHeartbeats 400000 in
theorem rcall_read_fit_00 (B b : Nat) (r : RS) (hs : r.s.Ok) (next : Int) (hev : r.s.evs.length ≤ 1000000) (st0 : 0 ≤ r.s.steps) (st1 : r.s.steps ≤ 10000) (hns : r.slots.length ≤ 64) (hqs : ∀ q ∈ r.slots, SlotOk q) (hcu : SlotOk r.cur) (x : RRaw) (w : World) (h : RMach B w b r x) (hc : r.s.regs 17 = 63) (q : r.s.regs 11 < (r.s.mem.length : Int)) (t : ByteArray) (rest : List ByteArray) (ha : r.s.ans = t :: rest) (htl : t.size ≤ maxLen) (off cc : Nat) (hans : x.ans = .slice (some ⟨x.ab, off, none⟩) (rest.length + 1) cc) (hcc : rest.length + 1 ≤ cc) (hcm : cc ≤ 9223372036854775807) (c1 : ¬ cc = 1) (hta : TextsAt w x.ab (.slice (some ⟨x.ab, off + 1, none⟩) rest.length (cc - 1)) rest) (h0c : w.cell? ⟨x.ab, off, none⟩ = some (.string t)) (hle : t.size ≤ (r.s.regs 12).toNat) (u : ByteArray) (hu : u = t) (hus : u.size ≤ (r.s.regs 12).toNat) (hl : lies r.s (r.s.regs 11) (r.s.regs 12) = true) :
    Calls Tryz.prog 78 #[.pointer (some ⟨b, 0, none⟩)] w (RP B b w (.tuple #[]) (r.part (doCall r.s next))) := by
  have hd : r.part (doCall r.s next) = RS.setr { RS.wrote { r with s := { r.s with ans := rest, mem := putAt r.s.mem (r.s.regs 11) (bytesOf u) } } (wrOf (r.s.regs 11) u.size) with s := { r.s with ans := rest, mem := putAt r.s.mem (r.s.regs 11) (bytesOf u), evs := r.s.evs ++ [Ev.mk 63 u.size u] } } 10 u.size := by
    have e0 : t.extract 0 (r.s.regs 12).toNat = u := by rw [hu]; exact extract_all t _ hle
    simp only [RS.part, doCall, hc, hl, ha, List.headD_cons, List.tail_cons, e0]
    simp only [RS.setr, St.set]
    simp
    cases wrOf (r.s.regs 11) (u.size : Int) <;> rfl
  obtain ⟨i0, hi, hz0, hz1, hz2⟩ := info_parts evInfo
  obtain ⟨v0, v1⟩ := hs.regs 10
  obtain ⟨at0, at1⟩ := hs.regs 11
  obtain ⟨n0, n1⟩ := hs.regs 12
  have h10 := h.mac.reg 10 (by omega)
  have h11 := h.mac.reg 11 (by omega)
  have h12 := h.mac.reg 12 (by omega)
  have h17 := h.mac.reg 17 (by omega)
  have f10 := h.mac.free 12
  have hsz := h.mac.lt
  have hlen := hs.len
  rw [hc] at h17
  obtain ⟨A, hAd⟩ : ∃ A : Nat, r.s.regs 11 = A := ⟨(r.s.regs 11).toNat, by omega⟩
  obtain ⟨N, hNd⟩ : ∃ N : Nat, r.s.regs 12 = N := ⟨(r.s.regs 12).toNat, by omega⟩
  rw [hAd] at hl hd q
  rw [hNd] at hl
  rw [hAd] at h11 at0 at1
  rw [hNd] at h12 n0 n1
  rw [hNd, Int.toNat_natCast] at hle hus
  have hfit : A + N ≤ r.s.mem.length := by unfold lies at hl; simp at hl; omega
  have hA : A ≤ r.s.mem.length := by omega
  have hAb : (A : Int) ≤ (r.s.mem.length : Int) := by omega
  have w4 : ¬ r.s.mem.length = A := by omega
  have HAd := Lib.hid hAd
  have HNd := Lib.hid hNd
  clear hAd hNd at1 n1 q
  have HL := Lib.hid hl
  clear hc hl
  have k39 := h.mac.mem
  have k41 := h.mac.ans
  have f41 := h.mac.free 41
  rw [hans] at k41
  have HTA := Lib.hid hta
  unfold maxLen at htl
  clear hta hans ha
  subst hu
  have H := Lib.hid h
  have HD := Lib.hid hd
  clear h hd
  have hM1 : RMach B (w.setCell ⟨b, 41, none⟩ (.slice (some ⟨x.ab, off + 1, none⟩) rest.length (cc - 1))) b { r with s := { r.s with ans := rest } } { x with ans := (.slice (some ⟨x.ab, off + 1, none⟩) rest.length (cc - 1)) } := H.out.struct ((Only.refl _ w).set1 _ _) ((H.out.mac.putAns _).sub rfl) rfl HTA.out rfl rfl rfl rfl
  have HM1 := Lib.hid hM1
  clear hM1
  go_enter Tryz.func78, Tryz.ntmps78
  go_wp2_with fail
  refine (rlies_any b A N r x _ ?_ (by omega) (by omega) (by omega) (by omega) hlen).mono ?_
  · repeat (first | with_reducible refine RAt.drew ?_ | with_reducible refine RAt.drewN ?_ _ | with_reducible refine RAt.alloc ?_ _)
    exact H.out.mac
  rintro e w1 ⟨rfl, rfl⟩
  rw [HL.out]
  go_wp2_with ((with_reducible refine wpList_copy_ex rfl (.tmp 147) (.tmp 148) 67 9 ?_ (.slice (some ⟨x.mb, A, none⟩) (r.s.mem.length - A) (r.s.mem.length - A)) (.string u) ?_ ?_ (copy_mem _ _ x.mb A (r.s.mem.length - A) (r.s.mem.length - A) r.s.mem (some ⟨x.mb, A, none⟩) u HM1.out.mem (.inl rfl) (by omega) (by omega)) ?_); (focus rfl); (focus rfl); (focus rfl); rintro w2 ⟨ho2, hm2⟩)
  have hlp : (putAt r.s.mem (A : Int) (bytesOf u)).length = r.s.mem.length := putAt_len _ _ _ (by rw [bytesOf_len]; show A + u.size ≤ _; omega)
  have hM2 := HM1.out.memTo ho2 hm2 hlp
  have hO2 : Only (RUp B) w w2 := (((Only.refl _ w).set1 41 _).upb H.out.from_.1).then (ho2.mono (fun k _ e => by subst e; exact H.out.from_.2.1))
  have HO2 := Lib.hid hO2
  have HM2 := Lib.hid hM2
  clear ho2 hm2 hO2 hM2
  refine (rwrote_any B b A (u.size : Int) _ _ w2 HM2.out (by omega) (by omega) (by omega) hns hqs hcu).mono ?_
  rintro e w3 ⟨rfl, hM3, ho3⟩
  have e1 : RS.evs3 (RS.wrote { r with s := { r.s with ans := rest, mem := putAt r.s.mem A (bytesOf u) } } (wrOf A (u.size : Int))) = r.s.evs := by cases wrOf (A : Int) (u.size : Int) <;> rfl
  have q36 := hM3.mac.evs
  have g36 := hM3.mac.free 36
  have hown := hM3.evs
  have HO3 := Lib.hid (HO2.out.then ho3)
  have HM3 := Lib.hid hM3
  have hs3 := hM3.mac.lt
  have hev3 : (RS.wrote { r with s := { r.s with ans := rest, mem := putAt r.s.mem A (bytesOf u) } } (wrOf A (u.size : Int))).s.evs = r.s.evs := e1
  rw [hev3] at hown
  change w3.ownsRow B 86 3 x.evs r.s.evs.length (evCells r.s.evs) at hown
  change w3.cell? ⟨b, 36, none⟩ = some x.evs at q36
  have HOWN := Lib.hid hown
  have HE3 := Lib.hid hev3
  clear h10 h11 h12 h17 f10 k39 k41 f41 hown ho3 hM3 e1 hev3 h0c
  go_wp2_with (at_builtin; refine wpList_append_lies _ (by rfl) (.tmp 161) (.tmp 167) 39 (by rfl) B 86 i0 _ 3 24 Tryz.underlying39 hi hz0 hz1 hz2 (by rfl) (by omega) x.evs r.s.evs.length (evCells r.s.evs) (by rfl) (HOWN.out.alloc _) ⟨w3.heap.size, 0, none⟩ 1 1 [.int .u32 63, .int .u32 (u.size : Int), .string u] (by rfl) (by rfl) (World.news_of_block (heap_alloc_new w3 _)) (by simp [Value.oneCell']) (by omega) (by unfold maxLen; omega) (by omega) (by have := H.out.from_.1; simp; omega) (w3.heap.size + 1) (by simp) ?_)
  intro g cap w4 hown1 hgrow hat hlt
  obtain ⟨hM4, hO4, hm4⟩ := HM3.out.told (Ev.mk 63 (u.size : Int) u) ((Only.refl _ w3).alloc _) (by rw [HE3.out]; exact hown1) hgrow (by simpa using hat)
  rw [HE3.out] at hM4 hO4
  have q36 := hm4.evs
  change w4.cell? ⟨b, 36, none⟩ = some x.evs at q36
  have g36 := hm4.free 36
  have q12 := hm4.reg 10 (by omega)
  have g12 := hm4.free 12
  have hs4 := hm4.lt
  have HM4 := Lib.hid hM4
  have HO4 := Lib.hid (HO3.out.then hO4)
  clear hown1 hgrow hat hlt hm4 hM4 hO4
  go_wp2_with fail
  first | go_end0 | refine bodyPost_ret (results_none rfl _ _ _) rfl ?_
  exact RM.set10 _ HM4.out HO4.out (HD.out.trans (by cases wrOf (A : Int) (u.size : Int) <;> rfl))
set_option maxRecDepth 100000 in
set_option maxHeartbeats 400000 in
theorem rcall_read_fit_01 (B b : Nat) (r : RS) (hs : r.s.Ok) (next : Int) (hev : r.s.evs.length ≤ 1000000) (st0 : 0 ≤ r.s.steps) (st1 : r.s.steps ≤ 10000) (hns : r.slots.length ≤ 64) (hqs : ∀ q ∈ r.slots, SlotOk q) (hcu : SlotOk r.cur) (x : RRaw) (w : World) (h : RMach B w b r x) (hc : r.s.regs 17 = 63) (q : r.s.regs 11 < (r.s.mem.length : Int)) (t : ByteArray) (rest : List ByteArray) (ha : r.s.ans = t :: rest) (htl : t.size ≤ maxLen) (off cc : Nat) (hans : x.ans = .slice (some ⟨x.ab, off, none⟩) (rest.length + 1) cc) (hcc : rest.length + 1 ≤ cc) (hcm : cc ≤ 9223372036854775807) (c1 : cc = 1) (hta : TextsAt w x.ab (.slice (some ⟨x.ab, off, none⟩) rest.length 0) rest) (h0c : w.cell? ⟨x.ab, off, none⟩ = some (.string t)) (hle : t.size ≤ (r.s.regs 12).toNat) (u : ByteArray) (hu : u = t) (hus : u.size ≤ (r.s.regs 12).toNat) (hl : lies r.s (r.s.regs 11) (r.s.regs 12) = true) :
    Calls Tryz.prog 78 #[.pointer (some ⟨b, 0, none⟩)] w (RP B b w (.tuple #[]) (r.part (doCall r.s next))) := by
  have hd : r.part (doCall r.s next) = RS.setr { RS.wrote { r with s := { r.s with ans := rest, mem := putAt r.s.mem (r.s.regs 11) (bytesOf u) } } (wrOf (r.s.regs 11) u.size) with s := { r.s with ans := rest, mem := putAt r.s.mem (r.s.regs 11) (bytesOf u), evs := r.s.evs ++ [Ev.mk 63 u.size u] } } 10 u.size := by
    have e0 : t.extract 0 (r.s.regs 12).toNat = u := by rw [hu]; exact extract_all t _ hle
    simp only [RS.part, doCall, hc, hl, ha, List.headD_cons, List.tail_cons, e0]
    simp only [RS.setr, St.set]
    simp
    cases wrOf (r.s.regs 11) (u.size : Int) <;> rfl
  obtain ⟨i0, hi, hz0, hz1, hz2⟩ := info_parts evInfo
  obtain ⟨v0, v1⟩ := hs.regs 10
  obtain ⟨at0, at1⟩ := hs.regs 11
  obtain ⟨n0, n1⟩ := hs.regs 12
  have h10 := h.mac.reg 10 (by omega)
  have h11 := h.mac.reg 11 (by omega)
  have h12 := h.mac.reg 12 (by omega)
  have h17 := h.mac.reg 17 (by omega)
  have f10 := h.mac.free 12
  have hsz := h.mac.lt
  have hlen := hs.len
  rw [hc] at h17
  obtain ⟨A, hAd⟩ : ∃ A : Nat, r.s.regs 11 = A := ⟨(r.s.regs 11).toNat, by omega⟩
  obtain ⟨N, hNd⟩ : ∃ N : Nat, r.s.regs 12 = N := ⟨(r.s.regs 12).toNat, by omega⟩
  rw [hAd] at hl hd q
  rw [hNd] at hl
  rw [hAd] at h11 at0 at1
  rw [hNd] at h12 n0 n1
  rw [hNd, Int.toNat_natCast] at hle hus
  have hfit : A + N ≤ r.s.mem.length := by unfold lies at hl; simp at hl; omega
  have hA : A ≤ r.s.mem.length := by omega
  have hAb : (A : Int) ≤ (r.s.mem.length : Int) := by omega
  have w4 : ¬ r.s.mem.length = A := by omega
  have HAd := Lib.hid hAd
  have HNd := Lib.hid hNd
  clear hAd hNd at1 n1 q
  have HL := Lib.hid hl
  clear hc hl
  have k39 := h.mac.mem
  have k41 := h.mac.ans
  have f41 := h.mac.free 41
  rw [hans] at k41
  have HTA := Lib.hid hta
  unfold maxLen at htl
  clear hta hans ha
  subst hu
  have H := Lib.hid h
  have HD := Lib.hid hd
  clear h hd
  have hM1 : RMach B (w.setCell ⟨b, 41, none⟩ (.slice (some ⟨x.ab, off, none⟩) rest.length 0)) b { r with s := { r.s with ans := rest } } { x with ans := (.slice (some ⟨x.ab, off, none⟩) rest.length 0) } := H.out.struct ((Only.refl _ w).set1 _ _) ((H.out.mac.putAns _).sub rfl) rfl HTA.out rfl rfl rfl rfl
  have HM1 := Lib.hid hM1
  clear hM1
  go_enter Tryz.func78, Tryz.ntmps78
  go_wp2_with fail
  refine (rlies_any b A N r x _ ?_ (by omega) (by omega) (by omega) (by omega) hlen).mono ?_
  · repeat (first | with_reducible refine RAt.drew ?_ | with_reducible refine RAt.drewN ?_ _ | with_reducible refine RAt.alloc ?_ _)
    exact H.out.mac
  rintro e w1 ⟨rfl, rfl⟩
  rw [HL.out]
  go_wp2_with ((with_reducible refine wpList_copy_ex rfl (.tmp 147) (.tmp 148) 67 9 ?_ (.slice (some ⟨x.mb, A, none⟩) (r.s.mem.length - A) (r.s.mem.length - A)) (.string u) ?_ ?_ (copy_mem _ _ x.mb A (r.s.mem.length - A) (r.s.mem.length - A) r.s.mem (some ⟨x.mb, A, none⟩) u HM1.out.mem (.inl rfl) (by omega) (by omega)) ?_); (focus rfl); (focus rfl); (focus rfl); rintro w2 ⟨ho2, hm2⟩)
  have hlp : (putAt r.s.mem (A : Int) (bytesOf u)).length = r.s.mem.length := putAt_len _ _ _ (by rw [bytesOf_len]; show A + u.size ≤ _; omega)
  have hM2 := HM1.out.memTo ho2 hm2 hlp
  have hO2 : Only (RUp B) w w2 := (((Only.refl _ w).set1 41 _).upb H.out.from_.1).then (ho2.mono (fun k _ e => by subst e; exact H.out.from_.2.1))
  have HO2 := Lib.hid hO2
  have HM2 := Lib.hid hM2
  clear ho2 hm2 hO2 hM2
  refine (rwrote_any B b A (u.size : Int) _ _ w2 HM2.out (by omega) (by omega) (by omega) hns hqs hcu).mono ?_
  rintro e w3 ⟨rfl, hM3, ho3⟩
  have e1 : RS.evs3 (RS.wrote { r with s := { r.s with ans := rest, mem := putAt r.s.mem A (bytesOf u) } } (wrOf A (u.size : Int))) = r.s.evs := by cases wrOf (A : Int) (u.size : Int) <;> rfl
  have q36 := hM3.mac.evs
  have g36 := hM3.mac.free 36
  have hown := hM3.evs
  have HO3 := Lib.hid (HO2.out.then ho3)
  have HM3 := Lib.hid hM3
  have hs3 := hM3.mac.lt
  have hev3 : (RS.wrote { r with s := { r.s with ans := rest, mem := putAt r.s.mem A (bytesOf u) } } (wrOf A (u.size : Int))).s.evs = r.s.evs := e1
  rw [hev3] at hown
  change w3.ownsRow B 86 3 x.evs r.s.evs.length (evCells r.s.evs) at hown
  change w3.cell? ⟨b, 36, none⟩ = some x.evs at q36
  have HOWN := Lib.hid hown
  have HE3 := Lib.hid hev3
  clear h10 h11 h12 h17 f10 k39 k41 f41 hown ho3 hM3 e1 hev3 h0c
  go_wp2_with (at_builtin; refine wpList_append_lies _ (by rfl) (.tmp 161) (.tmp 167) 39 (by rfl) B 86 i0 _ 3 24 Tryz.underlying39 hi hz0 hz1 hz2 (by rfl) (by omega) x.evs r.s.evs.length (evCells r.s.evs) (by rfl) (HOWN.out.alloc _) ⟨w3.heap.size, 0, none⟩ 1 1 [.int .u32 63, .int .u32 (u.size : Int), .string u] (by rfl) (by rfl) (World.news_of_block (heap_alloc_new w3 _)) (by simp [Value.oneCell']) (by omega) (by unfold maxLen; omega) (by omega) (by have := H.out.from_.1; simp; omega) (w3.heap.size + 1) (by simp) ?_)
  intro g cap w4 hown1 hgrow hat hlt
  obtain ⟨hM4, hO4, hm4⟩ := HM3.out.told (Ev.mk 63 (u.size : Int) u) ((Only.refl _ w3).alloc _) (by rw [HE3.out]; exact hown1) hgrow (by simpa using hat)
  rw [HE3.out] at hM4 hO4
  have q36 := hm4.evs
  change w4.cell? ⟨b, 36, none⟩ = some x.evs at q36
  have g36 := hm4.free 36
  have q12 := hm4.reg 10 (by omega)
  have g12 := hm4.free 12
  have hs4 := hm4.lt
  have HM4 := Lib.hid hM4
  have HO4 := Lib.hid (HO3.out.then hO4)
  clear hown1 hgrow hat hlt hm4 hM4 hO4
  go_wp2_with fail
  first | go_end0 | refine bodyPost_ret (results_none rfl _ _ _) rfl ?_
  exact RM.set10 _ HM4.out HO4.out (HD.out.trans (by cases wrOf (A : Int) (u.size : Int) <;> rfl))
set_option maxRecDepth 100000 in
set_option maxHeartbeats 400000 in
theorem rcall_read_fit_10 (B b : Nat) (r : RS) (hs : r.s.Ok) (next : Int) (hev : r.s.evs.length ≤ 1000000) (st0 : 0 ≤ r.s.steps) (st1 : r.s.steps ≤ 10000) (hns : r.slots.length ≤ 64) (hqs : ∀ q ∈ r.slots, SlotOk q) (hcu : SlotOk r.cur) (x : RRaw) (w : World) (h : RMach B w b r x) (hc : r.s.regs 17 = 63) (q : r.s.regs 11 = (r.s.mem.length : Int)) (t : ByteArray) (rest : List ByteArray) (ha : r.s.ans = t :: rest) (htl : t.size ≤ maxLen) (off cc : Nat) (hans : x.ans = .slice (some ⟨x.ab, off, none⟩) (rest.length + 1) cc) (hcc : rest.length + 1 ≤ cc) (hcm : cc ≤ 9223372036854775807) (c1 : ¬ cc = 1) (hta : TextsAt w x.ab (.slice (some ⟨x.ab, off + 1, none⟩) rest.length (cc - 1)) rest) (h0c : w.cell? ⟨x.ab, off, none⟩ = some (.string t)) (hle : t.size ≤ (r.s.regs 12).toNat) (u : ByteArray) (hu : u = t) (hus : u.size ≤ (r.s.regs 12).toNat) (hl : lies r.s (r.s.regs 11) (r.s.regs 12) = true) :
    Calls Tryz.prog 78 #[.pointer (some ⟨b, 0, none⟩)] w (RP B b w (.tuple #[]) (r.part (doCall r.s next))) := by
  have hd : r.part (doCall r.s next) = RS.setr { RS.wrote { r with s := { r.s with ans := rest, mem := putAt r.s.mem (r.s.regs 11) (bytesOf u) } } (wrOf (r.s.regs 11) u.size) with s := { r.s with ans := rest, mem := putAt r.s.mem (r.s.regs 11) (bytesOf u), evs := r.s.evs ++ [Ev.mk 63 u.size u] } } 10 u.size := by
    have e0 : t.extract 0 (r.s.regs 12).toNat = u := by rw [hu]; exact extract_all t _ hle
    simp only [RS.part, doCall, hc, hl, ha, List.headD_cons, List.tail_cons, e0]
    simp only [RS.setr, St.set]
    simp
    cases wrOf (r.s.regs 11) (u.size : Int) <;> rfl
  obtain ⟨i0, hi, hz0, hz1, hz2⟩ := info_parts evInfo
  obtain ⟨v0, v1⟩ := hs.regs 10
  obtain ⟨at0, at1⟩ := hs.regs 11
  obtain ⟨n0, n1⟩ := hs.regs 12
  have h10 := h.mac.reg 10 (by omega)
  have h11 := h.mac.reg 11 (by omega)
  have h12 := h.mac.reg 12 (by omega)
  have h17 := h.mac.reg 17 (by omega)
  have f10 := h.mac.free 12
  have hsz := h.mac.lt
  have hlen := hs.len
  rw [hc] at h17
  obtain ⟨A, hAd⟩ : ∃ A : Nat, r.s.regs 11 = A := ⟨(r.s.regs 11).toNat, by omega⟩
  obtain ⟨N, hNd⟩ : ∃ N : Nat, r.s.regs 12 = N := ⟨(r.s.regs 12).toNat, by omega⟩
  rw [hAd] at hl hd q
  rw [hNd] at hl
  rw [hAd] at h11 at0 at1
  rw [hNd] at h12 n0 n1
  rw [hNd, Int.toNat_natCast] at hle hus
  have hfit : A + N ≤ r.s.mem.length := by unfold lies at hl; simp at hl; omega
  have hA : A ≤ r.s.mem.length := by omega
  have hAb : (A : Int) ≤ (r.s.mem.length : Int) := by omega
  have w4 : r.s.mem.length = A := by omega
  have HAd := Lib.hid hAd
  have HNd := Lib.hid hNd
  clear hAd hNd at1 n1 q
  have HL := Lib.hid hl
  clear hc hl
  have k39 := h.mac.mem
  have k41 := h.mac.ans
  have f41 := h.mac.free 41
  rw [hans] at k41
  have HTA := Lib.hid hta
  unfold maxLen at htl
  clear hta hans ha
  subst hu
  have H := Lib.hid h
  have HD := Lib.hid hd
  clear h hd
  have hM1 : RMach B (w.setCell ⟨b, 41, none⟩ (.slice (some ⟨x.ab, off + 1, none⟩) rest.length (cc - 1))) b { r with s := { r.s with ans := rest } } { x with ans := (.slice (some ⟨x.ab, off + 1, none⟩) rest.length (cc - 1)) } := H.out.struct ((Only.refl _ w).set1 _ _) ((H.out.mac.putAns _).sub rfl) rfl HTA.out rfl rfl rfl rfl
  have HM1 := Lib.hid hM1
  clear hM1
  go_enter Tryz.func78, Tryz.ntmps78
  go_wp2_with fail
  refine (rlies_any b A N r x _ ?_ (by omega) (by omega) (by omega) (by omega) hlen).mono ?_
  · repeat (first | with_reducible refine RAt.drew ?_ | with_reducible refine RAt.drewN ?_ _ | with_reducible refine RAt.alloc ?_ _)
    exact H.out.mac
  rintro e w1 ⟨rfl, rfl⟩
  rw [HL.out]
  go_wp2_with ((with_reducible refine wpList_copy_ex rfl (.tmp 147) (.tmp 148) 67 9 ?_ (.slice (some ⟨x.mb, 0, none⟩) 0 0) (.string u) ?_ ?_ (copy_mem _ _ x.mb A 0 0 r.s.mem (some ⟨x.mb, 0, none⟩) u HM1.out.mem (.inr (by omega)) (by omega) (by omega)) ?_); (focus rfl); (focus rfl); (focus rfl); rintro w2 ⟨ho2, hm2⟩)
  have hlp : (putAt r.s.mem (A : Int) (bytesOf u)).length = r.s.mem.length := putAt_len _ _ _ (by rw [bytesOf_len]; show A + u.size ≤ _; omega)
  have hM2 := HM1.out.memTo ho2 hm2 hlp
  have hO2 : Only (RUp B) w w2 := (((Only.refl _ w).set1 41 _).upb H.out.from_.1).then (ho2.mono (fun k _ e => by subst e; exact H.out.from_.2.1))
  have HO2 := Lib.hid hO2
  have HM2 := Lib.hid hM2
  clear ho2 hm2 hO2 hM2
  refine (rwrote_any B b A (u.size : Int) _ _ w2 HM2.out (by omega) (by omega) (by omega) hns hqs hcu).mono ?_
  rintro e w3 ⟨rfl, hM3, ho3⟩
  have e1 : RS.evs3 (RS.wrote { r with s := { r.s with ans := rest, mem := putAt r.s.mem A (bytesOf u) } } (wrOf A (u.size : Int))) = r.s.evs := by cases wrOf (A : Int) (u.size : Int) <;> rfl
  have q36 := hM3.mac.evs
  have g36 := hM3.mac.free 36
  have hown := hM3.evs
  have HO3 := Lib.hid (HO2.out.then ho3)
  have HM3 := Lib.hid hM3
  have hs3 := hM3.mac.lt
  have hev3 : (RS.wrote { r with s := { r.s with ans := rest, mem := putAt r.s.mem A (bytesOf u) } } (wrOf A (u.size : Int))).s.evs = r.s.evs := e1
  rw [hev3] at hown
  change w3.ownsRow B 86 3 x.evs r.s.evs.length (evCells r.s.evs) at hown
  change w3.cell? ⟨b, 36, none⟩ = some x.evs at q36
  have HOWN := Lib.hid hown
  have HE3 := Lib.hid hev3
  clear h10 h11 h12 h17 f10 k39 k41 f41 hown ho3 hM3 e1 hev3 h0c
  go_wp2_with (at_builtin; refine wpList_append_lies _ (by rfl) (.tmp 161) (.tmp 167) 39 (by rfl) B 86 i0 _ 3 24 Tryz.underlying39 hi hz0 hz1 hz2 (by rfl) (by omega) x.evs r.s.evs.length (evCells r.s.evs) (by rfl) (HOWN.out.alloc _) ⟨w3.heap.size, 0, none⟩ 1 1 [.int .u32 63, .int .u32 (u.size : Int), .string u] (by rfl) (by rfl) (World.news_of_block (heap_alloc_new w3 _)) (by simp [Value.oneCell']) (by omega) (by unfold maxLen; omega) (by omega) (by have := H.out.from_.1; simp; omega) (w3.heap.size + 1) (by simp) ?_)
  intro g cap w4 hown1 hgrow hat hlt
  obtain ⟨hM4, hO4, hm4⟩ := HM3.out.told (Ev.mk 63 (u.size : Int) u) ((Only.refl _ w3).alloc _) (by rw [HE3.out]; exact hown1) hgrow (by simpa using hat)
  rw [HE3.out] at hM4 hO4
  have q36 := hm4.evs
  change w4.cell? ⟨b, 36, none⟩ = some x.evs at q36
  have g36 := hm4.free 36
  have q12 := hm4.reg 10 (by omega)
  have g12 := hm4.free 12
  have hs4 := hm4.lt
  have HM4 := Lib.hid hM4
  have HO4 := Lib.hid (HO3.out.then hO4)
  clear hown1 hgrow hat hlt hm4 hM4 hO4
  go_wp2_with fail
  first | go_end0 | refine bodyPost_ret (results_none rfl _ _ _) rfl ?_
  exact RM.set10 _ HM4.out HO4.out (HD.out.trans (by cases wrOf (A : Int) (u.size : Int) <;> rfl))
set_option maxRecDepth 100000 in
set_option maxHeartbeats 400000 in
theorem rcall_read_fit_11 (B b : Nat) (r : RS) (hs : r.s.Ok) (next : Int) (hev : r.s.evs.length ≤ 1000000) (st0 : 0 ≤ r.s.steps) (st1 : r.s.steps ≤ 10000) (hns : r.slots.length ≤ 64) (hqs : ∀ q ∈ r.slots, SlotOk q) (hcu : SlotOk r.cur) (x : RRaw) (w : World) (h : RMach B w b r x) (hc : r.s.regs 17 = 63) (q : r.s.regs 11 = (r.s.mem.length : Int)) (t : ByteArray) (rest : List ByteArray) (ha : r.s.ans = t :: rest) (htl : t.size ≤ maxLen) (off cc : Nat) (hans : x.ans = .slice (some ⟨x.ab, off, none⟩) (rest.length + 1) cc) (hcc : rest.length + 1 ≤ cc) (hcm : cc ≤ 9223372036854775807) (c1 : cc = 1) (hta : TextsAt w x.ab (.slice (some ⟨x.ab, off, none⟩) rest.length 0) rest) (h0c : w.cell? ⟨x.ab, off, none⟩ = some (.string t)) (hle : t.size ≤ (r.s.regs 12).toNat) (u : ByteArray) (hu : u = t) (hus : u.size ≤ (r.s.regs 12).toNat) (hl : lies r.s (r.s.regs 11) (r.s.regs 12) = true) :
    Calls Tryz.prog 78 #[.pointer (some ⟨b, 0, none⟩)] w (RP B b w (.tuple #[]) (r.part (doCall r.s next))) := by
  have hd : r.part (doCall r.s next) = RS.setr { RS.wrote { r with s := { r.s with ans := rest, mem := putAt r.s.mem (r.s.regs 11) (bytesOf u) } } (wrOf (r.s.regs 11) u.size) with s := { r.s with ans := rest, mem := putAt r.s.mem (r.s.regs 11) (bytesOf u), evs := r.s.evs ++ [Ev.mk 63 u.size u] } } 10 u.size := by
    have e0 : t.extract 0 (r.s.regs 12).toNat = u := by rw [hu]; exact extract_all t _ hle
    simp only [RS.part, doCall, hc, hl, ha, List.headD_cons, List.tail_cons, e0]
    simp only [RS.setr, St.set]
    simp
    cases wrOf (r.s.regs 11) (u.size : Int) <;> rfl
  obtain ⟨i0, hi, hz0, hz1, hz2⟩ := info_parts evInfo
  obtain ⟨v0, v1⟩ := hs.regs 10
  obtain ⟨at0, at1⟩ := hs.regs 11
  obtain ⟨n0, n1⟩ := hs.regs 12
  have h10 := h.mac.reg 10 (by omega)
  have h11 := h.mac.reg 11 (by omega)
  have h12 := h.mac.reg 12 (by omega)
  have h17 := h.mac.reg 17 (by omega)
  have f10 := h.mac.free 12
  have hsz := h.mac.lt
  have hlen := hs.len
  rw [hc] at h17
  obtain ⟨A, hAd⟩ : ∃ A : Nat, r.s.regs 11 = A := ⟨(r.s.regs 11).toNat, by omega⟩
  obtain ⟨N, hNd⟩ : ∃ N : Nat, r.s.regs 12 = N := ⟨(r.s.regs 12).toNat, by omega⟩
  rw [hAd] at hl hd q
  rw [hNd] at hl
  rw [hAd] at h11 at0 at1
  rw [hNd] at h12 n0 n1
  rw [hNd, Int.toNat_natCast] at hle hus
  have hfit : A + N ≤ r.s.mem.length := by unfold lies at hl; simp at hl; omega
  have hA : A ≤ r.s.mem.length := by omega
  have hAb : (A : Int) ≤ (r.s.mem.length : Int) := by omega
  have w4 : r.s.mem.length = A := by omega
  have HAd := Lib.hid hAd
  have HNd := Lib.hid hNd
  clear hAd hNd at1 n1 q
  have HL := Lib.hid hl
  clear hc hl
  have k39 := h.mac.mem
  have k41 := h.mac.ans
  have f41 := h.mac.free 41
  rw [hans] at k41
  have HTA := Lib.hid hta
  unfold maxLen at htl
  clear hta hans ha
  subst hu
  have H := Lib.hid h
  have HD := Lib.hid hd
  clear h hd
  have hM1 : RMach B (w.setCell ⟨b, 41, none⟩ (.slice (some ⟨x.ab, off, none⟩) rest.length 0)) b { r with s := { r.s with ans := rest } } { x with ans := (.slice (some ⟨x.ab, off, none⟩) rest.length 0) } := H.out.struct ((Only.refl _ w).set1 _ _) ((H.out.mac.putAns _).sub rfl) rfl HTA.out rfl rfl rfl rfl
  have HM1 := Lib.hid hM1
  clear hM1
  go_enter Tryz.func78, Tryz.ntmps78
  go_wp2_with fail
  refine (rlies_any b A N r x _ ?_ (by omega) (by omega) (by omega) (by omega) hlen).mono ?_
  · repeat (first | with_reducible refine RAt.drew ?_ | with_reducible refine RAt.drewN ?_ _ | with_reducible refine RAt.alloc ?_ _)
    exact H.out.mac
  rintro e w1 ⟨rfl, rfl⟩
  rw [HL.out]
  go_wp2_with ((with_reducible refine wpList_copy_ex rfl (.tmp 147) (.tmp 148) 67 9 ?_ (.slice (some ⟨x.mb, 0, none⟩) 0 0) (.string u) ?_ ?_ (copy_mem _ _ x.mb A 0 0 r.s.mem (some ⟨x.mb, 0, none⟩) u HM1.out.mem (.inr (by omega)) (by omega) (by omega)) ?_); (focus rfl); (focus rfl); (focus rfl); rintro w2 ⟨ho2, hm2⟩)
  have hlp : (putAt r.s.mem (A : Int) (bytesOf u)).length = r.s.mem.length := putAt_len _ _ _ (by rw [bytesOf_len]; show A + u.size ≤ _; omega)
  have hM2 := HM1.out.memTo ho2 hm2 hlp
  have hO2 : Only (RUp B) w w2 := (((Only.refl _ w).set1 41 _).upb H.out.from_.1).then (ho2.mono (fun k _ e => by subst e; exact H.out.from_.2.1))
  have HO2 := Lib.hid hO2
  have HM2 := Lib.hid hM2
  clear ho2 hm2 hO2 hM2
  refine (rwrote_any B b A (u.size : Int) _ _ w2 HM2.out (by omega) (by omega) (by omega) hns hqs hcu).mono ?_
  rintro e w3 ⟨rfl, hM3, ho3⟩
  have e1 : RS.evs3 (RS.wrote { r with s := { r.s with ans := rest, mem := putAt r.s.mem A (bytesOf u) } } (wrOf A (u.size : Int))) = r.s.evs := by cases wrOf (A : Int) (u.size : Int) <;> rfl
  have q36 := hM3.mac.evs
  have g36 := hM3.mac.free 36
  have hown := hM3.evs
  have HO3 := Lib.hid (HO2.out.then ho3)
  have HM3 := Lib.hid hM3
  have hs3 := hM3.mac.lt
  have hev3 : (RS.wrote { r with s := { r.s with ans := rest, mem := putAt r.s.mem A (bytesOf u) } } (wrOf A (u.size : Int))).s.evs = r.s.evs := e1
  rw [hev3] at hown
  change w3.ownsRow B 86 3 x.evs r.s.evs.length (evCells r.s.evs) at hown
  change w3.cell? ⟨b, 36, none⟩ = some x.evs at q36
  have HOWN := Lib.hid hown
  have HE3 := Lib.hid hev3
  clear h10 h11 h12 h17 f10 k39 k41 f41 hown ho3 hM3 e1 hev3 h0c
  go_wp2_with (at_builtin; refine wpList_append_lies _ (by rfl) (.tmp 161) (.tmp 167) 39 (by rfl) B 86 i0 _ 3 24 Tryz.underlying39 hi hz0 hz1 hz2 (by rfl) (by omega) x.evs r.s.evs.length (evCells r.s.evs) (by rfl) (HOWN.out.alloc _) ⟨w3.heap.size, 0, none⟩ 1 1 [.int .u32 63, .int .u32 (u.size : Int), .string u] (by rfl) (by rfl) (World.news_of_block (heap_alloc_new w3 _)) (by simp [Value.oneCell']) (by omega) (by unfold maxLen; omega) (by omega) (by have := H.out.from_.1; simp; omega) (w3.heap.size + 1) (by simp) ?_)
  intro g cap w4 hown1 hgrow hat hlt
  obtain ⟨hM4, hO4, hm4⟩ := HM3.out.told (Ev.mk 63 (u.size : Int) u) ((Only.refl _ w3).alloc _) (by rw [HE3.out]; exact hown1) hgrow (by simpa using hat)
  rw [HE3.out] at hM4 hO4
  have q36 := hm4.evs
  change w4.cell? ⟨b, 36, none⟩ = some x.evs at q36
  have g36 := hm4.free 36
  have q12 := hm4.reg 10 (by omega)
  have g12 := hm4.free 12
  have hs4 := hm4.lt
  have HM4 := Lib.hid hM4
  have HO4 := Lib.hid (HO3.out.then hO4)
  clear hown1 hgrow hat hlt hm4 hM4 hO4
  go_wp2_with fail
  first | go_end0 | refine bodyPost_ret (results_none rfl _ _ _) rfl ?_
  exact RM.set10 _ HM4.out HO4.out (HD.out.trans (by cases wrOf (A : Int) (u.size : Int) <;> rfl))
set_option maxRecDepth 100000 in
set_option maxHeartbeats 400000 in
theorem rcall_read_cut_00 (B b : Nat) (r : RS) (hs : r.s.Ok) (next : Int) (hev : r.s.evs.length ≤ 1000000) (st0 : 0 ≤ r.s.steps) (st1 : r.s.steps ≤ 10000) (hns : r.slots.length ≤ 64) (hqs : ∀ q ∈ r.slots, SlotOk q) (hcu : SlotOk r.cur) (x : RRaw) (w : World) (h : RMach B w b r x) (hc : r.s.regs 17 = 63) (q : r.s.regs 11 < (r.s.mem.length : Int)) (t : ByteArray) (rest : List ByteArray) (ha : r.s.ans = t :: rest) (htl : t.size ≤ maxLen) (off cc : Nat) (hans : x.ans = .slice (some ⟨x.ab, off, none⟩) (rest.length + 1) cc) (hcc : rest.length + 1 ≤ cc) (hcm : cc ≤ 9223372036854775807) (c1 : ¬ cc = 1) (hta : TextsAt w x.ab (.slice (some ⟨x.ab, off + 1, none⟩) rest.length (cc - 1)) rest) (h0c : w.cell? ⟨x.ab, off, none⟩ = some (.string t)) (hle : (r.s.regs 12).toNat < t.size) (u : ByteArray) (hu : u = t.extract 0 (r.s.regs 12).toNat) (hus : u.size ≤ (r.s.regs 12).toNat) (hl : lies r.s (r.s.regs 11) (r.s.regs 12) = true) :
    Calls Tryz.prog 78 #[.pointer (some ⟨b, 0, none⟩)] w (RP B b w (.tuple #[]) (r.part (doCall r.s next))) := by
  have hd : r.part (doCall r.s next) = RS.setr { RS.wrote { r with s := { r.s with ans := rest, mem := putAt r.s.mem (r.s.regs 11) (bytesOf u) } } (wrOf (r.s.regs 11) u.size) with s := { r.s with ans := rest, mem := putAt r.s.mem (r.s.regs 11) (bytesOf u), evs := r.s.evs ++ [Ev.mk 63 u.size u] } } 10 u.size := by
    have e0 : t.extract 0 (r.s.regs 12).toNat = u := hu.symm
    simp only [RS.part, doCall, hc, hl, ha, List.headD_cons, List.tail_cons, e0]
    simp only [RS.setr, St.set]
    simp
    cases wrOf (r.s.regs 11) (u.size : Int) <;> rfl
  obtain ⟨i0, hi, hz0, hz1, hz2⟩ := info_parts evInfo
  obtain ⟨v0, v1⟩ := hs.regs 10
  obtain ⟨at0, at1⟩ := hs.regs 11
  obtain ⟨n0, n1⟩ := hs.regs 12
  have h10 := h.mac.reg 10 (by omega)
  have h11 := h.mac.reg 11 (by omega)
  have h12 := h.mac.reg 12 (by omega)
  have h17 := h.mac.reg 17 (by omega)
  have f10 := h.mac.free 12
  have hsz := h.mac.lt
  have hlen := hs.len
  rw [hc] at h17
  obtain ⟨A, hAd⟩ : ∃ A : Nat, r.s.regs 11 = A := ⟨(r.s.regs 11).toNat, by omega⟩
  obtain ⟨N, hNd⟩ : ∃ N : Nat, r.s.regs 12 = N := ⟨(r.s.regs 12).toNat, by omega⟩
  rw [hAd] at hl hd q
  rw [hNd] at hl
  rw [hAd] at h11 at0 at1
  rw [hNd] at h12 n0 n1
  rw [hNd, Int.toNat_natCast] at hle hus
  rw [hNd, Int.toNat_natCast] at hu
  have hfit : A + N ≤ r.s.mem.length := by unfold lies at hl; simp at hl; omega
  have hA : A ≤ r.s.mem.length := by omega
  have hAb : (A : Int) ≤ (r.s.mem.length : Int) := by omega
  have w4 : ¬ r.s.mem.length = A := by omega
  have HAd := Lib.hid hAd
  have HNd := Lib.hid hNd
  clear hAd hNd at1 n1 q
  have HL := Lib.hid hl
  clear hc hl
  have k39 := h.mac.mem
  have k41 := h.mac.ans
  have f41 := h.mac.free 41
  rw [hans] at k41
  have HTA := Lib.hid hta
  unfold maxLen at htl
  clear hta hans ha
  have HU := Lib.hid hu
  clear hu
  have H := Lib.hid h
  have HD := Lib.hid hd
  clear h hd
  have hM1 : RMach B (w.setCell ⟨b, 41, none⟩ (.slice (some ⟨x.ab, off + 1, none⟩) rest.length (cc - 1))) b { r with s := { r.s with ans := rest } } { x with ans := (.slice (some ⟨x.ab, off + 1, none⟩) rest.length (cc - 1)) } := H.out.struct ((Only.refl _ w).set1 _ _) ((H.out.mac.putAns _).sub rfl) rfl HTA.out rfl rfl rfl rfl
  have HM1 := Lib.hid hM1
  clear hM1
  have hsu : (t.extract 0 N).size = u.size := by rw [← HU.out]
  have hsv : t.extract 0 N = u := HU.out.symm
  go_enter Tryz.func78, Tryz.ntmps78
  go_wp2_with fail
  refine (rlies_any b A N r x _ ?_ (by omega) (by omega) (by omega) (by omega) hlen).mono ?_
  · repeat (first | with_reducible refine RAt.drew ?_ | with_reducible refine RAt.drewN ?_ _ | with_reducible refine RAt.alloc ?_ _)
    exact H.out.mac
  rintro e w1 ⟨rfl, rfl⟩
  rw [HL.out]
  go_wp2_with ((with_reducible refine wpList_copy_ex rfl (.tmp 147) (.tmp 148) 67 9 ?_ (.slice (some ⟨x.mb, A, none⟩) (r.s.mem.length - A) (r.s.mem.length - A)) (.string u) ?_ ?_ (copy_mem _ _ x.mb A (r.s.mem.length - A) (r.s.mem.length - A) r.s.mem (some ⟨x.mb, A, none⟩) u HM1.out.mem (.inl rfl) (by omega) (by omega)) ?_); (focus rfl); (focus rfl); (focus rfl); rintro w2 ⟨ho2, hm2⟩)
  have hlp : (putAt r.s.mem (A : Int) (bytesOf u)).length = r.s.mem.length := putAt_len _ _ _ (by rw [bytesOf_len]; show A + u.size ≤ _; omega)
  have hM2 := HM1.out.memTo ho2 hm2 hlp
  have hO2 : Only (RUp B) w w2 := (((Only.refl _ w).set1 41 _).upb H.out.from_.1).then (ho2.mono (fun k _ e => by subst e; exact H.out.from_.2.1))
  have HO2 := Lib.hid hO2
  have HM2 := Lib.hid hM2
  clear ho2 hm2 hO2 hM2
  refine (rwrote_any B b A (u.size : Int) _ _ w2 HM2.out (by omega) (by omega) (by omega) hns hqs hcu).mono ?_
  rintro e w3 ⟨rfl, hM3, ho3⟩
  have e1 : RS.evs3 (RS.wrote { r with s := { r.s with ans := rest, mem := putAt r.s.mem A (bytesOf u) } } (wrOf A (u.size : Int))) = r.s.evs := by cases wrOf (A : Int) (u.size : Int) <;> rfl
  have q36 := hM3.mac.evs
  have g36 := hM3.mac.free 36
  have hown := hM3.evs
  have HO3 := Lib.hid (HO2.out.then ho3)
  have HM3 := Lib.hid hM3
  have hs3 := hM3.mac.lt
  have hev3 : (RS.wrote { r with s := { r.s with ans := rest, mem := putAt r.s.mem A (bytesOf u) } } (wrOf A (u.size : Int))).s.evs = r.s.evs := e1
  rw [hev3] at hown
  change w3.ownsRow B 86 3 x.evs r.s.evs.length (evCells r.s.evs) at hown
  change w3.cell? ⟨b, 36, none⟩ = some x.evs at q36
  have HOWN := Lib.hid hown
  have HE3 := Lib.hid hev3
  clear h10 h11 h12 h17 f10 k39 k41 f41 hown ho3 hM3 e1 hev3 h0c
  go_wp2_with (at_builtin; refine wpList_append_lies _ (by rfl) (.tmp 161) (.tmp 167) 39 (by rfl) B 86 i0 _ 3 24 Tryz.underlying39 hi hz0 hz1 hz2 (by rfl) (by omega) x.evs r.s.evs.length (evCells r.s.evs) (by rfl) (HOWN.out.alloc _) ⟨w3.heap.size, 0, none⟩ 1 1 [.int .u32 63, .int .u32 (u.size : Int), .string u] (by rfl) (by rfl) (World.news_of_block (heap_alloc_new w3 _)) (by simp [Value.oneCell']) (by omega) (by unfold maxLen; omega) (by omega) (by have := H.out.from_.1; simp; omega) (w3.heap.size + 1) (by simp) ?_)
  intro g cap w4 hown1 hgrow hat hlt
  obtain ⟨hM4, hO4, hm4⟩ := HM3.out.told (Ev.mk 63 (u.size : Int) u) ((Only.refl _ w3).alloc _) (by rw [HE3.out]; exact hown1) hgrow (by simpa using hat)
  rw [HE3.out] at hM4 hO4
  have q36 := hm4.evs
  change w4.cell? ⟨b, 36, none⟩ = some x.evs at q36
  have g36 := hm4.free 36
  have q12 := hm4.reg 10 (by omega)
  have g12 := hm4.free 12
  have hs4 := hm4.lt
  have HM4 := Lib.hid hM4
  have HO4 := Lib.hid (HO3.out.then hO4)
  clear hown1 hgrow hat hlt hm4 hM4 hO4
  go_wp2_with fail
  first | go_end0 | refine bodyPost_ret (results_none rfl _ _ _) rfl ?_
  exact RM.set10 _ HM4.out HO4.out (HD.out.trans (by cases wrOf (A : Int) (u.size : Int) <;> rfl))
set_option maxRecDepth 100000 in
set_option maxHeartbeats 400000 in
theorem rcall_read_cut_01 (B b : Nat) (r : RS) (hs : r.s.Ok) (next : Int) (hev : r.s.evs.length ≤ 1000000) (st0 : 0 ≤ r.s.steps) (st1 : r.s.steps ≤ 10000) (hns : r.slots.length ≤ 64) (hqs : ∀ q ∈ r.slots, SlotOk q) (hcu : SlotOk r.cur) (x : RRaw) (w : World) (h : RMach B w b r x) (hc : r.s.regs 17 = 63) (q : r.s.regs 11 < (r.s.mem.length : Int)) (t : ByteArray) (rest : List ByteArray) (ha : r.s.ans = t :: rest) (htl : t.size ≤ maxLen) (off cc : Nat) (hans : x.ans = .slice (some ⟨x.ab, off, none⟩) (rest.length + 1) cc) (hcc : rest.length + 1 ≤ cc) (hcm : cc ≤ 9223372036854775807) (c1 : cc = 1) (hta : TextsAt w x.ab (.slice (some ⟨x.ab, off, none⟩) rest.length 0) rest) (h0c : w.cell? ⟨x.ab, off, none⟩ = some (.string t)) (hle : (r.s.regs 12).toNat < t.size) (u : ByteArray) (hu : u = t.extract 0 (r.s.regs 12).toNat) (hus : u.size ≤ (r.s.regs 12).toNat) (hl : lies r.s (r.s.regs 11) (r.s.regs 12) = true) :
    Calls Tryz.prog 78 #[.pointer (some ⟨b, 0, none⟩)] w (RP B b w (.tuple #[]) (r.part (doCall r.s next))) := by
  have hd : r.part (doCall r.s next) = RS.setr { RS.wrote { r with s := { r.s with ans := rest, mem := putAt r.s.mem (r.s.regs 11) (bytesOf u) } } (wrOf (r.s.regs 11) u.size) with s := { r.s with ans := rest, mem := putAt r.s.mem (r.s.regs 11) (bytesOf u), evs := r.s.evs ++ [Ev.mk 63 u.size u] } } 10 u.size := by
    have e0 : t.extract 0 (r.s.regs 12).toNat = u := hu.symm
    simp only [RS.part, doCall, hc, hl, ha, List.headD_cons, List.tail_cons, e0]
    simp only [RS.setr, St.set]
    simp
    cases wrOf (r.s.regs 11) (u.size : Int) <;> rfl
  obtain ⟨i0, hi, hz0, hz1, hz2⟩ := info_parts evInfo
  obtain ⟨v0, v1⟩ := hs.regs 10
  obtain ⟨at0, at1⟩ := hs.regs 11
  obtain ⟨n0, n1⟩ := hs.regs 12
  have h10 := h.mac.reg 10 (by omega)
  have h11 := h.mac.reg 11 (by omega)
  have h12 := h.mac.reg 12 (by omega)
  have h17 := h.mac.reg 17 (by omega)
  have f10 := h.mac.free 12
  have hsz := h.mac.lt
  have hlen := hs.len
  rw [hc] at h17
  obtain ⟨A, hAd⟩ : ∃ A : Nat, r.s.regs 11 = A := ⟨(r.s.regs 11).toNat, by omega⟩
  obtain ⟨N, hNd⟩ : ∃ N : Nat, r.s.regs 12 = N := ⟨(r.s.regs 12).toNat, by omega⟩
  rw [hAd] at hl hd q
  rw [hNd] at hl
  rw [hAd] at h11 at0 at1
  rw [hNd] at h12 n0 n1
  rw [hNd, Int.toNat_natCast] at hle hus
  rw [hNd, Int.toNat_natCast] at hu
  have hfit : A + N ≤ r.s.mem.length := by unfold lies at hl; simp at hl; omega
  have hA : A ≤ r.s.mem.length := by omega
  have hAb : (A : Int) ≤ (r.s.mem.length : Int) := by omega
  have w4 : ¬ r.s.mem.length = A := by omega
  have HAd := Lib.hid hAd
  have HNd := Lib.hid hNd
  clear hAd hNd at1 n1 q
  have HL := Lib.hid hl
  clear hc hl
  have k39 := h.mac.mem
  have k41 := h.mac.ans
  have f41 := h.mac.free 41
  rw [hans] at k41
  have HTA := Lib.hid hta
  unfold maxLen at htl
  clear hta hans ha
  have HU := Lib.hid hu
  clear hu
  have H := Lib.hid h
  have HD := Lib.hid hd
  clear h hd
  have hM1 : RMach B (w.setCell ⟨b, 41, none⟩ (.slice (some ⟨x.ab, off, none⟩) rest.length 0)) b { r with s := { r.s with ans := rest } } { x with ans := (.slice (some ⟨x.ab, off, none⟩) rest.length 0) } := H.out.struct ((Only.refl _ w).set1 _ _) ((H.out.mac.putAns _).sub rfl) rfl HTA.out rfl rfl rfl rfl
  have HM1 := Lib.hid hM1
  clear hM1
  have hsu : (t.extract 0 N).size = u.size := by rw [← HU.out]
  have hsv : t.extract 0 N = u := HU.out.symm
  go_enter Tryz.func78, Tryz.ntmps78
  go_wp2_with fail
  refine (rlies_any b A N r x _ ?_ (by omega) (by omega) (by omega) (by omega) hlen).mono ?_
  · repeat (first | with_reducible refine RAt.drew ?_ | with_reducible refine RAt.drewN ?_ _ | with_reducible refine RAt.alloc ?_ _)
    exact H.out.mac
  rintro e w1 ⟨rfl, rfl⟩
  rw [HL.out]
  go_wp2_with ((with_reducible refine wpList_copy_ex rfl (.tmp 147) (.tmp 148) 67 9 ?_ (.slice (some ⟨x.mb, A, none⟩) (r.s.mem.length - A) (r.s.mem.length - A)) (.string u) ?_ ?_ (copy_mem _ _ x.mb A (r.s.mem.length - A) (r.s.mem.length - A) r.s.mem (some ⟨x.mb, A, none⟩) u HM1.out.mem (.inl rfl) (by omega) (by omega)) ?_); (focus rfl); (focus rfl); (focus rfl); rintro w2 ⟨ho2, hm2⟩)
  have hlp : (putAt r.s.mem (A : Int) (bytesOf u)).length = r.s.mem.length := putAt_len _ _ _ (by rw [bytesOf_len]; show A + u.size ≤ _; omega)
  have hM2 := HM1.out.memTo ho2 hm2 hlp
  have hO2 : Only (RUp B) w w2 := (((Only.refl _ w).set1 41 _).upb H.out.from_.1).then (ho2.mono (fun k _ e => by subst e; exact H.out.from_.2.1))
  have HO2 := Lib.hid hO2
  have HM2 := Lib.hid hM2
  clear ho2 hm2 hO2 hM2
  refine (rwrote_any B b A (u.size : Int) _ _ w2 HM2.out (by omega) (by omega) (by omega) hns hqs hcu).mono ?_
  rintro e w3 ⟨rfl, hM3, ho3⟩
  have e1 : RS.evs3 (RS.wrote { r with s := { r.s with ans := rest, mem := putAt r.s.mem A (bytesOf u) } } (wrOf A (u.size : Int))) = r.s.evs := by cases wrOf (A : Int) (u.size : Int) <;> rfl
  have q36 := hM3.mac.evs
  have g36 := hM3.mac.free 36
  have hown := hM3.evs
  have HO3 := Lib.hid (HO2.out.then ho3)
  have HM3 := Lib.hid hM3
  have hs3 := hM3.mac.lt
  have hev3 : (RS.wrote { r with s := { r.s with ans := rest, mem := putAt r.s.mem A (bytesOf u) } } (wrOf A (u.size : Int))).s.evs = r.s.evs := e1
  rw [hev3] at hown
  change w3.ownsRow B 86 3 x.evs r.s.evs.length (evCells r.s.evs) at hown
  change w3.cell? ⟨b, 36, none⟩ = some x.evs at q36
  have HOWN := Lib.hid hown
  have HE3 := Lib.hid hev3
  clear h10 h11 h12 h17 f10 k39 k41 f41 hown ho3 hM3 e1 hev3 h0c
  go_wp2_with (at_builtin; refine wpList_append_lies _ (by rfl) (.tmp 161) (.tmp 167) 39 (by rfl) B 86 i0 _ 3 24 Tryz.underlying39 hi hz0 hz1 hz2 (by rfl) (by omega) x.evs r.s.evs.length (evCells r.s.evs) (by rfl) (HOWN.out.alloc _) ⟨w3.heap.size, 0, none⟩ 1 1 [.int .u32 63, .int .u32 (u.size : Int), .string u] (by rfl) (by rfl) (World.news_of_block (heap_alloc_new w3 _)) (by simp [Value.oneCell']) (by omega) (by unfold maxLen; omega) (by omega) (by have := H.out.from_.1; simp; omega) (w3.heap.size + 1) (by simp) ?_)
  intro g cap w4 hown1 hgrow hat hlt
  obtain ⟨hM4, hO4, hm4⟩ := HM3.out.told (Ev.mk 63 (u.size : Int) u) ((Only.refl _ w3).alloc _) (by rw [HE3.out]; exact hown1) hgrow (by simpa using hat)
  rw [HE3.out] at hM4 hO4
  have q36 := hm4.evs
  change w4.cell? ⟨b, 36, none⟩ = some x.evs at q36
  have g36 := hm4.free 36
  have q12 := hm4.reg 10 (by omega)
  have g12 := hm4.free 12
  have hs4 := hm4.lt
  have HM4 := Lib.hid hM4
  have HO4 := Lib.hid (HO3.out.then hO4)
  clear hown1 hgrow hat hlt hm4 hM4 hO4
  go_wp2_with fail
  first | go_end0 | refine bodyPost_ret (results_none rfl _ _ _) rfl ?_
  exact RM.set10 _ HM4.out HO4.out (HD.out.trans (by cases wrOf (A : Int) (u.size : Int) <;> rfl))
set_option maxRecDepth 100000 in
set_option maxHeartbeats 400000 in
theorem rcall_read_cut_10 (B b : Nat) (r : RS) (hs : r.s.Ok) (next : Int) (hev : r.s.evs.length ≤ 1000000) (st0 : 0 ≤ r.s.steps) (st1 : r.s.steps ≤ 10000) (hns : r.slots.length ≤ 64) (hqs : ∀ q ∈ r.slots, SlotOk q) (hcu : SlotOk r.cur) (x : RRaw) (w : World) (h : RMach B w b r x) (hc : r.s.regs 17 = 63) (q : r.s.regs 11 = (r.s.mem.length : Int)) (t : ByteArray) (rest : List ByteArray) (ha : r.s.ans = t :: rest) (htl : t.size ≤ maxLen) (off cc : Nat) (hans : x.ans = .slice (some ⟨x.ab, off, none⟩) (rest.length + 1) cc) (hcc : rest.length + 1 ≤ cc) (hcm : cc ≤ 9223372036854775807) (c1 : ¬ cc = 1) (hta : TextsAt w x.ab (.slice (some ⟨x.ab, off + 1, none⟩) rest.length (cc - 1)) rest) (h0c : w.cell? ⟨x.ab, off, none⟩ = some (.string t)) (hle : (r.s.regs 12).toNat < t.size) (u : ByteArray) (hu : u = t.extract 0 (r.s.regs 12).toNat) (hus : u.size ≤ (r.s.regs 12).toNat) (hl : lies r.s (r.s.regs 11) (r.s.regs 12) = true) :
    Calls Tryz.prog 78 #[.pointer (some ⟨b, 0, none⟩)] w (RP B b w (.tuple #[]) (r.part (doCall r.s next))) := by
  have hd : r.part (doCall r.s next) = RS.setr { RS.wrote { r with s := { r.s with ans := rest, mem := putAt r.s.mem (r.s.regs 11) (bytesOf u) } } (wrOf (r.s.regs 11) u.size) with s := { r.s with ans := rest, mem := putAt r.s.mem (r.s.regs 11) (bytesOf u), evs := r.s.evs ++ [Ev.mk 63 u.size u] } } 10 u.size := by
    have e0 : t.extract 0 (r.s.regs 12).toNat = u := hu.symm
    simp only [RS.part, doCall, hc, hl, ha, List.headD_cons, List.tail_cons, e0]
    simp only [RS.setr, St.set]
    simp
    cases wrOf (r.s.regs 11) (u.size : Int) <;> rfl
  obtain ⟨i0, hi, hz0, hz1, hz2⟩ := info_parts evInfo
  obtain ⟨v0, v1⟩ := hs.regs 10
  obtain ⟨at0, at1⟩ := hs.regs 11
  obtain ⟨n0, n1⟩ := hs.regs 12
  have h10 := h.mac.reg 10 (by omega)
  have h11 := h.mac.reg 11 (by omega)
  have h12 := h.mac.reg 12 (by omega)
  have h17 := h.mac.reg 17 (by omega)
  have f10 := h.mac.free 12
  have hsz := h.mac.lt
  have hlen := hs.len
  rw [hc] at h17
  obtain ⟨A, hAd⟩ : ∃ A : Nat, r.s.regs 11 = A := ⟨(r.s.regs 11).toNat, by omega⟩
  obtain ⟨N, hNd⟩ : ∃ N : Nat, r.s.regs 12 = N := ⟨(r.s.regs 12).toNat, by omega⟩
  rw [hAd] at hl hd q
  rw [hNd] at hl
  rw [hAd] at h11 at0 at1
  rw [hNd] at h12 n0 n1
  rw [hNd, Int.toNat_natCast] at hle hus
  rw [hNd, Int.toNat_natCast] at hu
  have hfit : A + N ≤ r.s.mem.length := by unfold lies at hl; simp at hl; omega
  have hA : A ≤ r.s.mem.length := by omega
  have hAb : (A : Int) ≤ (r.s.mem.length : Int) := by omega
  have w4 : r.s.mem.length = A := by omega
  have HAd := Lib.hid hAd
  have HNd := Lib.hid hNd
  clear hAd hNd at1 n1 q
  have HL := Lib.hid hl
  clear hc hl
  have k39 := h.mac.mem
  have k41 := h.mac.ans
  have f41 := h.mac.free 41
  rw [hans] at k41
  have HTA := Lib.hid hta
  unfold maxLen at htl
  clear hta hans ha
  have HU := Lib.hid hu
  clear hu
  have H := Lib.hid h
  have HD := Lib.hid hd
  clear h hd
  have hM1 : RMach B (w.setCell ⟨b, 41, none⟩ (.slice (some ⟨x.ab, off + 1, none⟩) rest.length (cc - 1))) b { r with s := { r.s with ans := rest } } { x with ans := (.slice (some ⟨x.ab, off + 1, none⟩) rest.length (cc - 1)) } := H.out.struct ((Only.refl _ w).set1 _ _) ((H.out.mac.putAns _).sub rfl) rfl HTA.out rfl rfl rfl rfl
  have HM1 := Lib.hid hM1
  clear hM1
  have hsu : (t.extract 0 N).size = u.size := by rw [← HU.out]
  have hsv : t.extract 0 N = u := HU.out.symm
  go_enter Tryz.func78, Tryz.ntmps78
  go_wp2_with fail
  refine (rlies_any b A N r x _ ?_ (by omega) (by omega) (by omega) (by omega) hlen).mono ?_
  · repeat (first | with_reducible refine RAt.drew ?_ | with_reducible refine RAt.drewN ?_ _ | with_reducible refine RAt.alloc ?_ _)
    exact H.out.mac
  rintro e w1 ⟨rfl, rfl⟩
  rw [HL.out]
  go_wp2_with ((with_reducible refine wpList_copy_ex rfl (.tmp 147) (.tmp 148) 67 9 ?_ (.slice (some ⟨x.mb, 0, none⟩) 0 0) (.string u) ?_ ?_ (copy_mem _ _ x.mb A 0 0 r.s.mem (some ⟨x.mb, 0, none⟩) u HM1.out.mem (.inr (by omega)) (by omega) (by omega)) ?_); (focus rfl); (focus rfl); (focus rfl); rintro w2 ⟨ho2, hm2⟩)
  have hlp : (putAt r.s.mem (A : Int) (bytesOf u)).length = r.s.mem.length := putAt_len _ _ _ (by rw [bytesOf_len]; show A + u.size ≤ _; omega)
  have hM2 := HM1.out.memTo ho2 hm2 hlp
  have hO2 : Only (RUp B) w w2 := (((Only.refl _ w).set1 41 _).upb H.out.from_.1).then (ho2.mono (fun k _ e => by subst e; exact H.out.from_.2.1))
  have HO2 := Lib.hid hO2
  have HM2 := Lib.hid hM2
  clear ho2 hm2 hO2 hM2
  refine (rwrote_any B b A (u.size : Int) _ _ w2 HM2.out (by omega) (by omega) (by omega) hns hqs hcu).mono ?_
  rintro e w3 ⟨rfl, hM3, ho3⟩
  have e1 : RS.evs3 (RS.wrote { r with s := { r.s with ans := rest, mem := putAt r.s.mem A (bytesOf u) } } (wrOf A (u.size : Int))) = r.s.evs := by cases wrOf (A : Int) (u.size : Int) <;> rfl
  have q36 := hM3.mac.evs
  have g36 := hM3.mac.free 36
  have hown := hM3.evs
  have HO3 := Lib.hid (HO2.out.then ho3)
  have HM3 := Lib.hid hM3
  have hs3 := hM3.mac.lt
  have hev3 : (RS.wrote { r with s := { r.s with ans := rest, mem := putAt r.s.mem A (bytesOf u) } } (wrOf A (u.size : Int))).s.evs = r.s.evs := e1
  rw [hev3] at hown
  change w3.ownsRow B 86 3 x.evs r.s.evs.length (evCells r.s.evs) at hown
  change w3.cell? ⟨b, 36, none⟩ = some x.evs at q36
  have HOWN := Lib.hid hown
  have HE3 := Lib.hid hev3
  clear h10 h11 h12 h17 f10 k39 k41 f41 hown ho3 hM3 e1 hev3 h0c
  go_wp2_with (at_builtin; refine wpList_append_lies _ (by rfl) (.tmp 161) (.tmp 167) 39 (by rfl) B 86 i0 _ 3 24 Tryz.underlying39 hi hz0 hz1 hz2 (by rfl) (by omega) x.evs r.s.evs.length (evCells r.s.evs) (by rfl) (HOWN.out.alloc _) ⟨w3.heap.size, 0, none⟩ 1 1 [.int .u32 63, .int .u32 (u.size : Int), .string u] (by rfl) (by rfl) (World.news_of_block (heap_alloc_new w3 _)) (by simp [Value.oneCell']) (by omega) (by unfold maxLen; omega) (by omega) (by have := H.out.from_.1; simp; omega) (w3.heap.size + 1) (by simp) ?_)
  intro g cap w4 hown1 hgrow hat hlt
  obtain ⟨hM4, hO4, hm4⟩ := HM3.out.told (Ev.mk 63 (u.size : Int) u) ((Only.refl _ w3).alloc _) (by rw [HE3.out]; exact hown1) hgrow (by simpa using hat)
  rw [HE3.out] at hM4 hO4
  have q36 := hm4.evs
  change w4.cell? ⟨b, 36, none⟩ = some x.evs at q36
  have g36 := hm4.free 36
  have q12 := hm4.reg 10 (by omega)
  have g12 := hm4.free 12
  have hs4 := hm4.lt
  have HM4 := Lib.hid hM4
  have HO4 := Lib.hid (HO3.out.then hO4)
  clear hown1 hgrow hat hlt hm4 hM4 hO4
  go_wp2_with fail
  first | go_end0 | refine bodyPost_ret (results_none rfl _ _ _) rfl ?_
  exact RM.set10 _ HM4.out HO4.out (HD.out.trans (by cases wrOf (A : Int) (u.size : Int) <;> rfl))
set_option maxRecDepth 100000 in
set_option maxHeartbeats 400000 in
theorem rcall_read_cut_11 (B b : Nat) (r : RS) (hs : r.s.Ok) (next : Int) (hev : r.s.evs.length ≤ 1000000) (st0 : 0 ≤ r.s.steps) (st1 : r.s.steps ≤ 10000) (hns : r.slots.length ≤ 64) (hqs : ∀ q ∈ r.slots, SlotOk q) (hcu : SlotOk r.cur) (x : RRaw) (w : World) (h : RMach B w b r x) (hc : r.s.regs 17 = 63) (q : r.s.regs 11 = (r.s.mem.length : Int)) (t : ByteArray) (rest : List ByteArray) (ha : r.s.ans = t :: rest) (htl : t.size ≤ maxLen) (off cc : Nat) (hans : x.ans = .slice (some ⟨x.ab, off, none⟩) (rest.length + 1) cc) (hcc : rest.length + 1 ≤ cc) (hcm : cc ≤ 9223372036854775807) (c1 : cc = 1) (hta : TextsAt w x.ab (.slice (some ⟨x.ab, off, none⟩) rest.length 0) rest) (h0c : w.cell? ⟨x.ab, off, none⟩ = some (.string t)) (hle : (r.s.regs 12).toNat < t.size) (u : ByteArray) (hu : u = t.extract 0 (r.s.regs 12).toNat) (hus : u.size ≤ (r.s.regs 12).toNat) (hl : lies r.s (r.s.regs 11) (r.s.regs 12) = true) :
    Calls Tryz.prog 78 #[.pointer (some ⟨b, 0, none⟩)] w (RP B b w (.tuple #[]) (r.part (doCall r.s next))) := by
  have hd : r.part (doCall r.s next) = RS.setr { RS.wrote { r with s := { r.s with ans := rest, mem := putAt r.s.mem (r.s.regs 11) (bytesOf u) } } (wrOf (r.s.regs 11) u.size) with s := { r.s with ans := rest, mem := putAt r.s.mem (r.s.regs 11) (bytesOf u), evs := r.s.evs ++ [Ev.mk 63 u.size u] } } 10 u.size := by
    have e0 : t.extract 0 (r.s.regs 12).toNat = u := hu.symm
    simp only [RS.part, doCall, hc, hl, ha, List.headD_cons, List.tail_cons, e0]
    simp only [RS.setr, St.set]
    simp
    cases wrOf (r.s.regs 11) (u.size : Int) <;> rfl
  obtain ⟨i0, hi, hz0, hz1, hz2⟩ := info_parts evInfo
  obtain ⟨v0, v1⟩ := hs.regs 10
  obtain ⟨at0, at1⟩ := hs.regs 11
  obtain ⟨n0, n1⟩ := hs.regs 12
  have h10 := h.mac.reg 10 (by omega)
  have h11 := h.mac.reg 11 (by omega)
  have h12 := h.mac.reg 12 (by omega)
  have h17 := h.mac.reg 17 (by omega)
  have f10 := h.mac.free 12
  have hsz := h.mac.lt
  have hlen := hs.len
  rw [hc] at h17
  obtain ⟨A, hAd⟩ : ∃ A : Nat, r.s.regs 11 = A := ⟨(r.s.regs 11).toNat, by omega⟩
  obtain ⟨N, hNd⟩ : ∃ N : Nat, r.s.regs 12 = N := ⟨(r.s.regs 12).toNat, by omega⟩
  rw [hAd] at hl hd q
  rw [hNd] at hl
  rw [hAd] at h11 at0 at1
  rw [hNd] at h12 n0 n1
  rw [hNd, Int.toNat_natCast] at hle hus
  rw [hNd, Int.toNat_natCast] at hu
  have hfit : A + N ≤ r.s.mem.length := by unfold lies at hl; simp at hl; omega
  have hA : A ≤ r.s.mem.length := by omega
  have hAb : (A : Int) ≤ (r.s.mem.length : Int) := by omega
  have w4 : r.s.mem.length = A := by omega
  have HAd := Lib.hid hAd
  have HNd := Lib.hid hNd
  clear hAd hNd at1 n1 q
  have HL := Lib.hid hl
  clear hc hl
  have k39 := h.mac.mem
  have k41 := h.mac.ans
  have f41 := h.mac.free 41
  rw [hans] at k41
  have HTA := Lib.hid hta
  unfold maxLen at htl
  clear hta hans ha
  have HU := Lib.hid hu
  clear hu
  have H := Lib.hid h
  have HD := Lib.hid hd
  clear h hd
  have hM1 : RMach B (w.setCell ⟨b, 41, none⟩ (.slice (some ⟨x.ab, off, none⟩) rest.length 0)) b { r with s := { r.s with ans := rest } } { x with ans := (.slice (some ⟨x.ab, off, none⟩) rest.length 0) } := H.out.struct ((Only.refl _ w).set1 _ _) ((H.out.mac.putAns _).sub rfl) rfl HTA.out rfl rfl rfl rfl
  have HM1 := Lib.hid hM1
  clear hM1
  have hsu : (t.extract 0 N).size = u.size := by rw [← HU.out]
  have hsv : t.extract 0 N = u := HU.out.symm
  go_enter Tryz.func78, Tryz.ntmps78
  go_wp2_with fail
  refine (rlies_any b A N r x _ ?_ (by omega) (by omega) (by omega) (by omega) hlen).mono ?_
  · repeat (first | with_reducible refine RAt.drew ?_ | with_reducible refine RAt.drewN ?_ _ | with_reducible refine RAt.alloc ?_ _)
    exact H.out.mac
  rintro e w1 ⟨rfl, rfl⟩
  rw [HL.out]
  go_wp2_with ((with_reducible refine wpList_copy_ex rfl (.tmp 147) (.tmp 148) 67 9 ?_ (.slice (some ⟨x.mb, 0, none⟩) 0 0) (.string u) ?_ ?_ (copy_mem _ _ x.mb A 0 0 r.s.mem (some ⟨x.mb, 0, none⟩) u HM1.out.mem (.inr (by omega)) (by omega) (by omega)) ?_); (focus rfl); (focus rfl); (focus rfl); rintro w2 ⟨ho2, hm2⟩)
  have hlp : (putAt r.s.mem (A : Int) (bytesOf u)).length = r.s.mem.length := putAt_len _ _ _ (by rw [bytesOf_len]; show A + u.size ≤ _; omega)
  have hM2 := HM1.out.memTo ho2 hm2 hlp
  have hO2 : Only (RUp B) w w2 := (((Only.refl _ w).set1 41 _).upb H.out.from_.1).then (ho2.mono (fun k _ e => by subst e; exact H.out.from_.2.1))
  have HO2 := Lib.hid hO2
  have HM2 := Lib.hid hM2
  clear ho2 hm2 hO2 hM2
  refine (rwrote_any B b A (u.size : Int) _ _ w2 HM2.out (by omega) (by omega) (by omega) hns hqs hcu).mono ?_
  rintro e w3 ⟨rfl, hM3, ho3⟩
  have e1 : RS.evs3 (RS.wrote { r with s := { r.s with ans := rest, mem := putAt r.s.mem A (bytesOf u) } } (wrOf A (u.size : Int))) = r.s.evs := by cases wrOf (A : Int) (u.size : Int) <;> rfl
  have q36 := hM3.mac.evs
  have g36 := hM3.mac.free 36
  have hown := hM3.evs
  have HO3 := Lib.hid (HO2.out.then ho3)
  have HM3 := Lib.hid hM3
  have hs3 := hM3.mac.lt
  have hev3 : (RS.wrote { r with s := { r.s with ans := rest, mem := putAt r.s.mem A (bytesOf u) } } (wrOf A (u.size : Int))).s.evs = r.s.evs := e1
  rw [hev3] at hown
  change w3.ownsRow B 86 3 x.evs r.s.evs.length (evCells r.s.evs) at hown
  change w3.cell? ⟨b, 36, none⟩ = some x.evs at q36
  have HOWN := Lib.hid hown
  have HE3 := Lib.hid hev3
  clear h10 h11 h12 h17 f10 k39 k41 f41 hown ho3 hM3 e1 hev3 h0c
  go_wp2_with (at_builtin; refine wpList_append_lies _ (by rfl) (.tmp 161) (.tmp 167) 39 (by rfl) B 86 i0 _ 3 24 Tryz.underlying39 hi hz0 hz1 hz2 (by rfl) (by omega) x.evs r.s.evs.length (evCells r.s.evs) (by rfl) (HOWN.out.alloc _) ⟨w3.heap.size, 0, none⟩ 1 1 [.int .u32 63, .int .u32 (u.size : Int), .string u] (by rfl) (by rfl) (World.news_of_block (heap_alloc_new w3 _)) (by simp [Value.oneCell']) (by omega) (by unfold maxLen; omega) (by omega) (by have := H.out.from_.1; simp; omega) (w3.heap.size + 1) (by simp) ?_)
  intro g cap w4 hown1 hgrow hat hlt
  obtain ⟨hM4, hO4, hm4⟩ := HM3.out.told (Ev.mk 63 (u.size : Int) u) ((Only.refl _ w3).alloc _) (by rw [HE3.out]; exact hown1) hgrow (by simpa using hat)
  rw [HE3.out] at hM4 hO4
  have q36 := hm4.evs
  change w4.cell? ⟨b, 36, none⟩ = some x.evs at q36
  have g36 := hm4.free 36
  have q12 := hm4.reg 10 (by omega)
  have g12 := hm4.free 12
  have hs4 := hm4.lt
  have HM4 := Lib.hid hM4
  have HO4 := Lib.hid (HO3.out.then hO4)
  clear hown1 hgrow hat hlt hm4 hM4 hO4
  go_wp2_with fail
  first | go_end0 | refine bodyPost_ret (results_none rfl _ _ _) rfl ?_
  exact RM.set10 _ HM4.out HO4.out (HD.out.trans (by cases wrOf (A : Int) (u.size : Int) <;> rfl))
theorem rcall_any (B b : Nat) (r : RS) (hs : r.s.Ok) (next : Int) (hev : r.s.evs.length ≤ 1000000) (st0 : 0 ≤ r.s.steps) (st1 : r.s.steps ≤ 10000) (hns : r.slots.length ≤ 64) (hqs : ∀ q ∈ r.slots, SlotOk q) (hcu : SlotOk r.cur) (x : RRaw) (w : World) (h : RMach B w b r x) :
    Calls Tryz.prog 78 #[.pointer (some ⟨b, 0, none⟩)] w (RP B b w (.tuple #[]) (r.part (doCall r.s next))) := by
  have ne : ∀ {a c : Int}, a ≠ c → (a == c) = false := fun h => by simpa using h
  have b1 := (hs.regs 12).1
  by_cases k1 : r.s.regs 17 = 93
  · exact rcall_exit B b r hs next hev st0 st1 hns hqs hcu x w h k1
  by_cases k2 : r.s.regs 17 = 64
  · cases l : lies r.s (r.s.regs 11) (r.s.regs 12)
    · exact rcall_w_fault B b r hs next hev st0 st1 hns hqs hcu x w h k2 l
    · have l2 : r.s.regs 11 + r.s.regs 12 ≤ (r.s.mem.length : Int) := by unfold lies at l; simpa using l
      by_cases q : r.s.regs 11 < (r.s.mem.length : Int)
      · exact rcall_write_y B b r hs next hev st0 st1 hns hqs hcu x w h k2 l q
      · exact rcall_write_e B b r hs next hev st0 st1 hns hqs hcu x w h k2 (by omega) (by omega)
  by_cases k3 : r.s.regs 17 = 63
  · cases l : lies r.s (r.s.regs 11) (r.s.regs 12)
    · exact rcall_r_fault B b r hs next hev st0 st1 hns hqs hcu x w h k3 l
    · have l2 : r.s.regs 11 + r.s.regs 12 ≤ (r.s.mem.length : Int) := by unfold lies at l; simpa using l
      cases ha : r.s.ans with
      | nil =>
        by_cases q : r.s.regs 11 < (r.s.mem.length : Int)
        · exact rcall_read_0_0 B b r hs next hev st0 st1 hns hqs hcu x w h k3 q ha l
        · exact rcall_read_0_1 B b r hs next hev st0 st1 hns hqs hcu x w h k3 (by omega) ha l
      | cons t rest =>
        obtain ⟨aa, cc, hans, hcc, hcm, hcl⟩ := h.ans
        rw [ha] at hans hcc hcl
        obtain ⟨off, rfl, hcells⟩ := hcl (by simp)
        obtain ⟨htl, h0c⟩ := hcells 0 t rfl
        rw [List.length_cons] at hans hcc
        have ht := h.ans
        rw [hans, ha] at ht
        have ht := texts_tail ht
        by_cases c1 : cc = 1
        · have ht1 : TextsAt w x.ab (.slice (some ⟨x.ab, off, none⟩) rest.length 0) rest := by rw [if_pos c1, c1] at ht; exact ht
          by_cases q2 : t.size ≤ (r.s.regs 12).toNat
          · by_cases q : r.s.regs 11 < (r.s.mem.length : Int)
            · exact rcall_read_fit_01 B b r hs next hev st0 st1 hns hqs hcu x w h k3 q t rest ha htl off cc hans hcc hcm c1 ht1 h0c q2 t rfl q2 l
            · exact rcall_read_fit_11 B b r hs next hev st0 st1 hns hqs hcu x w h k3 (by omega) t rest ha htl off cc hans hcc hcm c1 ht1 h0c q2 t rfl q2 l
          · have q3 : (t.extract 0 (r.s.regs 12).toNat).size ≤ (r.s.regs 12).toNat := by rw [ByteArray.size_extract]; omega
            by_cases q : r.s.regs 11 < (r.s.mem.length : Int)
            · exact rcall_read_cut_01 B b r hs next hev st0 st1 hns hqs hcu x w h k3 q t rest ha htl off cc hans hcc hcm c1 ht1 h0c (by omega) _ rfl q3 l
            · exact rcall_read_cut_11 B b r hs next hev st0 st1 hns hqs hcu x w h k3 (by omega) t rest ha htl off cc hans hcc hcm c1 ht1 h0c (by omega) _ rfl q3 l
        · have ht1 : TextsAt w x.ab (.slice (some ⟨x.ab, off + 1, none⟩) rest.length (cc - 1)) rest := by rw [if_neg c1] at ht; exact ht
          by_cases q2 : t.size ≤ (r.s.regs 12).toNat
          · by_cases q : r.s.regs 11 < (r.s.mem.length : Int)
            · exact rcall_read_fit_00 B b r hs next hev st0 st1 hns hqs hcu x w h k3 q t rest ha htl off cc hans hcc hcm c1 ht1 h0c q2 t rfl q2 l
            · exact rcall_read_fit_10 B b r hs next hev st0 st1 hns hqs hcu x w h k3 (by omega) t rest ha htl off cc hans hcc hcm c1 ht1 h0c q2 t rfl q2 l
          · have q3 : (t.extract 0 (r.s.regs 12).toNat).size ≤ (r.s.regs 12).toNat := by rw [ByteArray.size_extract]; omega
            by_cases q : r.s.regs 11 < (r.s.mem.length : Int)
            · exact rcall_read_cut_00 B b r hs next hev st0 st1 hns hqs hcu x w h k3 q t rest ha htl off cc hans hcc hcm c1 ht1 h0c (by omega) _ rfl q3 l
            · exact rcall_read_cut_10 B b r hs next hev st0 st1 hns hqs hcu x w h k3 (by omega) t rest ha htl off cc hans hcc hcm c1 ht1 h0c (by omega) _ rfl q3 l
  by_cases k4 : r.s.regs 17 = 214
  · by_cases q : r.s.low ≤ r.s.regs 10
    · by_cases l : r.s.regs 10 ≤ (r.s.mem.length : Int)
      · exact rcall_brk_y B b r hs next hev st0 st1 hns hqs hcu x w h k4 q l
      · exact rcall_brk_f B b r hs next hev st0 st1 hns hqs hcu x w h k4 q l
    · exact rcall_brk_n B b r hs next hev st0 st1 hns hqs hcu x w h k4 q
  exact rcall_nosys B b r hs next hev st0 st1 hns hqs hcu x w h (ne k1) (ne k2) (ne k3) (ne k4)
end Go.Proofs.YtanccjaikocefaaGreatDoor
