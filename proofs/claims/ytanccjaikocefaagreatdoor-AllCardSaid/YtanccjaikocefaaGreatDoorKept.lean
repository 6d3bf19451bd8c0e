/-
  What the plain machine keeps: a decoded instruction's fields are in their ranges; a state's numbers stay in theirs. No program in sight. No condition but those ranges.
  The document's machine, plainly: the machine of 'Step', the slots, what was counted; one step of it, a run; that its run is the run one by one. No program in sight.
  What a step of the document's machine keeps: its numbers stay in their ranges. No program in sight.
  A setup, plainly: what is wrong with it; the machine at its beginning. No program in sight.
-/
import Derived.Test.YtanccjaikocefaaGreatDoorStep
namespace Go.Proofs.YtanccjaikocefaaGreatDoor
open Go.ChangeShapes Go.WideShapes Go.ChangeAt Go.RowKit
set_option linter.unusedVariables false

theorem tabRows_op : ∀ r ∈ tabRows, 0 ≤ r.1 ∧ r.1 ≤ 47 := by decide
theorem fillI_ok (op f wd : Int) (h0 : 0 ≤ op) (h1 : op ≤ 47) (w0 : 0 ≤ wd) (w1 : wd < 4294967296) : (fillI op f wd).Ok := by
  unfold fillI
  split
  · refine ⟨⟨h0, h1⟩, ?_, ?_, ?_, ?_⟩ <;> simp only [rdF, rs1F, rs2F] <;> omega
  split
  · refine ⟨⟨h0, h1⟩, ?_, ?_, ?_, ?_⟩ <;> simp only [rdF, rs1F, immI, wrap32] <;> omega
  split
  · refine ⟨⟨h0, h1⟩, ?_, ?_, ?_, ?_⟩ <;> simp only [rdF, rs1F, rs2F] <;> omega
  split
  · refine ⟨⟨h0, h1⟩, ?_, ?_, ?_, ?_⟩ <;> simp only [rs1F, rs2F, immS, wrap32] <;> omega
  split
  · refine ⟨⟨h0, h1⟩, ?_, ?_, ?_, ?_⟩ <;> simp only [rs1F, rs2F, immB, wrap32] <;> omega
  split
  · refine ⟨⟨h0, h1⟩, ?_, ?_, ?_, ?_⟩ <;> simp only [rdF, immU, wrap32] <;> omega
  split
  · refine ⟨⟨h0, h1⟩, ?_, ?_, ?_, ?_⟩ <;> simp only [rdF, immJ, wrap32] <;> omega
  · refine ⟨⟨h0, h1⟩, ?_, ?_, ?_, ?_⟩ <;> simp
theorem decO_ok {wd : Int} {i : Ins} (w0 : 0 ≤ wd) (w1 : wd < 4294967296) (h : decO wd = some i) : i.Ok := by
  unfold decO at h
  rw [Option.map_eq_some_iff] at h
  obtain ⟨r, hr, rfl⟩ := h
  have hm := List.mem_of_find?_eq_some hr
  obtain ⟨a, b⟩ := tabRows_op r hm
  exact fillI_ok _ _ _ a b w0 w1
theorem byteAt_ok {s : St} (h : s.Ok) (k : Int) : 0 ≤ byteAt s.mem k ∧ byteAt s.mem k < 256 := by
  unfold byteAt
  rw [List.getD_eq_getElem?_getD]
  cases e : s.mem[k.toNat]? with
  | none => simp
  | some v => exact h.mem v (List.mem_of_getElem? e)
theorem wordAt_ok {s : St} (h : s.Ok) (k : Int) : 0 ≤ wordAt s.mem k ∧ wordAt s.mem k < 4294967296 := by
  have a := byteAt_ok h k
  have b := byteAt_ok h (k + 1)
  have c := byteAt_ok h (k + 1 + 1)
  have d := byteAt_ok h (k + 1 + 1 + 1)
  simp only [wordAt, leAt]
  omega
theorem fetch_ok {s : St} {i : Ins} (h : s.Ok) (hf : fetch s = .inr i) : i.Ok := by
  unfold fetch at hf
  split at hf
  · cases hf
  · split at hf
    · have w := wordAt_ok h s.pc
      split at hf
      · rename_i j hj
        cases hf
        exact decO_ok w.1 w.2 hj
      · cases hf
    · cases hf
theorem fetch_trap {s : St} {o : Int} (hf : fetch s = .inl o) : o = 2 ∨ o = 3 ∨ o = 4 := by
  unfold fetch at hf
  split at hf
  · cases hf; simp
  · split at hf
    · split at hf
      · cases hf
      · cases hf; simp
    · cases hf; simp
theorem u32_ok (x : Int) : 0 ≤ u32 x ∧ u32 x < 4294967296 := by unfold u32; omega
theorem setR_ok {r : Nat → Int} {d v : Int} (h : ∀ j, 0 ≤ r j ∧ r j < 4294967296) (h0 : 0 ≤ v) (h1 : v < 4294967296) : ∀ j, 0 ≤ setR r d v j ∧ setR r d v j < 4294967296 := by
  intro j
  unfold setR
  split
  · exact ⟨h0, h1⟩
  · exact h j
theorem set_ok {s : St} {d v : Int} (h : s.Ok) (h0 : 0 ≤ v) (h1 : v < 4294967296) : (s.set d v).Ok :=
  ⟨by simp [St.set, setR, h.zero], setR_ok h.regs h0 h1, h.pc, h.mem, h.len, h.low, h.brk⟩
theorem step_ok {s : St} {n : Int} (h : s.Ok) (h0 : 0 ≤ n) (h1 : n < 4294967296) : (s.step n).Ok :=
  ⟨h.zero, h.regs, ⟨h0, h1⟩, h.mem, h.len, h.low, h.brk⟩
theorem putAt_size (mem : List Int) (k : Int) (bs : List Int) (h : k.toNat + bs.length ≤ mem.length) : (putAt mem k bs).length = mem.length := by
  simp [putAt]; omega
theorem put_ok {s : St} {k : Int} {bs : List Int} (h : s.Ok) (hb : ∀ x ∈ bs, 0 ≤ x ∧ x < 256) (hl : k.toNat + bs.length ≤ s.mem.length) : ({ s with mem := putAt s.mem k bs } : St).Ok := by
  refine ⟨h.zero, h.regs, h.pc, ?_, ?_, ?_, ?_⟩
  · intro x hx
    simp only [putAt, List.mem_append] at hx
    rcases hx with (hx | hx) | hx
    · exact h.mem x (List.mem_of_mem_take hx)
    · exact hb x hx
    · exact h.mem x (List.mem_of_mem_drop hx)
  · show (putAt s.mem k bs).length ≤ 512
    rw [putAt_size _ _ _ hl]; exact h.len
  · show 0 ≤ s.low ∧ s.low ≤ ((putAt s.mem k bs).length : Int)
    rw [putAt_size _ _ _ hl]; exact h.low
  · show 0 ≤ s.brk ∧ s.brk ≤ ((putAt s.mem k bs).length : Int)
    rw [putAt_size _ _ _ hl]; exact h.brk
theorem bytesOf_ok (t : ByteArray) : ∀ x ∈ bytesOf t, 0 ≤ x ∧ x < 256 := by
  intro x hx
  simp only [bytesOf, List.mem_map] at hx
  obtain ⟨c, _, rfl⟩ := hx
  have := c.toNat_lt
  omega
theorem bits_ok (op : BinOp) (a b : Int) : 0 ≤ bits op IntKind.u32 a b ∧ bits op IntKind.u32 a b < 4294967296 := by
  have k : ∀ x : Int, 0 ≤ IntKind.u32.wrap x ∧ IntKind.u32.wrap x < 4294967296 := by
    intro x
    simp [IntKind.wrap, IntKind.signed, IntKind.bits]
    omega
  unfold bits
  exact k _
theorem tru_ok (b : Bool) : 0 ≤ tru b ∧ tru b < 4294967296 := by cases b <;> decide
theorem mod_ok (x : Int) : 0 ≤ x % 4294967296 ∧ x % 4294967296 < 4294967296 := by omega
theorem rcmp_ok (op a b : Int) (a0 : 0 ≤ a) (a1 : a < 4294967296) (b0 : 0 ≤ b) (b1 : b < 4294967296) : 0 ≤ rcmpI op a b ∧ rcmpI op a b < 4294967296 := by
  have sh : ∀ n : Nat, 0 ≤ a / 2 ^ n ∧ a / 2 ^ n < 4294967296 := by
    intro n
    have p : (0 : Int) < 2 ^ n := Int.pow_pos (by decide)
    exact ⟨Int.ediv_nonneg a0 (Int.le_of_lt p), Int.lt_of_le_of_lt (Int.ediv_le_self _ a0) a1⟩
  have md : 0 ≤ a % b ∧ a % b ≤ a := by
    have hx : a = (a.toNat : Int) := by omega
    have hy : b = (b.toNat : Int) := by omega
    rw [hx, hy]
    have := Nat.mod_le a.toNat b.toNat
    omega
  have qq : 0 ≤ quoI a b ∧ quoI a b < 4294967296 := by
    unfold quoI
    repeat' split
    all_goals first | exact mod_ok _ | omega
  have rr : 0 ≤ remI a b ∧ remI a b < 4294967296 := by
    unfold remI
    repeat' split
    all_goals first | exact mod_ok _ | omega
  have ite : ∀ (c : Bool) (x y : Int), (0 ≤ x ∧ x < 4294967296) → (0 ≤ y ∧ y < 4294967296) → 0 ≤ (if c then x else y) ∧ (if c then x else y) < 4294967296 := by
    intro c x y hx hy
    cases c
    · simpa using hy
    · simpa using hx
  unfold rcmpI
  repeat (first | refine ite _ _ _ ?_ ?_ | exact mod_ok _ | exact bits_ok _ _ _ | exact tru_ok _ | exact sh _ | exact qq | exact rr | omega)
theorem cmp_ok (op a b : Int) (h0 : 18 ≤ op) (h1 : op ≤ 44) (a0 : 0 ≤ a) (a1 : a < 4294967296) (b0 : 0 ≤ b) (b1 : b < 4294967296) : 0 ≤ cmpI op a b ∧ cmpI op a b < 4294967296 := by
  have h := cap_same op a b a0 a1 b0 b1
  unfold capI at h
  rw [if_neg (by omega)] at h
  rw [h]
  exact rcmp_ok op a b a0 a1 b0 b1
/-- How far an instruction may turn a state. -/
structure Turned (s s' : St) : Prop where
  ok : s'.Ok
  size : s'.mem.length = s.mem.length
  low : s'.low = s.low
  evs : s'.evs.length ≤ s.evs.length + 1
  ans : ∃ k, s'.ans = s.ans.drop k
theorem Turned.refl {s : St} (h : s.Ok) : Turned s s := ⟨h, rfl, rfl, by omega, 0, rfl⟩
theorem Turned.set {s s' : St} {d v : Int} (h : Turned s s') (v0 : 0 ≤ v) (v1 : v < 4294967296) : Turned s (s'.set d v) := ⟨set_ok h.ok v0 v1, h.size, h.low, h.evs, h.ans⟩
theorem le_ok {s : St} (h : s.Ok) (k : Int) (n : Nat) : 0 ≤ leAt s.mem k n ∧ leAt s.mem k n < 256 ^ n := by
  induction n generalizing k with
  | zero => simp [leAt]
  | succ n ih =>
    have a := byteAt_ok h k
    have b := ih (k + 1)
    simp only [leAt]
    rw [Int.pow_succ]
    omega
theorem loadV_ok {s : St} (h : s.Ok) (op k : Int) : 0 ≤ loadV op s.mem k ∧ loadV op s.mem k < 4294967296 := by
  unfold loadV
  have e : (wide op).toNat = 1 ∨ (wide op).toNat = 2 ∨ (wide op).toNat = 4 := by
    unfold wide; repeat' split
    all_goals simp
  have b := le_ok h k (wide op).toNat
  have c : leAt s.mem k (wide op).toNat < 4294967296 := by
    rcases e with e | e | e <;> rw [e] at b ⊢ <;> omega
  have q1 : (op == 10) = true → leAt s.mem k (wide op).toNat < 256 := by
    intro q
    have : op = 10 := by simpa using q
    subst this
    simpa [wide] using b.2
  have q2 : (op == 11) = true → leAt s.mem k (wide op).toNat < 65536 := by
    intro q
    have : op = 11 := by simpa using q
    subst this
    simpa [wide] using b.2
  show 0 ≤ (if (op == 10) = true then _ else _) ∧ (if (op == 10) = true then _ else _) < 4294967296
  split
  · rename_i hq
    have := q1 hq
    split <;> omega
  · split
    · rename_i hq
      have := q2 hq
      split <;> omega
    · omega
theorem storeB_ok (op v : Int) : (∀ x ∈ storeB op v, 0 ≤ x ∧ x < 256) ∧ (storeB op v).length = (wide op).toNat := by
  constructor
  · intro x hx
    unfold storeB at hx
    have := List.mem_of_mem_take hx
    simp only [List.mem_cons, List.not_mem_nil, or_false] at this
    rcases this with rfl | rfl | rfl | rfl <;> omega
  · unfold storeB wide
    repeat' split
    all_goals simp
theorem extract_size (t : ByteArray) (n : Nat) : (t.extract 0 n).size ≤ n := by
  simp [ByteArray.size_extract]; omega
theorem call_ok {s : St} (h : s.Ok) (n : Int) : (∀ s' m wr, doCall s n = .go s' m wr → Turned s s' ∧ s'.steps = s.steps ∧ m = n) ∧ (∀ s' o, doCall s n = .trap s' o → Turned s s' ∧ s'.steps = s.steps + 1) := by
  have r10 := h.regs 10
  have r11 := h.regs 11
  have r12 := h.regs 12
  unfold doCall
  simp only
  split
  · refine ⟨fun _ _ _ e => (by cases e), fun s' o e => ?_⟩
    cases e
    exact ⟨⟨⟨h.zero, h.regs, h.pc, h.mem, h.len, h.low, h.brk⟩, rfl, rfl, by simp, 0, rfl⟩, rfl⟩
  split
  · split
    · refine ⟨fun _ _ _ e => ?_, fun s' o e => (by cases e)⟩
      cases e
      refine ⟨Turned.set ⟨⟨h.zero, h.regs, h.pc, h.mem, h.len, h.low, h.brk⟩, rfl, rfl, by simp, 0, rfl⟩ r12.1 r12.2, rfl, rfl⟩
    · refine ⟨fun _ _ _ e => ?_, fun s' o e => (by cases e)⟩
      cases e
      exact ⟨(Turned.refl h).set (by decide) (by decide), rfl, rfl⟩
  split
  · split
    · rename_i hl
      refine ⟨fun _ _ _ e => ?_, fun s' o e => (by cases e)⟩
      cases e
      unfold lies at hl
      have hl2 := of_decide_eq_true hl
      have hs := extract_size (s.ans.headD ByteArray.empty) (s.regs 12).toNat
      have hb : (bytesOf ((s.ans.headD ByteArray.empty).extract 0 (s.regs 12).toNat)).length = ((s.ans.headD ByteArray.empty).extract 0 (s.regs 12).toNat).size := by simp [bytesOf]
      have hfit : (s.regs 11).toNat + (bytesOf ((s.ans.headD ByteArray.empty).extract 0 (s.regs 12).toNat)).length ≤ s.mem.length := by rw [hb]; omega
      have hp := put_ok h (bytesOf_ok _) hfit
      have hq := putAt_size _ _ _ hfit
      refine ⟨Turned.set ⟨⟨hp.zero, hp.regs, hp.pc, hp.mem, hp.len, hp.low, hp.brk⟩, hq, rfl, by simp, 1, by simp⟩ (by omega) (by omega), rfl, rfl⟩
    · refine ⟨fun _ _ _ e => ?_, fun s' o e => (by cases e)⟩
      cases e
      exact ⟨(Turned.refl h).set (by decide) (by decide), rfl, rfl⟩
  split
  · refine ⟨fun _ _ _ e => ?_, fun s' o e => (by cases e)⟩
    cases e
    have hk := h.brk
    have hl := h.len
    have hb : 0 ≤ (if s.low ≤ s.regs 10 ∧ s.regs 10 ≤ (s.mem.length : Int) then s.regs 10 else s.brk) ∧ (if s.low ≤ s.regs 10 ∧ s.regs 10 ≤ (s.mem.length : Int) then s.regs 10 else s.brk) ≤ (s.mem.length : Int) := by
      split
      · omega
      · exact hk
    exact ⟨Turned.set ⟨⟨h.zero, h.regs, h.pc, h.mem, h.len, h.low, hb⟩, rfl, rfl, by simp, 0, rfl⟩ hb.1 (by omega), rfl, rfl⟩
  · refine ⟨fun _ _ _ e => ?_, fun s' o e => (by cases e)⟩
    cases e
    exact ⟨(Turned.refl h).set (by decide) (by decide), rfl, rfl⟩
/-- What an outcome keeps. -/
def OutOk (s : St) : Out → Prop
  | .go s' m _ => Turned s s' ∧ s'.steps = s.steps ∧ 0 ≤ m ∧ m < 4294967296
  | .trap s' _ => Turned s s' ∧ s.steps ≤ s'.steps ∧ s'.steps ≤ s.steps + 1
theorem iteO {c : Prop} [Decidable c] {s : St} {x y : Out} (h : c → OutOk s x) (g : ¬ c → OutOk s y) : OutOk s (if c then x else y) := by
  by_cases e : c
  · rw [if_pos e]; exact h e
  · rw [if_neg e]; exact g e
theorem exec_ok {s : St} {i : Ins} (h : s.Ok) (hi : i.Ok) : OutOk s (exec s i) := by
  have T := Turned.refl h
  have n4 := u32_ok (s.pc + 4)
  have ra := h.regs i.rs1.toNat
  have rb := h.regs i.rs2.toNat
  have trap0 : ∀ k : Int, OutOk s (Out.trap s k) := fun k => ⟨T, by omega, by omega⟩
  have go0 : ∀ (t : St) (k : Int) (wr : Option (Int × Int)), Turned s t → t.steps = s.steps → 0 ≤ k → k < 4294967296 → OutOk s (Out.go t k wr) := fun t k wr a b c d => ⟨a, b, c, d⟩
  have q1 := u32_ok (s.regs i.rs1.toNat + i.imm)
  have hw : 0 ≤ wide i.op := by
    unfold wide
    repeat' split
    all_goals decide
  have dcd : ∀ {p : Prop} [Decidable p], ¬ (decide p = true) → ¬ p := fun h k => h (decide_eq_true k)
  unfold exec
  extract_lets a b next
  refine iteO (fun g0 => go0 _ _ _ (T.set (u32_ok _).1 (u32_ok _).2) rfl n4.1 n4.2) (fun g0 => ?_)
  refine iteO (fun g1 => go0 _ _ _ (T.set (u32_ok _).1 (u32_ok _).2) rfl n4.1 n4.2) (fun g1 => ?_)
  refine iteO (fun g2 => iteO (fun _ => go0 _ _ _ (T.set n4.1 n4.2) rfl (u32_ok _).1 (u32_ok _).2) (fun _ => trap0 _)) (fun g2 => ?_)
  refine iteO (fun g3 => iteO (fun _ => go0 _ _ _ (T.set n4.1 n4.2) rfl (by show 0 ≤ u32 (s.regs i.rs1.toNat + i.imm) / 2 * 2; omega) (by show u32 (s.regs i.rs1.toNat + i.imm) / 2 * 2 < 4294967296; omega)) (fun _ => trap0 _)) (fun g3 => ?_)
  refine iteO (fun g4 => iteO (fun _ => iteO (fun _ => go0 _ _ _ T rfl (u32_ok _).1 (u32_ok _).2) (fun _ => trap0 _)) (fun _ => go0 _ _ _ T rfl n4.1 n4.2)) (fun g4 => ?_)
  refine iteO (fun g5 => iteO (fun _ => trap0 _) (fun _ => iteO (fun _ => ?_) (fun _ => trap0 _))) (fun g5 => ?_)
  · have q := loadV_ok h i.op (u32 (a + i.imm))
    exact go0 _ _ _ (T.set q.1 q.2) rfl n4.1 n4.2
  refine iteO (fun g6 => iteO (fun _ => trap0 _) (fun _ => iteO (fun hl => ?_) (fun _ => trap0 _))) (fun g6 => ?_)
  · unfold lies at hl
    have hl2 : u32 (s.regs i.rs1.toNat + i.imm) + wide i.op ≤ (s.mem.length : Int) := of_decide_eq_true hl
    have hb := storeB_ok i.op (s.regs i.rs2.toNat)
    have hfit : (u32 (s.regs i.rs1.toNat + i.imm)).toNat + (storeB i.op (s.regs i.rs2.toNat)).length ≤ s.mem.length := by rw [hb.2]; omega
    exact go0 _ _ _ ⟨put_ok h hb.1 hfit, putAt_size _ _ _ hfit, rfl, by simp, 0, rfl⟩ rfl n4.1 n4.2
  have g6' := dcd g6
  refine iteO (fun g7 => ?_) (fun g7 => ?_)
  · have g7' := of_decide_eq_true g7
    have q := cmp_ok i.op (s.regs i.rs1.toNat) (u32 i.imm) (by omega) (by omega) ra.1 ra.2 (u32_ok _).1 (u32_ok _).2
    exact go0 _ _ _ (T.set q.1 q.2) rfl n4.1 n4.2
  refine iteO (fun g8 => ?_) (fun g8 => ?_)
  · have g8' := of_decide_eq_true g8
    have q := cmp_ok i.op (s.regs i.rs1.toNat) (s.regs i.rs2.toNat) (by omega) (by omega) ra.1 ra.2 rb.1 rb.2
    exact go0 _ _ _ (T.set q.1 q.2) rfl n4.1 n4.2
  refine iteO (fun g9 => go0 _ _ _ T rfl n4.1 n4.2) (fun g9 => ?_)
  refine iteO (fun g10 => ?_) (fun g10 => trap0 _)
  obtain ⟨c1, c2⟩ := call_ok h next
  cases e : doCall s next with
  | go s' m wr =>
    obtain ⟨x, y, rfl⟩ := c1 s' m wr e
    exact ⟨x, y, n4.1, n4.2⟩
  | trap s' o =>
    obtain ⟨x, y⟩ := c2 s' o e
    exact ⟨x, by omega, by omega⟩
end Go.Proofs.YtanccjaikocefaaGreatDoor
namespace Go.Proofs.YtanccjaikocefaaGreatDoor
open Go.ChangeShapes Go.WideShapes Go.ChangeAt Go.RowKit
set_option linter.unusedVariables false

/-- A block that was counted. -/
structure Blk where
  pc : Int
  len : Int
  built : Int
  entered : Int
/-- A machine that counts blocks. -/
structure RS where
  s : St
  out : Int
  ended : Bool
  fuel : Int
  slots : List (Int × Int)
  arena : Int
  used : Int
  cur : Int × Int
  at_ : Int
  built : Int
  blocks : List Blk
def endsI (op : Int) : Bool := (decide (2 ≤ op) && decide (op ≤ 9)) || op == 46 || op == 47
/-- The instructions of the block at an address, at most so many. -/
def blockIns (mem : List Int) (pc : Int) : Nat → List Ins
  | 0 => []
  | n + 1 =>
    match decO (wordAt mem pc) with
    | none => []
    | some i => if endsI i.op || (pc + 4) % 64 == 0 then [i] else i :: blockIns mem (pc + 4) n
def inPages (p f l : Int) : Bool := decide (f ≤ p / 64) && decide (p / 64 ≤ l)
def forget1 (f l : Int) (q : Int × Int) : Int × Int := if inPages q.1 f l then (0, 0) else q
/-- Bytes were written: pages 'f' to 'l'. -/
def RS.wrote (r : RS) : Option (Int × Int) → RS
  | none => r
  | some (f, l) => { r with slots := r.slots.map (forget1 f l), cur := forget1 f l r.cur }
def bump (len bu en : Int) (x : Blk) : Blk := ⟨x.pc, if 0 < bu then len else x.len, x.built + bu, x.entered + en⟩
def countB (l : List Blk) (pc len bu en : Int) : List Blk :=
  match l.findIdx? (fun x => x.pc == pc) with
  | some i => l.modify i (bump len bu en)
  | none =>
    let k := (l.takeWhile (fun x => decide (x.pc < pc))).length
    l.take k ++ [⟨pc, len, bu, en⟩] ++ l.drop k
def RS.slotK (r : RS) : Nat := (r.s.pc / 4 % (r.slots.length : Int)).toNat
/-- The block at the pc is built, if it is not there. -/
def RS.make (r : RS) : RS :=
  let q := r.slots.getD r.slotK (0, 0)
  if q.2 == 0 || q.1 != r.s.pc then
    let n : Int := (blockIns r.s.mem r.s.pc 8).length
    let big := decide (r.arena < r.used + n)
    { r with slots := (if big then List.replicate r.slots.length (0, 0) else r.slots).set r.slotK (r.s.pc, n), used := (if big then 0 else r.used) + n, built := r.built + 1, blocks := countB r.blocks r.s.pc n 1 0 }
  else r
/-- The block at the pc is entered. -/
def RS.find (r : RS) : RS :=
  let r1 := r.make
  let c := r1.slots.getD r1.slotK (0, 0)
  { r1 with cur := c, at_ := 0, blocks := countB r1.blocks c.1 c.2 0 1 }
/-- Does an instruction jump? -/
def jumps (s : St) (i : Ins) : Bool := i.op == 2 || i.op == 3 || (decide (4 ≤ i.op) && decide (i.op ≤ 9) && brT i.op (s.regs i.rs1.toNat) (s.regs i.rs2.toNat))
def RS.leave (r : RS) (b : Bool) : RS := if b then { r with cur := (0, 0) } else r
def RS.end_ (r : RS) (o : Int) : RS := { r with out := o, ended := true }
def RS.do_ (r : RS) (i : Ins) : RS :=
  match exec r.s i with
  | .trap s' o => RS.end_ { r with s := s' } o
  | .go s' next wr => (RS.wrote { r with s := s'.step next } wr).leave (jumps r.s i)
/-- Is a block to be found? -/
def RS.need (r : RS) : Bool := decide (0 < r.slots.length) && (r.cur.2 == 0 || decide (r.cur.2 ≤ r.at_) || u32 (r.cur.1 + 4 * r.at_) != r.s.pc)
def RS.seek (r : RS) : RS := if r.need then r.find else r
def RS.inc (r : RS) : RS := { r with at_ := r.at_ + 1 }
def RS.step (r : RS) : RS :=
  if r.fuel ≤ r.s.steps then r.end_ 0
  else match fetch r.s with
    | .inl o => r.end_ o
    | .inr i => r.seek.inc.do_ i
def runR : Nat → RS → RS
  | 0, r => r
  | n + 1, r => if r.ended then r else runR n r.step

/-! ### The run is the run one by one -/
theorem make_s (r : RS) : r.make.s = r.s ∧ r.make.fuel = r.fuel ∧ r.make.ended = r.ended ∧ r.make.arena = r.arena ∧ r.make.slots.length = r.slots.length := by
  unfold RS.make
  dsimp only
  split
  · refine ⟨rfl, rfl, rfl, rfl, ?_⟩
    rw [List.length_set]
    split <;> simp
  · exact ⟨rfl, rfl, rfl, rfl, rfl⟩
theorem find_s (r : RS) : r.find.s = r.s ∧ r.find.fuel = r.fuel ∧ r.find.ended = r.ended ∧ r.find.arena = r.arena ∧ r.find.slots.length = r.slots.length := make_s r
theorem seek_s (r : RS) : r.seek.s = r.s ∧ r.seek.fuel = r.fuel ∧ r.seek.ended = r.ended ∧ r.seek.arena = r.arena ∧ r.seek.slots.length = r.slots.length := by
  unfold RS.seek
  split
  · exact find_s r
  · exact ⟨rfl, rfl, rfl, rfl, rfl⟩
theorem wrote_s (r : RS) (wr : Option (Int × Int)) : (r.wrote wr).s = r.s ∧ (r.wrote wr).fuel = r.fuel ∧ (r.wrote wr).ended = r.ended ∧ (r.wrote wr).arena = r.arena ∧ (r.wrote wr).slots.length = r.slots.length := by
  cases wr with
  | none => exact ⟨rfl, rfl, rfl, rfl, rfl⟩
  | some p => exact ⟨rfl, rfl, rfl, rfl, by simp [RS.wrote]⟩
theorem leave_s (r : RS) (b : Bool) : (r.leave b).s = r.s ∧ (r.leave b).fuel = r.fuel ∧ (r.leave b).ended = r.ended ∧ (r.leave b).arena = r.arena ∧ (r.leave b).slots.length = r.slots.length := by
  unfold RS.leave; split <;> exact ⟨rfl, rfl, rfl, rfl, rfl⟩
/-- What a step does to the machine without its blocks. -/
theorem step_s (r : RS) (he : r.ended = false) : r.step.fuel = r.fuel ∧
    (if r.fuel ≤ r.s.steps then r.step.ended = true ∧ r.step.s = r.s ∧ r.step.out = 0
     else match fetch r.s with
      | .inl o => r.step.ended = true ∧ r.step.s = r.s ∧ r.step.out = o
      | .inr i => match exec r.s i with
        | .trap s' o => r.step.ended = true ∧ r.step.s = s' ∧ r.step.out = o
        | .go s' next wr => r.step.ended = false ∧ r.step.s = s'.step next) := by
  unfold RS.step
  by_cases hf : r.fuel ≤ r.s.steps
  · rw [if_pos hf, if_pos hf]; exact ⟨rfl, rfl, rfl, rfl⟩
  · rw [if_neg hf, if_neg hf]
    cases hq : fetch r.s with
    | inl o => exact ⟨rfl, rfl, rfl, rfl⟩
    | inr i =>
      have hs := seek_s r
      have e : r.seek.inc.s = r.s := hs.1
      dsimp only
      unfold RS.do_
      rw [e]
      cases hx : exec r.s i with
      | trap s' o => exact ⟨hs.2.1, rfl, rfl, rfl⟩
      | go s' next wr =>
        have h1 := leave_s (RS.wrote { r.seek.inc with s := s'.step next } wr) (jumps r.s i)
        have h2 := wrote_s { r.seek.inc with s := s'.step next } wr
        exact ⟨h1.2.1.trans (h2.2.1.trans hs.2.1), h1.2.2.1.trans (h2.2.2.1.trans (hs.2.2.1.trans he)), h1.1.trans h2.1⟩
theorem runR_run (n : Nat) : ∀ (r : RS), r.ended = false → r.s.Ok → (n : Int) = r.fuel - r.s.steps → (runR (n + 1) r).ended = true ∧ (runR (n + 1) r).s = (runS r.fuel n r.s).1 ∧ (runR (n + 1) r).out = (runS r.fuel n r.s).2 := by
  induction n with
  | zero =>
    intro r he hs hn
    have h := (step_s r he).2
    rw [if_pos (by omega)] at h
    simp only [runR, he, Bool.false_eq_true, if_false, runS]
    exact h
  | succ n ih =>
    intro r he hs hn
    have h := step_s r he
    have hne : ¬ r.fuel ≤ r.s.steps := by omega
    rw [if_neg hne] at h
    rw [runR, if_neg (by rw [he]; decide)]
    rw [runS, if_pos (by omega)]
    have ends : ∀ q : RS, q.ended = true → runR (n + 1) q = q := by intro q hq; simp [runR, hq]
    cases hf : fetch r.s with
    | inl o =>
      rw [hf] at h
      dsimp only at h ⊢
      rw [ends _ h.2.1]
      exact h.2
    | inr i =>
      rw [hf] at h
      dsimp only at h ⊢
      have hx := exec_ok hs (fetch_ok hs hf)
      cases hq : exec r.s i with
      | trap s' o =>
        rw [hq] at h
        dsimp only at h ⊢
        rw [ends _ h.2.1]
        exact h.2
      | go s' next wr =>
        rw [hq] at h hx
        dsimp only at h ⊢
        obtain ⟨hT, hst, m0, m1⟩ := hx
        obtain ⟨e1, e2, e3⟩ := h
        have hst2 : (s'.step next).steps = r.s.steps + 1 := by show s'.steps + 1 = _; rw [hst]
        have := ih r.step e2 (by rw [e3]; exact step_ok hT.ok m0 m1) (by rw [e1, e3, hst2]; omega)
        rw [e1, e3] at this
        exact this
end Go.Proofs.YtanccjaikocefaaGreatDoor
namespace Go.Proofs.YtanccjaikocefaaGreatDoor
open Go.ChangeShapes Go.WideShapes Go.ChangeAt Go.RowKit
set_option linter.unusedVariables false

def SlotOk (q : Int × Int) : Prop := 0 ≤ q.1 ∧ q.1 < 4294967296 ∧ 0 ≤ q.2 ∧ q.2 ≤ 8
def BlkOk (B E : Int) (x : Blk) : Prop := 0 ≤ x.pc ∧ x.pc < 4294967296 ∧ 0 ≤ x.len ∧ x.len ≤ 8 ∧ 0 ≤ x.built ∧ x.built ≤ B ∧ 0 ≤ x.entered ∧ x.entered ≤ E
/-- The numbers of the counting part are in their ranges; 'K': how often something may have been counted. -/
structure RS.Cnt (r : RS) (B E A : Int) : Prop where
  nslots : r.slots.length ≤ 64
  slots : ∀ q ∈ r.slots, SlotOk q
  arena : 0 < r.slots.length → 0 ≤ r.arena ∧ r.arena ≤ 256
  used : 0 ≤ r.used ∧ r.used ≤ 264
  cur : SlotOk r.cur
  at_ : 0 ≤ r.at_ ∧ r.at_ ≤ A
  built : 0 ≤ r.built ∧ r.built ≤ B
  nblocks : (r.blocks.length : Int) ≤ B + E
  blocks : ∀ x ∈ r.blocks, BlkOk B E x
structure RS.Ok (r : RS) : Prop where
  s : r.s.Ok
  mem64 : r.s.mem.length % 64 = 0
  fuel : 0 ≤ r.fuel ∧ r.fuel ≤ 2000
  steps : 0 ≤ r.s.steps ∧ r.s.steps ≤ r.fuel
  evs : (r.s.evs.length : Int) ≤ r.s.steps
theorem SlotOk.zero : SlotOk (0, 0) := by unfold SlotOk; decide
theorem forget1_ok {f l : Int} {q : Int × Int} (h : SlotOk q) : SlotOk (forget1 f l q) := by
  unfold forget1; split
  · exact SlotOk.zero
  · exact h
theorem RS.Cnt.wrote {r : RS} {B E A : Int} (h : r.Cnt B E A) (wr : Option (Int × Int)) : (r.wrote wr).Cnt B E A := by
  cases wr with
  | none => exact h
  | some p =>
    obtain ⟨f, l⟩ := p
    refine ⟨by simpa [RS.wrote] using h.nslots, ?_, fun g => h.arena (by simpa [RS.wrote] using g), h.used, forget1_ok h.cur, h.at_, h.built, h.nblocks, h.blocks⟩
    intro q hq
    simp only [RS.wrote, List.mem_map] at hq
    obtain ⟨p, hp, rfl⟩ := hq
    exact forget1_ok (h.slots p hp)
theorem RS.Cnt.leave {r : RS} {B E A : Int} (h : r.Cnt B E A) (b : Bool) : (r.leave b).Cnt B E A := by
  unfold RS.leave
  split
  · exact ⟨h.nslots, h.slots, h.arena, h.used, SlotOk.zero, h.at_, h.built, h.nblocks, h.blocks⟩
  · exact h
theorem RS.Cnt.of_s {r q : RS} {B E A : Int} (h : r.Cnt B E A) (e1 : q.slots = r.slots) (e2 : q.arena = r.arena) (e3 : q.used = r.used) (e4 : q.cur = r.cur) (e5 : q.at_ = r.at_) (e6 : q.built = r.built) (e7 : q.blocks = r.blocks) : q.Cnt B E A := by
  refine ⟨by rw [e1]; exact h.nslots, by rw [e1]; exact h.slots, by rw [e1, e2]; exact h.arena, by rw [e3]; exact h.used, by rw [e4]; exact h.cur, by rw [e5]; exact h.at_, by rw [e6]; exact h.built, by rw [e7]; exact h.nblocks, by rw [e7]; exact h.blocks⟩
theorem RS.Cnt.do_ {r : RS} {B E A : Int} (h : r.Cnt B E A) (i : Ins) : (r.do_ i).Cnt B E A := by
  unfold RS.do_
  split
  · exact h.of_s rfl rfl rfl rfl rfl rfl rfl
  · rename_i s' next wr _
    exact RS.Cnt.leave (RS.Cnt.wrote (r := { r with s := s'.step next }) (h.of_s rfl rfl rfl rfl rfl rfl rfl) wr) _
theorem blockIns_len (mem : List Int) : ∀ (n : Nat) (pc : Int), (blockIns mem pc n).length ≤ n := by
  intro n
  induction n with
  | zero => intro pc; simp [blockIns]
  | succ n ih =>
    intro pc
    unfold blockIns
    split
    · simp
    · split
      · simp
      · have := ih (pc + 4)
        simp; omega
theorem countB_len (l : List Blk) (pc len bu en : Int) : (countB l pc len bu en).length ≤ l.length + 1 := by
  unfold countB
  split
  · simp
  · simp; omega
theorem countB_ok {l : List Blk} {B E pc len bu en : Int} (hB : 0 ≤ B) (hE : 0 ≤ E) (h : ∀ x ∈ l, BlkOk B E x) (hp : 0 ≤ pc) (hp1 : pc < 4294967296) (hl : 0 ≤ len) (hl1 : len ≤ 8) (hb : 0 ≤ bu) (he : 0 ≤ en) : ∀ x ∈ countB l pc len bu en, BlkOk (B + bu) (E + en) x := by
  have mono : ∀ x, BlkOk B E x → BlkOk (B + bu) (E + en) x := by
    intro x hx; unfold BlkOk at *; omega
  intro x hx
  unfold countB at hx
  split at hx
  · rename_i i hi
    rw [List.mem_iff_getElem?] at hx
    obtain ⟨j, hj⟩ := hx
    rw [List.getElem?_modify] at hj
    cases hq : l[j]? with
    | none => rw [hq] at hj; cases hj
    | some y =>
      rw [hq] at hj
      have hy := h y (List.mem_of_getElem? hq)
      simp only [Option.map_eq_map, Option.map_some, Option.some.injEq] at hj
      split at hj
      · subst hj
        unfold BlkOk bump at *
        dsimp only
        split <;> omega
      · subst hj
        exact mono _ hy
  · simp only [List.mem_append, List.mem_singleton] at hx
    rcases hx with (hx | hx) | hx
    · exact mono _ (h x (List.mem_of_mem_take hx))
    · subst hx
      unfold BlkOk; dsimp only; omega
    · exact mono _ (h x (List.mem_of_mem_drop hx))
theorem getD_ok {l : List (Int × Int)} (h : ∀ q ∈ l, SlotOk q) (k : Nat) : SlotOk (l.getD k (0, 0)) := by
  rw [List.getD_eq_getElem?_getD]
  cases hq : l[k]? with
  | none => exact SlotOk.zero
  | some v => exact h v (List.mem_of_getElem? hq)
theorem RS.Cnt.make {r : RS} {B E A : Int} (h : r.Cnt B E A) (hs : r.s.Ok) (h0 : 0 < r.slots.length) (hB : 0 ≤ B) (hE : 0 ≤ E) : r.make.Cnt (B + 1) E A := by
  have hn := blockIns_len r.s.mem 8 r.s.pc
  have ha := h.arena h0
  have hu := h.used
  have hpc := hs.pc
  unfold RS.make
  dsimp only
  split
  · have hb := countB_ok (pc := r.s.pc) (len := ((blockIns r.s.mem r.s.pc 8).length : Int)) (bu := 1) (en := 0) hB hE h.blocks hpc.1 hpc.2 (by omega) (by omega) (by decide) (by decide)
    have hl := countB_len r.blocks r.s.pc ((blockIns r.s.mem r.s.pc 8).length : Int) 1 0
    have hsl : ∀ q ∈ (if decide (r.arena < r.used + ((blockIns r.s.mem r.s.pc 8).length : Int)) = true then List.replicate r.slots.length ((0 : Int), (0 : Int)) else r.slots), SlotOk q := by
      intro q hq
      split at hq
      · rw [List.mem_replicate] at hq
        rw [hq.2]; exact SlotOk.zero
      · exact h.slots q hq
    refine ⟨?_, ?_, fun _ => ha, ?_, h.cur, h.at_, ?_, ?_, ?_⟩
    · dsimp only
      rw [List.length_set]
      split
      · simpa using h.nslots
      · exact h.nslots
    · intro q hq
      dsimp only at hq
      rcases List.mem_or_eq_of_mem_set hq with hq | hq
      · exact hsl q hq
      · subst hq
        unfold SlotOk; dsimp only; omega
    · dsimp only
      split
      · omega
      · rename_i hc
        have := mt decide_eq_true hc
        omega
    · have := h.built
      dsimp only; omega
    · have := h.nblocks
      dsimp only; omega
    · have e : E + 0 = E := by omega
      rw [e] at hb
      exact hb
  · refine ⟨h.nslots, h.slots, h.arena, h.used, h.cur, h.at_, ?_, ?_, ?_⟩
    · have := h.built; omega
    · have := h.nblocks; omega
    · intro x hx
      have := h.blocks x hx
      unfold BlkOk at *; omega
theorem RS.Cnt.find {r : RS} {B E A : Int} (h : r.Cnt B E A) (hs : r.s.Ok) (h0 : 0 < r.slots.length) (hB : 0 ≤ B) (hE : 0 ≤ E) (hA : 0 ≤ A) : r.find.Cnt (B + 1) (E + 1) A := by
  have hm := h.make hs h0 hB hE
  have hc := getD_ok hm.slots r.make.slotK
  obtain ⟨c0, c1, c2, c3⟩ := hc
  have hb := countB_ok (pc := (r.make.slots.getD r.make.slotK (0, 0)).1) (len := (r.make.slots.getD r.make.slotK (0, 0)).2) (bu := 0) (en := 1) (by omega) hE hm.blocks c0 c1 c2 c3 (by decide) (by decide)
  have hl := countB_len r.make.blocks (r.make.slots.getD r.make.slotK (0, 0)).1 (r.make.slots.getD r.make.slotK (0, 0)).2 0 1
  refine ⟨hm.nslots, hm.slots, hm.arena, hm.used, ⟨c0, c1, c2, c3⟩, ⟨Int.le_refl 0, hA⟩, hm.built, ?_, ?_⟩
  · have := hm.nblocks
    show (((countB _ _ _ _ _).length : Nat) : Int) ≤ _
    omega
  · have e : B + 1 + 0 = B + 1 := by omega
    rw [e] at hb
    exact hb
theorem RS.Cnt.more {r : RS} {B E A B' E' A' : Int} (h : r.Cnt B E A) (hB : B ≤ B') (hE : E ≤ E') (hA : A ≤ A') : r.Cnt B' E' A' :=
  ⟨h.nslots, h.slots, h.arena, h.used, h.cur, ⟨h.at_.1, by have := h.at_.2; omega⟩, ⟨h.built.1, by have := h.built.2; omega⟩, by have := h.nblocks; omega, fun x hx => by have := h.blocks x hx; unfold BlkOk at *; omega⟩
theorem RS.Cnt.seek {r : RS} {B E A : Int} (h : r.Cnt B E A) (hs : r.s.Ok) (hB : 0 ≤ B) (hE : 0 ≤ E) (hA : 0 ≤ A) : r.seek.Cnt (B + 1) (E + 1) A := by
  unfold RS.seek
  split
  · rename_i hn
    refine h.find hs ?_ hB hE hA
    unfold RS.need at hn
    simp only [Bool.and_eq_true, decide_eq_true_eq] at hn
    exact hn.1
  · exact h.more (by omega) (by omega) (by omega)
theorem RS.Cnt.inc {r : RS} {B E A : Int} (h : r.Cnt B E A) : r.inc.Cnt B E (A + 1) :=
  ⟨h.nslots, h.slots, h.arena, h.used, h.cur, ⟨by have := h.at_.1; show 0 ≤ r.at_ + 1; omega, by have := h.at_.2; show r.at_ + 1 ≤ A + 1; omega⟩, h.built, h.nblocks, h.blocks⟩
/-- At the head of a step: the machine's numbers and the counts. -/
structure RS.Head (r : RS) : Prop where
  ok : r.Ok
  cnt : r.Cnt r.s.steps r.s.steps r.s.steps
theorem exec_mem {s s' : St} {i : Ins} {next : Int} {wr : Option (Int × Int)} (hs : s.Ok) (hi : i.Ok) (h : exec s i = .go s' next wr) : Turned s s' ∧ s'.steps = s.steps ∧ 0 ≤ next ∧ next < 4294967296 := by
  have := exec_ok hs hi
  rw [h] at this
  exact this
theorem step_go {r : RS} (he : r.ended = false) (h : r.Head) (hn : r.step.ended = false) : r.step.Head ∧ r.step.s.steps = r.s.steps + 1 := by
  have hst := step_s r he
  obtain ⟨hfu, hst⟩ := hst
  by_cases hf : r.fuel ≤ r.s.steps
  · rw [if_pos hf] at hst; rw [hst.1] at hn; cases hn
  · rw [if_neg hf] at hst
    cases hq : fetch r.s with
    | inl o => rw [hq] at hst; dsimp only at hst; rw [hst.1] at hn; cases hn
    | inr i =>
      rw [hq] at hst
      dsimp only at hst
      have hi := fetch_ok h.ok.s hq
      cases hx : exec r.s i with
      | trap s' o => rw [hx] at hst; dsimp only at hst; rw [hst.1] at hn; cases hn
      | go s' next wr =>
        rw [hx] at hst
        dsimp only at hst
        obtain ⟨hT, hss, m0, m1⟩ := exec_mem h.ok.s hi hx
        have e1 : r.step.s.steps = r.s.steps + 1 := by rw [hst.2]; show s'.steps + 1 = _; rw [hss]
        have s0 := h.ok.steps
        have ev := h.ok.evs
        have tev := hT.evs
        refine ⟨⟨⟨?_, ?_, ?_, ?_, ?_⟩, ?_⟩, e1⟩
        · rw [hst.2]; exact step_ok hT.ok m0 m1
        · rw [hst.2]; show s'.mem.length % 64 = 0; rw [hT.size]; exact h.ok.mem64
        · rw [hfu]; exact h.ok.fuel
        · rw [e1, hfu]; omega
        · rw [e1, hst.2]; show ((s'.evs.length : Nat) : Int) ≤ _; omega
        · rw [e1]
          unfold RS.step
          rw [if_neg hf, hq]
          dsimp only
          exact RS.Cnt.do_ (RS.Cnt.inc (RS.Cnt.seek h.cnt h.ok.s s0.1 s0.1 s0.1)) i
theorem step_end {r : RS} (h : r.Head) : r.step.Cnt (r.s.steps + 1) (r.s.steps + 1) (r.s.steps + 1) := by
  have s0 := h.ok.steps
  have hm : r.Cnt (r.s.steps + 1) (r.s.steps + 1) (r.s.steps + 1) := h.cnt.more (by omega) (by omega) (by omega)
  unfold RS.step
  split
  · exact hm.of_s rfl rfl rfl rfl rfl rfl rfl
  · split
    · exact hm.of_s rfl rfl rfl rfl rfl rfl rfl
    · exact RS.Cnt.do_ (RS.Cnt.inc (RS.Cnt.seek h.cnt h.ok.s s0.1 s0.1 s0.1)) _
end Go.Proofs.YtanccjaikocefaaGreatDoor
namespace Go.Proofs.YtanccjaikocefaaGreatDoor
open Go.ChangeShapes Go.WideShapes Go.ChangeAt Go.RowKit
set_option linter.unusedVariables false

structure Setup where
  pages : Int
  image : ByteArray
  base : Int
  entry : Int
  ans : List ByteArray
  fuel : Int
  slots : Int
  arena : Int
def Setup.cells (p : Setup) (av : Value) : Array Value := #[.int .i64 p.pages, .string p.image, .int .u32 p.base, .int .u32 p.entry, av, .int .i64 p.fuel, .int .i64 p.slots, .int .i64 p.arena]
def i64ok (x : Int) : Prop := -9223372036854775808 ≤ x ∧ x ≤ 9223372036854775807
structure Setup.Ok (p : Setup) : Prop where
  pages : i64ok p.pages
  image : p.image.size ≤ 1048576
  base : 0 ≤ p.base ∧ p.base < 4294967296
  entry : 0 ≤ p.entry ∧ p.entry < 4294967296
  nans : p.ans.length ≤ 4096
  ans : ∀ t ∈ p.ans, t.size ≤ 1048576
  fuel : i64ok p.fuel
  slots : i64ok p.slots
  arena : i64ok p.arena
def Setup.badP (p : Setup) : Bool := decide (p.pages < 1) || decide (8 < p.pages)
def Setup.badI (p : Setup) : Bool := decide (p.pages * 64 < p.base + p.image.size)
def Setup.badF (p : Setup) : Bool := decide (p.fuel < 0) || decide (2000 < p.fuel)
def Setup.badC (p : Setup) : Bool := decide (p.slots < 1) || decide (64 < p.slots) || decide (p.arena < 8) || decide (256 < p.arena)
/-- The error's number, one by one; 'blocks': in blocks. -/
def Setup.err (p : Setup) (blocks : Bool) : Int := if p.badP then 1 else if p.badI then 2 else if p.badF then 3 else if blocks && p.badC then 4 else 0
def Setup.mem0 (p : Setup) : List Int := putAt (List.replicate (p.pages * 64).toNat 0) p.base (bytesOf p.image)
def Setup.st (p : Setup) : St := { regs := fun _ => 0, pc := p.entry, mem := p.mem0, low := p.base + p.image.size, brk := p.base + p.image.size, ans := p.ans, evs := [], steps := 0 }
def Setup.rs (p : Setup) (blocks : Bool) : RS := { s := p.st, out := 0, ended := false, fuel := p.fuel, slots := if blocks then List.replicate p.slots.toNat (0, 0) else [], arena := p.arena, used := 0, cur := (0, 0), at_ := 0, built := 0, blocks := [] }
/-- Nothing is wrong with it. -/
structure Setup.Good (p : Setup) : Prop where
  p0 : 1 ≤ p.pages
  p1 : p.pages ≤ 8
  img : p.base + p.image.size ≤ p.pages * 64
  f0 : 0 ≤ p.fuel
  f1 : p.fuel ≤ 2000
theorem Setup.good {p : Setup} {blocks : Bool} (h : p.err blocks = 0) : p.Good ∧ (blocks = true → 1 ≤ p.slots ∧ p.slots ≤ 64 ∧ 8 ≤ p.arena ∧ p.arena ≤ 256) := by
  unfold Setup.err at h
  by_cases h1 : p.badP = true
  · rw [if_pos h1] at h; omega
  rw [if_neg h1] at h
  by_cases h2 : p.badI = true
  · rw [if_pos h2] at h; omega
  rw [if_neg h2] at h
  by_cases h3 : p.badF = true
  · rw [if_pos h3] at h; omega
  rw [if_neg h3] at h
  unfold Setup.badP at h1
  unfold Setup.badI at h2
  unfold Setup.badF at h3
  simp only [Bool.or_eq_true, decide_eq_true_eq, not_or, Int.not_lt] at h1 h2 h3
  refine ⟨⟨h1.1, h1.2, h2, h3.1, h3.2⟩, ?_⟩
  intro hb
  subst hb
  by_cases h4 : p.badC = true
  · rw [h4] at h; simp at h
  · unfold Setup.badC at h4
    simp only [Bool.or_eq_true, decide_eq_true_eq, not_or, Int.not_lt] at h4
    exact ⟨h4.1.1.1, h4.1.1.2, h4.1.2, h4.2⟩
theorem Setup.mem_len {p : Setup} (h : p.Good) (hb : 0 ≤ p.base) : p.mem0.length = (p.pages * 64).toNat := by
  unfold Setup.mem0
  rw [putAt_size]
  · simp
  · have := h.img
    simp [bytesOf]
    omega
theorem Setup.st_ok {p : Setup} (h : p.Good) (ho : p.Ok) : p.st.Ok := by
  have hl := Setup.mem_len h ho.base.1
  have h1 := h.img
  have h2 := h.p1
  have h0 := h.p0
  have b0 := ho.base.1
  refine ⟨rfl, fun _ => (⟨by decide, by decide⟩ : (0 : Int) ≤ 0 ∧ (0 : Int) < 4294967296), ho.entry, ?_, ?_, ?_, ?_⟩
  · intro x hx
    simp only [Setup.st, Setup.mem0, putAt, List.mem_append] at hx
    rcases hx with (hx | hx) | hx
    · have := List.mem_of_mem_take hx
      rw [List.mem_replicate] at this
      omega
    · exact bytesOf_ok _ x hx
    · have := List.mem_of_mem_drop hx
      rw [List.mem_replicate] at this
      omega
  · show p.mem0.length ≤ 512
    omega
  · show 0 ≤ p.base + (p.image.size : Int) ∧ p.base + (p.image.size : Int) ≤ (p.mem0.length : Int)
    omega
  · show 0 ≤ p.base + (p.image.size : Int) ∧ p.base + (p.image.size : Int) ≤ (p.mem0.length : Int)
    omega
theorem Setup.head {p : Setup} {blocks : Bool} (h : p.err blocks = 0) (ho : p.Ok) : (p.rs blocks).Head := by
  obtain ⟨hg, hb⟩ := Setup.good h
  have hl := Setup.mem_len hg ho.base.1
  have h0 := hg.p0
  have f0 := hg.f0
  refine ⟨⟨Setup.st_ok hg ho, ?_, ⟨hg.f0, hg.f1⟩, ⟨Int.le_refl 0, hg.f0⟩, Int.le_refl 0⟩, ⟨?_, ?_, ?_, (⟨by decide, by decide⟩ : (0 : Int) ≤ 0 ∧ (0 : Int) ≤ 264), SlotOk.zero, ⟨Int.le_refl 0, Int.le_refl 0⟩, ⟨Int.le_refl 0, Int.le_refl 0⟩, ?_, ?_⟩⟩
  · show p.mem0.length % 64 = 0
    omega
  · cases blocks with
    | false => simp [Setup.rs]
    | true => have := hb rfl; simp [Setup.rs]; omega
  · cases blocks with
    | false => intro q hq; simp [Setup.rs] at hq
    | true =>
      intro q hq
      simp only [Setup.rs, if_true, List.mem_replicate] at hq
      rw [hq.2]; exact SlotOk.zero
  · cases blocks with
    | false => intro h; simp [Setup.rs] at h
    | true => intro _; have := hb rfl; show 0 ≤ p.arena ∧ p.arena ≤ 256; omega
  · show ((([] : List Blk).length : Nat) : Int) ≤ (0 : Int) + 0
    decide
  · intro x hx; simp [Setup.rs] at hx
end Go.Proofs.YtanccjaikocefaaGreatDoor
