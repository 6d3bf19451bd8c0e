/-
  What the plain machine keeps: a decoded instruction's fields are in their ranges; a state's numbers stay in theirs. No program in sight. No condition but those ranges.
-/
import Derived.Test.YtanccjaikocefaaDoorStep
namespace Go.Proofs.YtanccjaikocefaaDoor
open Go.ChangeShapes Go.WideShapes Go.ChangeAt Go.RowKit
set_option linter.unusedVariables false

theorem tabRows_op : ∀ r ∈ tabRows, 0 ≤ r.1 ∧ r.1 ≤ 47 := by decide
theorem fillI_ok (op f wd : Int) (h0 : 0 ≤ op) (h1 : op ≤ 47) (w0 : 0 ≤ wd) (w1 : wd < 4294967296) : (fillI op f wd).Ok := by
  unfold fillI
  split
  · refine ⟨⟨h0, h1⟩, ?_, ?_, ?_, ?_⟩ <;> simp only [rdF, rs1F, rs2F] <;> omega
  split
  · refine ⟨⟨h0, h1⟩, ?_, ?_, ?_, ?_⟩ <;> simp only [rdF, rs1F, immI, wrap32] <;> omega
  split
  · refine ⟨⟨h0, h1⟩, ?_, ?_, ?_, ?_⟩ <;> simp only [rdF, rs1F, rs2F] <;> omega
  split
  · refine ⟨⟨h0, h1⟩, ?_, ?_, ?_, ?_⟩ <;> simp only [rs1F, rs2F, immS, wrap32] <;> omega
  split
  · refine ⟨⟨h0, h1⟩, ?_, ?_, ?_, ?_⟩ <;> simp only [rs1F, rs2F, immB, wrap32] <;> omega
  split
  · refine ⟨⟨h0, h1⟩, ?_, ?_, ?_, ?_⟩ <;> simp only [rdF, immU, wrap32] <;> omega
  split
  · refine ⟨⟨h0, h1⟩, ?_, ?_, ?_, ?_⟩ <;> simp only [rdF, immJ, wrap32] <;> omega
  · refine ⟨⟨h0, h1⟩, ?_, ?_, ?_, ?_⟩ <;> simp
theorem decO_ok {wd : Int} {i : Ins} (w0 : 0 ≤ wd) (w1 : wd < 4294967296) (h : decO wd = some i) : i.Ok := by
  unfold decO at h
  rw [Option.map_eq_some_iff] at h
  obtain ⟨r, hr, rfl⟩ := h
  have hm := List.mem_of_find?_eq_some hr
  obtain ⟨a, b⟩ := tabRows_op r hm
  exact fillI_ok _ _ _ a b w0 w1
theorem byteAt_ok {s : St} (h : s.Ok) (k : Int) : 0 ≤ byteAt s.mem k ∧ byteAt s.mem k < 256 := by
  unfold byteAt
  rw [List.getD_eq_getElem?_getD]
  cases e : s.mem[k.toNat]? with
  | none => simp
  | some v => exact h.mem v (List.mem_of_getElem? e)
theorem wordAt_ok {s : St} (h : s.Ok) (k : Int) : 0 ≤ wordAt s.mem k ∧ wordAt s.mem k < 4294967296 := by
  have a := byteAt_ok h k
  have b := byteAt_ok h (k + 1)
  have c := byteAt_ok h (k + 1 + 1)
  have d := byteAt_ok h (k + 1 + 1 + 1)
  simp only [wordAt, leAt]
  omega
theorem fetch_ok {s : St} {i : Ins} (h : s.Ok) (hf : fetch s = .inr i) : i.Ok := by
  unfold fetch at hf
  split at hf
  · cases hf
  · split at hf
    · have w := wordAt_ok h s.pc
      split at hf
      · rename_i j hj
        cases hf
        exact decO_ok w.1 w.2 hj
      · cases hf
    · cases hf
theorem fetch_trap {s : St} {o : Int} (hf : fetch s = .inl o) : o = 2 ∨ o = 3 ∨ o = 4 := by
  unfold fetch at hf
  split at hf
  · cases hf; simp
  · split at hf
    · split at hf
      · cases hf
      · cases hf; simp
    · cases hf; simp
theorem u32_ok (x : Int) : 0 ≤ u32 x ∧ u32 x < 4294967296 := by unfold u32; omega
theorem setR_ok {r : Nat → Int} {d v : Int} (h : ∀ j, 0 ≤ r j ∧ r j < 4294967296) (h0 : 0 ≤ v) (h1 : v < 4294967296) : ∀ j, 0 ≤ setR r d v j ∧ setR r d v j < 4294967296 := by
  intro j
  unfold setR
  split
  · exact ⟨h0, h1⟩
  · exact h j
theorem set_ok {s : St} {d v : Int} (h : s.Ok) (h0 : 0 ≤ v) (h1 : v < 4294967296) : (s.set d v).Ok :=
  ⟨by simp [St.set, setR, h.zero], setR_ok h.regs h0 h1, h.pc, h.mem, h.len, h.low, h.brk⟩
theorem step_ok {s : St} {n : Int} (h : s.Ok) (h0 : 0 ≤ n) (h1 : n < 4294967296) : (s.step n).Ok :=
  ⟨h.zero, h.regs, ⟨h0, h1⟩, h.mem, h.len, h.low, h.brk⟩
theorem putAt_size (mem : List Int) (k : Int) (bs : List Int) (h : k.toNat + bs.length ≤ mem.length) : (putAt mem k bs).length = mem.length := by
  simp [putAt]; omega
theorem put_ok {s : St} {k : Int} {bs : List Int} (h : s.Ok) (hb : ∀ x ∈ bs, 0 ≤ x ∧ x < 256) (hl : k.toNat + bs.length ≤ s.mem.length) : ({ s with mem := putAt s.mem k bs } : St).Ok := by
  refine ⟨h.zero, h.regs, h.pc, ?_, ?_, ?_, ?_⟩
  · intro x hx
    simp only [putAt, List.mem_append] at hx
    rcases hx with (hx | hx) | hx
    · exact h.mem x (List.mem_of_mem_take hx)
    · exact hb x hx
    · exact h.mem x (List.mem_of_mem_drop hx)
  · show (putAt s.mem k bs).length ≤ 512
    rw [putAt_size _ _ _ hl]; exact h.len
  · show 0 ≤ s.low ∧ s.low ≤ ((putAt s.mem k bs).length : Int)
    rw [putAt_size _ _ _ hl]; exact h.low
  · show 0 ≤ s.brk ∧ s.brk ≤ ((putAt s.mem k bs).length : Int)
    rw [putAt_size _ _ _ hl]; exact h.brk
theorem bytesOf_ok (t : ByteArray) : ∀ x ∈ bytesOf t, 0 ≤ x ∧ x < 256 := by
  intro x hx
  simp only [bytesOf, List.mem_map] at hx
  obtain ⟨c, _, rfl⟩ := hx
  have := c.toNat_lt
  omega
theorem bits_ok (op : BinOp) (a b : Int) : 0 ≤ bits op IntKind.u32 a b ∧ bits op IntKind.u32 a b < 4294967296 := by
  have k : ∀ x : Int, 0 ≤ IntKind.u32.wrap x ∧ IntKind.u32.wrap x < 4294967296 := by
    intro x
    simp [IntKind.wrap, IntKind.signed, IntKind.bits]
    omega
  unfold bits
  exact k _
theorem tru_ok (b : Bool) : 0 ≤ tru b ∧ tru b < 4294967296 := by cases b <;> decide
theorem mod_ok (x : Int) : 0 ≤ x % 4294967296 ∧ x % 4294967296 < 4294967296 := by omega
theorem rcmp_ok (op a b : Int) (a0 : 0 ≤ a) (a1 : a < 4294967296) (b0 : 0 ≤ b) (b1 : b < 4294967296) : 0 ≤ rcmpI op a b ∧ rcmpI op a b < 4294967296 := by
  have sh : ∀ n : Nat, 0 ≤ a / 2 ^ n ∧ a / 2 ^ n < 4294967296 := by
    intro n
    have p : (0 : Int) < 2 ^ n := Int.pow_pos (by decide)
    exact ⟨Int.ediv_nonneg a0 (Int.le_of_lt p), Int.lt_of_le_of_lt (Int.ediv_le_self _ a0) a1⟩
  have md : 0 ≤ a % b ∧ a % b ≤ a := by
    have hx : a = (a.toNat : Int) := by omega
    have hy : b = (b.toNat : Int) := by omega
    rw [hx, hy]
    have := Nat.mod_le a.toNat b.toNat
    omega
  have qq : 0 ≤ quoI a b ∧ quoI a b < 4294967296 := by
    unfold quoI
    repeat' split
    all_goals first | exact mod_ok _ | omega
  have rr : 0 ≤ remI a b ∧ remI a b < 4294967296 := by
    unfold remI
    repeat' split
    all_goals first | exact mod_ok _ | omega
  have ite : ∀ (c : Bool) (x y : Int), (0 ≤ x ∧ x < 4294967296) → (0 ≤ y ∧ y < 4294967296) → 0 ≤ (if c then x else y) ∧ (if c then x else y) < 4294967296 := by
    intro c x y hx hy
    cases c
    · simpa using hy
    · simpa using hx
  unfold rcmpI
  repeat (first | refine ite _ _ _ ?_ ?_ | exact mod_ok _ | exact bits_ok _ _ _ | exact tru_ok _ | exact sh _ | exact qq | exact rr | omega)
theorem cmp_ok (op a b : Int) (h0 : 18 ≤ op) (h1 : op ≤ 44) (a0 : 0 ≤ a) (a1 : a < 4294967296) (b0 : 0 ≤ b) (b1 : b < 4294967296) : 0 ≤ cmpI op a b ∧ cmpI op a b < 4294967296 := by
  have h := cap_same op a b a0 a1 b0 b1
  unfold capI at h
  rw [if_neg (by omega)] at h
  rw [h]
  exact rcmp_ok op a b a0 a1 b0 b1
/-- How far an instruction may turn a state. -/
structure Turned (s s' : St) : Prop where
  ok : s'.Ok
  size : s'.mem.length = s.mem.length
  low : s'.low = s.low
  evs : s'.evs.length ≤ s.evs.length + 1
  ans : ∃ k, s'.ans = s.ans.drop k
theorem Turned.refl {s : St} (h : s.Ok) : Turned s s := ⟨h, rfl, rfl, by omega, 0, rfl⟩
theorem Turned.set {s s' : St} {d v : Int} (h : Turned s s') (v0 : 0 ≤ v) (v1 : v < 4294967296) : Turned s (s'.set d v) := ⟨set_ok h.ok v0 v1, h.size, h.low, h.evs, h.ans⟩
theorem le_ok {s : St} (h : s.Ok) (k : Int) (n : Nat) : 0 ≤ leAt s.mem k n ∧ leAt s.mem k n < 256 ^ n := by
  induction n generalizing k with
  | zero => simp [leAt]
  | succ n ih =>
    have a := byteAt_ok h k
    have b := ih (k + 1)
    simp only [leAt]
    rw [Int.pow_succ]
    omega
theorem loadV_ok {s : St} (h : s.Ok) (op k : Int) : 0 ≤ loadV op s.mem k ∧ loadV op s.mem k < 4294967296 := by
  unfold loadV
  have e : (wide op).toNat = 1 ∨ (wide op).toNat = 2 ∨ (wide op).toNat = 4 := by
    unfold wide; repeat' split
    all_goals simp
  have b := le_ok h k (wide op).toNat
  have c : leAt s.mem k (wide op).toNat < 4294967296 := by
    rcases e with e | e | e <;> rw [e] at b ⊢ <;> omega
  have q1 : (op == 10) = true → leAt s.mem k (wide op).toNat < 256 := by
    intro q
    have : op = 10 := by simpa using q
    subst this
    simpa [wide] using b.2
  have q2 : (op == 11) = true → leAt s.mem k (wide op).toNat < 65536 := by
    intro q
    have : op = 11 := by simpa using q
    subst this
    simpa [wide] using b.2
  show 0 ≤ (if (op == 10) = true then _ else _) ∧ (if (op == 10) = true then _ else _) < 4294967296
  split
  · rename_i hq
    have := q1 hq
    split <;> omega
  · split
    · rename_i hq
      have := q2 hq
      split <;> omega
    · omega
theorem storeB_ok (op v : Int) : (∀ x ∈ storeB op v, 0 ≤ x ∧ x < 256) ∧ (storeB op v).length = (wide op).toNat := by
  constructor
  · intro x hx
    unfold storeB at hx
    have := List.mem_of_mem_take hx
    simp only [List.mem_cons, List.not_mem_nil, or_false] at this
    rcases this with rfl | rfl | rfl | rfl <;> omega
  · unfold storeB wide
    repeat' split
    all_goals simp
theorem extract_size (t : ByteArray) (n : Nat) : (t.extract 0 n).size ≤ n := by
  simp [ByteArray.size_extract]; omega
theorem call_ok {s : St} (h : s.Ok) (n : Int) : (∀ s' m wr, doCall s n = .go s' m wr → Turned s s' ∧ s'.steps = s.steps ∧ m = n) ∧ (∀ s' o, doCall s n = .trap s' o → Turned s s' ∧ s'.steps = s.steps + 1) := by
  have r10 := h.regs 10
  have r11 := h.regs 11
  have r12 := h.regs 12
  unfold doCall
  simp only
  split
  · refine ⟨fun _ _ _ e => (by cases e), fun s' o e => ?_⟩
    cases e
    exact ⟨⟨⟨h.zero, h.regs, h.pc, h.mem, h.len, h.low, h.brk⟩, rfl, rfl, by simp, 0, rfl⟩, rfl⟩
  split
  · split
    · refine ⟨fun _ _ _ e => ?_, fun s' o e => (by cases e)⟩
      cases e
      refine ⟨Turned.set ⟨⟨h.zero, h.regs, h.pc, h.mem, h.len, h.low, h.brk⟩, rfl, rfl, by simp, 0, rfl⟩ r12.1 r12.2, rfl, rfl⟩
    · refine ⟨fun _ _ _ e => ?_, fun s' o e => (by cases e)⟩
      cases e
      exact ⟨(Turned.refl h).set (by decide) (by decide), rfl, rfl⟩
  split
  · split
    · rename_i hl
      refine ⟨fun _ _ _ e => ?_, fun s' o e => (by cases e)⟩
      cases e
      unfold lies at hl
      have hl2 := of_decide_eq_true hl
      have hs := extract_size (s.ans.headD ByteArray.empty) (s.regs 12).toNat
      have hb : (bytesOf ((s.ans.headD ByteArray.empty).extract 0 (s.regs 12).toNat)).length = ((s.ans.headD ByteArray.empty).extract 0 (s.regs 12).toNat).size := by simp [bytesOf]
      have hfit : (s.regs 11).toNat + (bytesOf ((s.ans.headD ByteArray.empty).extract 0 (s.regs 12).toNat)).length ≤ s.mem.length := by rw [hb]; omega
      have hp := put_ok h (bytesOf_ok _) hfit
      have hq := putAt_size _ _ _ hfit
      refine ⟨Turned.set ⟨⟨hp.zero, hp.regs, hp.pc, hp.mem, hp.len, hp.low, hp.brk⟩, hq, rfl, by simp, 1, by simp⟩ (by omega) (by omega), rfl, rfl⟩
    · refine ⟨fun _ _ _ e => ?_, fun s' o e => (by cases e)⟩
      cases e
      exact ⟨(Turned.refl h).set (by decide) (by decide), rfl, rfl⟩
  split
  · refine ⟨fun _ _ _ e => ?_, fun s' o e => (by cases e)⟩
    cases e
    have hk := h.brk
    have hl := h.len
    have hb : 0 ≤ (if s.low ≤ s.regs 10 ∧ s.regs 10 ≤ (s.mem.length : Int) then s.regs 10 else s.brk) ∧ (if s.low ≤ s.regs 10 ∧ s.regs 10 ≤ (s.mem.length : Int) then s.regs 10 else s.brk) ≤ (s.mem.length : Int) := by
      split
      · omega
      · exact hk
    exact ⟨Turned.set ⟨⟨h.zero, h.regs, h.pc, h.mem, h.len, h.low, hb⟩, rfl, rfl, by simp, 0, rfl⟩ hb.1 (by omega), rfl, rfl⟩
  · refine ⟨fun _ _ _ e => ?_, fun s' o e => (by cases e)⟩
    cases e
    exact ⟨(Turned.refl h).set (by decide) (by decide), rfl, rfl⟩
/-- What an outcome keeps. -/
def OutOk (s : St) : Out → Prop
  | .go s' m _ => Turned s s' ∧ s'.steps = s.steps ∧ 0 ≤ m ∧ m < 4294967296
  | .trap s' _ => Turned s s' ∧ s.steps ≤ s'.steps ∧ s'.steps ≤ s.steps + 1
theorem iteO {c : Prop} [Decidable c] {s : St} {x y : Out} (h : c → OutOk s x) (g : ¬ c → OutOk s y) : OutOk s (if c then x else y) := by
  by_cases e : c
  · rw [if_pos e]; exact h e
  · rw [if_neg e]; exact g e
theorem exec_ok {s : St} {i : Ins} (h : s.Ok) (hi : i.Ok) : OutOk s (exec s i) := by
  have T := Turned.refl h
  have n4 := u32_ok (s.pc + 4)
  have ra := h.regs i.rs1.toNat
  have rb := h.regs i.rs2.toNat
  have trap0 : ∀ k : Int, OutOk s (Out.trap s k) := fun k => ⟨T, by omega, by omega⟩
  have go0 : ∀ (t : St) (k : Int) (wr : Option (Int × Int)), Turned s t → t.steps = s.steps → 0 ≤ k → k < 4294967296 → OutOk s (Out.go t k wr) := fun t k wr a b c d => ⟨a, b, c, d⟩
  have q1 := u32_ok (s.regs i.rs1.toNat + i.imm)
  have hw : 0 ≤ wide i.op := by
    unfold wide
    repeat' split
    all_goals decide
  have dcd : ∀ {p : Prop} [Decidable p], ¬ (decide p = true) → ¬ p := fun h k => h (decide_eq_true k)
  unfold exec
  extract_lets a b next
  refine iteO (fun g0 => go0 _ _ _ (T.set (u32_ok _).1 (u32_ok _).2) rfl n4.1 n4.2) (fun g0 => ?_)
  refine iteO (fun g1 => go0 _ _ _ (T.set (u32_ok _).1 (u32_ok _).2) rfl n4.1 n4.2) (fun g1 => ?_)
  refine iteO (fun g2 => iteO (fun _ => go0 _ _ _ (T.set n4.1 n4.2) rfl (u32_ok _).1 (u32_ok _).2) (fun _ => trap0 _)) (fun g2 => ?_)
  refine iteO (fun g3 => iteO (fun _ => go0 _ _ _ (T.set n4.1 n4.2) rfl (by show 0 ≤ u32 (s.regs i.rs1.toNat + i.imm) / 2 * 2; omega) (by show u32 (s.regs i.rs1.toNat + i.imm) / 2 * 2 < 4294967296; omega)) (fun _ => trap0 _)) (fun g3 => ?_)
  refine iteO (fun g4 => iteO (fun _ => iteO (fun _ => go0 _ _ _ T rfl (u32_ok _).1 (u32_ok _).2) (fun _ => trap0 _)) (fun _ => go0 _ _ _ T rfl n4.1 n4.2)) (fun g4 => ?_)
  refine iteO (fun g5 => iteO (fun _ => trap0 _) (fun _ => iteO (fun _ => ?_) (fun _ => trap0 _))) (fun g5 => ?_)
  · have q := loadV_ok h i.op (u32 (a + i.imm))
    exact go0 _ _ _ (T.set q.1 q.2) rfl n4.1 n4.2
  refine iteO (fun g6 => iteO (fun _ => trap0 _) (fun _ => iteO (fun hl => ?_) (fun _ => trap0 _))) (fun g6 => ?_)
  · unfold lies at hl
    have hl2 : u32 (s.regs i.rs1.toNat + i.imm) + wide i.op ≤ (s.mem.length : Int) := of_decide_eq_true hl
    have hb := storeB_ok i.op (s.regs i.rs2.toNat)
    have hfit : (u32 (s.regs i.rs1.toNat + i.imm)).toNat + (storeB i.op (s.regs i.rs2.toNat)).length ≤ s.mem.length := by rw [hb.2]; omega
    exact go0 _ _ _ ⟨put_ok h hb.1 hfit, putAt_size _ _ _ hfit, rfl, by simp, 0, rfl⟩ rfl n4.1 n4.2
  have g6' := dcd g6
  refine iteO (fun g7 => ?_) (fun g7 => ?_)
  · have g7' := of_decide_eq_true g7
    have q := cmp_ok i.op (s.regs i.rs1.toNat) (u32 i.imm) (by omega) (by omega) ra.1 ra.2 (u32_ok _).1 (u32_ok _).2
    exact go0 _ _ _ (T.set q.1 q.2) rfl n4.1 n4.2
  refine iteO (fun g8 => ?_) (fun g8 => ?_)
  · have g8' := of_decide_eq_true g8
    have q := cmp_ok i.op (s.regs i.rs1.toNat) (s.regs i.rs2.toNat) (by omega) (by omega) ra.1 ra.2 rb.1 rb.2
    exact go0 _ _ _ (T.set q.1 q.2) rfl n4.1 n4.2
  refine iteO (fun g9 => go0 _ _ _ T rfl n4.1 n4.2) (fun g9 => ?_)
  refine iteO (fun g10 => ?_) (fun g10 => trap0 _)
  obtain ⟨c1, c2⟩ := call_ok h next
  cases e : doCall s next with
  | go s' m wr =>
    obtain ⟨x, y, rfl⟩ := c1 s' m wr e
    exact ⟨x, y, n4.1, n4.2⟩
  | trap s' o =>
    obtain ⟨x, y⟩ := c2 s' o e
    exact ⟨x, by omega, by omega⟩
end Go.Proofs.YtanccjaikocefaaDoor
