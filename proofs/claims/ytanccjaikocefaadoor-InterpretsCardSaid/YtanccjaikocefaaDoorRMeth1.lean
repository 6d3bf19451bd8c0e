/-
  The contracts of the document's machine's small methods: lies, load, set, stop, goes, ends. Conditions: the machine lies in memory; numbers are in their ranges.
-/
import Derived.Test.YtanccjaikocefaaDoorRMach
import Derived.Deep.LoopGhost
namespace Go.Proofs.YtanccjaikocefaaDoor
open Go.ChangeShapes Go.WideShapes Go.ChangeAt Go.RowKit
set_option linter.unusedVariables false

theorem rlies_any (b : Nat) (at_ n : Int) (r : RS) (x : RRaw) (w : World) (h : RAt w b r x) (h0 : 0 ≤ at_) (h1 : at_ < 4294967296) (g0 : 0 ≤ n) (g1 : n < 4294967296) (hl : r.s.mem.length ≤ 512) :
    Calls Tryd.prog 61 #[.pointer (some ⟨b, 0, none⟩), .int .u32 at_, .int .u32 n] w fun e w' => e = .returned (.bool (lies r.s at_ n)) ∧ w = w' := by
  have hm := h.mem
  go_enter Tryd.func61, Tryd.ntmps61
  go_wp2
  go_ret
  exact ⟨rfl, rfl⟩
set_option maxRecDepth 100000 in
theorem rload_any (b : Nat) (r : RS) (hs : r.s.Ok) (x : RRaw) (at_ : Int) (n : Nat) (hn : n ≤ 4) (h0 : 0 ≤ at_) (hl : at_ + n ≤ (r.s.mem.length : Int)) (w : World) (h : RAt w b r x) (hmem : w.heap[x.mb]? = some (.cells (r.s.mem.map (Value.int .u8)).toArray 5 (0, 0))) :
    Calls Tryd.prog 62 #[.pointer (some ⟨b, 0, none⟩), .int .u32 at_, .int .u32 n] w (fun e w' => e = .returned (.int .u32 (leAt r.s.mem at_ n)) ∧ w = w') := by
  obtain ⟨m, rfl⟩ := Int.eq_ofNat_of_zero_le h0
  have hlen := hs.len
  have h39 := h.mem
  have hfit : m + n ≤ r.s.mem.length := by omega
  have HM := Lib.hid hmem
  clear hmem
  go_enter Tryd.func62, Tryd.ntmps62
  go_wp2_with fail
  go_loop [7, 8] (fun v i => ∃ k : Nat, k ≤ n ∧ i = .int .u32 k ∧ v = .int .u32 (leAt r.s.mem m k)) (fun _ i => n - (intOf i).toNat)
  case atStart => exact ⟨0, Nat.zero_le _, rfl, rfl⟩
  case round =>
    obtain ⟨k, hk, rfl, rfl⟩ := hrel
    have hbd := leAt_bd r.s.mem hs.mem k m
    have hbb := byteAt_bd hs.mem ((m : Int) + k)
    by_cases hlt : k < n
    · have hcell : w.cell? ⟨x.mb, m + k, none⟩ = some (.int .u8 (byteAt r.s.mem ((m : Int) + k))) := by
        have := mem_cell HM.out (m + k) (by omega)
        simpa using this
      obtain ⟨q0, q1⟩ := hbb
      obtain ⟨r0, r1⟩ := hbd
      have R1 := Lib.hid r1
      clear r1
      go_wp2_with fail
      go_round
      case rel => exact ⟨k + 1, by omega, by go_num, by rw [word_or _ _ k (by omega) r0 R1.out q0 q1, leAt_snoc]⟩
      case measure => simp [intOf]; omega
    · have hk4 : k = n := by omega
      subst hk4
      go_wp2_with fail
      go_ret
      exact ⟨rfl, rfl⟩
/-- What a method that turns the struct's block alone comes to. -/
def RSt (b : Nat) (w : World) (v : Value) (r' : RS) (x : RRaw) (e : Ending) (w' : World) : Prop := e = .returned v ∧ RAt w' b r' x ∧ Only (· = b) w w'
def RS.setr (r : RS) (d v : Int) : RS := { r with s := r.s.set d v }
theorem setR_pos (f : Nat → Int) (d v : Int) (h : 0 < d) : rset f d.toNat v = setR f d v := by
  funext j
  unfold rset setR
  by_cases e : j = d.toNat
  · rw [if_pos e, if_pos ⟨e, by omega⟩]
  · rw [if_neg e, if_neg (fun h => e h.1)]
theorem setR_zero (f : Nat → Int) (v : Int) : setR f 0 v = f := by
  funext j
  unfold setR
  rw [if_neg]
  rintro ⟨a, b⟩
  exact b (by simpa using a)
theorem rset_any (b : Nat) (d v : Int) (hd0 : 0 ≤ d) (hd1 : d < 32) (r : RS) (x : RRaw) (w : World) (h : RAt w b r x) :
    Calls Tryd.prog 82 #[.pointer (some ⟨b, 0, none⟩), .int .i64 d, .int .u32 v] w (RSt b w (.tuple #[]) (r.setr d v) x) := by
  obtain ⟨n, rfl⟩ := Int.eq_ofNat_of_zero_le hd0
  have hr := h.reg n (by omega)
  have hf := h.free (2 + n)
  have hsz := h.lt
  cases hz : ((n : Int) != 0)
  · go_enter Tryd.func82, Tryd.ntmps82
    go_wp2
    have e0 : n = 0 := by simpa using hz
    subst e0
    first | go_end0 | refine bodyPost_ret (results_none rfl _ _ _) rfl ?_
    refine ⟨rfl, h.sub ?_, Only.refl _ _⟩
    unfold RS.setr St.set rCells rTail
    simp only [Int.ofNat_eq_natCast, Int.natCast_zero, setR_zero]
  · have hp : 0 < n := by
      have : ¬ (n : Int) = 0 := by simpa using hz
      omega
    go_enter Tryd.func82, Tryd.ntmps82
    go_wp2
    first | go_end0 | refine bodyPost_ret (results_none rfl _ _ _) rfl ?_
    refine ⟨rfl, (h.putReg n v (by omega)).sub ?_, (Only.refl _ w).set1 _ _⟩
    have := setR_pos r.s.regs n v (by omega)
    unfold RS.setr St.set rCells rTail
    simp only [← this, Int.toNat_natCast]
theorem rstop_any (b : Nat) (o : Int) (r : RS) (x : RRaw) (w : World) (h : RAt w b r x) :
    Calls Tryd.prog 60 #[.pointer (some ⟨b, 0, none⟩), .int .i64 o] w (RSt b w (.tuple #[]) (r.end_ o) x) := by
  have h0 := h.out
  have h43 := h.ended
  have f0 := h.free 0
  have f43 := h.free 43
  have hsz := h.lt
  go_enter Tryd.func60, Tryd.ntmps60
  go_wp2
  go_end0
  exact ⟨rfl, (h.putOut o).putEnded true, ((Only.refl _ w).set1 _ _).set1 _ _⟩
def RS.gone (r : RS) (to : Int) : RS := { r with s := { r.s with pc := to, steps := r.s.steps + 1 }, cur := (0, 0) }
theorem rgoes_no (b : Nat) (to : Int) (r : RS) (x : RRaw) (w : World) (h : RAt w b r x) (h0 : 0 ≤ to) (ht : (to % 4 != 0) = true) :
    Calls Tryd.prog 81 #[.pointer (some ⟨b, 0, none⟩), .int .u32 to] w (RSt b w (.bool false) (r.end_ 3) x) := by
  go_enter Tryd.func81, Tryd.ntmps81
  go_wp2_with fail
  refine (rstop_any b 3 r x _ h).mono ?_
  rintro e w1 ⟨rfl, h1, ho1⟩
  go_wp2_with fail
  go_ret
  exact ⟨rfl, h1, ho1⟩
theorem rgoes_yes (b : Nat) (to : Int) (r : RS) (x : RRaw) (w : World) (h : RAt w b r x) (h0 : 0 ≤ to) (ht : (to % 4 != 0) = false) (s0 : 0 ≤ r.s.steps) (s1 : r.s.steps ≤ 10000) :
    Calls Tryd.prog 81 #[.pointer (some ⟨b, 0, none⟩), .int .u32 to] w (RSt b w (.bool true) (r.gone to) x) := by
  have k1 := h.pc
  have k37 := h.steps
  have k47 := h.cur1
  have k48 := h.cur2
  have f1 := h.free 1
  have f37 := h.free 37
  have f47 := h.free 47
  have f48 := h.free 48
  have hsz := h.lt
  go_enter Tryd.func81, Tryd.ntmps81
  go_wp2
  go_ret
  exact ⟨rfl, (((h.putPc to).putSteps _).putCur1 0).putCur2 0, ((((Only.refl _ w).set1 _ _).set1 _ _).set1 _ _).set1 _ _⟩
theorem rends_any (op : Int) (w : World) (h0 : 0 ≤ op) (h1 : op ≤ 47) :
    Calls Tryd.prog 93 #[.int .i64 op] w fun e w' => e = .returned (.bool (endsI op)) ∧ w = w' := by
  go_enter Tryd.func93, Tryd.ntmps93
  go_wp2
  all_goals
    go_ret
    refine ⟨congrArg (fun a => Ending.returned (.bool a)) (?_ : _ = endsI _), rfl⟩
    unfold endsI
    rw [Bool.eq_iff_iff]
    simp
    try omega
end Go.Proofs.YtanccjaikocefaaDoor
