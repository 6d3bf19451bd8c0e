/-
  The contract of Guard: it runs a function; where that ends by a trap, it hands back how. Condition: the function leaves Guard's own variable alone.
-/
import Derived.Test.YtanccjaikocefaaGreatDoorMeth1
import Derived.Recover
import Derived.Laws.Pointers
namespace Go.Proofs.YtanccjaikocefaaGreatDoor
open Go.ChangeShapes Go.WideShapes Go.ChangeAt Go.RowKit
set_option linter.unusedVariables false

/-- The world in which Guard runs the function: its own variable is there. -/
def gw (w : World) : World := w.alloc (.cells #[.int .i64 0] 37)
/-- How the function may end: it returns, or traps; Guard's variable is as it was. -/
def Guarded (w : World) (Q : Int → World → Prop) (e : Ending) (w' : World) : Prop :=
  w'.heap[w.heap.size]? = some (.cells #[.int .i64 0] 37 (0, 0)) ∧ ((e = .returned (.tuple #[]) ∧ Q 0 w') ∨ (∃ o, e = trapE o ∧ Q o w'))
def GuardP (w : World) (Q : Int → World → Prop) (e : Ending) (w' : World) : Prop := ∃ o w1, e = .returned (.int .i64 o) ∧ Q o w1 ∧ Only (· = w.heap.size) w1 w'
theorem assert_trap (o : Int) (w : World) : (Instr.typeAssert (.iface 103 (.agg #[.int .i64 o])) 20 103 true).run Tryz.prog w = .ok (.tuple #[.agg #[.int .i64 o], .bool true]) w := by kernel_rfl
theorem assert_nil (w : World) : (Instr.typeAssert .nilIface 20 103 true).run Tryz.prog w = .ok (.tuple #[.agg #[.int .i64 0], .bool false]) w := by kernel_rfl
theorem catch_panicking (p : Nat) (x o : Int) (older : List PanicEntry) (w : World) (hc : w.cell? ⟨p, 0, none⟩ = some (.int .i64 x)) (hz : w.frozen? ⟨p, 0, none⟩ = false) (hp : p < w.heap.size) :
    CallsD Tryz.prog 45 #[.pointer (some ⟨p, 0, none⟩)] (.panicking ({ v := .iface 103 (.agg #[.int .i64 o]), recovered := false } :: older)) w fun e u' w' =>
      e = .returned (.tuple #[]) ∧ u' = .panicking ({ v := .iface 103 (.agg #[.int .i64 o]), recovered := true } :: older) ∧ w' = (w.alloc (.cells #[.int .i64 o] 103)).setCell ⟨p, 0, none⟩ (.int .i64 o) := by
  refine callsD_of_wpS Tryz.func45 rfl fun c₀ cs hu => ?_
  apply wpS_seq
  apply wpS_region
  simp [wpOpsS, go_sem, recoverD, hu, Tryz.ntmps45, Exit.thenS, assert_trap]
  apply wpS_seq
  apply wpS_region
  simp [wpOpsS, go_sem, Exit.thenS, Array.replicate]
  refine wpS_cond (t := true) (by simp [Act.eval]) ?_
  simp only [if_true]
  apply wpS_region
  have hp' : ¬ p = w.heap.size := by omega
  have hne : (w.alloc (.cells #[.int .i64 o] 103)).cell? ⟨p, 0, none⟩ = some (.int .i64 x) := (Only.refl (fun _ => False) w).alloc _ |>.cell (fun h => h) hc
  have hnf : (w.alloc (.cells #[.int .i64 o] 103)).frozen? ⟨p, 0, none⟩ = false := (Only.refl (fun _ => False) w).alloc _ |>.free (fun h => h) hp hz
  simp [wpOpsS, go_sem, hne, hnf, bodyPostS, results, Tryz.results45]
theorem catch_idle (p : Nat) (x : Int) (w : World) (hc : w.cell? ⟨p, 0, none⟩ = some (.int .i64 x)) :
    CallsD Tryz.prog 45 #[.pointer (some ⟨p, 0, none⟩)] .returning w fun e u' w' => e = .returned (.tuple #[]) ∧ u' = .returning ∧ w' = w.alloc (.cells #[.int .i64 0] 103) := by
  refine callsD_of_wpS Tryz.func45 rfl fun c₀ cs hu => ?_
  apply wpS_seq
  apply wpS_region
  simp [wpOpsS, go_sem, recoverD, hu, Tryz.ntmps45, Exit.thenS, assert_nil]
  apply wpS_seq
  apply wpS_region
  simp [wpOpsS, go_sem, Exit.thenS, Array.replicate]
  refine wpS_cond (t := false) (by simp [Act.eval]) ?_
  simp only [Bool.false_eq_true, if_false]
  refine wpS_of_wp (wp_skip ?_)
  cases c₀
  simp_all [bodyPostS, results, Tryz.results45]
set_option maxRecDepth 100000 in
theorem guard_any (f : Nat) (caps : Array Value) (w : World) (Q : Int → World → Prop) (hcf : ∀ w, (callFunc f caps).run Tryz.prog w = .ok (.enter f caps) w) (hc : Calls Tryz.prog f caps (gw w) (Guarded w Q)) :
    Calls Tryz.prog 29 #[.func (.func f) #[] caps] w (GuardP w Q) := by
  have hmf : ∀ (fn : Fn) (first cap : Array Value) (w : World), (Instr.makeFunc fn first cap).run Tryz.prog w = .ok (.func fn first cap) w := fun _ _ _ _ => rfl
  unfold gw at hc
  have HC := Lib.hid hc
  clear hc
  go_enter_defers Tryz.func29, Tryz.ntmps29
  go_wp2_with fail
  refine HC.out.mono ?_
  rintro e w1 ⟨hcell, hor⟩
  have hp : w.heap.size < w1.heap.size := heap_lt hcell
  have c0 : w1.cell? ⟨w.heap.size, 0, none⟩ = some (.int .i64 0) := cell_of_row w1 _ 0 _ _ _ hcell
  have z0 : w1.frozen? ⟨w.heap.size, 0, none⟩ = false := frozen_of_row w1 _ 0 _ _ hcell
  have HD := Lib.hid hcell
  have HO := Lib.hid hor
  clear hcell hor
  rcases HO.out with ⟨rfl, hq⟩ | ⟨o, rfl, hq⟩
  · go_wp2_with fail
    have ho : Only (· = w.heap.size) w1 (w1.setCell ⟨w.heap.size, 0, none⟩ (.int .i64 0)) := (Only.refl _ _).set1 _ _
    have c1 : (w1.setCell ⟨w.heap.size, 0, none⟩ (.int .i64 0)).cell? ⟨w.heap.size, 0, none⟩ = some (.int .i64 0) := World.cell?_setCell_same w1 ⟨w.heap.size, 0, none⟩ _ c0
    refine leaves_cons (f := 45) (args := #[.pointer (some ⟨w.heap.size, 0, none⟩)]) (by simp) (by simp [go_sem]) ?_
    refine (catch_idle w.heap.size 0 _ c1).mono ?_
    rintro e u' w'' ⟨rfl, rfl, rfl⟩
    have c2 : ((w1.setCell ⟨w.heap.size, 0, none⟩ (.int .i64 0)).alloc (.cells #[.int .i64 0] 103)).cell? ⟨w.heap.size, 0, none⟩ = some (.int .i64 0) := ((Only.refl (fun _ => False) _).alloc _).cell (fun h => h) c1
    simp only [settle]
    refine ⟨.int .i64 0, by simp [results, Tryz.results29, go_sem, c2], 0, w1, rfl, hq, ho.alloc _⟩
  · go_wp2_with fail
    refine leaves_cons (f := 45) (args := #[.pointer (some ⟨w.heap.size, 0, none⟩)]) (by simp) (by simp [go_sem]) ?_
    refine (catch_panicking w.heap.size 0 o [] _ c0 z0 hp).mono ?_
    rintro e u' w'' ⟨rfl, rfl, rfl⟩
    have c2 : ((w1.alloc (.cells #[.int .i64 o] 103)).setCell ⟨w.heap.size, 0, none⟩ (.int .i64 o)).cell? ⟨w.heap.size, 0, none⟩ = some (.int .i64 o) := by
      have := ((Only.refl (fun _ => False) w1).alloc (.cells #[.int .i64 o] 103)).cell (fun h => h) c0
      exact World.cell?_setCell_same _ ⟨w.heap.size, 0, none⟩ _ this
    simp only [settle]
    refine ⟨.int .i64 o, by simp [results, Tryz.results29, go_sem, c2], o, w1, rfl, hq, ((Only.refl _ w1).alloc _).set1 _ _⟩
end Go.Proofs.YtanccjaikocefaaGreatDoor
