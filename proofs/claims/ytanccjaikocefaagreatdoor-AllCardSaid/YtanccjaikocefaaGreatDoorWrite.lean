/-
  The contract of 'write' where the callback does nothing. Conditions: the machine lies in memory; the bytes lie in the machine's memory; they come from another block.
-/
import Derived.Test.YtanccjaikocefaaGreatDoorMeth3
import Derived.Laws.CopyOwn
namespace Go.Proofs.YtanccjaikocefaaGreatDoor
open Go.ChangeShapes Go.WideShapes Go.ChangeAt Go.RowKit
set_option linter.unusedVariables false

theorem putAt_map (mem bs : List Int) (n : Nat) : ((putAt mem n bs).map (Value.int .u8)) = (mem.map (Value.int .u8)).take n ++ (bs.map (Value.int .u8) ++ (mem.map (Value.int .u8)).drop (n + (bs.map (Value.int .u8)).length)) := by
  simp [putAt]
theorem putAt_len (mem bs : List Int) (n : Nat) (h : n + bs.length ≤ mem.length) : (putAt mem n bs).length = mem.length := by simp [putAt]; omega
theorem wpList_copy_mem {w : World} {ops : Array Oper} {rest : List Oper} {p : String} {es : Array Edge} {a : Act} {Q : Exit → Act → World → Prop} {dt : Option Tmp} {ty : TypeId} (d s : Operand) (sT : TypeId)
    (mb n dLen dCap : Nat) (ad : Addr) (sCap : Nat) (mem bs : List Int) (hd : a.eval d = .slice (some ⟨mb, n, none⟩) dLen dCap) (hs : a.eval s = .slice (some ad) bs.length sCap)
    (hg : w.heap[mb]? = some (.cells (mem.map (Value.int .u8)).toArray 5 (0, 0))) (hn : bs.length ≤ dLen) (hsrc : ∀ j v, (bs.map (Value.int .u8))[j]? = some v → w.cell? (ad.add j) = some v) (hfit : n + bs.length ≤ mem.length)
    (h : ∀ w1, Only (· = mb) w w1 → w1.heap[mb]? = some (.cells ((putAt mem n bs).map (Value.int .u8)).toArray 5 (0, 0)) → wpList Tryz.prog ops Q rest (a.put dt (goInt bs.length)) w1) :
    wpList Tryz.prog ops Q (⟨dt, .call { callee := .builtin .copy, args := #[d, s], argTypes := #[67, sT] }, ty, p, es, none⟩ :: rest) a w := by
  refine wpList_copy_own rfl d s 67 sT rfl 5 Tryz.underlying67 (by kernel_rfl) mb n dLen dCap ad bs.length sCap hd hs _ _ hg (bs.map (Value.int .u8)) (by rw [List.length_map]; exact (Nat.min_eq_left hn).symm) hsrc (by simpa using hfit) (by simp [Value.oneCell']) ?_
  have e : (bs.map (Value.int .u8)).length = bs.length := by simp
  rw [e]
  refine h _ ⟨rfl, rfl, rfl, by simp [World.setRow], fun k hk hne => setRow_other w mb k _ hne⟩ ?_
  rw [setRow_heap w mb _ _ _ _ hg, putAt_map]
  simp
/-- What 'write' comes to. -/
def WriteP (eff : Int → Int → World → World → Prop) (b : Nat) (s : St) (x : Raw) (n : Nat) (bs : List Int) (w : World) (e : Ending) (w' : World) : Prop :=
  e = .returned (.tuple #[]) ∧ Mach w' b { s with mem := putAt s.mem n bs } x ∧ w.heap.size ≤ w'.heap.size ∧ (bs = [] → w' = w) ∧ (bs ≠ [] → ∃ w1, Only (Mb b x) w w1 ∧ eff ((n : Int) / 64) (((n : Int) + bs.length - 1) / 64) w1 w')
/-- That 'write' comes to that, whatever it writes. -/
def WriteSpec (eff : Int → Int → World → World → Prop) (b : Nat) (clo : Value) (pre : World → Prop) : Prop :=
  ∀ (s : St) (x : Raw) (n : Nat) (bs : List Int) (g o c : Nat) (w : World), Mach w b s x → x.wrote = clo → pre w → s.mem.length ≤ 512 → n + bs.length ≤ s.mem.length → (∀ j v, (bs.map (Value.int .u8))[j]? = some v → w.cell? ⟨g, o + j, none⟩ = some v) → bs.length ≤ c →
    Calls Tryz.prog 72 #[.pointer (some ⟨b, 0, none⟩), .int .u32 n, .slice (some ⟨g, o, none⟩) bs.length c] w (WriteP eff b s x n bs w)
theorem new1_any (a c : Int) (w : World) : Calls Tryz.prog 44 #[.int .u32 a, .int .u32 c] w fun e w' => e = .returned (.tuple #[]) ∧ w = w' := by
  go_enter Tryz.func44, Tryz.ntmps44
  go_wp2
  go_end0
  exact ⟨rfl, rfl⟩
theorem Mach.mem' {w w1 : World} {b : Nat} {s : St} {x : Raw} {bs : List Int} {n : Nat} (h : Mach w b s x) (ho : Only (· = x.mb) w w1) (hg : w1.heap[x.mb]? = some (.cells ((putAt s.mem n bs).map (Value.int .u8)).toArray 5 (0, 0))) (hf : n + bs.length ≤ s.mem.length) : Mach w1 b { s with mem := putAt s.mem n bs } x := by
  refine ⟨?_, hg, h.ne, h.ans.only ho h.nea.2, Nat.lt_of_lt_of_le h.abLt ho.size, h.nea, ownsRow_only h.evs ho (fun g hg => (h.nee g hg).2.1), h.nee⟩
  have := ho.heap h.ne h.mac
  unfold MacAt at *
  rw [this]
  congr 3
  unfold mCells
  rw [putAt_len _ _ _ hf]
set_option maxRecDepth 100000 in
theorem write_plain (b : Nat) : WriteSpec (fun _ _ w w' => w' = w) b (.func (.func 44) #[] #[]) (fun _ => True) := by
  intro s x n bs g o c w h hclo _ hlen hfit hsrc hcap
  have H := h
  have h33 := h.mac.mem
  have h36 := h.mac.wrote
  rw [hclo] at h36
  cases hne : ((bs.length : Int) == 0)
  · have hpos : 0 < bs.length := by
      cases bs with
      | nil => simp at hne
      | cons a l => simp
    go_enter Tryz.func72, Tryz.ntmps72
    have hle : bs.length ≤ s.mem.length - n := by omega
    go_wp2_with ((with_reducible refine wpList_copy_mem (.tmp 14) (.tmp 15) 67 x.mb n (s.mem.length - n) (s.mem.length - n) ⟨g, o, none⟩ c s.mem bs ?_ ?_ H.mem hle ?_ hfit ?_); (focus rfl); (focus rfl); (focus exact (fun j v hj => by rw [Addr.add_mid]; exact hsrc j v hj)))
    intro w1 ho1 hg1
    have k36 : w1.cell? ⟨b, 36, none⟩ = some (.func (.func 44) #[] #[]) := ho1.cell H.ne h36
    clear h33 h36 hsrc
    go_wp2_with (go_at_call 44; refine (new1_any _ _ _).mono ?_; rintro e w' ⟨rfl, rfl⟩)
    go_end0
    refine ⟨rfl, H.mem' ho1 hg1 hfit, ho1.size, fun e => ?_, fun _ => ⟨_, ho1.mono (fun _ _ h => .inr (.inl h)), rfl⟩⟩
    rw [e] at hpos
    exact absurd hpos (by decide)
  · go_enter Tryz.func72, Tryz.ntmps72
    go_wp2_with fail
    have e0 : bs = [] := by simpa using hne
    subst e0
    refine bodyPost_ret (results_none rfl _ _ _) rfl ⟨rfl, ?_, Nat.le_refl _, fun _ => rfl, fun h => absurd rfl h⟩
    have : putAt s.mem n [] = s.mem := by simp [putAt]
    rw [this]
    exact H
end Go.Proofs.YtanccjaikocefaaGreatDoor
