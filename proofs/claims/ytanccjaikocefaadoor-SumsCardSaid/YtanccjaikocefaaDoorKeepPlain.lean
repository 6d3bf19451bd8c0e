/-
  What holds of a run, plainly: its steps, its memory's size, its fuel; what is built; that with more fuel it goes the same way further. No program in sight.
  The closed program of 'alive', plainly: how it ends, one by one and in blocks. No program in sight, no condition.
-/
import Derived.Test.YtanccjaikocefaaDoorKept
namespace Go.Proofs.YtanccjaikocefaaDoor
open Go.ChangeShapes Go.WideShapes Go.ChangeAt Go.RowKit
set_option linter.unusedVariables false

/-- What an outcome's number and its events are. -/
def OutEv (s : St) : Out → Prop
  | .go s' _ _ => ∃ l, s'.evs = s.evs ++ l
  | .trap s' o => o ≠ 0 ∧ ∃ l, s'.evs = s.evs ++ l
theorem iteE {c : Prop} [Decidable c] {s : St} {x y : Out} (h : OutEv s x) (g : OutEv s y) : OutEv s (if c then x else y) := by
  by_cases e : c
  · rw [if_pos e]; exact h
  · rw [if_neg e]; exact g
theorem iteE' {c : Bool} {s : St} {x y : Out} (h : OutEv s x) (g : OutEv s y) : OutEv s (if c = true then x else y) := iteE h g
theorem exec_ev (s : St) (i : Ins) : OutEv s (exec s i) := by
  have go0 : ∀ (t : St) (k : Int) (wr : Option (Int × Int)), t.evs = s.evs → OutEv s (Out.go t k wr) := fun t k wr h => ⟨[], by rw [h, List.append_nil]⟩
  have tr0 : ∀ (o : Int), o ≠ 0 → OutEv s (Out.trap s o) := fun o h => ⟨h, [], by rw [List.append_nil]⟩
  have gt0 : ∀ k, OutEv s (goesTo s k) := fun k => iteE (go0 _ _ _ rfl) (tr0 _ (by decide))
  have cl0 : ∀ n, OutEv s (doCall s n) := by
    intro n
    unfold doCall
    dsimp only
    refine iteE ⟨by decide, _, rfl⟩ (iteE (iteE ⟨_, rfl⟩ (go0 _ _ _ rfl)) (iteE (iteE ⟨_, rfl⟩ (go0 _ _ _ rfl)) (iteE (go0 _ _ _ rfl) (go0 _ _ _ rfl))))
  unfold exec
  dsimp only
  refine iteE (go0 _ _ _ rfl) (iteE (go0 _ _ _ rfl) (iteE (iteE (go0 _ _ _ rfl) (tr0 _ (by decide))) (iteE (iteE (go0 _ _ _ rfl) (tr0 _ (by decide))) (iteE (iteE (gt0 _) (go0 _ _ _ rfl)) (iteE (iteE (tr0 _ (by decide)) (iteE (go0 _ _ _ rfl) (tr0 _ (by decide))))
    (iteE (iteE (tr0 _ (by decide)) (iteE (go0 _ _ _ rfl) (tr0 _ (by decide)))) (iteE (go0 _ _ _ rfl) (iteE (go0 _ _ _ rfl) (iteE (go0 _ _ _ rfl) (iteE (cl0 _) (tr0 _ (by decide))))))))))))
/-- A run keeps the memory's size, goes on, and not beyond its fuel. -/
theorem runS_keep (fuel : Int) (n : Nat) : ∀ s : St, s.Ok → s.steps ≤ fuel → (runS fuel n s).1.mem.length = s.mem.length ∧ s.steps ≤ (runS fuel n s).1.steps ∧ (runS fuel n s).1.steps ≤ fuel ∧ ((n : Int) = fuel - s.steps → (runS fuel n s).2 = 0 → (runS fuel n s).1.steps = fuel) ∧ (∃ l, (runS fuel n s).1.evs = s.evs ++ l) := by
  induction n with
  | zero => intro s _ hf; exact ⟨rfl, Int.le_refl _, hf, fun h _ => by show s.steps = fuel; omega, [], (List.append_nil _).symm⟩
  | succ n ih =>
    intro s hs hf
    rw [runS]
    by_cases hlt : s.steps < fuel
    · rw [if_pos hlt]
      cases hq : fetch s with
      | inl o =>
        have := fetch_trap hq
        exact ⟨rfl, Int.le_refl _, hf, fun _ h => by dsimp only at h; omega, [], (List.append_nil _).symm⟩
      | inr i =>
        have hx := exec_ok hs (fetch_ok hs hq)
        have he := exec_ev s i
        dsimp only
        cases hr : exec s i with
        | trap s' o =>
          rw [hr] at hx he
          obtain ⟨hT, h1, h2⟩ := hx
          exact ⟨hT.size, h1, by show s'.steps ≤ fuel; omega, fun _ h => absurd h he.1, he.2⟩
        | go s' next wr =>
          rw [hr] at hx he
          obtain ⟨hT, hst, m0, m1⟩ := hx
          obtain ⟨l, hl⟩ := he
          have h3 : (s'.step next).steps = s.steps + 1 := by show s'.steps + 1 = _; rw [hst]
          have h4 : (s'.step next).mem.length = s.mem.length := hT.size
          have h5 : (s'.step next).evs = s.evs ++ l := hl
          obtain ⟨a, b, c, d, l2, e⟩ := ih (s'.step next) (step_ok hT.ok m0 m1) (by omega)
          dsimp only
          refine ⟨a.trans h4, by omega, c, fun h => d (by omega), l ++ l2, ?_⟩
          rw [e, h5, List.append_assoc]
    · rw [if_neg hlt]
      exact ⟨rfl, Int.le_refl _, hf, fun _ _ => by show s.steps = fuel; omega, [], (List.append_nil _).symm⟩
theorem runS_evn (fuel : Int) (n : Nat) : ∀ s : St, s.Ok → (runS fuel n s).1.evs.length ≤ s.evs.length + n := by
  induction n with
  | zero => intro s _; exact Nat.le_refl _
  | succ n ih =>
    intro s hs
    rw [runS]
    split
    · cases hf : fetch s with
      | inl o => dsimp only; omega
      | inr i =>
        have hx := exec_ok hs (fetch_ok hs hf)
        dsimp only
        cases hq : exec s i with
        | trap s' o =>
          rw [hq] at hx
          have h2 : s'.evs.length ≤ s.evs.length + 1 := hx.1.evs
          show s'.evs.length ≤ s.evs.length + (n + 1)
          omega
        | go s' next wr =>
          rw [hq] at hx
          obtain ⟨hT, hst, m0, m1⟩ := hx
          have h1 := ih (s'.step next) (step_ok hT.ok m0 m1)
          have h2 : s'.evs.length ≤ s.evs.length + 1 := hT.evs
          have h3 : (s'.step next).evs.length = s'.evs.length := rfl
          rw [h3] at h1
          show (runS fuel n (s'.step next)).1.evs.length ≤ s.evs.length + (n + 1)
          omega
    · dsimp only; omega
/-- With more fuel the same way further. -/
theorem runS_more {f g : Int} (hfg : f ≤ g) (n : Nat) : ∀ (m : Nat) (s : St), s.Ok → (n : Int) = f - s.steps → (m : Int) = g - s.steps →
    runS f n s = runS g m s ∨ ((runS f n s).2 = 0 ∧ (runS f n s).1.steps ≤ (runS g m s).1.steps ∧ ∃ l, (runS g m s).1.evs = (runS f n s).1.evs ++ l) := by
  induction n with
  | zero =>
    intro m s hs hn hm
    obtain ⟨_, b, _, _, e⟩ := runS_keep g m s hs (by omega)
    exact .inr ⟨rfl, b, e⟩
  | succ n ih =>
    intro m s hs hn hm
    obtain ⟨m, rfl⟩ : ∃ k, m = k + 1 := ⟨m - 1, by omega⟩
    rw [runS, runS, if_pos (by omega), if_pos (by omega)]
    cases hq : fetch s with
    | inl o => exact .inl rfl
    | inr i =>
      have hx := exec_ok hs (fetch_ok hs hq)
      dsimp only
      cases hr : exec s i with
      | trap s' o => exact .inl rfl
      | go s' next wr =>
        rw [hr] at hx
        obtain ⟨hT, hst, m0, m1⟩ := hx
        have h3 : (s'.step next).steps = s.steps + 1 := by show s'.steps + 1 = _; rw [hst]
        exact ih m (s'.step next) (step_ok hT.ok m0 m1) (by omega) (by omega)
/-- No more is built than instructions are done, but one. -/
theorem runR_built (n : Nat) : ∀ r : RS, r.ended = false → r.Head → (n : Int) = r.fuel - r.s.steps → 0 ≤ (runR (n + 1) r).built ∧ (runR (n + 1) r).built ≤ (runR (n + 1) r).s.steps + 1 := by
  induction n with
  | zero =>
    intro r he h hn
    have hs := step_s r he
    rw [if_pos (by omega)] at hs
    have hc := (step_end h).built
    simp only [runR, he, Bool.false_eq_true, if_false]
    rw [hs.2.2.1]
    exact hc
  | succ n ih =>
    intro r he h hn
    rw [runR, if_neg (by rw [he]; decide)]
    by_cases hd : r.step.ended = true
    · have e : runR (n + 1) r.step = r.step := by rw [runR, if_pos hd]
      rw [e]
      have hc := (step_end h).built
      have hs := step_s r he
      rw [if_neg (by omega)] at hs
      have hle : r.s.steps ≤ r.step.s.steps := by
        cases hq : fetch r.s with
        | inl o => rw [hq] at hs; rw [hs.2.2.1]; exact Int.le_refl _
        | inr i =>
          rw [hq] at hs
          have hx := exec_ok h.ok.s (fetch_ok h.ok.s hq)
          dsimp only at hs
          cases hr : exec r.s i with
          | trap s' o => rw [hr] at hs hx; dsimp only at hs; rw [hs.2.2.1]; exact hx.2.1
          | go s' next wr => rw [hr] at hs; dsimp only at hs; rw [hs.2.1] at hd; cases hd
      omega
    · have hd : r.step.ended = false := by simpa using hd
      obtain ⟨hh, hst⟩ := step_go he h hd
      have hfu := (step_s r he).1
      exact ih r.step hd hh (by omega)
theorem str_append (a b : List Int) : strOfNums (a ++ b) = strOfNums a ++ strOfNums b := by
  apply ByteArray.ext
  apply Array.ext'
  simp [strOfNums]
theorem str_bytes {l : List Int} (h : ∀ x ∈ l, 0 ≤ x ∧ x < 256) : bytesOf (strOfNums l) = l := by
  unfold bytesOf
  rw [strOfNums_data, List.map_map]
  conv => rhs; rw [← List.map_id l]
  refine List.map_congr_left (fun x hx => ?_)
  have := h x hx
  simp only [Function.comp, id, UInt8.toNat_ofNat']
  omega
/-- The bytes of a word, little end first. -/
def wordB (w : Int) : List Int := [w % 256, w / 256 % 256, w / 65536 % 256, w / 16777216 % 256]
theorem wordB_ok (w : Int) : ∀ x ∈ wordB w, 0 ≤ x ∧ x < 256 := by
  intro x hx
  simp only [wordB, List.mem_cons, List.not_mem_nil, or_false] at hx
  rcases hx with rfl | rfl | rfl | rfl <;> omega
def textB (l : List Int) : List Int := l.flatMap wordB
theorem textB_ok (l : List Int) : ∀ x ∈ textB l, 0 ≤ x ∧ x < 256 := by
  intro x hx
  obtain ⟨w, _, h⟩ := List.mem_flatMap.1 hx
  exact wordB_ok w x h
theorem textB_len (l : List Int) : (textB l).length = 4 * l.length := by
  induction l with
  | nil => rfl
  | cons a l ih => simp only [textB, List.flatMap_cons, List.length_append] at ih ⊢; rw [ih]; simp only [wordB, List.length_cons, List.length_nil]; omega
end Go.Proofs.YtanccjaikocefaaDoor
namespace Go.Proofs.YtanccjaikocefaaDoor
open Go.ChangeShapes Go.WideShapes Go.ChangeAt Go.RowKit
set_option linter.unusedVariables false

def aliveW : List Int := [5243027, 1377587, 4293951635, 4261453027, 97519763, 115]
def aliveP : Setup := { pages := 1, image := strOfNums (textB aliveW), base := 0, entry := 0, ans := [], fuel := 100, slots := 2, arena := 8 }
theorem alive_ok : aliveP.Ok := by
  refine ⟨?_, ?_, ?_, ?_, ?_, ?_, ?_, ?_, ?_⟩
  · unfold i64ok; decide
  · show (strOfNums (textB aliveW)).size ≤ 1048576; rw [strOfNums_size, textB_len]; decide
  · decide
  · decide
  · decide
  · intro t h; cases h
  · unfold i64ok; decide
  · unfold i64ok; decide
  · unfold i64ok; decide
theorem alive_err : aliveP.err true = 0 ∧ aliveP.err false = 0 := ⟨by kernel_rfl, by kernel_rfl⟩
theorem alive_out : (runS 100 100 aliveP.st).2 = 1 := by kernel_rfl
theorem alive_reg : (runS 100 100 aliveP.st).1.regs 10 = 15 := by kernel_rfl
theorem alive_steps : (runS 100 100 aliveP.st).1.steps = 18 := by kernel_rfl
theorem alive_evs : (runS 100 100 aliveP.st).1.evs = [Ev.mk 93 15 ByteArray.empty] := by kernel_rfl
theorem alive_built : (runR 101 (aliveP.rs true)).built = 3 := by kernel_rfl
end Go.Proofs.YtanccjaikocefaaDoor
