/-
  The cache's blocks, in the order of their addresses, and chains.Profile. Condition: the setup lies in memory; the table lies.
-/
import Derived.Test.YtanccjaikocefaaDoorOrder
import Derived.Test.YtanccjaikocefaaDoorCRun3
namespace Go.Proofs.YtanccjaikocefaaDoor
open Go.ChangeShapes Go.WideShapes Go.ChangeAt Go.RowKit Go.Sort Go.Shelf
set_option linter.unusedVariables false

theorem runR_stay (n : Nat) (r : RS) (h : r.ended = true) : runR n r = r := by
  cases n
  · rfl
  · rw [runR, if_pos h]
theorem runR_blocks (n : Nat) : ∀ r : RS, r.ended = false → r.Head → (runR n r).blocks.length ≤ 4002 := by
  induction n with
  | zero =>
    intro r he h
    have h1 := h.cnt.nblocks
    have h2 := h.ok.steps
    have h3 := h.ok.fuel
    show r.blocks.length ≤ 4002
    omega
  | succ n ih =>
    intro r he h
    rw [runR, if_neg (by rw [he]; decide)]
    cases hn : r.step.ended
    · exact ih r.step hn (step_go he h hn).1
    · rw [runR_stay n _ hn]
      have h1 := (step_end h).nblocks
      have h2 := h.ok.steps
      have h3 := h.ok.fuel
      omega
theorem R_blocks (p : Setup) (hp : p.Ok) (h : p.err true = 0) : p.R.blocks.length ≤ 4002 := runR_blocks _ _ rfl (Setup.head h hp)
theorem size_blks (l : List Blk) : Maps.size (blksD l) = l.length := by simp [blksD, Maps.size]
theorem values_any (mb : Nat) (w : World) : Calls Tryd.prog 72 #[.map (some mb)] w fun e w' => e = .returned (.func (.func 91) #[] #[.pointer (some ⟨w.heap.size, 0, none⟩)]) ∧ w' = w.alloc (.cells #[.map (some mb)] 94) := by
  go_enter Tryd.func72, Tryd.ntmps72
  go_wp2
  go_ret
  exact ⟨rfl, rfl⟩
/-- What a sorted row comes to. -/
def RowP (l : List Blk) (w : World) (e : Ending) (w' : World) : Prop := ∃ v, e = .returned v ∧ w'.ownsRow w.heap.size 63 4 v l.length (blkCells l) ∧ Only (fun _ => False) w w'
set_option maxHeartbeats 1000000 in
theorem sortedfunc_any (Bm b nn : Nat) (l : List Blk) (hri : Rising l) (hl : l.length ≤ 6000) (w : World) (hBm : Bm < w.heap.size) (hm : w.cell? ⟨Bm, 0, none⟩ = some (.map (some b))) (hown : SeenIs w b nn l) :
    Calls Tryd.prog 71 #[.func (.func 91) #[] #[.pointer (some ⟨Bm, 0, none⟩)], .func (.func 73) #[] #[]] w (RowP l w) := by
  have hcol := callsIn_wide.1 (collect_seq Fence.wide 3 trivial trivial rfl (Nat.le_refl _) 91 #[.pointer (some ⟨Bm, 0, none⟩)] trivial (enters_of Tryd.func91 (by kernel_rfl) rfl) (fun ss => ss.Perm l) (Maps.size (blksD l)) (by rw [size_blks]; exact hl) w
    (values_gives Fence.wide _ trivial rfl (Nat.le_refl _) Bm b nn l hri w hBm hm hown))
  have HCOL := Lib.hid hcol
  clear hcol hm hown
  go_enter Tryd.func71, Tryd.ntmps71
  go_wp2_with (go_at_call 89; refine HCOL.out.mono ?_; rintro e W ⟨v, ss, rfl, hS, hrow, hnil, hb⟩)
  have hO : Only (fun _ => False) w W := ⟨hb.os, hb.tape, hb.output, hb.size, fun k hk _ => hb.block k hk⟩
  have hlen : ss.length = l.length := List.Perm.length_eq hS
  rcases hrow.2 with ⟨rfl, hz⟩ | ⟨gb, cap, cur, rfl, hbase, hgb, r1, r2, r3, r4⟩
  · have hss : ss = [] := List.eq_nil_of_length_eq_zero hz
    subst hss
    have hll : l = [] := List.eq_nil_of_length_eq_zero (by simpa using hlen.symm)
    subst hll
    go_wp2_with (go_at_call 90; refine (sort_nil _ W).mono ?_; rintro e w' ⟨rfl, rfl⟩)
    go_ret
    exact ⟨.slice none 0 0, rfl, by simpa using hrow, hO⟩
  · have hso := sort_any w.heap.size gb cap l ss hri hS (by omega) W hrow
    rw [hlen] at hso ⊢
    have HSO := Lib.hid hso
    clear hso hgb hrow r1 r2 r3 r4 hnil
    go_wp2_with (go_at_call 90; refine HSO.out.mono ?_; rintro e w' ⟨rfl, hrow', ho'⟩)
    go_ret
    exact ⟨_, rfl, hrow', hO.trans ho' (fun _ _ h => h) (fun i hi h => by omega)⟩
/-- What (*Cache).Seen comes to. -/
theorem seen_any (cb b slb m mb nn : Nat) (ar us bu : Int) (l : List Blk) (hri : Rising l) (hl : l.length ≤ 6000) (w : World) (hc : w.heap[cb]? = some (.cells (cRow b slb m ar us bu (.map (some mb))) 96 (0, 0))) (hown : SeenIs w mb nn l) :
    Calls Tryd.prog 43 #[.pointer (some ⟨cb, 0, none⟩)] w (RowP l w) := by
  have c5 : w.cell? ⟨cb, 5, none⟩ = some (.map (some mb)) := cell_of_row w _ 5 _ _ _ hc
  have hmb := hown.lt
  have hO : Only (fun _ => False) w (w.alloc (.cells #[.map (some mb)] 94)) := (Only.refl _ w).alloc _
  have hown' := hown.only hO (fun h => h)
  have hs := sortedfunc_any w.heap.size mb nn l hri hl (w.alloc (.cells #[.map (some mb)] 94)) (by simp) (by simp) hown'
  have HS := Lib.hid hs
  have HO := Lib.hid hO
  clear hs hO hown hown' hc
  go_enter Tryd.func43, Tryd.ntmps43
  go_wp2_with (first | (go_at_call 72; refine (values_any mb _).mono ?_; rintro e w' ⟨rfl, rfl⟩) | (go_at_call 71; refine HS.out.mono ?_; rintro e w' ⟨v, rfl, hrow, ho⟩))
  go_ret
  exact ⟨_, rfl, ownsRow_base hrow (by simp), HO.out.then ho⟩
/-- The blocks that Profile and Play hand back. -/
def Setup.L (p : Setup) : List Blk := if p.err true = 0 then p.R.blocks else []
theorem L_len (p : Setup) (hp : p.Ok) : p.L.length ≤ 4002 := by
  unfold Setup.L
  split
  · rename_i h
    exact R_blocks p hp h
  · exact Nat.zero_le _
/-- What Profile comes to. -/
def ProfP (k : Int) (l : List Blk) (w : World) (e : Ending) (w' : World) : Prop := ∃ v, e = .returned (.tuple #[v, .int .i64 k]) ∧ w'.ownsRow w.heap.size 63 4 v l.length (blkCells l) ∧ Only (fun _ => False) w w'
theorem results_vk {fn : Func} {p q : Tmp} (hres : fn.results = #[.tmp p, .tmp q]) (tmps : Array Value) (w : World) (v1 v2 : Value) (h1 : tmps.getD p undef = v1) (h2 : tmps.getD q undef = v2) :
    (results fn tmps).run Tryd.prog w = .ok (.tuple #[v1, v2]) w := by
  have h1' : tmps[p]?.getD undef = v1 := by simpa using h1
  have h2' : tmps[q]?.getD undef = v2 := by simpa using h2
  simp [results, hres, h1', h2']
set_option maxRecDepth 100000 in
theorem profile_err (p : Setup) (av : Value) (w : World) (k : Int) (hk : (k == 0) = false) (hbl : ∀ W, Only (fun _ => False) w W → Calls Tryd.prog 41 #[.agg (p.cells av)] W (BlocksN k W)) :
    Calls Tryd.prog 27 #[.agg (p.cells av)] w (ProfP k [] w) := by
  unfold Setup.cells at *
  have HN := Lib.hid hbl
  have hk2 : (k != 0) = true := by simp only [bne, hk]; rfl
  clear hbl
  go_enter Tryd.func27, Tryd.ntmps27
  go_wp2_with fail
  obtain ⟨W0, hW0⟩ : ∃ W0, W0 = bw p av w := ⟨_, rfl⟩
  have hO0 : Only (fun _ => False) w W0 := hW0 ▸ bw_only p av w
  unfold bw Setup.cells at hW0
  rw [← hW0]
  clear hW0
  refine (HN.out W0 hO0).mono ?_
  rintro e w1 ⟨rfl, ho1⟩
  go_wp2_with fail
  refine bodyPost_ret (results_vk Tryd.results27 _ _ _ _ (by rfl) (by rfl)) rfl ?_
  exact ⟨.slice none 0 0, rfl, World.ownsRow_nil _ _ _ _, hO0.then ho1⟩
set_option maxRecDepth 100000 in
theorem profile_good (p : Setup) (hl : p.R.blocks.length ≤ 4002) (av : Value) (w : World) (hbl : ∀ W, Only (fun _ => False) w W → Calls Tryd.prog 41 #[.agg (p.cells av)] W (BlocksG p W)) :
    Calls Tryd.prog 27 #[.agg (p.cells av)] w (ProfP 0 p.R.blocks w) := by
  unfold Setup.cells at *
  have HN := Lib.hid hbl
  clear hbl
  go_enter Tryd.func27, Tryd.ntmps27
  go_wp2_with fail
  obtain ⟨W0, hW0⟩ : ∃ W0, W0 = bw p av w := ⟨_, rfl⟩
  have hO0 : Only (fun _ => False) w W0 := hW0 ▸ bw_only p av w
  unfold bw Setup.cells at hW0
  rw [← hW0]
  clear hW0
  refine (HN.out W0 hO0).mono ?_
  rintro e w1 ⟨b, cb, slb, mb, n, m, x, rfl, hM, hu, l1, l2, hc, hn, hr, ho1⟩
  have hseen := seen_any cb b slb m mb n _ _ _ p.R.blocks hr (by omega) w1 hc hn
  have HS := Lib.hid hseen
  have HO := Lib.hid (hO0.then ho1)
  clear hM hc hn hr hO0 ho1 hseen hu
  go_wp2_with fail
  refine HS.out.mono ?_
  rintro e w2 ⟨v, rfl, hrow, ho2⟩
  go_wp2_with fail
  refine bodyPost_ret (results_vk Tryd.results27 _ _ _ _ (by rfl) (by rfl)) rfl ?_
  exact ⟨v, rfl, ownsRow_base hrow HO.out.size, HO.out.then ho2⟩
/-- Profile, whatever the setup. -/
theorem profile_any (p : Setup) (hp : p.Ok) (ab : Nat) (av : Value) (w : World) (ha : TextsAt w ab av p.ans) (hab : ab < w.heap.size) (ht : Tab w) :
    Calls Tryd.prog 27 #[.agg (p.cells av)] w (ProfP (p.err true) p.L w) := by
  have hb : ∀ W, Only (fun _ => False) w W → Calls Tryd.prog 41 #[.agg (p.cells av)] W (fun e w' => (p.err true = 0 → BlocksG p W e w') ∧ (p.err true ≠ 0 → BlocksN (p.err true) W e w')) := fun W hO => blocks_any p hp ab av W (ha.only hO (fun h => h)) (Nat.lt_of_lt_of_le hab hO.size) (ht.only hO (fun h => h))
  unfold Setup.L
  by_cases h : p.err true = 0
  · rw [if_pos h, h]
    exact profile_good p (R_blocks p hp h) av w (fun W hO => (hb W hO).mono (fun e w' q => q.1 h))
  · rw [if_neg h]
    exact profile_err p av w _ (by simpa using h) (fun W hO => (hb W hO).mono (fun e w' q => q.2 h))
end Go.Proofs.YtanccjaikocefaaDoor
