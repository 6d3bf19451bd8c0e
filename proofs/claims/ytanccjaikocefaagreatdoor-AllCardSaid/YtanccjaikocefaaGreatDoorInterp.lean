/-
  The contract of Interpret's loop (Interpret$1): a run one by one, as the plain machine has it ('runS'). Conditions: the machine lies in memory; its numbers are in their ranges; the table lies.
-/
import Derived.Test.YtanccjaikocefaaGreatDoorAt
import Derived.Deep.LoopGhost
import Derived.Deep.CutRange
import Derived.Deep.RegionWith
import Derived.Deep.RegionHeld3
namespace Go.Proofs.YtanccjaikocefaaGreatDoor
open Go.ChangeShapes Go.WideShapes Go.ChangeAt Go.RowKit
set_option linter.unusedVariables false

/-- A setup's cells, as far as the loop reads them. -/
def clo0 : Value := .func (.func 44) #[] #[]
/-- What the run comes to. -/
def RunP (fuel : Int) (b : Nat) (s : St) (x : Raw) (w : World) (e : Ending) (w' : World) : Prop :=
  ∃ n : Nat, (n : Int) = fuel - s.steps ∧ ∃ x2, Mach w' b (runS fuel n s).1 x2 ∧ Keep w x x2 ∧ Only (Mb b x) w w' ∧ ((e = .returned (.tuple #[]) ∧ (runS fuel n s).2 = 0) ∨ (e = trapE (runS fuel n s).2))
theorem Eff.plain {b : Nat} {x : Raw} {wr : Option (Int × Int)} {w w' : World} (h : Eff (fun _ _ w w' => w' = w) b x wr w w') : Only (Mb b x) w w' := by
  cases wr with
  | none => exact h
  | some p =>
    obtain ⟨u, v, a, rfl, d⟩ := h
    exact a.then d
/-- The blocks that a machine writes later: those of before, or new ones. -/
theorem Mb.keep {w : World} {b : Nat} {x y : Raw} (h : Keep w x y) : ∀ k, k < w.heap.size → Mb b y k → Mb b x k := by
  rintro k hk (e | e | e)
  · exact .inl e
  · exact .inr (.inl (by rw [e, h.1]))
  · rcases h.2.2.2 with q | ⟨g, q, hg⟩
    · exact .inr (.inr (by rw [← q, e]))
    · rw [q] at e
      cases e
      omega
theorem Only.keep {w w1 w2 : World} {b : Nat} {x y : Raw} (h : Only (Mb b x) w w1) (k : Keep w x y) (g : Only (Mb b y) w1 w2) : Only (Mb b x) w w2 :=
  h.trans g (fun _ _ s => s) (Mb.keep k)
theorem Keep.trans {w w1 : World} {S : Nat → Prop} {x y z : Raw} (h : Keep w x y) (ho : Only S w w1) (k : Keep w1 y z) : Keep w x z := by
  refine ⟨k.1.trans h.1, k.2.1.trans h.2.1, k.2.2.1.trans h.2.2.1, ?_⟩
  rcases k.2.2.2 with q | ⟨g, q, hg⟩
  · rcases h.2.2.2 with p | ⟨g, p, hg⟩
    · exact .inl (q.trans p)
    · exact .inr ⟨g, q.trans p, hg⟩
  · exact .inr ⟨g, q, Nat.le_trans ho.size hg⟩
/-- The cells of an instruction. -/
def InsC (w : World) (n : Nat) (i : Ins) : Prop :=
  w.cell? ⟨n, 0, none⟩ = some (.int .i64 i.op) ∧ w.cell? ⟨n, 1, none⟩ = some (.int .i64 i.rd) ∧ w.cell? ⟨n, 2, none⟩ = some (.int .i64 i.rs1) ∧ w.cell? ⟨n, 3, none⟩ = some (.int .i64 i.rs2) ∧ w.cell? ⟨n, 4, none⟩ = some (.int .i32 i.imm)
theorem zero_of {W w1 : World} (ho : Only (fun _ => False) W w1) {n : Nat} {i : Ins} (h : InsC W n i) (hf : W.frozen? ⟨n, 0, none⟩ = false ∧ W.frozen? ⟨n, 1, none⟩ = false ∧ W.frozen? ⟨n, 2, none⟩ = false ∧ W.frozen? ⟨n, 3, none⟩ = false ∧ W.frozen? ⟨n, 4, none⟩ = false) (hn : n < W.heap.size) :
    w1.cell? ⟨n, 0, none⟩ = some (.int .i64 i.op) ∧ w1.cell? ⟨n, 1, none⟩ = some (.int .i64 i.rd) ∧ w1.cell? ⟨n, 2, none⟩ = some (.int .i64 i.rs1) ∧ w1.cell? ⟨n, 3, none⟩ = some (.int .i64 i.rs2) ∧ w1.cell? ⟨n, 4, none⟩ = some (.int .i32 i.imm) ∧
    w1.frozen? ⟨n, 0, none⟩ = false ∧ w1.frozen? ⟨n, 1, none⟩ = false ∧ w1.frozen? ⟨n, 2, none⟩ = false ∧ w1.frozen? ⟨n, 3, none⟩ = false ∧ w1.frozen? ⟨n, 4, none⟩ = false ∧ n < w1.heap.size := by
  have z : ¬ (fun _ : Nat => False) n := fun h => h
  obtain ⟨a, b, c, d, e⟩ := h
  obtain ⟨f0, f1, f2, f3, f4⟩ := hf
  exact ⟨ho.cell z a, ho.cell z b, ho.cell z c, ho.cell z d, ho.cell z e, ho.free z hn f0, ho.free z hn f1, ho.free z hn f2, ho.free z hn f3, ho.free z hn f4, Nat.lt_of_lt_of_le hn ho.size⟩
theorem with_zero {G : Prop} {w0 w1 : World} {n : Nat} (ho : Only (fun _ => False) (w0.alloc (.cells #[.int .i64 0, .int .i64 0, .int .i64 0, .int .i64 0, .int .i32 0] 32)) w1) (hn : w0.heap.size = n)
    (k : w1.cell? ⟨n, 0, none⟩ = some (.int .i64 0) ∧ w1.cell? ⟨n, 1, none⟩ = some (.int .i64 0) ∧ w1.cell? ⟨n, 2, none⟩ = some (.int .i64 0) ∧ w1.cell? ⟨n, 3, none⟩ = some (.int .i64 0) ∧ w1.cell? ⟨n, 4, none⟩ = some (.int .i32 0) ∧
    w1.frozen? ⟨n, 0, none⟩ = false ∧ w1.frozen? ⟨n, 1, none⟩ = false ∧ w1.frozen? ⟨n, 2, none⟩ = false ∧ w1.frozen? ⟨n, 3, none⟩ = false ∧ w1.frozen? ⟨n, 4, none⟩ = false ∧ n < w1.heap.size → G) : G := by
  subst hn
  have g1 : InsAt w1 w0.heap.size Ins.zero := ho.heap (fun h => h) (heap_alloc_new w0 _)
  exact k ⟨g1.cell 0, g1.cell 1, g1.cell 2, g1.cell 3, g1.cell 4, g1.free 0, g1.free 1, g1.free 2, g1.free 3, g1.free 4, heap_lt g1⟩
theorem InsAt.c {w : World} {b : Nat} {i : Ins} (h : InsAt w b i) : InsC w b i := ⟨h.cell 0, h.cell 1, h.cell 2, h.cell 3, h.cell 4⟩
theorem dummy_any {G : Prop} {w : World} (h : G) (d : Hid False → wpAny Tryz.prog .any #[] (fun _ _ _ => False) 0 #[] ⟨#[], []⟩ w) : G := h
theorem zero_ins {w0 w1 : World} {n : Nat} (ho : Only (fun _ => False) (w0.alloc (.cells #[.int .i64 0, .int .i64 0, .int .i64 0, .int .i64 0, .int .i32 0] 32)) w1) (hn : w0.heap.size = n) : InsAt w1 n Ins.zero := by
  subst hn
  exact ho.heap (fun h => h) (heap_alloc_new w0 _)
theorem AtP.behind {w w1 w2 : World} {e : Ending} {r : Int ⊕ Ins} (h : AtP w1 e w2 r) (ho : Only (fun _ => False) w w1) : AtP w e w2 r := by
  cases r with
  | inl o => exact ⟨h.1, ho.then h.2⟩
  | inr i => exact ⟨h.1, ho.then h.2⟩
set_option maxRecDepth 100000 in
set_option maxHeartbeats 4000000 in
theorem loop_any (fuel : Int) (hf0 : 0 ≤ fuel) (hf1 : fuel ≤ 2000) (b mp sb : Nat) (s : St) (hs : s.Ok) (x : Raw) (w : World) (h : Mach w b s x) (ht : Tab w) (hclo : x.wrote = clo0)
    (hev : (s.evs.length : Int) ≤ s.steps) (hst : s.steps ≤ fuel)
    (hmp : w.cell? ⟨mp, 0, none⟩ = some (.pointer (some ⟨b, 0, none⟩))) (hsb : w.cell? ⟨sb, 5, none⟩ = some (.int .i64 fuel)) (hmpn : ¬ Mb b x mp) (hsbn : ¬ Mb b x sb) (htn : ¬ Mb b x 0)
    (hmps : mp < w.heap.size) (hsbs : sb < w.heap.size) :
    Calls Tryz.prog 30 #[.pointer (some ⟨mp, 0, none⟩), .pointer (some ⟨sb, 0, none⟩)] w (RunP fuel b s x w) := by
  have H := Lib.hid h
  obtain ⟨n0, hn0⟩ : ∃ n : Nat, (n : Int) = fuel - s.steps := ⟨(fuel - s.steps).toNat, by omega⟩
  go_enter Tryz.func30, Tryz.ntmps30
  go_wp2_with fail
  go_loopg [] n0 (fun k wr => ∃ s1 x1, (k : Int) = fuel - s1.steps ∧ 0 ≤ s1.steps ∧ Mach wr b s1 x1 ∧ s1.Ok ∧ (s1.evs.length : Int) ≤ s1.steps ∧ runS fuel k s1 = runS fuel n0 s ∧ Keep w x x1 ∧ Only (Mb b x) w wr)
  case atStart => exact ⟨s, x, hn0, by omega, H.out, hs, hev, rfl, Keep.refl _ _, Only.refl _ _⟩
  case round =>
    obtain ⟨s1, x1, hk, hst1, hM, hs1, hev1, hrun, hK, hO⟩ := hrel
    have m1 : wr.cell? ⟨mp, 0, none⟩ = some (.pointer (some ⟨b, 0, none⟩)) := hO.cell hmpn hmp
    have c5 : wr.cell? ⟨sb, 5, none⟩ = some (.int .i64 fuel) := hO.cell hsbn hsb
    have st := hM.mac.steps
    have pcc := hM.mac.pc
    have hbs := hM.mac.lt
    have hmp2 : mp < wr.heap.size := Nat.lt_of_lt_of_le hmps hO.size
    have hsb2 : sb < wr.heap.size := Nat.lt_of_lt_of_le hsbs hO.size
    have HT := Lib.hid (ht.only hO htn)
    have HM := Lib.hid hM
    have HR := Lib.hid hrun
    have HK := Lib.hid hk
    clear hM hrun hk
    clear hmp hsb h ht
    by_cases hlt : s1.steps < fuel
    · go_wp2_with fail
      go_quiet (fail)
      go_wp2_with fail
      have hat : ∀ W, Only (fun _ => False) wr W → Calls Tryz.prog 31 #[.pointer (some ⟨b, 0, none⟩), .int .u32 s1.pc] W fun e w' => AtP W e w' (fetch s1) := fun W hW => at_any b s1 hs1 x1 W (HM.out.no hW) (HT.out.only hW (fun h => h))
      cases hf : fetch s1 with
      | inl o =>
        rw [hf] at hat
        have HF := Lib.hid hf
        clear hf
        obtain ⟨m, rfl⟩ : ∃ m, gk = m + 1 := ⟨gk - 1, by have := HK.out; omega⟩
        have hr := HR.out
        rw [runS, if_pos hlt, HF.out] at hr
        dsimp only at hr
        have HR2 := Lib.hid hr
        clear hr
        have n1 : ¬ mp = wr.heap.size := by omega
        have n2 : ¬ b = wr.heap.size := by omega
        have n3 : ¬ wr.heap.size = mp := by omega
        have n4 : ¬ wr.heap.size = b := by omega
        have hend : ∀ W w1, Only (fun _ => False) wr W → Only (fun _ => False) W w1 → RunP fuel b s x w (trapE o) w1 := by
          intro W w1 hW h1
          have h2 : Only (fun _ => False) wr w1 := hW.then h1
          refine ⟨n0, hn0, x1, ?_, hK, hO.then h2.no, .inr ?_⟩
          · rw [← HR2.out]; exact HM.out.no h2
          · rw [← HR2.out]
        have z1 : ∀ O, ((wr.drewN (nq + 1)).alloc O).cell? ⟨b, 32, none⟩ = some (.int .u32 s1.pc) := fun O => (((Only.refl (fun _ => False) wr).drewN _).alloc O).cell (fun h => h) pcc
        have z2 : ∀ O, ((wr.drewN (nq + 1)).alloc O).cell? ⟨mp, 0, none⟩ = some (.pointer (some ⟨b, 0, none⟩)) := fun O => (((Only.refl (fun _ => False) wr).drewN _).alloc O).cell (fun h => h) m1
        go_region_with (first | (go_at_call 31; refine (hat _ ?_).mono ?_; (repeat (first | with_reducible exact Only.refl _ _ | with_reducible refine Only.alloc ?_ _ | with_reducible refine Only.drewN ?_ _ | with_reducible refine Only.drew ?_)); rintro e w1 ⟨rfl, ho1⟩; refine dummy_any (w := w1) ⟨rfl, hend _ _ ?_ ho1⟩ ?_; (repeat (first | with_reducible exact Only.refl _ _ | with_reducible refine Only.alloc ?_ _ | with_reducible refine Only.drewN ?_ _ | with_reducible refine Only.drew ?_)); intro hbad)| fail)
        all_goals exact hbad.out.elim
      | inr i =>
        rw [hf] at hat
        have HF := Lib.hid hf
        clear hf
        go_cut [2] from 3 to 21 (fun d wx => ∃ b2, d = .pointer (some ⟨b2, 0, none⟩) ∧ InsC wx b2 i ∧ Only (fun _ => False) wr wx)
        case first =>
          have n1 : ¬ mp = wr.heap.size := by omega
          have n2 : ¬ b = wr.heap.size := by omega
          have n3 : ¬ wr.heap.size = mp := by omega
          have n4 : ¬ wr.heap.size = b := by omega
          go_region_held3 (fun w' => w'.cell? ⟨mp, 0, none⟩ = some (.pointer (some ⟨b, 0, none⟩)) ∧ w'.cell? ⟨b, 32, none⟩ = some (.int .u32 s1.pc)) (first | go_keep | with_reducible exact ⟨k1, k2⟩)
            (first | (go_at_call 31; refine (hat _ ?_).mono ?_; (repeat (first | with_reducible exact Only.refl _ _ | with_reducible refine Only.alloc ?_ _ | with_reducible refine Only.drewN ?_ _ | with_reducible refine Only.drew ?_)); rintro e w1 ⟨rfl, ho1⟩; have k1 : w1.cell? ⟨mp, 0, none⟩ = some (.pointer (some ⟨b, 0, none⟩)) := ho1.cell (fun h => h) (by simp [*]); have k2 : w1.cell? ⟨b, 32, none⟩ = some (.int .u32 s1.pc) := ho1.cell (fun h => h) (by simp [*]); unfold Ins.cells; first | ((with_reducible refine with_zero (n := wr.heap.size) ho1 ?_ ?_); (focus rfl); rintro ⟨q0, q1, q2, q3, q4, r0, r1, r2, r3, r4, hz⟩) | skip))
          all_goals go_wp2_with fail
          all_goals go_meet
          · exact ⟨_, rfl, InsAt.c (heap_alloc_new w1 _), ((Only.refl _ wr).drewN _).then ho1 |>.alloc _⟩
          · exact ⟨_, rfl, InsAt.c (ins_store5 (zero_ins ho1 rfl) _ _ _ _ _), (((((((Only.refl _ wr).drewN _).alloc _).then ho1).setW 0 _).setW 1 _).setW 2 _).setW 3 _ |>.setW 4 _⟩
        case rest =>
          obtain ⟨b2, rfl, ⟨c0, c1, c2, c3, c4⟩, hcO⟩ := hcut
          have hi := fetch_ok hs1 HF.out
          have m2 : wc.cell? ⟨mp, 0, none⟩ = some (.pointer (some ⟨b, 0, none⟩)) := hcO.cell (fun h => h) m1
          have hdo : ∀ W, Only (fun _ => False) wr W → Calls Tryz.prog 32 #[.pointer (some ⟨b, 0, none⟩), findV i.op, .agg i.cells] W (StepQ (fun _ _ w w' => w' = w) b s1 x1 i W) := fun W hW =>
            do_any _ b clo0 (fun _ => True) (write_plain b) (fun _ _ _ _ _ _ _ => trivial) i hi s1 hs1 (by omega) hst1 (by omega) x1 (hK.2.2.1.trans hclo) W (HM.out.no hW) trivial
          unfold Ins.cells at hdo
          have HC := Lib.hid hcO
          clear m1 c5 st pcc hcO hat
          go_wp2_with fail
          refine wp_region_still_tail 5 (by kernel_rfl) (by kernel_rfl) ?_
          simp only [List.take_succ_cons, List.take_zero, List.drop_succ_cons, List.drop_zero]
          change wpStill _ _ (World.drew _) _ _ _
          repeat still_step
          still_call ((find_any _ _).mono (fun _ _ h => ⟨h.1, h.2.symm⟩))
          repeat still_step
          refine wpStill_nil ?_
          change wpList _ _ _ _ _ (World.drew _)
          go_wp2_with fail
          refine (hdo _ (HC.out.drew)).mono ?_
          rintro e w2 hq
          unfold StepQ at hq
          obtain ⟨m, rfl⟩ : ∃ m, gk = m + 1 := ⟨gk - 1, by have := HK.out; omega⟩
          have hx := exec_ok hs1 hi
          have hr := HR.out
          rw [runS, if_pos hlt, HF.out] at hr
          dsimp only at hr
          cases hX : exec s1 i with
          | go s' next wr2 =>
            rw [hX] at hq hr hx
            dsimp only at hr
            obtain ⟨rfl, x2, hM2, hK2, hE2⟩ := hq
            obtain ⟨hT, hst', n0', n1'⟩ := hx
            have hO2 := hE2.plain
            have HM2 := Lib.hid hM2
            have HR2 := Lib.hid hr
            have hkm := HK.out
            have hst2 : (s'.step next).steps = s1.steps + 1 := by show s'.steps + 1 = _; rw [hst']
            have hev2 := hT.evs
            have hok2 := step_ok hT.ok n0' n1'
            have hkm2 : (m : Int) = fuel - (s'.step next).steps := by rw [hst2]; omega
            have HT2 := Lib.hid hkm2
            have hev3 : ((s'.step next).evs.length : Int) ≤ (s'.step next).steps := by rw [hst2]; show (s'.evs.length : Int) ≤ _; omega
            have HE3 := Lib.hid hev3
            have hge : 0 ≤ (s'.step next).steps := by rw [hst2]; omega
            have HG := Lib.hid hge
            have hk3 : Keep w x x2 := hK.trans hO (hK2.back (HC.out.drew))
            have ho3 : Only (Mb b x) w w2 := hO.keep hK ((HC.out.drew).no.then hO2)
            have HK3 := Lib.hid hk3
            have HO3 := Lib.hid ho3
            clear hM2 hr hkm hst2 hkm2 hev2 hev3 hge hk3 ho3 hst' hE2 hO2 hK2 hT hX
            go_wp2_with fail
            go_roundg m
            case measure => omega
            case rel => exact ⟨s'.step next, x2, HT2.out, HG.out, HM2.out, hok2, HE3.out, HR2.out, HK3.out, HO3.out⟩
          | trap s' o =>
            rw [hX] at hq hr hx
            dsimp only at hr
            obtain ⟨rfl, x2, hM2, hK2, hO2⟩ := hq
            refine ⟨rfl, n0, hn0, x2, ?_, hK.trans hO (hK2.back (HC.out.drew)), hO.keep hK ((HC.out.drew).no.then hO2), .inr ?_⟩
            · rw [← hr]; exact hM2
            · rw [← hr]
    · have hk0 : gk = 0 := by have := HK.out; omega
      subst hk0
      go_wp2_with fail
      go_quiet (fail)
      go_wp2_with fail
      go_end0
      have hr := HR.out
      rw [runS] at hr
      refine ⟨n0, hn0, x1, ?_, hK, hO.drewN _, .inl ⟨rfl, ?_⟩⟩
      · rw [← hr]; exact HM.out.no ((Only.refl _ _).drewN _)
      · rw [← hr]
end Go.Proofs.YtanccjaikocefaaGreatDoor
