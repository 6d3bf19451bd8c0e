/-
  The contract of the document's 'wrote': the slots of the pages that were written are emptied. Conditions: the machine lies in memory; the numbers are in their ranges.
-/
import Derived.Test.YtanccjaikocefaaGreatDoorRMeth1
namespace Go.Proofs.YtanccjaikocefaaGreatDoor
open Go.ChangeShapes Go.WideShapes Go.ChangeAt Go.RowKit
set_option linter.unusedVariables false

theorem rwrote_end {B b : Nat} {f l : Int} {r : RS} {x : RRaw} {w : World} (h : RMach B w b { r with slots := r.slots.map (forget1 f l) } x) (hin : inPages r.cur.1 f l = false) : RMach B w b (r.wrote (some (f, l))) x := by
  have : r.wrote (some (f, l)) = { r with slots := r.slots.map (forget1 f l) } := by
    unfold RS.wrote
    have : forget1 f l r.cur = r.cur := by unfold forget1; rw [hin]; rfl
    simp only [this]
  rw [this]; exact h
theorem rwrote_end2 {B b : Nat} {f l : Int} {r : RS} {x : RRaw} {w : World} (h : RMach B w b { r with slots := r.slots.map (forget1 f l) } x) (hin : inPages r.cur.1 f l = true) : RMach B ((w.setCell ⟨b, 47, none⟩ (.int .u32 0)).setCell ⟨b, 48, none⟩ (.int .i64 0)) b (r.wrote (some (f, l))) x := by
  have : r.wrote (some (f, l)) = { r with slots := r.slots.map (forget1 f l), cur := (0, 0) } := by
    unfold RS.wrote
    have : forget1 f l r.cur = (0, 0) := by unfold forget1; rw [hin]; rfl
    simp only [this]
  rw [this]
  exact h.struct (((Only.refl _ w).set1 _ _).set1 _ _) ((h.mac.putCur1 0).putCur2 0) rfl h.ans rfl rfl rfl rfl
theorem slotCells_len (l : List (Int × Int)) : (slotCells l).length = 2 * l.length := by
  induction l with
  | nil => rfl
  | cons q l ih => simp only [slotCells, List.flatMap_cons, List.length_append] at *; rw [ih]; simp; omega
theorem slotCells_get (l : List (Int × Int)) : ∀ (k : Nat) (q : Int × Int), l[k]? = some q → (slotCells l)[k * 2]? = some (.int .u32 q.1) ∧ (slotCells l)[k * 2 + 1]? = some (.int .i64 q.2) := by
  induction l with
  | nil => intro k q h; simp at h
  | cons p l ih =>
    intro k q h
    cases k with
    | zero => simp at h; subst h; exact ⟨rfl, rfl⟩
    | succ k =>
      have := ih k q (by simpa using h)
      simpa [slotCells, Nat.add_mul] using this
theorem slotCells_set (l : List (Int × Int)) : ∀ (k : Nat) (q : Int × Int), ((slotCells l).set (k * 2) (.int .u32 q.1)).set (k * 2 + 1) (.int .i64 q.2) = slotCells (l.set k q) := by
  induction l with
  | nil => intro k q; simp [slotCells]
  | cons p l ih =>
    intro k q
    cases k with
    | zero => simp [slotCells]
    | succ k =>
      have := ih k q
      simp [slotCells, Nat.add_mul] at this ⊢
      exact this
theorem forget_step (f l : Int) (s : List (Int × Int)) (k : Nat) (q : Int × Int) (h : s[k]? = some q) : ((s.take k).map (forget1 f l) ++ s.drop k).set k (forget1 f l q) = (s.take (k + 1)).map (forget1 f l) ++ s.drop (k + 1) := by
  have hk := (List.getElem?_eq_some_iff.1 h).1
  have he := (List.getElem?_eq_some_iff.1 h).2
  rw [List.set_append, if_neg (by simp; omega)]
  rw [List.drop_eq_getElem_cons hk, he]
  simp only [List.length_map, List.length_take, Nat.min_eq_left (Nat.le_of_lt hk), Nat.sub_self, List.set_cons_zero]
  rw [List.take_succ_eq_append_getElem hk, he]
  simp
theorem forget_keep (f l : Int) (s : List (Int × Int)) (k : Nat) (q : Int × Int) (h : s[k]? = some q) (hq : forget1 f l q = q) : (s.take k).map (forget1 f l) ++ s.drop k = (s.take (k + 1)).map (forget1 f l) ++ s.drop (k + 1) := by
  have hk := (List.getElem?_eq_some_iff.1 h).1
  have he := (List.getElem?_eq_some_iff.1 h).2
  rw [List.take_succ_eq_append_getElem hk, he, List.drop_eq_getElem_cons hk, he]
  simp [hq]
theorem forget_at (f l : Int) (s : List (Int × Int)) (k : Nat) (hk : k < s.length) : ((s.take k).map (forget1 f l) ++ s.drop k)[k]? = s[k]? := by
  rw [List.getElem?_append_right (by simp; omega)]
  simp
  congr 1
  omega
set_option maxRecDepth 100000 in
set_option maxHeartbeats 400000 in
theorem rwrote_any (B b : Nat) (at_ n : Int) (r : RS) (x : RRaw) (w : World) (h : RMach B w b r x) (a0 : 0 ≤ at_) (n0 : 0 ≤ n) (hl : at_ + n ≤ 512) (hn : r.slots.length ≤ 64) (hq : ∀ q ∈ r.slots, SlotOk q) (hc : SlotOk r.cur) :
    Calls Tryz.prog 88 #[.pointer (some ⟨b, 0, none⟩), .int .u32 at_, .int .u32 n] w fun e w' => e = .returned (.tuple #[]) ∧ RMach B w' b (r.wrote (wrOf at_ n)) x ∧ Only (RUp B) w w' := by
  have H := Lib.hid h
  have k44 := h.mac.slots
  have k47 := h.mac.cur1
  have k48 := h.mac.cur2
  have f47 := h.mac.free 47
  have f48 := h.mac.free 48
  have hsz := h.mac.lt
  have hwr : wrOf at_ n = if n = 0 then none else some (at_ / 64, (at_ + n - 1) / 64) := rfl
  obtain ⟨cc0, cc1, cc2, cc3⟩ := hc
  by_cases hz : n = 0
  · subst hz
    rw [if_pos rfl] at hwr
    have HWR := Lib.hid hwr
    clear hwr
    go_enter Tryz.func88, Tryz.ntmps88
    go_wp2_with fail
    refine bodyPost_ret (results_none rfl _ _ _) rfl ?_
    rw [HWR.out]
    exact ⟨rfl, H.out, Only.refl _ _⟩
  · rw [if_neg hz] at hwr
    have hnz : (n == 0) = false := by simpa using hz
    unfold SlotsAt at *
    rcases h.slots with ⟨e1, e2⟩ | ⟨e1, e2, e3⟩
    · rw [e2] at k44
      have hM : RMach B w b { r with slots := r.slots.map (forget1 (at_ / 64) ((at_ + n - 1) / 64)) } x := by
        have : { r with slots := r.slots.map (forget1 (at_ / 64) ((at_ + n - 1) / 64)) } = r := by
          cases r; simp at e1; subst e1; rfl
        rw [this]; exact h
      have hO : Only (RUp B) w w := Only.refl _ _
      have HM := Lib.hid hM
      have HO := Lib.hid hO
      have HWR := Lib.hid hwr
      clear hM hO hwr e1 e2 h
      go_enter Tryz.func88, Tryz.ntmps88
      go_wp2_with fail
      go_loopw [8] (fun i wr => i = .int .i64 0 ∧ wr = w) (fun i _ => 0)
      case atStart => exact ⟨rfl, rfl⟩
      case round =>
        obtain ⟨rfl, rfl⟩ := hrel
        cases hin : inPages r.cur.1 (at_ / 64) ((at_ + n - 1) / 64)
        · have HI := Lib.hid hin
          unfold inPages at hin
          by_cases hfst : at_ / 64 ≤ r.cur.1 / 64
          · have hlst : ¬ r.cur.1 / 64 ≤ (at_ + n - 1) / 64 := by simpa [hfst] using hin
            clear hin
            go_wp2_with fail
            first | go_end0 | refine bodyPost_ret (results_none rfl _ _ _) rfl ?_
            rw [HWR.out]
            exact ⟨rfl, rwrote_end HM.out HI.out, HO.out⟩
          · clear hin
            go_wp2_with fail
            first | go_end0 | refine bodyPost_ret (results_none rfl _ _ _) rfl ?_
            rw [HWR.out]
            exact ⟨rfl, rwrote_end HM.out HI.out, HO.out⟩
        · have HI := Lib.hid hin
          unfold inPages at hin
          obtain ⟨hfst, hlst⟩ : at_ / 64 ≤ r.cur.1 / 64 ∧ r.cur.1 / 64 ≤ (at_ + n - 1) / 64 := by simpa using hin
          clear hin
          go_wp2_with fail
          first | go_end0 | refine bodyPost_ret (results_none rfl _ _ _) rfl ?_
          rw [HWR.out]
          exact ⟨rfl, rwrote_end2 HM.out HI.out, (HO.out.setS H.out.from_.1 _ _).setS H.out.from_.1 _ _⟩
    · rw [e2] at k44
      have HE2 := Lib.hid e2
      have HS := Lib.hid e3
      clear e3 e2 h
      go_enter Tryz.func88, Tryz.ntmps88
      go_wp2_with fail
      go_loopw [8] (fun i wr => ∃ k : Nat, k ≤ r.slots.length ∧ i = .int .i64 k ∧ Only (· = x.sb) w wr ∧ wr.heap[x.sb]? = some (.cells (slotCells ((r.slots.take k).map (forget1 (at_ / 64) ((at_ + n - 1) / 64)) ++ r.slots.drop k)).toArray 82 (0, 0))) (fun i _ => r.slots.length - (intOf i).toNat)
      case atStart => exact ⟨0, Nat.zero_le _, rfl, Only.refl _ _, by simpa using HS.out⟩
      case round =>
        obtain ⟨k, hk, rfl, ho, hw⟩ := hrel
        have q44 : wr.cell? ⟨b, 44, none⟩ = some (.slice (some ⟨x.sb, 0, none⟩) r.slots.length r.slots.length) := ho.cell H.out.ne.2.1 k44
        by_cases hlt : k < r.slots.length
        · obtain ⟨q, hqk⟩ : ∃ q, r.slots[k]? = some q := ⟨_, List.getElem?_eq_getElem hlt⟩
          have hg := slotCells_get _ k q ((forget_at (at_ / 64) ((at_ + n - 1) / 64) r.slots k hlt).trans hqk)
          have c0 : wr.cell? ⟨x.sb, k * 2, none⟩ = some (.int .u32 q.1) := by rw [cell_of_row wr x.sb _ _ _ _ hw]; simpa using hg.1
          have c1 : wr.cell? ⟨x.sb, k * 2 + 1, none⟩ = some (.int .i64 q.2) := by rw [cell_of_row wr x.sb _ _ _ _ hw]; simpa using hg.2
          have g0 : wr.frozen? ⟨x.sb, k * 2, none⟩ = false := frozen_of_row wr x.sb _ _ _ hw
          have g1 : wr.frozen? ⟨x.sb, k * 2 + 1, none⟩ = false := frozen_of_row wr x.sb _ _ _ hw
          obtain ⟨p0, p1, p2, p3⟩ := hq q (List.mem_of_getElem? hqk)
          have HW := Lib.hid hw
          have HQ := Lib.hid hqk
          clear hw hg hqk
          cases hin : inPages q.1 (at_ / 64) ((at_ + n - 1) / 64)
          · have hfor : forget1 (at_ / 64) ((at_ + n - 1) / 64) q = q := by unfold forget1; rw [hin]; rfl
            have HF := Lib.hid hfor
            clear hfor
            unfold inPages at hin
            by_cases hfst : at_ / 64 ≤ q.1 / 64
            · have hlst : ¬ q.1 / 64 ≤ (at_ + n - 1) / 64 := by simpa [hfst] using hin
              clear hin
              go_wp2_with fail
              go_roundw
              case rel => exact ⟨k + 1, by omega, by go_num, ho, by rw [← forget_keep _ _ _ k q HQ.out HF.out]; exact HW.out⟩
              case measure => simp [intOf]; omega
            · clear hin
              go_wp2_with fail
              go_roundw
              case rel => exact ⟨k + 1, by omega, by go_num, ho, by rw [← forget_keep _ _ _ k q HQ.out HF.out]; exact HW.out⟩
              case measure => simp [intOf]; omega
          · have hfor : forget1 (at_ / 64) ((at_ + n - 1) / 64) q = (0, 0) := by unfold forget1; rw [hin]; rfl
            have HF := Lib.hid hfor
            clear hfor
            unfold inPages at hin
            obtain ⟨hfst, hlst⟩ : at_ / 64 ≤ q.1 / 64 ∧ q.1 / 64 ≤ (at_ + n - 1) / 64 := by simpa using hin
            clear hin
            go_wp2_with fail
            go_roundw
            case rel =>
              refine ⟨k + 1, by omega, by go_num, (ho.set1 _ _).set1 _ _, ?_⟩
              have e := heap_setCell_same _ x.sb (k * 2 + 1) _ _ (.int .i64 0) (heap_setCell_same wr x.sb (k * 2) _ _ (.int .u32 0) HW.out)
              rw [e, ← forget_step _ _ _ k q HQ.out, HF.out, ← slotCells_set]
              simp
            case measure => simp [intOf]; omega
        · have hkl : k = r.slots.length := by omega
          subst hkl
          have HW := Lib.hid hw
          have z0 : ¬ x.sb = b := Ne.symm H.out.ne.2.1
          have hM : RMach B wr b { r with slots := r.slots.map (forget1 (at_ / 64) ((at_ + n - 1) / 64)) } x := by
            have HH := H.out
            refine ⟨?_, ho.heap (Ne.symm (Ne.symm HH.ne.2.2)) HH.mem, ?_, HH.ans.only ho ?_, ownsRow_only HH.evs ho (fun g hg => (HH.nee g hg).2.2.1), ownsRow_only HH.blocks ho (fun g hg => (HH.neb g hg).2.2), HH.ab, HH.from_, Nat.lt_of_lt_of_le HH.sbLt ho.size, HH.ne, HH.nee, HH.neb⟩
            · exact ho.heap HH.ne.2.1 HH.mac
            · refine .inr ⟨by simpa using e1, ?_, ?_⟩
              · rw [HE2.out]; simp
              · have := HW.out
                simpa using this
            · have := HH.ab; have := HH.from_.2.2; omega
          have hO : Only (RUp B) w wr := ho.mono (fun k _ s => by subst s; exact H.out.from_.2.2)
          have q47 : wr.cell? ⟨b, 47, none⟩ = some (.int .u32 r.cur.1) := ho.cell H.out.ne.2.1 k47
          have q48 : wr.cell? ⟨b, 48, none⟩ = some (.int .i64 r.cur.2) := ho.cell H.out.ne.2.1 k48
          have q49 : wr.frozen? ⟨b, 47, none⟩ = false := ho.free H.out.ne.2.1 hsz f47
          have q50 : wr.frozen? ⟨b, 48, none⟩ = false := ho.free H.out.ne.2.1 hsz f48
          have HM := Lib.hid hM
          have HO := Lib.hid hO
          have HWR := Lib.hid hwr
          clear hM hO hw k44 k47 k48 f47 f48 hwr
          cases hin : inPages r.cur.1 (at_ / 64) ((at_ + n - 1) / 64)
          · have HI := Lib.hid hin
            unfold inPages at hin
            by_cases hfst : at_ / 64 ≤ r.cur.1 / 64
            · have hlst : ¬ r.cur.1 / 64 ≤ (at_ + n - 1) / 64 := by simpa [hfst] using hin
              clear hin
              go_wp2_with fail
              first | go_end0 | refine bodyPost_ret (results_none rfl _ _ _) rfl ?_
              rw [HWR.out]
              exact ⟨rfl, rwrote_end HM.out HI.out, HO.out⟩
            · clear hin
              go_wp2_with fail
              first | go_end0 | refine bodyPost_ret (results_none rfl _ _ _) rfl ?_
              rw [HWR.out]
              exact ⟨rfl, rwrote_end HM.out HI.out, HO.out⟩
          · have HI := Lib.hid hin
            unfold inPages at hin
            obtain ⟨hfst, hlst⟩ : at_ / 64 ≤ r.cur.1 / 64 ∧ r.cur.1 / 64 ≤ (at_ + n - 1) / 64 := by simpa using hin
            clear hin
            go_wp2_with fail
            first | go_end0 | refine bodyPost_ret (results_none rfl _ _ _) rfl ?_
            rw [HWR.out]
            exact ⟨rfl, rwrote_end2 HM.out HI.out, (HO.out.setS H.out.from_.1 _ _).setS H.out.from_.1 _ _⟩
end Go.Proofs.YtanccjaikocefaaGreatDoor
