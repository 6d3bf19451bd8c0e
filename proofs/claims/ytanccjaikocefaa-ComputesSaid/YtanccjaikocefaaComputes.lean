/-
  The contract of 'chainslaw.Computes': it returns true, and nothing that was there before is written. Condition: both numbers are of 32 bits.
-/
import Derived.Test.YtanccjaikocefaaNum
namespace Go.Proofs.Ytanccjaikocefaa
open Go.ChangeShapes Go.WideShapes Go.ChangeAt Go.RowKit
set_option linter.unusedVariables false

theorem computes_any (op a b : Int) (ha : 0 ≤ a) (ha2 : a < 4294967296) (hb : 0 ≤ b) (hb2 : b < 4294967296) (w : World) :
    Calls Try.prog 4 #[.int .i64 op, .int .u32 a, .int .u32 b] w fun e w' => e = .returned (.bool true) ∧ Draws w w' := by
  go_enter Try.func4, Try.ntmps4
  go_wp2_with (fail)
  go_loopw [7] (fun i wr => ∃ k : Int, -1 ≤ k ∧ k ≤ 50 ∧ i = .int .i64 k ∧ Draws w wr) (fun i _ => (50 - intOf i).toNat)
  case atStart => exact ⟨-1, by decide, by decide, rfl, draws_refl _⟩
  case round =>
    obtain ⟨k, hk, hk2, rfl, hd⟩ := hrel
    by_cases hlt : k < 50
    · go_wp2_with (first | (go_at_call 6; refine (cap_any _ _ _ ha ha2 hb hb2 _).mono ?_; rintro e w' ⟨rfl, rfl⟩) | (go_at_call 7; refine (rcomp_cap _ _ _ ha ha2 hb hb2 _).mono ?_; rintro e w' ⟨rfl, hd2⟩))
      go_roundw
      case rel => exact ⟨k + 1, by omega, by omega, by go_num, hd.trans hd2⟩
      case measure => simp [intOf]; omega
    · go_wp2_with (first | (go_at_call 6; refine (cap_any _ _ _ ha ha2 hb hb2 _).mono ?_; rintro e w' ⟨rfl, rfl⟩) | (go_at_call 7; refine (rcomp_cap _ _ _ ha ha2 hb hb2 _).mono ?_; rintro e w' ⟨rfl, hd2⟩))
      go_ret
      exact ⟨by simp, hd.trans hd2⟩
end Go.Proofs.Ytanccjaikocefaa
