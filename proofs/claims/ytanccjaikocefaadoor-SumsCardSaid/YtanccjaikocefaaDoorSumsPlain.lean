/-
  The program of 'Sums', plainly: how it ends, whatever the two numbers. No program in sight.
-/
import Derived.Test.YtanccjaikocefaaDoorChangedPlain
namespace Go.Proofs.YtanccjaikocefaaDoor
open Go.ChangeShapes Go.WideShapes Go.ChangeAt Go.RowKit
set_option linter.unusedVariables false

def suW (f : Int) : Int := 35684787 + f * 4096
theorem su_or_all : (List.range 8).all (fun (f : Nat) => bits BinOp.or IntKind.u32 (bits BinOp.or IntKind.u32 (bits BinOp.or IntKind.u32 (bits BinOp.or IntKind.u32 33554483 ((f : Int) * 4096)) 384) 32768) 2097152 == suW f) = true := by kernel_rfl
theorem su_or (f : Int) (h0 : 0 ≤ f) (h1 : f < 8) : bits BinOp.or IntKind.u32 (bits BinOp.or IntKind.u32 (bits BinOp.or IntKind.u32 (bits BinOp.or IntKind.u32 33554483 (f * 4096)) 384) 32768) 2097152 = suW f := by
  obtain ⟨n, rfl⟩ : ∃ n : Nat, f = (n : Int) := ⟨f.toNat, by omega⟩
  exact eq_of_beq (List.all_eq_true.1 su_or_all n (List.mem_range.2 (by omega)))
theorem su_dec_all : (List.range 8).all (fun (f : Nat) => insIs (decO (suW f)) (37 + f) 3 1 2 0) = true := by kernel_rfl
theorem su_dec (f : Int) (h0 : 0 ≤ f) (h1 : f < 8) : decO (suW f) = some ⟨37 + f, 3, 1, 2, 0⟩ := by
  obtain ⟨n, rfl⟩ : ∃ n : Nat, f = (n : Int) := ⟨f.toNat, by omega⟩
  exact insIs_eq (List.all_eq_true.1 su_dec_all n (List.mem_range.2 (by omega)))
def suS (r : Nat → Int) (pc : Int) (m : List Int) (st : Int) : St := { regs := r, pc := pc, mem := m, low := 24, brk := 24, ans := [], evs := [], steps := st }
def suL (W a b : Int) : List Int := textB [16785539, 20979971, W, 1048691] ++ (wordB a ++ wordB b)
def suM (W a b : Int) : List Int := textB [16785539, 20979971, W, 1048691] ++ (wordB a ++ (wordB b ++ List.replicate 40 0))
theorem su_ld1 (W a b : Int) (h0 : 0 ≤ a) (h1 : a < 4294967296) : loadV 12 (suM W a b) 16 = a := by
  have : loadV 12 (suM W a b) 16 = a % 256 + 256 * (a / 256 % 256 + 256 * (a / 65536 % 256 + 256 * (a / 16777216 % 256 + 256 * 0))) := by kernel_rfl
  rw [this, ch_le a h0 h1]
theorem su_ld2 (W a b : Int) (h0 : 0 ≤ b) (h1 : b < 4294967296) : loadV 12 (suM W a b) 20 = b := by
  have : loadV 12 (suM W a b) 20 = b % 256 + 256 * (b / 256 % 256 + 256 * (b / 65536 % 256 + 256 * (b / 16777216 % 256 + 256 * 0))) := by kernel_rfl
  rw [this, ch_le b h0 h1]
theorem su_wd (W a b : Int) (h0 : 0 ≤ W) (h1 : W < 4294967296) : wordAt (suM W a b) 8 = W := by
  have : wordAt (suM W a b) 8 = W % 256 + 256 * (W / 256 % 256 + 256 * (W / 65536 % 256 + 256 * (W / 16777216 % 256 + 256 * 0))) := by kernel_rfl
  rw [this, ch_le W h0 h1]
def u1 (a : Int) : Nat → Int := setR rZ 1 a
def u2 (a b : Int) : Nat → Int := setR (u1 a) 2 b
def u3 (a b c : Int) : Nat → Int := setR (u2 a b) 3 c
theorem sf0 (W a b : Int) : fetch (suS rZ 0 (suM W a b) 0) = .inr ⟨12, 1, 0, 0, 16⟩ := by kernel_rfl
theorem sf1 (W a b : Int) : fetch (suS (u1 a) 4 (suM W a b) 1) = .inr ⟨12, 2, 0, 0, 20⟩ := by kernel_rfl
theorem sf2 (f a b : Int) (h0 : 0 ≤ f) (h1 : f < 8) : fetch (suS (u2 a b) 8 (suM (suW f) a b) 2) = .inr ⟨37 + f, 3, 1, 2, 0⟩ := by
  have hd : decO (wordAt (suM (suW f) a b) 8) = some ⟨37 + f, 3, 1, 2, 0⟩ := by
    rw [su_wd _ _ _ (by unfold suW; omega) (by unfold suW; omega)]
    exact su_dec f h0 h1
  unfold fetch lies
  have e1 : (suS (u2 a b) 8 (suM (suW f) a b) 2).pc = 8 := rfl
  have e2 : (suS (u2 a b) 8 (suM (suW f) a b) 2).mem = suM (suW f) a b := rfl
  rw [e1, e2, if_neg (by decide), if_pos (by show decide ((12 : Int) ≤ ((64 : Nat) : Int)) = true; decide), hd]
theorem sf3 (W a b c : Int) : fetch (suS (u3 a b c) 12 (suM W a b) 3) = .inr iEb := by kernel_rfl
theorem sx0 (W a b : Int) (h0 : 0 ≤ a) (h1 : a < 4294967296) : exec (suS rZ 0 (suM W a b) 0) ⟨12, 1, 0, 0, 16⟩ = .go (suS (u1 a) 0 (suM W a b) 0) 4 none := by
  have : exec (suS rZ 0 (suM W a b) 0) ⟨12, 1, 0, 0, 16⟩ = .go (suS (setR rZ 1 (loadV 12 (suM W a b) 16)) 0 (suM W a b) 0) 4 none := by kernel_rfl
  rw [this, su_ld1 W a b h0 h1]; rfl
theorem sx1 (W a b : Int) (h0 : 0 ≤ b) (h1 : b < 4294967296) : exec (suS (u1 a) 4 (suM W a b) 1) ⟨12, 2, 0, 0, 20⟩ = .go (suS (u2 a b) 4 (suM W a b) 1) 8 none := by
  have : exec (suS (u1 a) 4 (suM W a b) 1) ⟨12, 2, 0, 0, 20⟩ = .go (suS (setR (u1 a) 2 (loadV 12 (suM W a b) 20)) 4 (suM W a b) 1) 8 none := by kernel_rfl
  rw [this, su_ld2 W a b h0 h1]; rfl
theorem sx2 (f W a b : Int) (h0 : 0 ≤ f) (h1 : f < 8) : exec (suS (u2 a b) 8 (suM W a b) 2) ⟨37 + f, 3, 1, 2, 0⟩ = .go (suS (u3 a b (cmpI (37 + f) a b)) 8 (suM W a b) 2) 12 none := by
  have e1 : (suS (u2 a b) 8 (suM W a b) 2).regs 1 = a := by kernel_rfl
  have e2 : (suS (u2 a b) 8 (suM W a b) 2).regs 2 = b := by kernel_rfl
  unfold exec
  dsimp only
  have n0 : ((37 + f == 0) = false) := by simp; omega
  have n1 : ((37 + f == 1) = false) := by simp; omega
  have n2 : ((37 + f == 2) = false) := by simp; omega
  have n3 : ((37 + f == 3) = false) := by simp; omega
  have n9 : decide (37 + f ≤ 9) = false := by simp; omega
  have n14 : decide (37 + f ≤ 14) = false := by simp; omega
  have n17 : decide (37 + f ≤ 17) = false := by simp; omega
  have n26 : decide (37 + f ≤ 26) = false := by simp; omega
  have n44 : decide (37 + f ≤ 44) = true := by simp; omega
  rw [n0, n1, n2, n3, n9, n14, n17, n26, n44]
  show Out.go ((suS (u2 a b) 8 (suM W a b) 2).set 3 (cmpI (37 + f) ((suS (u2 a b) 8 (suM W a b) 2).regs 1) ((suS (u2 a b) 8 (suM W a b) 2).regs 2))) 12 none = _
  rw [e1, e2]
  rfl
theorem sx3 (W a b c : Int) : exec (suS (u3 a b c) 12 (suM W a b) 3) iEb = .trap (suS (u3 a b c) 12 (suM W a b) 3) 9 := by kernel_rfl
theorem su_run (f a b : Int) (h0 : 0 ≤ f) (h1 : f < 8) (a0 : 0 ≤ a) (a1 : a < 4294967296) (b0 : 0 ≤ b) (b1 : b < 4294967296) : runS 9 9 (suS rZ 0 (suM (suW f) a b) 0) = (suS (u3 a b (cmpI (37 + f) a b)) 12 (suM (suW f) a b) 3, 9) := by
  have e0 : runS 9 9 (suS rZ 0 (suM (suW f) a b) 0) = runS 9 8 (suS (u1 a) 4 (suM (suW f) a b) 1) := runS_on (by show (0 : Int) < 9; decide) (sf0 _ _ _) (sx0 _ a b a0 a1) 8
  have e1 : runS 9 8 (suS (u1 a) 4 (suM (suW f) a b) 1) = runS 9 7 (suS (u2 a b) 8 (suM (suW f) a b) 2) := runS_on (by show (1 : Int) < 9; decide) (sf1 _ _ _) (sx1 _ a b b0 b1) 7
  have e2 : runS 9 7 (suS (u2 a b) 8 (suM (suW f) a b) 2) = runS 9 6 (suS (u3 a b (cmpI (37 + f) a b)) 12 (suM (suW f) a b) 3) := runS_on (by show (2 : Int) < 9; decide) (sf2 f a b h0 h1) (sx2 f _ a b h0 h1) 6
  rw [e0, e1, e2]
  rw [runS, if_pos (by show (3 : Int) < 9; decide), sf3]
  dsimp only
  rw [sx3]
theorem u3_regs (a b c : Int) : u3 a b c 3 = c ∧ u3 a b c 1 = a ∧ u3 a b c 2 = b := ⟨by kernel_rfl, by kernel_rfl, by kernel_rfl⟩

/-! ### The setup -/
def suP (W a b : Int) : Setup := { pages := 1, image := strOfNums (suL W a b), base := 0, entry := 0, ans := [], fuel := 9, slots := 1, arena := 8 }
theorem suL_len (W a b : Int) : (suL W a b).length = 24 := rfl
theorem suL_ok (W a b : Int) : ∀ x ∈ suL W a b, 0 ≤ x ∧ x < 256 := by
  intro x hx
  unfold suL at hx
  rw [List.mem_append, List.mem_append] at hx
  rcases hx with h | h | h
  · exact textB_ok _ x h
  · exact wordB_ok a x h
  · exact wordB_ok b x h
theorem suP_st (W a b : Int) : (suP W a b).st = suS rZ 0 (suM W a b) 0 := by
  have hb : bytesOf (strOfNums (suL W a b)) = suL W a b := str_bytes (suL_ok _ _ _)
  have hs : (strOfNums (suL W a b)).size = 24 := by rw [strOfNums_size]; rfl
  have hm : (suP W a b).mem0 = suM W a b := by
    show putAt (List.replicate 64 0) 0 (bytesOf (strOfNums (suL W a b))) = _
    rw [hb]
    rfl
  unfold Setup.st
  rw [hm]
  unfold suS
  show ({ regs := fun _ => 0, pc := 0, mem := suM W a b, low := (0 : Int) + ((strOfNums (suL W a b)).size : Int), brk := (0 : Int) + ((strOfNums (suL W a b)).size : Int), ans := [], evs := [], steps := 0 } : St) = _
  rw [hs]
  rfl
theorem suP_ok (W a b : Int) : (suP W a b).Ok := by
  refine ⟨?_, ?_, ?_, ?_, ?_, ?_, ?_, ?_, ?_⟩
  · show i64ok 1; unfold i64ok; decide
  · show (strOfNums (suL W a b)).size ≤ 1048576; rw [strOfNums_size, suL_len]; decide
  · show (0 : Int) ≤ 0 ∧ (0 : Int) < 4294967296; decide
  · show (0 : Int) ≤ 0 ∧ (0 : Int) < 4294967296; decide
  · show ([] : List ByteArray).length ≤ 4096; decide
  · intro t h; cases h
  · show i64ok 9; unfold i64ok; decide
  · show i64ok 1; unfold i64ok; decide
  · show i64ok 8; unfold i64ok; decide
theorem suP_err (W a b : Int) : (suP W a b).err true = 0 := by
  have h1 : (suP W a b).badP = false := by show (decide ((1 : Int) < 1) || decide ((8 : Int) < 1)) = false; decide
  have h2 : (suP W a b).badI = false := by
    show decide ((1 : Int) * 64 < 0 + ((strOfNums (suL W a b)).size : Int)) = false
    rw [strOfNums_size, suL_len]; decide
  have h3 : (suP W a b).badF = false := by show (decide ((9 : Int) < 0) || decide ((2000 : Int) < 9)) = false; decide
  have h4 : (suP W a b).badC = false := by show (decide ((1 : Int) < 1) || decide ((64 : Int) < 1) || decide ((8 : Int) < 8) || decide ((256 : Int) < 8)) = false; decide
  unfold Setup.err
  rw [h1, h2, h3, h4]
  decide
theorem suP_run (f a b : Int) (h0 : 0 ≤ f) (h1 : f < 8) (a0 : 0 ≤ a) (a1 : a < 4294967296) (b0 : 0 ≤ b) (b1 : b < 4294967296) : runS (suP (suW f) a b).fuel (suP (suW f) a b).fuel.toNat (suP (suW f) a b).st = (suS (u3 a b (cmpI (37 + f) a b)) 12 (suM (suW f) a b) 3, 9) := by
  rw [suP_st]
  exact su_run f a b h0 h1 a0 a1 b0 b1
end Go.Proofs.YtanccjaikocefaaDoor
