/-
  NARROWER THAN 'FOR EVERY INPUT', by the rows' own cells (each row's printed sentence says how): All: laid.
  DERIVED. THE GIVEN ROWS OF THIS SEAT. 1 by the template 'for every input the law returns true; each argument reads behind the call as it read before'; 0 by the template 'total and deterministic' (their statements: YtanccjaikocefaaGreatDoorTotals.lean).
  GIVEN WITH THE SEED: the statements are not yours to turn. If you find one false, say at which input.
  Laid BY PROGRAM, IN A SANDBOX (cutbox-rows.mjs): the forced cells as the released guide's own fill.sh prints them over the translation 0deb099442d8ea35… (all of the seat's roots in one cut). By AI agents, Wed Nov 11 2026. No macro, syntax, notation, axiom, sorry.
-/
import Derived.Test.YtanccjaikocefaaGreatDoorChecked
import GoSem.Claim
import GoSem.ClaimJoined
import GoSem.ClaimMapViews
import Derived.JoinedTies
import Derived.KernelRfl
namespace Go.Proofs.YtanccjaikocefaaGreatDoor
/- THE CELL 'sum', in the pinned program and in every row, IS THE sha256 OF THE DUMP (.gsa) THAT YtanccjaikocefaaGreatDoorProg.lean LOADS. Nothing in Lean hashes anything: it is a label: what it is worth is what the hold of that sum in a sandbox is worth. -/
noncomputable def Tryz.pinned : Pinned := { name := "ytanccjaikocefaagreatdoor", sum := "0deb099442d8ea35cb03c0b6d892ebd17c4a539fce44855086e49e57cf1b238e", checked := Tryz.checked }
namespace Rows
def none {H : Type} : Left H := { results := [], args := [] }

/- WHAT THE LISTED PACKAGE-LEVEL VARIABLES READ AS WHEN THE CALL BEGINS. Each datum BY PROGRAM (the guide's laid-datum.mjs) off the statement by which the dump's own 'gosem.cut.vars' lays the variable. In a bare row this is a premise. The card (YtanccjaikocefaaGreatDoorCards.lean) ties it to the program's text. -/
def laid_chains_rv_table {H : Type} : DataW H := .agg [.agg [.lit (.int .i64 0), .lit (.int .i64 4), .lit (.int .u32 127), .lit (.int .u32 55)], .agg [.lit (.int .i64 1), .lit (.int .i64 4), .lit (.int .u32 127), .lit (.int .u32 23)], .agg [.lit (.int .i64 2), .lit (.int .i64 5), .lit (.int .u32 127), .lit (.int .u32 111)], .agg [.lit (.int .i64 3), .lit (.int .i64 1), .lit (.int .u32 28799), .lit (.int .u32 103)], .agg [.lit (.int .i64 4), .lit (.int .i64 3), .lit (.int .u32 28799), .lit (.int .u32 99)], .agg [.lit (.int .i64 5), .lit (.int .i64 3), .lit (.int .u32 28799), .lit (.int .u32 4195)], .agg [.lit (.int .i64 6), .lit (.int .i64 3), .lit (.int .u32 28799), .lit (.int .u32 16483)], .agg [.lit (.int .i64 7), .lit (.int .i64 3), .lit (.int .u32 28799), .lit (.int .u32 20579)], .agg [.lit (.int .i64 8), .lit (.int .i64 3), .lit (.int .u32 28799), .lit (.int .u32 24675)], .agg [.lit (.int .i64 9), .lit (.int .i64 3), .lit (.int .u32 28799), .lit (.int .u32 28771)], .agg [.lit (.int .i64 10), .lit (.int .i64 1), .lit (.int .u32 28799), .lit (.int .u32 3)], .agg [.lit (.int .i64 11), .lit (.int .i64 1), .lit (.int .u32 28799), .lit (.int .u32 4099)], .agg [.lit (.int .i64 12), .lit (.int .i64 1), .lit (.int .u32 28799), .lit (.int .u32 8195)], .agg [.lit (.int .i64 13), .lit (.int .i64 1), .lit (.int .u32 28799), .lit (.int .u32 16387)], .agg [.lit (.int .i64 14), .lit (.int .i64 1), .lit (.int .u32 28799), .lit (.int .u32 20483)], .agg [.lit (.int .i64 15), .lit (.int .i64 2), .lit (.int .u32 28799), .lit (.int .u32 35)], .agg [.lit (.int .i64 16), .lit (.int .i64 2), .lit (.int .u32 28799), .lit (.int .u32 4131)], .agg [.lit (.int .i64 17), .lit (.int .i64 2), .lit (.int .u32 28799), .lit (.int .u32 8227)], .agg [.lit (.int .i64 18), .lit (.int .i64 1), .lit (.int .u32 28799), .lit (.int .u32 19)], .agg [.lit (.int .i64 19), .lit (.int .i64 1), .lit (.int .u32 28799), .lit (.int .u32 8211)], .agg [.lit (.int .i64 20), .lit (.int .i64 1), .lit (.int .u32 28799), .lit (.int .u32 12307)], .agg [.lit (.int .i64 21), .lit (.int .i64 1), .lit (.int .u32 28799), .lit (.int .u32 16403)], .agg [.lit (.int .i64 22), .lit (.int .i64 1), .lit (.int .u32 28799), .lit (.int .u32 24595)], .agg [.lit (.int .i64 23), .lit (.int .i64 1), .lit (.int .u32 28799), .lit (.int .u32 28691)], .agg [.lit (.int .i64 24), .lit (.int .i64 6), .lit (.int .u32 4261441663), .lit (.int .u32 4115)], .agg [.lit (.int .i64 25), .lit (.int .i64 6), .lit (.int .u32 4261441663), .lit (.int .u32 20499)], .agg [.lit (.int .i64 26), .lit (.int .i64 6), .lit (.int .u32 4261441663), .lit (.int .u32 1073762323)], .agg [.lit (.int .i64 27), .lit (.int .i64 0), .lit (.int .u32 4261441663), .lit (.int .u32 51)], .agg [.lit (.int .i64 28), .lit (.int .i64 0), .lit (.int .u32 4261441663), .lit (.int .u32 1073741875)], .agg [.lit (.int .i64 29), .lit (.int .i64 0), .lit (.int .u32 4261441663), .lit (.int .u32 4147)], .agg [.lit (.int .i64 30), .lit (.int .i64 0), .lit (.int .u32 4261441663), .lit (.int .u32 8243)], .agg [.lit (.int .i64 31), .lit (.int .i64 0), .lit (.int .u32 4261441663), .lit (.int .u32 12339)], .agg [.lit (.int .i64 32), .lit (.int .i64 0), .lit (.int .u32 4261441663), .lit (.int .u32 16435)], .agg [.lit (.int .i64 33), .lit (.int .i64 0), .lit (.int .u32 4261441663), .lit (.int .u32 20531)], .agg [.lit (.int .i64 34), .lit (.int .i64 0), .lit (.int .u32 4261441663), .lit (.int .u32 1073762355)], .agg [.lit (.int .i64 35), .lit (.int .i64 0), .lit (.int .u32 4261441663), .lit (.int .u32 24627)], .agg [.lit (.int .i64 36), .lit (.int .i64 0), .lit (.int .u32 4261441663), .lit (.int .u32 28723)], .agg [.lit (.int .i64 37), .lit (.int .i64 0), .lit (.int .u32 4261441663), .lit (.int .u32 33554483)], .agg [.lit (.int .i64 38), .lit (.int .i64 0), .lit (.int .u32 4261441663), .lit (.int .u32 33558579)], .agg [.lit (.int .i64 39), .lit (.int .i64 0), .lit (.int .u32 4261441663), .lit (.int .u32 33562675)], .agg [.lit (.int .i64 40), .lit (.int .i64 0), .lit (.int .u32 4261441663), .lit (.int .u32 33566771)], .agg [.lit (.int .i64 41), .lit (.int .i64 0), .lit (.int .u32 4261441663), .lit (.int .u32 33570867)], .agg [.lit (.int .i64 42), .lit (.int .i64 0), .lit (.int .u32 4261441663), .lit (.int .u32 33574963)], .agg [.lit (.int .i64 43), .lit (.int .i64 0), .lit (.int .u32 4261441663), .lit (.int .u32 33579059)], .agg [.lit (.int .i64 44), .lit (.int .i64 0), .lit (.int .u32 4261441663), .lit (.int .u32 33583155)], .agg [.lit (.int .i64 45), .lit (.int .i64 7), .lit (.int .u32 28799), .lit (.int .u32 15)], .agg [.lit (.int .i64 45), .lit (.int .i64 7), .lit (.int .u32 28799), .lit (.int .u32 4111)], .agg [.lit (.int .i64 46), .lit (.int .i64 7), .lit (.int .u32 4294967295), .lit (.int .u32 115)], .agg [.lit (.int .i64 47), .lit (.int .i64 7), .lit (.int .u32 4294967295), .lit (.int .u32 1048691)]]

/-- 'chainslaw.All': WHATEVER THE INPUT: true; the input reads as it did. -/
def allSpec : ChangeSpec := { name := "all", fn := fun _ => fun
  | [d1, d2, d3, d4, d5, d6] => { results := [.lit (.bool true)], args := [d1, d2, d3, d4, d5, d6] }
  | _ => none }
def allRow : OpenClaim := { program := "ytanccjaikocefaagreatdoor", sum := "0deb099442d8ea35cb03c0b6d892ebd17c4a539fce44855086e49e57cf1b238e", func := "chains/chainslaw.All", spec := "all", unfollowed := true, recurses := true, named := ["chains/rv.table"], apart := false, laid := [("chains/rv.table", laid_chains_rv_table)] }
def AllSaid : Prop := allRow.holds Tryz.pinned (OpenSpec.ofChange allSpec)

/-- ITS FALSE NEIGHBOUR: 'it returns false'. Refute it at one input. -/
def allWrong : ChangeSpec := { name := "all", fn := fun _ => fun
  | [d1, d2, d3, d4, d5, d6] => { results := [.lit (.bool false)], args := [d1, d2, d3, d4, d5, d6] }
  | _ => none }
def AllWrongFalsely : Prop := allRow.holds Tryz.pinned (OpenSpec.ofChange allWrong)

/- THE SECOND FORM. 'bulk': how many values and letters a reading holds, each counted each time it is reached (what is shared counts as often as it is met; a slice's spare places count too). A statement '..UptoSaid' is the law's where the arguments, and the package variables that the reading takes, are together of bulk at most 1048576: NARROWER than '..Said'. Prove '..Said' where nothing that the law and all that it calls make is longer than what came in: it says more and counts as full. Else prove '..UptoSaid'. A law counts once. -/
mutual
def uptoBulk {H : Type} : DataW H → Nat
  | .lit (.string bytes) => bytes.length + 1
  | .lit _ => 1
  | .nil => 1
  | .ptr d => uptoBulk d + 1
  | .slice elems spare => uptoBulkAll elems + uptoBulkAll spare + 1
  | .agg parts => uptoBulkAll parts + 1
  | .iface _ d => uptoBulk d + 1
  | .map entries => uptoBulkEntries entries + 1
  | .held _ => 1
def uptoBulkAll {H : Type} : List (DataW H) → Nat
  | [] => 0
  | d :: r => uptoBulk d + uptoBulkAll r
def uptoBulkEntries {H : Type} : List (Lit × DataW H) → Nat
  | [] => 0
  | x :: r => uptoBulkEntry x + uptoBulkEntries r
def uptoBulkEntry {H : Type} : Lit × DataW H → Nat
  | (.string bytes, d) => bytes.length + uptoBulk d + 1
  | (_, d) => uptoBulk d + 1
 end
def uptoSmall : (H : Type) → List (DataW H) → Bool := fun _ ds => decide (uptoBulkAll ds ≤ 1048576)
def OpenSpec.upto (s : _root_.Go.ChangeSpec) : _root_.Go.OpenSpec := { _root_.Go.OpenSpec.ofChange s with cond := some uptoSmall }

/-- 'chainslaw.All', WHERE WHAT IT READS IS OF BULK AT MOST 1048576: true; the input reads as it did. -/
def allUptoRow : OpenClaim := { program := "ytanccjaikocefaagreatdoor", sum := "0deb099442d8ea35cb03c0b6d892ebd17c4a539fce44855086e49e57cf1b238e", func := "chains/chainslaw.All", spec := "all", unfollowed := true, recurses := true, named := ["chains/rv.table"], apart := false, laid := [("chains/rv.table", laid_chains_rv_table)], narrowed := true }
def AllUptoSaid : Prop := allUptoRow.holds Tryz.pinned (OpenSpec.upto allSpec)

end Rows
end Go.Proofs.YtanccjaikocefaaGreatDoor
