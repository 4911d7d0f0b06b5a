/-
  No cell of these rows narrows 'for every input' (looked for: loops, veiled, ifaces, maps, wideKeys, modest, calm, conditions, laid).
  DERIVED. THE GIVEN ROWS OF THIS SEAT. 7 by the template 'for every input the law returns true; each argument reads behind the call as it read before'; 0 by the template 'total and deterministic' (their statements: YthphdaeaicjgmaaTotals.lean).
  GIVEN WITH THE SEED: the statements are not yours to turn. If you find one false, say at which input.
  Laid BY PROGRAM, IN A SANDBOX (cutbox-rows.mjs): the forced cells as the released guide's own fill.sh prints them over the translation 7d426a8ea4ffc6e9… (all of the seat's roots in one cut). By AI agents, Wed Nov 11 2026. No macro, syntax, notation, axiom, sorry.
-/
import Derived.Test.YthphdaeaicjgmaaChecked
import GoSem.Claim
import GoSem.ClaimJoined
import GoSem.ClaimMapViews
import Derived.JoinedTies
import Derived.KernelRfl
namespace Go.Proofs.Ythphdaeaicjgmaa
/- THE CELL 'sum', in the pinned program and in every row, IS THE sha256 OF THE DUMP (.gsa) THAT YthphdaeaicjgmaaProg.lean LOADS. Nothing in Lean hashes anything: it is a label: what it is worth is what the hold of that sum in a sandbox is worth. -/
noncomputable def Try.pinned : Pinned := { name := "ythphdaeaicjgmaa", sum := "7d426a8ea4ffc6e90641d8fc0463683e05e83a56c9c4f0e329fcc0d42947ae84", checked := Try.checked }
namespace Rows
def none {H : Type} : Left H := { results := [], args := [] }

/-- 'duetlaw18.EditDoes': WHATEVER THE INPUT: true; the input reads as it did. -/
def editDoesSpec : ChangeSpec := { name := "editDoes", fn := fun _ => fun
  | [d1, d2] => { results := [.lit (.bool true)], args := [d1, d2] }
  | _ => none }
def editDoesRow : OpenClaim := { program := "ythphdaeaicjgmaa", sum := "7d426a8ea4ffc6e90641d8fc0463683e05e83a56c9c4f0e329fcc0d42947ae84", func := "duet/duetlaw18.EditDoes", spec := "editDoes", inPlace := ["slices.overlaps[int]"], unfollowed := true, recurses := true, plainKeys := false, apart := false }
def EditDoesSaid : Prop := editDoesRow.holds Try.pinned (OpenSpec.ofChange editDoesSpec)

/-- ITS FALSE NEIGHBOUR: 'it returns false'. Refute it at one input. -/
def editDoesWrong : ChangeSpec := { name := "editDoes", fn := fun _ => fun
  | [d1, d2] => { results := [.lit (.bool false)], args := [d1, d2] }
  | _ => none }
def EditDoesWrongFalsely : Prop := editDoesRow.holds Try.pinned (OpenSpec.ofChange editDoesWrong)

/-- 'duetlaw18.EditApplies': WHATEVER THE INPUT: true; the input reads as it did. -/
def editAppliesSpec : ChangeSpec := { name := "editApplies", fn := fun _ => fun
  | [d] => { results := [.lit (.bool true)], args := [d] }
  | _ => none }
def editAppliesRow : OpenClaim := { program := "ythphdaeaicjgmaa", sum := "7d426a8ea4ffc6e90641d8fc0463683e05e83a56c9c4f0e329fcc0d42947ae84", func := "duet/duetlaw18.EditApplies", spec := "editApplies", inPlace := ["slices.overlaps[int]"], unfollowed := true, recurses := true, plainKeys := false, apart := false }
def EditAppliesSaid : Prop := editAppliesRow.holds Try.pinned (OpenSpec.ofChange editAppliesSpec)

/-- ITS FALSE NEIGHBOUR: 'it returns false'. Refute it at one input. -/
def editAppliesWrong : ChangeSpec := { name := "editApplies", fn := fun _ => fun
  | [d] => { results := [.lit (.bool false)], args := [d] }
  | _ => none }
def EditAppliesWrongFalsely : Prop := editAppliesRow.holds Try.pinned (OpenSpec.ofChange editAppliesWrong)

/-- 'duetlaw18.EditActs': WHATEVER THE INPUT: true; the input reads as it did. -/
def editActsSpec : ChangeSpec := { name := "editActs", fn := fun _ => fun
  | [d1, d2] => { results := [.lit (.bool true)], args := [d1, d2] }
  | _ => none }
def editActsRow : OpenClaim := { program := "ythphdaeaicjgmaa", sum := "7d426a8ea4ffc6e90641d8fc0463683e05e83a56c9c4f0e329fcc0d42947ae84", func := "duet/duetlaw18.EditActs", spec := "editActs", inPlace := ["slices.overlaps[int]"], unfollowed := true, recurses := true, plainKeys := false, apart := false }
def EditActsSaid : Prop := editActsRow.holds Try.pinned (OpenSpec.ofChange editActsSpec)

/-- ITS FALSE NEIGHBOUR: 'it returns false'. Refute it at one input. -/
def editActsWrong : ChangeSpec := { name := "editActs", fn := fun _ => fun
  | [d1, d2] => { results := [.lit (.bool false)], args := [d1, d2] }
  | _ => none }
def EditActsWrongFalsely : Prop := editActsRow.holds Try.pinned (OpenSpec.ofChange editActsWrong)

/-- 'duetlaw18.EditKilled': WHATEVER THE INPUT: true; the input reads as it did. -/
def editKilledSpec : ChangeSpec := { name := "editKilled", fn := fun _ => fun
  | [d1, d2] => { results := [.lit (.bool true)], args := [d1, d2] }
  | _ => none }
def editKilledRow : OpenClaim := { program := "ythphdaeaicjgmaa", sum := "7d426a8ea4ffc6e90641d8fc0463683e05e83a56c9c4f0e329fcc0d42947ae84", func := "duet/duetlaw18.EditKilled", spec := "editKilled", inPlace := ["slices.overlaps[int]"], unfollowed := true, recurses := true, plainKeys := false, apart := false }
def EditKilledSaid : Prop := editKilledRow.holds Try.pinned (OpenSpec.ofChange editKilledSpec)

/-- ITS FALSE NEIGHBOUR: 'it returns false'. Refute it at one input. -/
def editKilledWrong : ChangeSpec := { name := "editKilled", fn := fun _ => fun
  | [d1, d2] => { results := [.lit (.bool false)], args := [d1, d2] }
  | _ => none }
def EditKilledWrongFalsely : Prop := editKilledRow.holds Try.pinned (OpenSpec.ofChange editKilledWrong)

/-- 'duetlaw18.EditMoves': WHATEVER THE INPUT: true; the input reads as it did. -/
def editMovesSpec : ChangeSpec := { name := "editMoves", fn := fun _ => fun
  | [d1, d2] => { results := [.lit (.bool true)], args := [d1, d2] }
  | _ => none }
def editMovesRow : OpenClaim := { program := "ythphdaeaicjgmaa", sum := "7d426a8ea4ffc6e90641d8fc0463683e05e83a56c9c4f0e329fcc0d42947ae84", func := "duet/duetlaw18.EditMoves", spec := "editMoves", inPlace := ["slices.overlaps[int]"], unfollowed := true, recurses := true, plainKeys := false, apart := false }
def EditMovesSaid : Prop := editMovesRow.holds Try.pinned (OpenSpec.ofChange editMovesSpec)

/-- ITS FALSE NEIGHBOUR: 'it returns false'. Refute it at one input. -/
def editMovesWrong : ChangeSpec := { name := "editMoves", fn := fun _ => fun
  | [d1, d2] => { results := [.lit (.bool false)], args := [d1, d2] }
  | _ => none }
def EditMovesWrongFalsely : Prop := editMovesRow.holds Try.pinned (OpenSpec.ofChange editMovesWrong)

/-- 'duetlaw18.EditTyped': WHATEVER THE INPUT: true; the input reads as it did. -/
def editTypedSpec : ChangeSpec := { name := "editTyped", fn := fun _ => fun
  | [d1, d2] => { results := [.lit (.bool true)], args := [d1, d2] }
  | _ => none }
def editTypedRow : OpenClaim := { program := "ythphdaeaicjgmaa", sum := "7d426a8ea4ffc6e90641d8fc0463683e05e83a56c9c4f0e329fcc0d42947ae84", func := "duet/duetlaw18.EditTyped", spec := "editTyped", inPlace := ["slices.overlaps[int]"], unfollowed := true, recurses := true, plainKeys := false, apart := false }
def EditTypedSaid : Prop := editTypedRow.holds Try.pinned (OpenSpec.ofChange editTypedSpec)

/-- ITS FALSE NEIGHBOUR: 'it returns false'. Refute it at one input. -/
def editTypedWrong : ChangeSpec := { name := "editTyped", fn := fun _ => fun
  | [d1, d2] => { results := [.lit (.bool false)], args := [d1, d2] }
  | _ => none }
def EditTypedWrongFalsely : Prop := editTypedRow.holds Try.pinned (OpenSpec.ofChange editTypedWrong)

/-- 'duetlaw18.EditWords': WHATEVER THE INPUT: true; the input reads as it did. -/
def editWordsSpec : ChangeSpec := { name := "editWords", fn := fun _ => fun
  | [d1, d2] => { results := [.lit (.bool true)], args := [d1, d2] }
  | _ => none }
def editWordsRow : OpenClaim := { program := "ythphdaeaicjgmaa", sum := "7d426a8ea4ffc6e90641d8fc0463683e05e83a56c9c4f0e329fcc0d42947ae84", func := "duet/duetlaw18.EditWords", spec := "editWords", inPlace := ["slices.overlaps[int]"], unfollowed := true, recurses := true, plainKeys := false, apart := false }
def EditWordsSaid : Prop := editWordsRow.holds Try.pinned (OpenSpec.ofChange editWordsSpec)

/-- ITS FALSE NEIGHBOUR: 'it returns false'. Refute it at one input. -/
def editWordsWrong : ChangeSpec := { name := "editWords", fn := fun _ => fun
  | [d1, d2] => { results := [.lit (.bool false)], args := [d1, d2] }
  | _ => none }
def EditWordsWrongFalsely : Prop := editWordsRow.holds Try.pinned (OpenSpec.ofChange editWordsWrong)

/- THE SECOND FORM. 'bulk': how many values and letters a reading holds, each counted each time it is reached (what is shared counts as often as it is met; a slice's spare places count too). A statement '..UptoSaid' is the law's where the arguments, and the package variables that the reading takes, are together of bulk at most 1048576: NARROWER than '..Said'. Prove '..Said' where nothing that the law and all that it calls make is longer than what came in: it says more and counts as full. Else prove '..UptoSaid'. A law counts once. -/
mutual
def uptoBulk {H : Type} : DataW H → Nat
  | .lit (.string bytes) => bytes.length + 1
  | .lit _ => 1
  | .nil => 1
  | .ptr d => uptoBulk d + 1
  | .slice elems spare => uptoBulkAll elems + uptoBulkAll spare + 1
  | .agg parts => uptoBulkAll parts + 1
  | .iface _ d => uptoBulk d + 1
  | .map entries => uptoBulkEntries entries + 1
  | .held _ => 1
def uptoBulkAll {H : Type} : List (DataW H) → Nat
  | [] => 0
  | d :: r => uptoBulk d + uptoBulkAll r
def uptoBulkEntries {H : Type} : List (Lit × DataW H) → Nat
  | [] => 0
  | x :: r => uptoBulkEntry x + uptoBulkEntries r
def uptoBulkEntry {H : Type} : Lit × DataW H → Nat
  | (.string bytes, d) => bytes.length + uptoBulk d + 1
  | (_, d) => uptoBulk d + 1
 end
def uptoSmall : (H : Type) → List (DataW H) → Bool := fun _ ds => decide (uptoBulkAll ds ≤ 1048576)
def OpenSpec.upto (s : _root_.Go.ChangeSpec) : _root_.Go.OpenSpec := { _root_.Go.OpenSpec.ofChange s with cond := some uptoSmall }

/-- 'duetlaw18.EditDoes', WHERE WHAT IT READS IS OF BULK AT MOST 1048576: true; the input reads as it did. -/
def editDoesUptoRow : OpenClaim := { program := "ythphdaeaicjgmaa", sum := "7d426a8ea4ffc6e90641d8fc0463683e05e83a56c9c4f0e329fcc0d42947ae84", func := "duet/duetlaw18.EditDoes", spec := "editDoes", inPlace := ["slices.overlaps[int]"], unfollowed := true, recurses := true, plainKeys := false, apart := false, narrowed := true }
def EditDoesUptoSaid : Prop := editDoesUptoRow.holds Try.pinned (OpenSpec.upto editDoesSpec)

/-- 'duetlaw18.EditApplies', WHERE WHAT IT READS IS OF BULK AT MOST 1048576: true; the input reads as it did. -/
def editAppliesUptoRow : OpenClaim := { program := "ythphdaeaicjgmaa", sum := "7d426a8ea4ffc6e90641d8fc0463683e05e83a56c9c4f0e329fcc0d42947ae84", func := "duet/duetlaw18.EditApplies", spec := "editApplies", inPlace := ["slices.overlaps[int]"], unfollowed := true, recurses := true, plainKeys := false, apart := false, narrowed := true }
def EditAppliesUptoSaid : Prop := editAppliesUptoRow.holds Try.pinned (OpenSpec.upto editAppliesSpec)

/-- 'duetlaw18.EditActs', WHERE WHAT IT READS IS OF BULK AT MOST 1048576: true; the input reads as it did. -/
def editActsUptoRow : OpenClaim := { program := "ythphdaeaicjgmaa", sum := "7d426a8ea4ffc6e90641d8fc0463683e05e83a56c9c4f0e329fcc0d42947ae84", func := "duet/duetlaw18.EditActs", spec := "editActs", inPlace := ["slices.overlaps[int]"], unfollowed := true, recurses := true, plainKeys := false, apart := false, narrowed := true }
def EditActsUptoSaid : Prop := editActsUptoRow.holds Try.pinned (OpenSpec.upto editActsSpec)

/-- 'duetlaw18.EditKilled', WHERE WHAT IT READS IS OF BULK AT MOST 1048576: true; the input reads as it did. -/
def editKilledUptoRow : OpenClaim := { program := "ythphdaeaicjgmaa", sum := "7d426a8ea4ffc6e90641d8fc0463683e05e83a56c9c4f0e329fcc0d42947ae84", func := "duet/duetlaw18.EditKilled", spec := "editKilled", inPlace := ["slices.overlaps[int]"], unfollowed := true, recurses := true, plainKeys := false, apart := false, narrowed := true }
def EditKilledUptoSaid : Prop := editKilledUptoRow.holds Try.pinned (OpenSpec.upto editKilledSpec)

/-- 'duetlaw18.EditMoves', WHERE WHAT IT READS IS OF BULK AT MOST 1048576: true; the input reads as it did. -/
def editMovesUptoRow : OpenClaim := { program := "ythphdaeaicjgmaa", sum := "7d426a8ea4ffc6e90641d8fc0463683e05e83a56c9c4f0e329fcc0d42947ae84", func := "duet/duetlaw18.EditMoves", spec := "editMoves", inPlace := ["slices.overlaps[int]"], unfollowed := true, recurses := true, plainKeys := false, apart := false, narrowed := true }
def EditMovesUptoSaid : Prop := editMovesUptoRow.holds Try.pinned (OpenSpec.upto editMovesSpec)

/-- 'duetlaw18.EditTyped', WHERE WHAT IT READS IS OF BULK AT MOST 1048576: true; the input reads as it did. -/
def editTypedUptoRow : OpenClaim := { program := "ythphdaeaicjgmaa", sum := "7d426a8ea4ffc6e90641d8fc0463683e05e83a56c9c4f0e329fcc0d42947ae84", func := "duet/duetlaw18.EditTyped", spec := "editTyped", inPlace := ["slices.overlaps[int]"], unfollowed := true, recurses := true, plainKeys := false, apart := false, narrowed := true }
def EditTypedUptoSaid : Prop := editTypedUptoRow.holds Try.pinned (OpenSpec.upto editTypedSpec)

/-- 'duetlaw18.EditWords', WHERE WHAT IT READS IS OF BULK AT MOST 1048576: true; the input reads as it did. -/
def editWordsUptoRow : OpenClaim := { program := "ythphdaeaicjgmaa", sum := "7d426a8ea4ffc6e90641d8fc0463683e05e83a56c9c4f0e329fcc0d42947ae84", func := "duet/duetlaw18.EditWords", spec := "editWords", inPlace := ["slices.overlaps[int]"], unfollowed := true, recurses := true, plainKeys := false, apart := false, narrowed := true }
def EditWordsUptoSaid : Prop := editWordsUptoRow.holds Try.pinned (OpenSpec.upto editWordsSpec)

end Rows
end Go.Proofs.Ythphdaeaicjgmaa
