/-
  No cell of these rows narrows 'for every input' (looked for: loops, veiled, ifaces, maps, wideKeys, modest, calm, conditions, laid).
  DERIVED. THE GIVEN ROWS OF THIS SEAT. 7 by the template 'for every input the law returns true; each argument reads behind the call as it read before'; 0 by the template 'total and deterministic' (their statements: YtgcelfplgfloaaaTotals.lean).
  GIVEN WITH THE SEED: the statements are not yours to turn. If you find one false, say at which input.
  Laid BY PROGRAM, IN A SANDBOX (cutbox-rows.mjs): the forced cells as the released guide's own fill.sh prints them over the translation 2969acd35c6ac497… (all of the seat's roots in one cut). By AI agents, Wed Nov 11 2026. No macro, syntax, notation, axiom, sorry.
-/
import Derived.Test.YtgcelfplgfloaaaChecked
import GoSem.Claim
import GoSem.ClaimJoined
import GoSem.ClaimMapViews
import Derived.JoinedTies
import Derived.KernelRfl
namespace Go.Proofs.Ytgcelfplgfloaaa
/- THE CELL 'sum', in the pinned program and in every row, IS THE sha256 OF THE DUMP (.gsa) THAT YtgcelfplgfloaaaProg.lean LOADS. Nothing in Lean hashes anything: it is a label: what it is worth is what the hold of that sum in a sandbox is worth. -/
noncomputable def Try.pinned : Pinned := { name := "ytgcelfplgfloaaa", sum := "2969acd35c6ac4978d791f59e1c45487fe9f343de8239a99f937a6570d2445c2", checked := Try.checked }
namespace Rows
def none {H : Type} : Left H := { results := [], args := [] }

/-- 'duetlaw08.ResendAsks': WHATEVER THE INPUT: true; the input reads as it did. -/
def resendAsksSpec : ChangeSpec := { name := "resendAsks", fn := fun _ => fun
  | [d1, d2, d3] => { results := [.lit (.bool true)], args := [d1, d2, d3] }
  | _ => none }
def resendAsksRow : OpenClaim := { program := "ytgcelfplgfloaaa", sum := "2969acd35c6ac4978d791f59e1c45487fe9f343de8239a99f937a6570d2445c2", func := "duet/duetlaw08.ResendAsks", spec := "resendAsks", unfollowed := true, recurses := true, plainKeys := false, apart := false }
def ResendAsksSaid : Prop := resendAsksRow.holds Try.pinned (OpenSpec.ofChange resendAsksSpec)

/-- ITS FALSE NEIGHBOUR: 'it returns false'. Refute it at one input. -/
def resendAsksWrong : ChangeSpec := { name := "resendAsks", fn := fun _ => fun
  | [d1, d2, d3] => { results := [.lit (.bool false)], args := [d1, d2, d3] }
  | _ => none }
def ResendAsksWrongFalsely : Prop := resendAsksRow.holds Try.pinned (OpenSpec.ofChange resendAsksWrong)

/-- 'duetlaw08.ResendKept': WHATEVER THE INPUT: true; the input reads as it did. -/
def resendKeptSpec : ChangeSpec := { name := "resendKept", fn := fun _ => fun
  | [d] => { results := [.lit (.bool true)], args := [d] }
  | _ => none }
def resendKeptRow : OpenClaim := { program := "ytgcelfplgfloaaa", sum := "2969acd35c6ac4978d791f59e1c45487fe9f343de8239a99f937a6570d2445c2", func := "duet/duetlaw08.ResendKept", spec := "resendKept", unfollowed := true, recurses := true, plainKeys := false, apart := false }
def ResendKeptSaid : Prop := resendKeptRow.holds Try.pinned (OpenSpec.ofChange resendKeptSpec)

/-- ITS FALSE NEIGHBOUR: 'it returns false'. Refute it at one input. -/
def resendKeptWrong : ChangeSpec := { name := "resendKept", fn := fun _ => fun
  | [d] => { results := [.lit (.bool false)], args := [d] }
  | _ => none }
def ResendKeptWrongFalsely : Prop := resendKeptRow.holds Try.pinned (OpenSpec.ofChange resendKeptWrong)

/-- 'duetlaw07.HoldScripts': WHATEVER THE INPUT: true; the input reads as it did. -/
def holdScriptsSpec : ChangeSpec := { name := "holdScripts", fn := fun _ => fun
  | [d1, d2, d3] => { results := [.lit (.bool true)], args := [d1, d2, d3] }
  | _ => none }
def holdScriptsRow : OpenClaim := { program := "ytgcelfplgfloaaa", sum := "2969acd35c6ac4978d791f59e1c45487fe9f343de8239a99f937a6570d2445c2", func := "duet/duetlaw07.HoldScripts", spec := "holdScripts", inPlace := ["slices.overlaps[duet/api.Msg]"], unfollowed := true, recurses := true, plainKeys := false, apart := false }
def HoldScriptsSaid : Prop := holdScriptsRow.holds Try.pinned (OpenSpec.ofChange holdScriptsSpec)

/-- ITS FALSE NEIGHBOUR: 'it returns false'. Refute it at one input. -/
def holdScriptsWrong : ChangeSpec := { name := "holdScripts", fn := fun _ => fun
  | [d1, d2, d3] => { results := [.lit (.bool false)], args := [d1, d2, d3] }
  | _ => none }
def HoldScriptsWrongFalsely : Prop := holdScriptsRow.holds Try.pinned (OpenSpec.ofChange holdScriptsWrong)

/-- 'duetlaw07.HoldOrder': WHATEVER THE INPUT: true; the input reads as it did. -/
def holdOrderSpec : ChangeSpec := { name := "holdOrder", fn := fun _ => fun
  | [d1, d2] => { results := [.lit (.bool true)], args := [d1, d2] }
  | _ => none }
def holdOrderRow : OpenClaim := { program := "ytgcelfplgfloaaa", sum := "2969acd35c6ac4978d791f59e1c45487fe9f343de8239a99f937a6570d2445c2", func := "duet/duetlaw07.HoldOrder", spec := "holdOrder", inPlace := ["slices.overlaps[duet/api.Msg]"], unfollowed := true, recurses := true, plainKeys := false, apart := false }
def HoldOrderSaid : Prop := holdOrderRow.holds Try.pinned (OpenSpec.ofChange holdOrderSpec)

/-- ITS FALSE NEIGHBOUR: 'it returns false'. Refute it at one input. -/
def holdOrderWrong : ChangeSpec := { name := "holdOrder", fn := fun _ => fun
  | [d1, d2] => { results := [.lit (.bool false)], args := [d1, d2] }
  | _ => none }
def HoldOrderWrongFalsely : Prop := holdOrderRow.holds Try.pinned (OpenSpec.ofChange holdOrderWrong)

/-- 'duetlaw07.HoldMixed': WHATEVER THE INPUT: true; the input reads as it did. -/
def holdMixedSpec : ChangeSpec := { name := "holdMixed", fn := fun _ => fun
  | [d1, d2, d3] => { results := [.lit (.bool true)], args := [d1, d2, d3] }
  | _ => none }
def holdMixedRow : OpenClaim := { program := "ytgcelfplgfloaaa", sum := "2969acd35c6ac4978d791f59e1c45487fe9f343de8239a99f937a6570d2445c2", func := "duet/duetlaw07.HoldMixed", spec := "holdMixed", inPlace := ["slices.overlaps[duet/api.Msg]"], unfollowed := true, recurses := true, plainKeys := false, apart := false }
def HoldMixedSaid : Prop := holdMixedRow.holds Try.pinned (OpenSpec.ofChange holdMixedSpec)

/-- ITS FALSE NEIGHBOUR: 'it returns false'. Refute it at one input. -/
def holdMixedWrong : ChangeSpec := { name := "holdMixed", fn := fun _ => fun
  | [d1, d2, d3] => { results := [.lit (.bool false)], args := [d1, d2, d3] }
  | _ => none }
def HoldMixedWrongFalsely : Prop := holdMixedRow.holds Try.pinned (OpenSpec.ofChange holdMixedWrong)

/-- 'duetlaw07.HoldSame': WHATEVER THE INPUT: true; the input reads as it did. -/
def holdSameSpec : ChangeSpec := { name := "holdSame", fn := fun _ => fun
  | [d1, d2] => { results := [.lit (.bool true)], args := [d1, d2] }
  | _ => none }
def holdSameRow : OpenClaim := { program := "ytgcelfplgfloaaa", sum := "2969acd35c6ac4978d791f59e1c45487fe9f343de8239a99f937a6570d2445c2", func := "duet/duetlaw07.HoldSame", spec := "holdSame", inPlace := ["slices.overlaps[duet/api.Msg]"], unfollowed := true, recurses := true, plainKeys := false, apart := false }
def HoldSameSaid : Prop := holdSameRow.holds Try.pinned (OpenSpec.ofChange holdSameSpec)

/-- ITS FALSE NEIGHBOUR: 'it returns false'. Refute it at one input. -/
def holdSameWrong : ChangeSpec := { name := "holdSame", fn := fun _ => fun
  | [d1, d2] => { results := [.lit (.bool false)], args := [d1, d2] }
  | _ => none }
def HoldSameWrongFalsely : Prop := holdSameRow.holds Try.pinned (OpenSpec.ofChange holdSameWrong)

/-- 'duetlaw08.ResendRaises': WHATEVER THE INPUT: true; the input reads as it did. -/
def resendRaisesSpec : ChangeSpec := { name := "resendRaises", fn := fun _ => fun
  | [d1, d2] => { results := [.lit (.bool true)], args := [d1, d2] }
  | _ => none }
def resendRaisesRow : OpenClaim := { program := "ytgcelfplgfloaaa", sum := "2969acd35c6ac4978d791f59e1c45487fe9f343de8239a99f937a6570d2445c2", func := "duet/duetlaw08.ResendRaises", spec := "resendRaises", inPlace := ["slices.overlaps[duet/api.Msg]"], unfollowed := true, recurses := true, plainKeys := false, apart := false }
def ResendRaisesSaid : Prop := resendRaisesRow.holds Try.pinned (OpenSpec.ofChange resendRaisesSpec)

/-- ITS FALSE NEIGHBOUR: 'it returns false'. Refute it at one input. -/
def resendRaisesWrong : ChangeSpec := { name := "resendRaises", fn := fun _ => fun
  | [d1, d2] => { results := [.lit (.bool false)], args := [d1, d2] }
  | _ => none }
def ResendRaisesWrongFalsely : Prop := resendRaisesRow.holds Try.pinned (OpenSpec.ofChange resendRaisesWrong)

/- THE SECOND FORM. 'bulk': how many values and letters a reading holds, each counted each time it is reached (what is shared counts as often as it is met; a slice's spare places count too). A statement '..UptoSaid' is the law's where the arguments, and the package variables that the reading takes, are together of bulk at most 1048576: NARROWER than '..Said'. Prove '..Said' where nothing that the law and all that it calls make is longer than what came in: it says more and counts as full. Else prove '..UptoSaid'. A law counts once. -/
mutual
def uptoBulk {H : Type} : DataW H → Nat
  | .lit (.string bytes) => bytes.length + 1
  | .lit _ => 1
  | .nil => 1
  | .ptr d => uptoBulk d + 1
  | .slice elems spare => uptoBulkAll elems + uptoBulkAll spare + 1
  | .agg parts => uptoBulkAll parts + 1
  | .iface _ d => uptoBulk d + 1
  | .map entries => uptoBulkEntries entries + 1
  | .held _ => 1
def uptoBulkAll {H : Type} : List (DataW H) → Nat
  | [] => 0
  | d :: r => uptoBulk d + uptoBulkAll r
def uptoBulkEntries {H : Type} : List (Lit × DataW H) → Nat
  | [] => 0
  | x :: r => uptoBulkEntry x + uptoBulkEntries r
def uptoBulkEntry {H : Type} : Lit × DataW H → Nat
  | (.string bytes, d) => bytes.length + uptoBulk d + 1
  | (_, d) => uptoBulk d + 1
 end
def uptoSmall : (H : Type) → List (DataW H) → Bool := fun _ ds => decide (uptoBulkAll ds ≤ 1048576)
def OpenSpec.upto (s : _root_.Go.ChangeSpec) : _root_.Go.OpenSpec := { _root_.Go.OpenSpec.ofChange s with cond := some uptoSmall }

/-- 'duetlaw08.ResendAsks', WHERE WHAT IT READS IS OF BULK AT MOST 1048576: true; the input reads as it did. -/
def resendAsksUptoRow : OpenClaim := { program := "ytgcelfplgfloaaa", sum := "2969acd35c6ac4978d791f59e1c45487fe9f343de8239a99f937a6570d2445c2", func := "duet/duetlaw08.ResendAsks", spec := "resendAsks", unfollowed := true, recurses := true, plainKeys := false, apart := false, narrowed := true }
def ResendAsksUptoSaid : Prop := resendAsksUptoRow.holds Try.pinned (OpenSpec.upto resendAsksSpec)

/-- 'duetlaw08.ResendKept', WHERE WHAT IT READS IS OF BULK AT MOST 1048576: true; the input reads as it did. -/
def resendKeptUptoRow : OpenClaim := { program := "ytgcelfplgfloaaa", sum := "2969acd35c6ac4978d791f59e1c45487fe9f343de8239a99f937a6570d2445c2", func := "duet/duetlaw08.ResendKept", spec := "resendKept", unfollowed := true, recurses := true, plainKeys := false, apart := false, narrowed := true }
def ResendKeptUptoSaid : Prop := resendKeptUptoRow.holds Try.pinned (OpenSpec.upto resendKeptSpec)

/-- 'duetlaw07.HoldScripts', WHERE WHAT IT READS IS OF BULK AT MOST 1048576: true; the input reads as it did. -/
def holdScriptsUptoRow : OpenClaim := { program := "ytgcelfplgfloaaa", sum := "2969acd35c6ac4978d791f59e1c45487fe9f343de8239a99f937a6570d2445c2", func := "duet/duetlaw07.HoldScripts", spec := "holdScripts", inPlace := ["slices.overlaps[duet/api.Msg]"], unfollowed := true, recurses := true, plainKeys := false, apart := false, narrowed := true }
def HoldScriptsUptoSaid : Prop := holdScriptsUptoRow.holds Try.pinned (OpenSpec.upto holdScriptsSpec)

/-- 'duetlaw07.HoldOrder', WHERE WHAT IT READS IS OF BULK AT MOST 1048576: true; the input reads as it did. -/
def holdOrderUptoRow : OpenClaim := { program := "ytgcelfplgfloaaa", sum := "2969acd35c6ac4978d791f59e1c45487fe9f343de8239a99f937a6570d2445c2", func := "duet/duetlaw07.HoldOrder", spec := "holdOrder", inPlace := ["slices.overlaps[duet/api.Msg]"], unfollowed := true, recurses := true, plainKeys := false, apart := false, narrowed := true }
def HoldOrderUptoSaid : Prop := holdOrderUptoRow.holds Try.pinned (OpenSpec.upto holdOrderSpec)

/-- 'duetlaw07.HoldMixed', WHERE WHAT IT READS IS OF BULK AT MOST 1048576: true; the input reads as it did. -/
def holdMixedUptoRow : OpenClaim := { program := "ytgcelfplgfloaaa", sum := "2969acd35c6ac4978d791f59e1c45487fe9f343de8239a99f937a6570d2445c2", func := "duet/duetlaw07.HoldMixed", spec := "holdMixed", inPlace := ["slices.overlaps[duet/api.Msg]"], unfollowed := true, recurses := true, plainKeys := false, apart := false, narrowed := true }
def HoldMixedUptoSaid : Prop := holdMixedUptoRow.holds Try.pinned (OpenSpec.upto holdMixedSpec)

/-- 'duetlaw07.HoldSame', WHERE WHAT IT READS IS OF BULK AT MOST 1048576: true; the input reads as it did. -/
def holdSameUptoRow : OpenClaim := { program := "ytgcelfplgfloaaa", sum := "2969acd35c6ac4978d791f59e1c45487fe9f343de8239a99f937a6570d2445c2", func := "duet/duetlaw07.HoldSame", spec := "holdSame", inPlace := ["slices.overlaps[duet/api.Msg]"], unfollowed := true, recurses := true, plainKeys := false, apart := false, narrowed := true }
def HoldSameUptoSaid : Prop := holdSameUptoRow.holds Try.pinned (OpenSpec.upto holdSameSpec)

/-- 'duetlaw08.ResendRaises', WHERE WHAT IT READS IS OF BULK AT MOST 1048576: true; the input reads as it did. -/
def resendRaisesUptoRow : OpenClaim := { program := "ytgcelfplgfloaaa", sum := "2969acd35c6ac4978d791f59e1c45487fe9f343de8239a99f937a6570d2445c2", func := "duet/duetlaw08.ResendRaises", spec := "resendRaises", inPlace := ["slices.overlaps[duet/api.Msg]"], unfollowed := true, recurses := true, plainKeys := false, apart := false, narrowed := true }
def ResendRaisesUptoSaid : Prop := resendRaisesUptoRow.holds Try.pinned (OpenSpec.upto resendRaisesSpec)

end Rows
end Go.Proofs.Ytgcelfplgfloaaa
