/-
  No cell of these rows narrows 'for every input' (looked for: loops, veiled, ifaces, maps, wideKeys, modest, calm, conditions, laid).
  DERIVED. THE GIVEN ROWS OF THIS SEAT. 17 by the template 'for every input the law returns true; each argument reads behind the call as it read before'; 0 by the template 'total and deterministic' (their statements: YtnieokpcakhfpaaGreatTotals.lean).
  GIVEN WITH THE SEED: the statements are not yours to turn. If you find one false, say at which input.
  Laid BY PROGRAM, IN A SANDBOX (cutbox-rows.mjs): the forced cells as the released guide's own fill.sh prints them over the translation c4095cc61378070d… (all of the seat's roots in one cut). By AI agents, Wed Nov 11 2026. No macro, syntax, notation, axiom, sorry.
-/
import Derived.Test.YtnieokpcakhfpaaGreatChecked
import GoSem.Claim
import GoSem.ClaimJoined
import GoSem.ClaimMapViews
import Derived.JoinedTies
import Derived.KernelRfl
namespace Go.Proofs.YtnieokpcakhfpaaGreat
/- THE CELL 'sum', in the pinned program and in every row, IS THE sha256 OF THE DUMP (.gsa) THAT YtnieokpcakhfpaaGreatProg.lean LOADS. Nothing in Lean hashes anything: it is a label: what it is worth is what the hold of that sum in a sandbox is worth. -/
noncomputable def Tryz.pinned : Pinned := { name := "ytnieokpcakhfpaagreat", sum := "c4095cc61378070dc2edb88631faaa22a593ed750f2c922e8a9b86c04be1dac5", checked := Tryz.checked }
namespace Rows
def none {H : Type} : Left H := { results := [], args := [] }

/-- 'lodestartop.TopFollow': WHATEVER THE INPUT: true; the input reads as it did. -/
def topFollowSpec : ChangeSpec := { name := "topFollow", fn := fun _ => fun
  | [d1, d2, d3] => { results := [.lit (.bool true)], args := [d1, d2, d3] }
  | _ => none }
def topFollowRow : OpenClaim := { program := "ytnieokpcakhfpaagreat", sum := "c4095cc61378070dc2edb88631faaa22a593ed750f2c922e8a9b86c04be1dac5", func := "lodestar/lodestartop.TopFollow", spec := "topFollow", inPlace := ["internal/abi.NoEscape"], unfollowed := true, recurses := true, plainKeys := false, apart := false }
def TopFollowSaid : Prop := topFollowRow.holds Tryz.pinned (OpenSpec.ofChange topFollowSpec)

/-- ITS FALSE NEIGHBOUR: 'it returns false'. Refute it at one input. -/
def topFollowWrong : ChangeSpec := { name := "topFollow", fn := fun _ => fun
  | [d1, d2, d3] => { results := [.lit (.bool false)], args := [d1, d2, d3] }
  | _ => none }
def TopFollowWrongFalsely : Prop := topFollowRow.holds Tryz.pinned (OpenSpec.ofChange topFollowWrong)

/-- 'lodestartop.TopReaches': WHATEVER THE INPUT: true; the input reads as it did. -/
def topReachesSpec : ChangeSpec := { name := "topReaches", fn := fun _ => fun
  | [d1, d2, d3] => { results := [.lit (.bool true)], args := [d1, d2, d3] }
  | _ => none }
def topReachesRow : OpenClaim := { program := "ytnieokpcakhfpaagreat", sum := "c4095cc61378070dc2edb88631faaa22a593ed750f2c922e8a9b86c04be1dac5", func := "lodestar/lodestartop.TopReaches", spec := "topReaches", inPlace := ["internal/abi.NoEscape"], unfollowed := true, recurses := true, plainKeys := false, apart := false }
def TopReachesSaid : Prop := topReachesRow.holds Tryz.pinned (OpenSpec.ofChange topReachesSpec)

/-- ITS FALSE NEIGHBOUR: 'it returns false'. Refute it at one input. -/
def topReachesWrong : ChangeSpec := { name := "topReaches", fn := fun _ => fun
  | [d1, d2, d3] => { results := [.lit (.bool false)], args := [d1, d2, d3] }
  | _ => none }
def TopReachesWrongFalsely : Prop := topReachesRow.holds Tryz.pinned (OpenSpec.ofChange topReachesWrong)

/-- 'lodestarlaw15.AuthReplies': WHATEVER THE INPUT: true; the input reads as it did. -/
def authRepliesSpec : ChangeSpec := { name := "authReplies", fn := fun _ => fun
  | [d1, d2] => { results := [.lit (.bool true)], args := [d1, d2] }
  | _ => none }
def authRepliesRow : OpenClaim := { program := "ytnieokpcakhfpaagreat", sum := "c4095cc61378070dc2edb88631faaa22a593ed750f2c922e8a9b86c04be1dac5", func := "lodestar/lodestarlaw15.AuthReplies", spec := "authReplies", inPlace := ["internal/abi.NoEscape"], unfollowed := true, recurses := true, plainKeys := false, apart := false }
def AuthRepliesSaid : Prop := authRepliesRow.holds Tryz.pinned (OpenSpec.ofChange authRepliesSpec)

/-- ITS FALSE NEIGHBOUR: 'it returns false'. Refute it at one input. -/
def authRepliesWrong : ChangeSpec := { name := "authReplies", fn := fun _ => fun
  | [d1, d2] => { results := [.lit (.bool false)], args := [d1, d2] }
  | _ => none }
def AuthRepliesWrongFalsely : Prop := authRepliesRow.holds Tryz.pinned (OpenSpec.ofChange authRepliesWrong)

/-- 'lodestarlaw15.AuthServes': WHATEVER THE INPUT: true; the input reads as it did. -/
def authServesSpec : ChangeSpec := { name := "authServes", fn := fun _ => fun
  | [d1, d2, d3] => { results := [.lit (.bool true)], args := [d1, d2, d3] }
  | _ => none }
def authServesRow : OpenClaim := { program := "ytnieokpcakhfpaagreat", sum := "c4095cc61378070dc2edb88631faaa22a593ed750f2c922e8a9b86c04be1dac5", func := "lodestar/lodestarlaw15.AuthServes", spec := "authServes", inPlace := ["internal/abi.NoEscape"], unfollowed := true, recurses := true, plainKeys := false, apart := false }
def AuthServesSaid : Prop := authServesRow.holds Tryz.pinned (OpenSpec.ofChange authServesSpec)

/-- ITS FALSE NEIGHBOUR: 'it returns false'. Refute it at one input. -/
def authServesWrong : ChangeSpec := { name := "authServes", fn := fun _ => fun
  | [d1, d2, d3] => { results := [.lit (.bool false)], args := [d1, d2, d3] }
  | _ => none }
def AuthServesWrongFalsely : Prop := authServesRow.holds Tryz.pinned (OpenSpec.ofChange authServesWrong)

/-- 'lodestarlaw15.AuthSound': WHATEVER THE INPUT: true; the input reads as it did. -/
def authSoundSpec : ChangeSpec := { name := "authSound", fn := fun _ => fun
  | [d1, d2] => { results := [.lit (.bool true)], args := [d1, d2] }
  | _ => none }
def authSoundRow : OpenClaim := { program := "ytnieokpcakhfpaagreat", sum := "c4095cc61378070dc2edb88631faaa22a593ed750f2c922e8a9b86c04be1dac5", func := "lodestar/lodestarlaw15.AuthSound", spec := "authSound", inPlace := ["internal/abi.NoEscape"], unfollowed := true, recurses := true, plainKeys := false, apart := false }
def AuthSoundSaid : Prop := authSoundRow.holds Tryz.pinned (OpenSpec.ofChange authSoundSpec)

/-- ITS FALSE NEIGHBOUR: 'it returns false'. Refute it at one input. -/
def authSoundWrong : ChangeSpec := { name := "authSound", fn := fun _ => fun
  | [d1, d2] => { results := [.lit (.bool false)], args := [d1, d2] }
  | _ => none }
def AuthSoundWrongFalsely : Prop := authSoundRow.holds Tryz.pinned (OpenSpec.ofChange authSoundWrong)

/-- 'lodestarlaw15.AuthStream': WHATEVER THE INPUT: true; the input reads as it did. -/
def authStreamSpec : ChangeSpec := { name := "authStream", fn := fun _ => fun
  | [d1, d2] => { results := [.lit (.bool true)], args := [d1, d2] }
  | _ => none }
def authStreamRow : OpenClaim := { program := "ytnieokpcakhfpaagreat", sum := "c4095cc61378070dc2edb88631faaa22a593ed750f2c922e8a9b86c04be1dac5", func := "lodestar/lodestarlaw15.AuthStream", spec := "authStream", inPlace := ["internal/abi.NoEscape"], unfollowed := true, recurses := true, plainKeys := false, apart := false }
def AuthStreamSaid : Prop := authStreamRow.holds Tryz.pinned (OpenSpec.ofChange authStreamSpec)

/-- ITS FALSE NEIGHBOUR: 'it returns false'. Refute it at one input. -/
def authStreamWrong : ChangeSpec := { name := "authStream", fn := fun _ => fun
  | [d1, d2] => { results := [.lit (.bool false)], args := [d1, d2] }
  | _ => none }
def AuthStreamWrongFalsely : Prop := authStreamRow.holds Tryz.pinned (OpenSpec.ofChange authStreamWrong)

/-- 'lodestarlaw23.NodeUnasked': WHATEVER THE INPUT: true; the input reads as it did. -/
def nodeUnaskedSpec : ChangeSpec := { name := "nodeUnasked", fn := fun _ => fun
  | [d1, d2, d3] => { results := [.lit (.bool true)], args := [d1, d2, d3] }
  | _ => none }
def nodeUnaskedRow : OpenClaim := { program := "ytnieokpcakhfpaagreat", sum := "c4095cc61378070dc2edb88631faaa22a593ed750f2c922e8a9b86c04be1dac5", func := "lodestar/lodestarlaw23.NodeUnasked", spec := "nodeUnasked", inPlace := ["internal/abi.NoEscape"], unfollowed := true, recurses := true, plainKeys := false, apart := false }
def NodeUnaskedSaid : Prop := nodeUnaskedRow.holds Tryz.pinned (OpenSpec.ofChange nodeUnaskedSpec)

/-- ITS FALSE NEIGHBOUR: 'it returns false'. Refute it at one input. -/
def nodeUnaskedWrong : ChangeSpec := { name := "nodeUnasked", fn := fun _ => fun
  | [d1, d2, d3] => { results := [.lit (.bool false)], args := [d1, d2, d3] }
  | _ => none }
def NodeUnaskedWrongFalsely : Prop := nodeUnaskedRow.holds Tryz.pinned (OpenSpec.ofChange nodeUnaskedWrong)

/-- 'lodestarlaw23.NodeRefuses': WHATEVER THE INPUT: true; the input reads as it did. -/
def nodeRefusesSpec : ChangeSpec := { name := "nodeRefuses", fn := fun _ => fun
  | [d1, d2, d3] => { results := [.lit (.bool true)], args := [d1, d2, d3] }
  | _ => none }
def nodeRefusesRow : OpenClaim := { program := "ytnieokpcakhfpaagreat", sum := "c4095cc61378070dc2edb88631faaa22a593ed750f2c922e8a9b86c04be1dac5", func := "lodestar/lodestarlaw23.NodeRefuses", spec := "nodeRefuses", inPlace := ["internal/abi.NoEscape"], unfollowed := true, recurses := true, plainKeys := false, apart := false }
def NodeRefusesSaid : Prop := nodeRefusesRow.holds Tryz.pinned (OpenSpec.ofChange nodeRefusesSpec)

/-- ITS FALSE NEIGHBOUR: 'it returns false'. Refute it at one input. -/
def nodeRefusesWrong : ChangeSpec := { name := "nodeRefuses", fn := fun _ => fun
  | [d1, d2, d3] => { results := [.lit (.bool false)], args := [d1, d2, d3] }
  | _ => none }
def NodeRefusesWrongFalsely : Prop := nodeRefusesRow.holds Tryz.pinned (OpenSpec.ofChange nodeRefusesWrong)

/-- 'lodestarlaw23.NodeScripts': WHATEVER THE INPUT: true; the input reads as it did. -/
def nodeScriptsSpec : ChangeSpec := { name := "nodeScripts", fn := fun _ => fun
  | [d1, d2] => { results := [.lit (.bool true)], args := [d1, d2] }
  | _ => none }
def nodeScriptsRow : OpenClaim := { program := "ytnieokpcakhfpaagreat", sum := "c4095cc61378070dc2edb88631faaa22a593ed750f2c922e8a9b86c04be1dac5", func := "lodestar/lodestarlaw23.NodeScripts", spec := "nodeScripts", inPlace := ["internal/abi.NoEscape"], unfollowed := true, recurses := true, plainKeys := false, apart := false }
def NodeScriptsSaid : Prop := nodeScriptsRow.holds Tryz.pinned (OpenSpec.ofChange nodeScriptsSpec)

/-- ITS FALSE NEIGHBOUR: 'it returns false'. Refute it at one input. -/
def nodeScriptsWrong : ChangeSpec := { name := "nodeScripts", fn := fun _ => fun
  | [d1, d2] => { results := [.lit (.bool false)], args := [d1, d2] }
  | _ => none }
def NodeScriptsWrongFalsely : Prop := nodeScriptsRow.holds Tryz.pinned (OpenSpec.ofChange nodeScriptsWrong)

/-- 'lodestarlaw23.NodeNil': WHATEVER THE INPUT: true; the input reads as it did. -/
def nodeNilSpec : ChangeSpec := { name := "nodeNil", fn := fun _ => fun
  | [d1, d2, d3] => { results := [.lit (.bool true)], args := [d1, d2, d3] }
  | _ => none }
def nodeNilRow : OpenClaim := { program := "ytnieokpcakhfpaagreat", sum := "c4095cc61378070dc2edb88631faaa22a593ed750f2c922e8a9b86c04be1dac5", func := "lodestar/lodestarlaw23.NodeNil", spec := "nodeNil", inPlace := ["internal/abi.NoEscape"], unfollowed := true, recurses := true, plainKeys := false, apart := false }
def NodeNilSaid : Prop := nodeNilRow.holds Tryz.pinned (OpenSpec.ofChange nodeNilSpec)

/-- ITS FALSE NEIGHBOUR: 'it returns false'. Refute it at one input. -/
def nodeNilWrong : ChangeSpec := { name := "nodeNil", fn := fun _ => fun
  | [d1, d2, d3] => { results := [.lit (.bool false)], args := [d1, d2, d3] }
  | _ => none }
def NodeNilWrongFalsely : Prop := nodeNilRow.holds Tryz.pinned (OpenSpec.ofChange nodeNilWrong)

/-- 'lodestarlaw23.NodeTold': WHATEVER THE INPUT: true; the input reads as it did. -/
def nodeToldSpec : ChangeSpec := { name := "nodeTold", fn := fun _ => fun
  | [d] => { results := [.lit (.bool true)], args := [d] }
  | _ => none }
def nodeToldRow : OpenClaim := { program := "ytnieokpcakhfpaagreat", sum := "c4095cc61378070dc2edb88631faaa22a593ed750f2c922e8a9b86c04be1dac5", func := "lodestar/lodestarlaw23.NodeTold", spec := "nodeTold", inPlace := ["internal/abi.NoEscape"], unfollowed := true, recurses := true, plainKeys := false, apart := false }
def NodeToldSaid : Prop := nodeToldRow.holds Tryz.pinned (OpenSpec.ofChange nodeToldSpec)

/-- ITS FALSE NEIGHBOUR: 'it returns false'. Refute it at one input. -/
def nodeToldWrong : ChangeSpec := { name := "nodeTold", fn := fun _ => fun
  | [d] => { results := [.lit (.bool false)], args := [d] }
  | _ => none }
def NodeToldWrongFalsely : Prop := nodeToldRow.holds Tryz.pinned (OpenSpec.ofChange nodeToldWrong)

/-- 'lodestarlaw23.NodeIdle': WHATEVER THE INPUT: true; the input reads as it did. -/
def nodeIdleSpec : ChangeSpec := { name := "nodeIdle", fn := fun _ => fun
  | [d] => { results := [.lit (.bool true)], args := [d] }
  | _ => none }
def nodeIdleRow : OpenClaim := { program := "ytnieokpcakhfpaagreat", sum := "c4095cc61378070dc2edb88631faaa22a593ed750f2c922e8a9b86c04be1dac5", func := "lodestar/lodestarlaw23.NodeIdle", spec := "nodeIdle", inPlace := ["internal/abi.NoEscape"], unfollowed := true, recurses := true, plainKeys := false, apart := false }
def NodeIdleSaid : Prop := nodeIdleRow.holds Tryz.pinned (OpenSpec.ofChange nodeIdleSpec)

/-- ITS FALSE NEIGHBOUR: 'it returns false'. Refute it at one input. -/
def nodeIdleWrong : ChangeSpec := { name := "nodeIdle", fn := fun _ => fun
  | [d] => { results := [.lit (.bool false)], args := [d] }
  | _ => none }
def NodeIdleWrongFalsely : Prop := nodeIdleRow.holds Tryz.pinned (OpenSpec.ofChange nodeIdleWrong)

/-- 'lodestarlaw24.TierLetters': WHATEVER THE INPUT: true; the input reads as it did. -/
def tierLettersSpec : ChangeSpec := { name := "tierLetters", fn := fun _ => fun
  | [d1, d2] => { results := [.lit (.bool true)], args := [d1, d2] }
  | _ => none }
def tierLettersRow : OpenClaim := { program := "ytnieokpcakhfpaagreat", sum := "c4095cc61378070dc2edb88631faaa22a593ed750f2c922e8a9b86c04be1dac5", func := "lodestar/lodestarlaw24.TierLetters", spec := "tierLetters", inPlace := ["internal/abi.NoEscape"], unfollowed := true, recurses := true, plainKeys := false, apart := false }
def TierLettersSaid : Prop := tierLettersRow.holds Tryz.pinned (OpenSpec.ofChange tierLettersSpec)

/-- ITS FALSE NEIGHBOUR: 'it returns false'. Refute it at one input. -/
def tierLettersWrong : ChangeSpec := { name := "tierLetters", fn := fun _ => fun
  | [d1, d2] => { results := [.lit (.bool false)], args := [d1, d2] }
  | _ => none }
def TierLettersWrongFalsely : Prop := tierLettersRow.holds Tryz.pinned (OpenSpec.ofChange tierLettersWrong)

/-- 'lodestarlaw24.TierStraight': WHATEVER THE INPUT: true; the input reads as it did. -/
def tierStraightSpec : ChangeSpec := { name := "tierStraight", fn := fun _ => fun
  | [d1, d2] => { results := [.lit (.bool true)], args := [d1, d2] }
  | _ => none }
def tierStraightRow : OpenClaim := { program := "ytnieokpcakhfpaagreat", sum := "c4095cc61378070dc2edb88631faaa22a593ed750f2c922e8a9b86c04be1dac5", func := "lodestar/lodestarlaw24.TierStraight", spec := "tierStraight", inPlace := ["internal/abi.NoEscape"], unfollowed := true, recurses := true, plainKeys := false, apart := false }
def TierStraightSaid : Prop := tierStraightRow.holds Tryz.pinned (OpenSpec.ofChange tierStraightSpec)

/-- ITS FALSE NEIGHBOUR: 'it returns false'. Refute it at one input. -/
def tierStraightWrong : ChangeSpec := { name := "tierStraight", fn := fun _ => fun
  | [d1, d2] => { results := [.lit (.bool false)], args := [d1, d2] }
  | _ => none }
def TierStraightWrongFalsely : Prop := tierStraightRow.holds Tryz.pinned (OpenSpec.ofChange tierStraightWrong)

/-- 'lodestarlaw24.TierScripts': WHATEVER THE INPUT: true; the input reads as it did. -/
def tierScriptsSpec : ChangeSpec := { name := "tierScripts", fn := fun _ => fun
  | [d] => { results := [.lit (.bool true)], args := [d] }
  | _ => none }
def tierScriptsRow : OpenClaim := { program := "ytnieokpcakhfpaagreat", sum := "c4095cc61378070dc2edb88631faaa22a593ed750f2c922e8a9b86c04be1dac5", func := "lodestar/lodestarlaw24.TierScripts", spec := "tierScripts", inPlace := ["internal/abi.NoEscape"], unfollowed := true, recurses := true, plainKeys := false, apart := false }
def TierScriptsSaid : Prop := tierScriptsRow.holds Tryz.pinned (OpenSpec.ofChange tierScriptsSpec)

/-- ITS FALSE NEIGHBOUR: 'it returns false'. Refute it at one input. -/
def tierScriptsWrong : ChangeSpec := { name := "tierScripts", fn := fun _ => fun
  | [d] => { results := [.lit (.bool false)], args := [d] }
  | _ => none }
def TierScriptsWrongFalsely : Prop := tierScriptsRow.holds Tryz.pinned (OpenSpec.ofChange tierScriptsWrong)

/-- 'lodestarlaw24.TierNil': WHATEVER THE INPUT: true; the input reads as it did. -/
def tierNilSpec : ChangeSpec := { name := "tierNil", fn := fun _ => fun
  | [d] => { results := [.lit (.bool true)], args := [d] }
  | _ => none }
def tierNilRow : OpenClaim := { program := "ytnieokpcakhfpaagreat", sum := "c4095cc61378070dc2edb88631faaa22a593ed750f2c922e8a9b86c04be1dac5", func := "lodestar/lodestarlaw24.TierNil", spec := "tierNil", inPlace := ["internal/abi.NoEscape"], unfollowed := true, recurses := true, plainKeys := false, apart := false }
def TierNilSaid : Prop := tierNilRow.holds Tryz.pinned (OpenSpec.ofChange tierNilSpec)

/-- ITS FALSE NEIGHBOUR: 'it returns false'. Refute it at one input. -/
def tierNilWrong : ChangeSpec := { name := "tierNil", fn := fun _ => fun
  | [d] => { results := [.lit (.bool false)], args := [d] }
  | _ => none }
def TierNilWrongFalsely : Prop := tierNilRow.holds Tryz.pinned (OpenSpec.ofChange tierNilWrong)

/-- 'lodestarlaw24.TierIdle': WHATEVER THE INPUT: true; the input reads as it did. -/
def tierIdleSpec : ChangeSpec := { name := "tierIdle", fn := fun _ => fun
  | [d] => { results := [.lit (.bool true)], args := [d] }
  | _ => none }
def tierIdleRow : OpenClaim := { program := "ytnieokpcakhfpaagreat", sum := "c4095cc61378070dc2edb88631faaa22a593ed750f2c922e8a9b86c04be1dac5", func := "lodestar/lodestarlaw24.TierIdle", spec := "tierIdle", inPlace := ["internal/abi.NoEscape"], unfollowed := true, recurses := true, plainKeys := false, apart := false }
def TierIdleSaid : Prop := tierIdleRow.holds Tryz.pinned (OpenSpec.ofChange tierIdleSpec)

/-- ITS FALSE NEIGHBOUR: 'it returns false'. Refute it at one input. -/
def tierIdleWrong : ChangeSpec := { name := "tierIdle", fn := fun _ => fun
  | [d] => { results := [.lit (.bool false)], args := [d] }
  | _ => none }
def TierIdleWrongFalsely : Prop := tierIdleRow.holds Tryz.pinned (OpenSpec.ofChange tierIdleWrong)

/- THE SECOND FORM. 'bulk': how many values and letters a reading holds, each counted each time it is reached (what is shared counts as often as it is met; a slice's spare places count too). A statement '..UptoSaid' is the law's where the arguments, and the package variables that the reading takes, are together of bulk at most 1048576: NARROWER than '..Said'. Prove '..Said' where nothing that the law and all that it calls make is longer than what came in: it says more and counts as full. Else prove '..UptoSaid'. A law counts once. -/
mutual
def uptoBulk {H : Type} : DataW H → Nat
  | .lit (.string bytes) => bytes.length + 1
  | .lit _ => 1
  | .nil => 1
  | .ptr d => uptoBulk d + 1
  | .slice elems spare => uptoBulkAll elems + uptoBulkAll spare + 1
  | .agg parts => uptoBulkAll parts + 1
  | .iface _ d => uptoBulk d + 1
  | .map entries => uptoBulkEntries entries + 1
  | .held _ => 1
def uptoBulkAll {H : Type} : List (DataW H) → Nat
  | [] => 0
  | d :: r => uptoBulk d + uptoBulkAll r
def uptoBulkEntries {H : Type} : List (Lit × DataW H) → Nat
  | [] => 0
  | x :: r => uptoBulkEntry x + uptoBulkEntries r
def uptoBulkEntry {H : Type} : Lit × DataW H → Nat
  | (.string bytes, d) => bytes.length + uptoBulk d + 1
  | (_, d) => uptoBulk d + 1
 end
def uptoSmall : (H : Type) → List (DataW H) → Bool := fun _ ds => decide (uptoBulkAll ds ≤ 1048576)
def OpenSpec.upto (s : _root_.Go.ChangeSpec) : _root_.Go.OpenSpec := { _root_.Go.OpenSpec.ofChange s with cond := some uptoSmall }

/-- 'lodestartop.TopFollow', WHERE WHAT IT READS IS OF BULK AT MOST 1048576: true; the input reads as it did. -/
def topFollowUptoRow : OpenClaim := { program := "ytnieokpcakhfpaagreat", sum := "c4095cc61378070dc2edb88631faaa22a593ed750f2c922e8a9b86c04be1dac5", func := "lodestar/lodestartop.TopFollow", spec := "topFollow", inPlace := ["internal/abi.NoEscape"], unfollowed := true, recurses := true, plainKeys := false, apart := false, narrowed := true }
def TopFollowUptoSaid : Prop := topFollowUptoRow.holds Tryz.pinned (OpenSpec.upto topFollowSpec)

/-- 'lodestartop.TopReaches', WHERE WHAT IT READS IS OF BULK AT MOST 1048576: true; the input reads as it did. -/
def topReachesUptoRow : OpenClaim := { program := "ytnieokpcakhfpaagreat", sum := "c4095cc61378070dc2edb88631faaa22a593ed750f2c922e8a9b86c04be1dac5", func := "lodestar/lodestartop.TopReaches", spec := "topReaches", inPlace := ["internal/abi.NoEscape"], unfollowed := true, recurses := true, plainKeys := false, apart := false, narrowed := true }
def TopReachesUptoSaid : Prop := topReachesUptoRow.holds Tryz.pinned (OpenSpec.upto topReachesSpec)

/-- 'lodestarlaw15.AuthReplies', WHERE WHAT IT READS IS OF BULK AT MOST 1048576: true; the input reads as it did. -/
def authRepliesUptoRow : OpenClaim := { program := "ytnieokpcakhfpaagreat", sum := "c4095cc61378070dc2edb88631faaa22a593ed750f2c922e8a9b86c04be1dac5", func := "lodestar/lodestarlaw15.AuthReplies", spec := "authReplies", inPlace := ["internal/abi.NoEscape"], unfollowed := true, recurses := true, plainKeys := false, apart := false, narrowed := true }
def AuthRepliesUptoSaid : Prop := authRepliesUptoRow.holds Tryz.pinned (OpenSpec.upto authRepliesSpec)

/-- 'lodestarlaw15.AuthServes', WHERE WHAT IT READS IS OF BULK AT MOST 1048576: true; the input reads as it did. -/
def authServesUptoRow : OpenClaim := { program := "ytnieokpcakhfpaagreat", sum := "c4095cc61378070dc2edb88631faaa22a593ed750f2c922e8a9b86c04be1dac5", func := "lodestar/lodestarlaw15.AuthServes", spec := "authServes", inPlace := ["internal/abi.NoEscape"], unfollowed := true, recurses := true, plainKeys := false, apart := false, narrowed := true }
def AuthServesUptoSaid : Prop := authServesUptoRow.holds Tryz.pinned (OpenSpec.upto authServesSpec)

/-- 'lodestarlaw15.AuthSound', WHERE WHAT IT READS IS OF BULK AT MOST 1048576: true; the input reads as it did. -/
def authSoundUptoRow : OpenClaim := { program := "ytnieokpcakhfpaagreat", sum := "c4095cc61378070dc2edb88631faaa22a593ed750f2c922e8a9b86c04be1dac5", func := "lodestar/lodestarlaw15.AuthSound", spec := "authSound", inPlace := ["internal/abi.NoEscape"], unfollowed := true, recurses := true, plainKeys := false, apart := false, narrowed := true }
def AuthSoundUptoSaid : Prop := authSoundUptoRow.holds Tryz.pinned (OpenSpec.upto authSoundSpec)

/-- 'lodestarlaw15.AuthStream', WHERE WHAT IT READS IS OF BULK AT MOST 1048576: true; the input reads as it did. -/
def authStreamUptoRow : OpenClaim := { program := "ytnieokpcakhfpaagreat", sum := "c4095cc61378070dc2edb88631faaa22a593ed750f2c922e8a9b86c04be1dac5", func := "lodestar/lodestarlaw15.AuthStream", spec := "authStream", inPlace := ["internal/abi.NoEscape"], unfollowed := true, recurses := true, plainKeys := false, apart := false, narrowed := true }
def AuthStreamUptoSaid : Prop := authStreamUptoRow.holds Tryz.pinned (OpenSpec.upto authStreamSpec)

/-- 'lodestarlaw23.NodeUnasked', WHERE WHAT IT READS IS OF BULK AT MOST 1048576: true; the input reads as it did. -/
def nodeUnaskedUptoRow : OpenClaim := { program := "ytnieokpcakhfpaagreat", sum := "c4095cc61378070dc2edb88631faaa22a593ed750f2c922e8a9b86c04be1dac5", func := "lodestar/lodestarlaw23.NodeUnasked", spec := "nodeUnasked", inPlace := ["internal/abi.NoEscape"], unfollowed := true, recurses := true, plainKeys := false, apart := false, narrowed := true }
def NodeUnaskedUptoSaid : Prop := nodeUnaskedUptoRow.holds Tryz.pinned (OpenSpec.upto nodeUnaskedSpec)

/-- 'lodestarlaw23.NodeRefuses', WHERE WHAT IT READS IS OF BULK AT MOST 1048576: true; the input reads as it did. -/
def nodeRefusesUptoRow : OpenClaim := { program := "ytnieokpcakhfpaagreat", sum := "c4095cc61378070dc2edb88631faaa22a593ed750f2c922e8a9b86c04be1dac5", func := "lodestar/lodestarlaw23.NodeRefuses", spec := "nodeRefuses", inPlace := ["internal/abi.NoEscape"], unfollowed := true, recurses := true, plainKeys := false, apart := false, narrowed := true }
def NodeRefusesUptoSaid : Prop := nodeRefusesUptoRow.holds Tryz.pinned (OpenSpec.upto nodeRefusesSpec)

/-- 'lodestarlaw23.NodeScripts', WHERE WHAT IT READS IS OF BULK AT MOST 1048576: true; the input reads as it did. -/
def nodeScriptsUptoRow : OpenClaim := { program := "ytnieokpcakhfpaagreat", sum := "c4095cc61378070dc2edb88631faaa22a593ed750f2c922e8a9b86c04be1dac5", func := "lodestar/lodestarlaw23.NodeScripts", spec := "nodeScripts", inPlace := ["internal/abi.NoEscape"], unfollowed := true, recurses := true, plainKeys := false, apart := false, narrowed := true }
def NodeScriptsUptoSaid : Prop := nodeScriptsUptoRow.holds Tryz.pinned (OpenSpec.upto nodeScriptsSpec)

/-- 'lodestarlaw23.NodeNil', WHERE WHAT IT READS IS OF BULK AT MOST 1048576: true; the input reads as it did. -/
def nodeNilUptoRow : OpenClaim := { program := "ytnieokpcakhfpaagreat", sum := "c4095cc61378070dc2edb88631faaa22a593ed750f2c922e8a9b86c04be1dac5", func := "lodestar/lodestarlaw23.NodeNil", spec := "nodeNil", inPlace := ["internal/abi.NoEscape"], unfollowed := true, recurses := true, plainKeys := false, apart := false, narrowed := true }
def NodeNilUptoSaid : Prop := nodeNilUptoRow.holds Tryz.pinned (OpenSpec.upto nodeNilSpec)

/-- 'lodestarlaw23.NodeTold', WHERE WHAT IT READS IS OF BULK AT MOST 1048576: true; the input reads as it did. -/
def nodeToldUptoRow : OpenClaim := { program := "ytnieokpcakhfpaagreat", sum := "c4095cc61378070dc2edb88631faaa22a593ed750f2c922e8a9b86c04be1dac5", func := "lodestar/lodestarlaw23.NodeTold", spec := "nodeTold", inPlace := ["internal/abi.NoEscape"], unfollowed := true, recurses := true, plainKeys := false, apart := false, narrowed := true }
def NodeToldUptoSaid : Prop := nodeToldUptoRow.holds Tryz.pinned (OpenSpec.upto nodeToldSpec)

/-- 'lodestarlaw23.NodeIdle', WHERE WHAT IT READS IS OF BULK AT MOST 1048576: true; the input reads as it did. -/
def nodeIdleUptoRow : OpenClaim := { program := "ytnieokpcakhfpaagreat", sum := "c4095cc61378070dc2edb88631faaa22a593ed750f2c922e8a9b86c04be1dac5", func := "lodestar/lodestarlaw23.NodeIdle", spec := "nodeIdle", inPlace := ["internal/abi.NoEscape"], unfollowed := true, recurses := true, plainKeys := false, apart := false, narrowed := true }
def NodeIdleUptoSaid : Prop := nodeIdleUptoRow.holds Tryz.pinned (OpenSpec.upto nodeIdleSpec)

/-- 'lodestarlaw24.TierLetters', WHERE WHAT IT READS IS OF BULK AT MOST 1048576: true; the input reads as it did. -/
def tierLettersUptoRow : OpenClaim := { program := "ytnieokpcakhfpaagreat", sum := "c4095cc61378070dc2edb88631faaa22a593ed750f2c922e8a9b86c04be1dac5", func := "lodestar/lodestarlaw24.TierLetters", spec := "tierLetters", inPlace := ["internal/abi.NoEscape"], unfollowed := true, recurses := true, plainKeys := false, apart := false, narrowed := true }
def TierLettersUptoSaid : Prop := tierLettersUptoRow.holds Tryz.pinned (OpenSpec.upto tierLettersSpec)

/-- 'lodestarlaw24.TierStraight', WHERE WHAT IT READS IS OF BULK AT MOST 1048576: true; the input reads as it did. -/
def tierStraightUptoRow : OpenClaim := { program := "ytnieokpcakhfpaagreat", sum := "c4095cc61378070dc2edb88631faaa22a593ed750f2c922e8a9b86c04be1dac5", func := "lodestar/lodestarlaw24.TierStraight", spec := "tierStraight", inPlace := ["internal/abi.NoEscape"], unfollowed := true, recurses := true, plainKeys := false, apart := false, narrowed := true }
def TierStraightUptoSaid : Prop := tierStraightUptoRow.holds Tryz.pinned (OpenSpec.upto tierStraightSpec)

/-- 'lodestarlaw24.TierScripts', WHERE WHAT IT READS IS OF BULK AT MOST 1048576: true; the input reads as it did. -/
def tierScriptsUptoRow : OpenClaim := { program := "ytnieokpcakhfpaagreat", sum := "c4095cc61378070dc2edb88631faaa22a593ed750f2c922e8a9b86c04be1dac5", func := "lodestar/lodestarlaw24.TierScripts", spec := "tierScripts", inPlace := ["internal/abi.NoEscape"], unfollowed := true, recurses := true, plainKeys := false, apart := false, narrowed := true }
def TierScriptsUptoSaid : Prop := tierScriptsUptoRow.holds Tryz.pinned (OpenSpec.upto tierScriptsSpec)

/-- 'lodestarlaw24.TierNil', WHERE WHAT IT READS IS OF BULK AT MOST 1048576: true; the input reads as it did. -/
def tierNilUptoRow : OpenClaim := { program := "ytnieokpcakhfpaagreat", sum := "c4095cc61378070dc2edb88631faaa22a593ed750f2c922e8a9b86c04be1dac5", func := "lodestar/lodestarlaw24.TierNil", spec := "tierNil", inPlace := ["internal/abi.NoEscape"], unfollowed := true, recurses := true, plainKeys := false, apart := false, narrowed := true }
def TierNilUptoSaid : Prop := tierNilUptoRow.holds Tryz.pinned (OpenSpec.upto tierNilSpec)

/-- 'lodestarlaw24.TierIdle', WHERE WHAT IT READS IS OF BULK AT MOST 1048576: true; the input reads as it did. -/
def tierIdleUptoRow : OpenClaim := { program := "ytnieokpcakhfpaagreat", sum := "c4095cc61378070dc2edb88631faaa22a593ed750f2c922e8a9b86c04be1dac5", func := "lodestar/lodestarlaw24.TierIdle", spec := "tierIdle", inPlace := ["internal/abi.NoEscape"], unfollowed := true, recurses := true, plainKeys := false, apart := false, narrowed := true }
def TierIdleUptoSaid : Prop := tierIdleUptoRow.holds Tryz.pinned (OpenSpec.upto tierIdleSpec)

end Rows
end Go.Proofs.YtnieokpcakhfpaaGreat
