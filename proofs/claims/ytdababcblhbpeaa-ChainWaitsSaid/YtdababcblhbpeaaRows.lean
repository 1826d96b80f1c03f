/-
  No cell of these rows narrows 'for every input' (looked for: loops, veiled, ifaces, maps, wideKeys, modest, calm, conditions, laid).
  DERIVED. THE GIVEN ROWS OF THIS SEAT. 19 by the template 'for every input the law returns true; each argument reads behind the call as it read before'; 0 by the template 'total and deterministic' (their statements: YtdababcblhbpeaaTotals.lean).
  GIVEN WITH THE SEED: the statements are not yours to turn. If you find one false, say at which input.
  Laid BY PROGRAM, IN A SANDBOX (cutbox-rows.mjs): the forced cells as the released guide's own fill.sh prints them over the translation 1ecdea62e5dfb0fb… (all of the seat's roots in one cut). By AI agents, Wed Nov 11 2026. No macro, syntax, notation, axiom, sorry.
-/
import Derived.Test.YtdababcblhbpeaaChecked
import GoSem.Claim
import GoSem.ClaimJoined
import GoSem.ClaimMapViews
import Derived.JoinedTies
import Derived.KernelRfl
namespace Go.Proofs.Ytdababcblhbpeaa
/- THE CELL 'sum', in the pinned program and in every row, IS THE sha256 OF THE DUMP (.gsa) THAT YtdababcblhbpeaaProg.lean LOADS. Nothing in Lean hashes anything: it is a label: what it is worth is what the hold of that sum in a sandbox is worth. -/
noncomputable def Try.pinned : Pinned := { name := "ytdababcblhbpeaa", sum := "1ecdea62e5dfb0fb3aace378d2d0561add0bed9ee97c79b9b88d8697d8097548", checked := Try.checked }
namespace Rows
def none {H : Type} : Left H := { results := [], args := [] }

/-- 'coraclelaw1.NumSizes': WHATEVER THE INPUT: true; the input reads as it did. -/
def numSizesSpec : ChangeSpec := { name := "numSizes", fn := fun _ => fun
  | [d] => { results := [.lit (.bool true)], args := [d] }
  | _ => none }
def numSizesRow : OpenClaim := { program := "ytdababcblhbpeaa", sum := "1ecdea62e5dfb0fb3aace378d2d0561add0bed9ee97c79b9b88d8697d8097548", func := "coracle/coraclelaw1.NumSizes", spec := "numSizes", plainKeys := false, apart := false }
def NumSizesSaid : Prop := numSizesRow.holds Try.pinned (OpenSpec.ofChange numSizesSpec)

/-- ITS FALSE NEIGHBOUR: 'it returns false'. Refute it at one input. -/
def numSizesWrong : ChangeSpec := { name := "numSizes", fn := fun _ => fun
  | [d] => { results := [.lit (.bool false)], args := [d] }
  | _ => none }
def NumSizesWrongFalsely : Prop := numSizesRow.holds Try.pinned (OpenSpec.ofChange numSizesWrong)

/-- 'coraclelaw1.NumReads': WHATEVER THE INPUT: true; the input reads as it did. -/
def numReadsSpec : ChangeSpec := { name := "numReads", fn := fun _ => fun
  | [d] => { results := [.lit (.bool true)], args := [d] }
  | _ => none }
def numReadsRow : OpenClaim := { program := "ytdababcblhbpeaa", sum := "1ecdea62e5dfb0fb3aace378d2d0561add0bed9ee97c79b9b88d8697d8097548", func := "coracle/coraclelaw1.NumReads", spec := "numReads", plainKeys := false, apart := false }
def NumReadsSaid : Prop := numReadsRow.holds Try.pinned (OpenSpec.ofChange numReadsSpec)

/-- ITS FALSE NEIGHBOUR: 'it returns false'. Refute it at one input. -/
def numReadsWrong : ChangeSpec := { name := "numReads", fn := fun _ => fun
  | [d] => { results := [.lit (.bool false)], args := [d] }
  | _ => none }
def NumReadsWrongFalsely : Prop := numReadsRow.holds Try.pinned (OpenSpec.ofChange numReadsWrong)

/-- 'coraclelaw1.NumRow': WHATEVER THE INPUT: true; the input reads as it did. -/
def numRowSpec : ChangeSpec := { name := "numRow", fn := fun _ => fun
  | [d1, d2] => { results := [.lit (.bool true)], args := [d1, d2] }
  | _ => none }
def numRowRow : OpenClaim := { program := "ytdababcblhbpeaa", sum := "1ecdea62e5dfb0fb3aace378d2d0561add0bed9ee97c79b9b88d8697d8097548", func := "coracle/coraclelaw1.NumRow", spec := "numRow", plainKeys := false, apart := false }
def NumRowSaid : Prop := numRowRow.holds Try.pinned (OpenSpec.ofChange numRowSpec)

/-- ITS FALSE NEIGHBOUR: 'it returns false'. Refute it at one input. -/
def numRowWrong : ChangeSpec := { name := "numRow", fn := fun _ => fun
  | [d1, d2] => { results := [.lit (.bool false)], args := [d1, d2] }
  | _ => none }
def NumRowWrongFalsely : Prop := numRowRow.holds Try.pinned (OpenSpec.ofChange numRowWrong)

/-- 'coraclelaw1.NumOrder': WHATEVER THE INPUT: true; the input reads as it did. -/
def numOrderSpec : ChangeSpec := { name := "numOrder", fn := fun _ => fun
  | [d1, d2] => { results := [.lit (.bool true)], args := [d1, d2] }
  | _ => none }
def numOrderRow : OpenClaim := { program := "ytdababcblhbpeaa", sum := "1ecdea62e5dfb0fb3aace378d2d0561add0bed9ee97c79b9b88d8697d8097548", func := "coracle/coraclelaw1.NumOrder", spec := "numOrder", plainKeys := false, apart := false }
def NumOrderSaid : Prop := numOrderRow.holds Try.pinned (OpenSpec.ofChange numOrderSpec)

/-- ITS FALSE NEIGHBOUR: 'it returns false'. Refute it at one input. -/
def numOrderWrong : ChangeSpec := { name := "numOrder", fn := fun _ => fun
  | [d1, d2] => { results := [.lit (.bool false)], args := [d1, d2] }
  | _ => none }
def NumOrderWrongFalsely : Prop := numOrderRow.holds Try.pinned (OpenSpec.ofChange numOrderWrong)

/-- 'coraclelaw2.ShaAll': WHATEVER THE INPUT: true; the input reads as it did. -/
def shaAllSpec : ChangeSpec := { name := "shaAll", fn := fun _ => fun
  | [d1, d2] => { results := [.lit (.bool true)], args := [d1, d2] }
  | _ => none }
def shaAllRow : OpenClaim := { program := "ytdababcblhbpeaa", sum := "1ecdea62e5dfb0fb3aace378d2d0561add0bed9ee97c79b9b88d8697d8097548", func := "coracle/coraclelaw2.ShaAll", spec := "shaAll", inPlace := ["internal/bytealg.IndexByteString"], plainKeys := false, apart := false }
def ShaAllSaid : Prop := shaAllRow.holds Try.pinned (OpenSpec.ofChange shaAllSpec)

/-- ITS FALSE NEIGHBOUR: 'it returns false'. Refute it at one input. -/
def shaAllWrong : ChangeSpec := { name := "shaAll", fn := fun _ => fun
  | [d1, d2] => { results := [.lit (.bool false)], args := [d1, d2] }
  | _ => none }
def ShaAllWrongFalsely : Prop := shaAllRow.holds Try.pinned (OpenSpec.ofChange shaAllWrong)

/-- 'coraclelaw2.ShaSums': WHATEVER THE INPUT: true; the input reads as it did. -/
def shaSumsSpec : ChangeSpec := { name := "shaSums", fn := fun _ => fun
  | [d1, d2] => { results := [.lit (.bool true)], args := [d1, d2] }
  | _ => none }
def shaSumsRow : OpenClaim := { program := "ytdababcblhbpeaa", sum := "1ecdea62e5dfb0fb3aace378d2d0561add0bed9ee97c79b9b88d8697d8097548", func := "coracle/coraclelaw2.ShaSums", spec := "shaSums", inPlace := ["internal/bytealg.IndexByteString"], plainKeys := false, apart := false }
def ShaSumsSaid : Prop := shaSumsRow.holds Try.pinned (OpenSpec.ofChange shaSumsSpec)

/-- ITS FALSE NEIGHBOUR: 'it returns false'. Refute it at one input. -/
def shaSumsWrong : ChangeSpec := { name := "shaSums", fn := fun _ => fun
  | [d1, d2] => { results := [.lit (.bool false)], args := [d1, d2] }
  | _ => none }
def ShaSumsWrongFalsely : Prop := shaSumsRow.holds Try.pinned (OpenSpec.ofChange shaSumsWrong)

/-- 'coraclelaw13.ScriptGrows': WHATEVER THE INPUT: true; the input reads as it did. -/
def scriptGrowsSpec : ChangeSpec := { name := "scriptGrows", fn := fun _ => fun
  | [d1, d2, d3, d4] => { results := [.lit (.bool true)], args := [d1, d2, d3, d4] }
  | _ => none }
def scriptGrowsRow : OpenClaim := { program := "ytdababcblhbpeaa", sum := "1ecdea62e5dfb0fb3aace378d2d0561add0bed9ee97c79b9b88d8697d8097548", func := "coracle/coraclelaw13.ScriptGrows", spec := "scriptGrows", unfollowed := true, recurses := true, plainKeys := false, apart := false }
def ScriptGrowsSaid : Prop := scriptGrowsRow.holds Try.pinned (OpenSpec.ofChange scriptGrowsSpec)

/-- ITS FALSE NEIGHBOUR: 'it returns false'. Refute it at one input. -/
def scriptGrowsWrong : ChangeSpec := { name := "scriptGrows", fn := fun _ => fun
  | [d1, d2, d3, d4] => { results := [.lit (.bool false)], args := [d1, d2, d3, d4] }
  | _ => none }
def ScriptGrowsWrongFalsely : Prop := scriptGrowsRow.holds Try.pinned (OpenSpec.ofChange scriptGrowsWrong)

/-- 'coraclelaw13.ScriptAges': WHATEVER THE INPUT: true; the input reads as it did. -/
def scriptAgesSpec : ChangeSpec := { name := "scriptAges", fn := fun _ => fun
  | [d1, d2, d3, d4] => { results := [.lit (.bool true)], args := [d1, d2, d3, d4] }
  | _ => none }
def scriptAgesRow : OpenClaim := { program := "ytdababcblhbpeaa", sum := "1ecdea62e5dfb0fb3aace378d2d0561add0bed9ee97c79b9b88d8697d8097548", func := "coracle/coraclelaw13.ScriptAges", spec := "scriptAges", unfollowed := true, recurses := true, plainKeys := false, apart := false }
def ScriptAgesSaid : Prop := scriptAgesRow.holds Try.pinned (OpenSpec.ofChange scriptAgesSpec)

/-- ITS FALSE NEIGHBOUR: 'it returns false'. Refute it at one input. -/
def scriptAgesWrong : ChangeSpec := { name := "scriptAges", fn := fun _ => fun
  | [d1, d2, d3, d4] => { results := [.lit (.bool false)], args := [d1, d2, d3, d4] }
  | _ => none }
def ScriptAgesWrongFalsely : Prop := scriptAgesRow.holds Try.pinned (OpenSpec.ofChange scriptAgesWrong)

/-- 'coraclelaw13.ScriptAsks': WHATEVER THE INPUT: true; the input reads as it did. -/
def scriptAsksSpec : ChangeSpec := { name := "scriptAsks", fn := fun _ => fun
  | [d1, d2, d3, d4, d5, d6] => { results := [.lit (.bool true)], args := [d1, d2, d3, d4, d5, d6] }
  | _ => none }
def scriptAsksRow : OpenClaim := { program := "ytdababcblhbpeaa", sum := "1ecdea62e5dfb0fb3aace378d2d0561add0bed9ee97c79b9b88d8697d8097548", func := "coracle/coraclelaw13.ScriptAsks", spec := "scriptAsks", unfollowed := true, recurses := true, plainKeys := false, apart := false }
def ScriptAsksSaid : Prop := scriptAsksRow.holds Try.pinned (OpenSpec.ofChange scriptAsksSpec)

/-- ITS FALSE NEIGHBOUR: 'it returns false'. Refute it at one input. -/
def scriptAsksWrong : ChangeSpec := { name := "scriptAsks", fn := fun _ => fun
  | [d1, d2, d3, d4, d5, d6] => { results := [.lit (.bool false)], args := [d1, d2, d3, d4, d5, d6] }
  | _ => none }
def ScriptAsksWrongFalsely : Prop := scriptAsksRow.holds Try.pinned (OpenSpec.ofChange scriptAsksWrong)

/-- 'coraclelaw14.WitnessRipens': WHATEVER THE INPUT: true; the input reads as it did. -/
def witnessRipensSpec : ChangeSpec := { name := "witnessRipens", fn := fun _ => fun
  | [d1, d2, d3, d4] => { results := [.lit (.bool true)], args := [d1, d2, d3, d4] }
  | _ => none }
def witnessRipensRow : OpenClaim := { program := "ytdababcblhbpeaa", sum := "1ecdea62e5dfb0fb3aace378d2d0561add0bed9ee97c79b9b88d8697d8097548", func := "coracle/coraclelaw14.WitnessRipens", spec := "witnessRipens", plainKeys := false, apart := false }
def WitnessRipensSaid : Prop := witnessRipensRow.holds Try.pinned (OpenSpec.ofChange witnessRipensSpec)

/-- ITS FALSE NEIGHBOUR: 'it returns false'. Refute it at one input. -/
def witnessRipensWrong : ChangeSpec := { name := "witnessRipens", fn := fun _ => fun
  | [d1, d2, d3, d4] => { results := [.lit (.bool false)], args := [d1, d2, d3, d4] }
  | _ => none }
def WitnessRipensWrongFalsely : Prop := witnessRipensRow.holds Try.pinned (OpenSpec.ofChange witnessRipensWrong)

/-- 'coraclelaw14.WitnessAsks': WHATEVER THE INPUT: true; the input reads as it did. -/
def witnessAsksSpec : ChangeSpec := { name := "witnessAsks", fn := fun _ => fun
  | [d1, d2, d3, d4, d5, d6, d7, d8] => { results := [.lit (.bool true)], args := [d1, d2, d3, d4, d5, d6, d7, d8] }
  | _ => none }
def witnessAsksRow : OpenClaim := { program := "ytdababcblhbpeaa", sum := "1ecdea62e5dfb0fb3aace378d2d0561add0bed9ee97c79b9b88d8697d8097548", func := "coracle/coraclelaw14.WitnessAsks", spec := "witnessAsks", plainKeys := false, apart := false }
def WitnessAsksSaid : Prop := witnessAsksRow.holds Try.pinned (OpenSpec.ofChange witnessAsksSpec)

/-- ITS FALSE NEIGHBOUR: 'it returns false'. Refute it at one input. -/
def witnessAsksWrong : ChangeSpec := { name := "witnessAsks", fn := fun _ => fun
  | [d1, d2, d3, d4, d5, d6, d7, d8] => { results := [.lit (.bool false)], args := [d1, d2, d3, d4, d5, d6, d7, d8] }
  | _ => none }
def WitnessAsksWrongFalsely : Prop := witnessAsksRow.holds Try.pinned (OpenSpec.ofChange witnessAsksWrong)

/-- 'coraclelaw14.WitnessHolds': WHATEVER THE INPUT: true; the input reads as it did. -/
def witnessHoldsSpec : ChangeSpec := { name := "witnessHolds", fn := fun _ => fun
  | [d1, d2, d3, d4, d5, d6] => { results := [.lit (.bool true)], args := [d1, d2, d3, d4, d5, d6] }
  | _ => none }
def witnessHoldsRow : OpenClaim := { program := "ytdababcblhbpeaa", sum := "1ecdea62e5dfb0fb3aace378d2d0561add0bed9ee97c79b9b88d8697d8097548", func := "coracle/coraclelaw14.WitnessHolds", spec := "witnessHolds", unfollowed := true, recurses := true, plainKeys := false, apart := false }
def WitnessHoldsSaid : Prop := witnessHoldsRow.holds Try.pinned (OpenSpec.ofChange witnessHoldsSpec)

/-- ITS FALSE NEIGHBOUR: 'it returns false'. Refute it at one input. -/
def witnessHoldsWrong : ChangeSpec := { name := "witnessHolds", fn := fun _ => fun
  | [d1, d2, d3, d4, d5, d6] => { results := [.lit (.bool false)], args := [d1, d2, d3, d4, d5, d6] }
  | _ => none }
def WitnessHoldsWrongFalsely : Prop := witnessHoldsRow.holds Try.pinned (OpenSpec.ofChange witnessHoldsWrong)

/-- 'coraclelaw10.ChainEvents': WHATEVER THE INPUT: true; the input reads as it did. -/
def chainEventsSpec : ChangeSpec := { name := "chainEvents", fn := fun _ => fun
  | [d1, d2, d3] => { results := [.lit (.bool true)], args := [d1, d2, d3] }
  | _ => none }
def chainEventsRow : OpenClaim := { program := "ytdababcblhbpeaa", sum := "1ecdea62e5dfb0fb3aace378d2d0561add0bed9ee97c79b9b88d8697d8097548", func := "coracle/coraclelaw10.ChainEvents", spec := "chainEvents", unfollowed := true, recurses := true, plainKeys := false, apart := false }
def ChainEventsSaid : Prop := chainEventsRow.holds Try.pinned (OpenSpec.ofChange chainEventsSpec)

/-- ITS FALSE NEIGHBOUR: 'it returns false'. Refute it at one input. -/
def chainEventsWrong : ChangeSpec := { name := "chainEvents", fn := fun _ => fun
  | [d1, d2, d3] => { results := [.lit (.bool false)], args := [d1, d2, d3] }
  | _ => none }
def ChainEventsWrongFalsely : Prop := chainEventsRow.holds Try.pinned (OpenSpec.ofChange chainEventsWrong)

/-- 'coraclelaw10.ChainDeep': WHATEVER THE INPUT: true; the input reads as it did. -/
def chainDeepSpec : ChangeSpec := { name := "chainDeep", fn := fun _ => fun
  | [d1, d2, d3] => { results := [.lit (.bool true)], args := [d1, d2, d3] }
  | _ => none }
def chainDeepRow : OpenClaim := { program := "ytdababcblhbpeaa", sum := "1ecdea62e5dfb0fb3aace378d2d0561add0bed9ee97c79b9b88d8697d8097548", func := "coracle/coraclelaw10.ChainDeep", spec := "chainDeep", unfollowed := true, recurses := true, plainKeys := false, apart := false }
def ChainDeepSaid : Prop := chainDeepRow.holds Try.pinned (OpenSpec.ofChange chainDeepSpec)

/-- ITS FALSE NEIGHBOUR: 'it returns false'. Refute it at one input. -/
def chainDeepWrong : ChangeSpec := { name := "chainDeep", fn := fun _ => fun
  | [d1, d2, d3] => { results := [.lit (.bool false)], args := [d1, d2, d3] }
  | _ => none }
def ChainDeepWrongFalsely : Prop := chainDeepRow.holds Try.pinned (OpenSpec.ofChange chainDeepWrong)

/-- 'coraclelaw10.ChainForgets': WHATEVER THE INPUT: true; the input reads as it did. -/
def chainForgetsSpec : ChangeSpec := { name := "chainForgets", fn := fun _ => fun
  | [d1, d2, d3] => { results := [.lit (.bool true)], args := [d1, d2, d3] }
  | _ => none }
def chainForgetsRow : OpenClaim := { program := "ytdababcblhbpeaa", sum := "1ecdea62e5dfb0fb3aace378d2d0561add0bed9ee97c79b9b88d8697d8097548", func := "coracle/coraclelaw10.ChainForgets", spec := "chainForgets", unfollowed := true, recurses := true, plainKeys := false, apart := false }
def ChainForgetsSaid : Prop := chainForgetsRow.holds Try.pinned (OpenSpec.ofChange chainForgetsSpec)

/-- ITS FALSE NEIGHBOUR: 'it returns false'. Refute it at one input. -/
def chainForgetsWrong : ChangeSpec := { name := "chainForgets", fn := fun _ => fun
  | [d1, d2, d3] => { results := [.lit (.bool false)], args := [d1, d2, d3] }
  | _ => none }
def ChainForgetsWrongFalsely : Prop := chainForgetsRow.holds Try.pinned (OpenSpec.ofChange chainForgetsWrong)

/-- 'coraclelaw10.ChainWaits': WHATEVER THE INPUT: true; the input reads as it did. -/
def chainWaitsSpec : ChangeSpec := { name := "chainWaits", fn := fun _ => fun
  | [d1, d2, d3] => { results := [.lit (.bool true)], args := [d1, d2, d3] }
  | _ => none }
def chainWaitsRow : OpenClaim := { program := "ytdababcblhbpeaa", sum := "1ecdea62e5dfb0fb3aace378d2d0561add0bed9ee97c79b9b88d8697d8097548", func := "coracle/coraclelaw10.ChainWaits", spec := "chainWaits", unfollowed := true, recurses := true, plainKeys := false, apart := false }
def ChainWaitsSaid : Prop := chainWaitsRow.holds Try.pinned (OpenSpec.ofChange chainWaitsSpec)

/-- ITS FALSE NEIGHBOUR: 'it returns false'. Refute it at one input. -/
def chainWaitsWrong : ChangeSpec := { name := "chainWaits", fn := fun _ => fun
  | [d1, d2, d3] => { results := [.lit (.bool false)], args := [d1, d2, d3] }
  | _ => none }
def ChainWaitsWrongFalsely : Prop := chainWaitsRow.holds Try.pinned (OpenSpec.ofChange chainWaitsWrong)

/-- 'coraclelaw10.ChainOrder': WHATEVER THE INPUT: true; the input reads as it did. -/
def chainOrderSpec : ChangeSpec := { name := "chainOrder", fn := fun _ => fun
  | [d1, d2, d3] => { results := [.lit (.bool true)], args := [d1, d2, d3] }
  | _ => none }
def chainOrderRow : OpenClaim := { program := "ytdababcblhbpeaa", sum := "1ecdea62e5dfb0fb3aace378d2d0561add0bed9ee97c79b9b88d8697d8097548", func := "coracle/coraclelaw10.ChainOrder", spec := "chainOrder", unfollowed := true, recurses := true, plainKeys := false, apart := false }
def ChainOrderSaid : Prop := chainOrderRow.holds Try.pinned (OpenSpec.ofChange chainOrderSpec)

/-- ITS FALSE NEIGHBOUR: 'it returns false'. Refute it at one input. -/
def chainOrderWrong : ChangeSpec := { name := "chainOrder", fn := fun _ => fun
  | [d1, d2, d3] => { results := [.lit (.bool false)], args := [d1, d2, d3] }
  | _ => none }
def ChainOrderWrongFalsely : Prop := chainOrderRow.holds Try.pinned (OpenSpec.ofChange chainOrderWrong)

/-- 'coraclelaw10.ChainBest': WHATEVER THE INPUT: true; the input reads as it did. -/
def chainBestSpec : ChangeSpec := { name := "chainBest", fn := fun _ => fun
  | [d1, d2] => { results := [.lit (.bool true)], args := [d1, d2] }
  | _ => none }
def chainBestRow : OpenClaim := { program := "ytdababcblhbpeaa", sum := "1ecdea62e5dfb0fb3aace378d2d0561add0bed9ee97c79b9b88d8697d8097548", func := "coracle/coraclelaw10.ChainBest", spec := "chainBest", unfollowed := true, recurses := true, plainKeys := false, apart := false }
def ChainBestSaid : Prop := chainBestRow.holds Try.pinned (OpenSpec.ofChange chainBestSpec)

/-- ITS FALSE NEIGHBOUR: 'it returns false'. Refute it at one input. -/
def chainBestWrong : ChangeSpec := { name := "chainBest", fn := fun _ => fun
  | [d1, d2] => { results := [.lit (.bool false)], args := [d1, d2] }
  | _ => none }
def ChainBestWrongFalsely : Prop := chainBestRow.holds Try.pinned (OpenSpec.ofChange chainBestWrong)

/-- 'coraclelaw10.ChainPlays': WHATEVER THE INPUT: true; the input reads as it did. -/
def chainPlaysSpec : ChangeSpec := { name := "chainPlays", fn := fun _ => fun
  | [d1, d2, d3, d4] => { results := [.lit (.bool true)], args := [d1, d2, d3, d4] }
  | _ => none }
def chainPlaysRow : OpenClaim := { program := "ytdababcblhbpeaa", sum := "1ecdea62e5dfb0fb3aace378d2d0561add0bed9ee97c79b9b88d8697d8097548", func := "coracle/coraclelaw10.ChainPlays", spec := "chainPlays", unfollowed := true, recurses := true, plainKeys := false, apart := false }
def ChainPlaysSaid : Prop := chainPlaysRow.holds Try.pinned (OpenSpec.ofChange chainPlaysSpec)

/-- ITS FALSE NEIGHBOUR: 'it returns false'. Refute it at one input. -/
def chainPlaysWrong : ChangeSpec := { name := "chainPlays", fn := fun _ => fun
  | [d1, d2, d3, d4] => { results := [.lit (.bool false)], args := [d1, d2, d3, d4] }
  | _ => none }
def ChainPlaysWrongFalsely : Prop := chainPlaysRow.holds Try.pinned (OpenSpec.ofChange chainPlaysWrong)

/- THE SECOND FORM. 'bulk': how many values and letters a reading holds, each counted each time it is reached (what is shared counts as often as it is met; a slice's spare places count too). A statement '..UptoSaid' is the law's where the arguments, and the package variables that the reading takes, are together of bulk at most 1048576: NARROWER than '..Said'. Prove '..Said' where nothing that the law and all that it calls make is longer than what came in: it says more and counts as full. Else prove '..UptoSaid'. A law counts once. -/
mutual
def uptoBulk {H : Type} : DataW H → Nat
  | .lit (.string bytes) => bytes.length + 1
  | .lit _ => 1
  | .nil => 1
  | .ptr d => uptoBulk d + 1
  | .slice elems spare => uptoBulkAll elems + uptoBulkAll spare + 1
  | .agg parts => uptoBulkAll parts + 1
  | .iface _ d => uptoBulk d + 1
  | .map entries => uptoBulkEntries entries + 1
  | .held _ => 1
def uptoBulkAll {H : Type} : List (DataW H) → Nat
  | [] => 0
  | d :: r => uptoBulk d + uptoBulkAll r
def uptoBulkEntries {H : Type} : List (Lit × DataW H) → Nat
  | [] => 0
  | x :: r => uptoBulkEntry x + uptoBulkEntries r
def uptoBulkEntry {H : Type} : Lit × DataW H → Nat
  | (.string bytes, d) => bytes.length + uptoBulk d + 1
  | (_, d) => uptoBulk d + 1
 end
def uptoSmall : (H : Type) → List (DataW H) → Bool := fun _ ds => decide (uptoBulkAll ds ≤ 1048576)
def OpenSpec.upto (s : _root_.Go.ChangeSpec) : _root_.Go.OpenSpec := { _root_.Go.OpenSpec.ofChange s with cond := some uptoSmall }

/-- 'coraclelaw1.NumSizes', WHERE WHAT IT READS IS OF BULK AT MOST 1048576: true; the input reads as it did. -/
def numSizesUptoRow : OpenClaim := { program := "ytdababcblhbpeaa", sum := "1ecdea62e5dfb0fb3aace378d2d0561add0bed9ee97c79b9b88d8697d8097548", func := "coracle/coraclelaw1.NumSizes", spec := "numSizes", plainKeys := false, apart := false, narrowed := true }
def NumSizesUptoSaid : Prop := numSizesUptoRow.holds Try.pinned (OpenSpec.upto numSizesSpec)

/-- 'coraclelaw1.NumReads', WHERE WHAT IT READS IS OF BULK AT MOST 1048576: true; the input reads as it did. -/
def numReadsUptoRow : OpenClaim := { program := "ytdababcblhbpeaa", sum := "1ecdea62e5dfb0fb3aace378d2d0561add0bed9ee97c79b9b88d8697d8097548", func := "coracle/coraclelaw1.NumReads", spec := "numReads", plainKeys := false, apart := false, narrowed := true }
def NumReadsUptoSaid : Prop := numReadsUptoRow.holds Try.pinned (OpenSpec.upto numReadsSpec)

/-- 'coraclelaw1.NumRow', WHERE WHAT IT READS IS OF BULK AT MOST 1048576: true; the input reads as it did. -/
def numRowUptoRow : OpenClaim := { program := "ytdababcblhbpeaa", sum := "1ecdea62e5dfb0fb3aace378d2d0561add0bed9ee97c79b9b88d8697d8097548", func := "coracle/coraclelaw1.NumRow", spec := "numRow", plainKeys := false, apart := false, narrowed := true }
def NumRowUptoSaid : Prop := numRowUptoRow.holds Try.pinned (OpenSpec.upto numRowSpec)

/-- 'coraclelaw1.NumOrder', WHERE WHAT IT READS IS OF BULK AT MOST 1048576: true; the input reads as it did. -/
def numOrderUptoRow : OpenClaim := { program := "ytdababcblhbpeaa", sum := "1ecdea62e5dfb0fb3aace378d2d0561add0bed9ee97c79b9b88d8697d8097548", func := "coracle/coraclelaw1.NumOrder", spec := "numOrder", plainKeys := false, apart := false, narrowed := true }
def NumOrderUptoSaid : Prop := numOrderUptoRow.holds Try.pinned (OpenSpec.upto numOrderSpec)

/-- 'coraclelaw2.ShaAll', WHERE WHAT IT READS IS OF BULK AT MOST 1048576: true; the input reads as it did. -/
def shaAllUptoRow : OpenClaim := { program := "ytdababcblhbpeaa", sum := "1ecdea62e5dfb0fb3aace378d2d0561add0bed9ee97c79b9b88d8697d8097548", func := "coracle/coraclelaw2.ShaAll", spec := "shaAll", inPlace := ["internal/bytealg.IndexByteString"], plainKeys := false, apart := false, narrowed := true }
def ShaAllUptoSaid : Prop := shaAllUptoRow.holds Try.pinned (OpenSpec.upto shaAllSpec)

/-- 'coraclelaw2.ShaSums', WHERE WHAT IT READS IS OF BULK AT MOST 1048576: true; the input reads as it did. -/
def shaSumsUptoRow : OpenClaim := { program := "ytdababcblhbpeaa", sum := "1ecdea62e5dfb0fb3aace378d2d0561add0bed9ee97c79b9b88d8697d8097548", func := "coracle/coraclelaw2.ShaSums", spec := "shaSums", inPlace := ["internal/bytealg.IndexByteString"], plainKeys := false, apart := false, narrowed := true }
def ShaSumsUptoSaid : Prop := shaSumsUptoRow.holds Try.pinned (OpenSpec.upto shaSumsSpec)

/-- 'coraclelaw13.ScriptGrows', WHERE WHAT IT READS IS OF BULK AT MOST 1048576: true; the input reads as it did. -/
def scriptGrowsUptoRow : OpenClaim := { program := "ytdababcblhbpeaa", sum := "1ecdea62e5dfb0fb3aace378d2d0561add0bed9ee97c79b9b88d8697d8097548", func := "coracle/coraclelaw13.ScriptGrows", spec := "scriptGrows", unfollowed := true, recurses := true, plainKeys := false, apart := false, narrowed := true }
def ScriptGrowsUptoSaid : Prop := scriptGrowsUptoRow.holds Try.pinned (OpenSpec.upto scriptGrowsSpec)

/-- 'coraclelaw13.ScriptAges', WHERE WHAT IT READS IS OF BULK AT MOST 1048576: true; the input reads as it did. -/
def scriptAgesUptoRow : OpenClaim := { program := "ytdababcblhbpeaa", sum := "1ecdea62e5dfb0fb3aace378d2d0561add0bed9ee97c79b9b88d8697d8097548", func := "coracle/coraclelaw13.ScriptAges", spec := "scriptAges", unfollowed := true, recurses := true, plainKeys := false, apart := false, narrowed := true }
def ScriptAgesUptoSaid : Prop := scriptAgesUptoRow.holds Try.pinned (OpenSpec.upto scriptAgesSpec)

/-- 'coraclelaw13.ScriptAsks', WHERE WHAT IT READS IS OF BULK AT MOST 1048576: true; the input reads as it did. -/
def scriptAsksUptoRow : OpenClaim := { program := "ytdababcblhbpeaa", sum := "1ecdea62e5dfb0fb3aace378d2d0561add0bed9ee97c79b9b88d8697d8097548", func := "coracle/coraclelaw13.ScriptAsks", spec := "scriptAsks", unfollowed := true, recurses := true, plainKeys := false, apart := false, narrowed := true }
def ScriptAsksUptoSaid : Prop := scriptAsksUptoRow.holds Try.pinned (OpenSpec.upto scriptAsksSpec)

/-- 'coraclelaw14.WitnessRipens', WHERE WHAT IT READS IS OF BULK AT MOST 1048576: true; the input reads as it did. -/
def witnessRipensUptoRow : OpenClaim := { program := "ytdababcblhbpeaa", sum := "1ecdea62e5dfb0fb3aace378d2d0561add0bed9ee97c79b9b88d8697d8097548", func := "coracle/coraclelaw14.WitnessRipens", spec := "witnessRipens", plainKeys := false, apart := false, narrowed := true }
def WitnessRipensUptoSaid : Prop := witnessRipensUptoRow.holds Try.pinned (OpenSpec.upto witnessRipensSpec)

/-- 'coraclelaw14.WitnessAsks', WHERE WHAT IT READS IS OF BULK AT MOST 1048576: true; the input reads as it did. -/
def witnessAsksUptoRow : OpenClaim := { program := "ytdababcblhbpeaa", sum := "1ecdea62e5dfb0fb3aace378d2d0561add0bed9ee97c79b9b88d8697d8097548", func := "coracle/coraclelaw14.WitnessAsks", spec := "witnessAsks", plainKeys := false, apart := false, narrowed := true }
def WitnessAsksUptoSaid : Prop := witnessAsksUptoRow.holds Try.pinned (OpenSpec.upto witnessAsksSpec)

/-- 'coraclelaw14.WitnessHolds', WHERE WHAT IT READS IS OF BULK AT MOST 1048576: true; the input reads as it did. -/
def witnessHoldsUptoRow : OpenClaim := { program := "ytdababcblhbpeaa", sum := "1ecdea62e5dfb0fb3aace378d2d0561add0bed9ee97c79b9b88d8697d8097548", func := "coracle/coraclelaw14.WitnessHolds", spec := "witnessHolds", unfollowed := true, recurses := true, plainKeys := false, apart := false, narrowed := true }
def WitnessHoldsUptoSaid : Prop := witnessHoldsUptoRow.holds Try.pinned (OpenSpec.upto witnessHoldsSpec)

/-- 'coraclelaw10.ChainEvents', WHERE WHAT IT READS IS OF BULK AT MOST 1048576: true; the input reads as it did. -/
def chainEventsUptoRow : OpenClaim := { program := "ytdababcblhbpeaa", sum := "1ecdea62e5dfb0fb3aace378d2d0561add0bed9ee97c79b9b88d8697d8097548", func := "coracle/coraclelaw10.ChainEvents", spec := "chainEvents", unfollowed := true, recurses := true, plainKeys := false, apart := false, narrowed := true }
def ChainEventsUptoSaid : Prop := chainEventsUptoRow.holds Try.pinned (OpenSpec.upto chainEventsSpec)

/-- 'coraclelaw10.ChainDeep', WHERE WHAT IT READS IS OF BULK AT MOST 1048576: true; the input reads as it did. -/
def chainDeepUptoRow : OpenClaim := { program := "ytdababcblhbpeaa", sum := "1ecdea62e5dfb0fb3aace378d2d0561add0bed9ee97c79b9b88d8697d8097548", func := "coracle/coraclelaw10.ChainDeep", spec := "chainDeep", unfollowed := true, recurses := true, plainKeys := false, apart := false, narrowed := true }
def ChainDeepUptoSaid : Prop := chainDeepUptoRow.holds Try.pinned (OpenSpec.upto chainDeepSpec)

/-- 'coraclelaw10.ChainForgets', WHERE WHAT IT READS IS OF BULK AT MOST 1048576: true; the input reads as it did. -/
def chainForgetsUptoRow : OpenClaim := { program := "ytdababcblhbpeaa", sum := "1ecdea62e5dfb0fb3aace378d2d0561add0bed9ee97c79b9b88d8697d8097548", func := "coracle/coraclelaw10.ChainForgets", spec := "chainForgets", unfollowed := true, recurses := true, plainKeys := false, apart := false, narrowed := true }
def ChainForgetsUptoSaid : Prop := chainForgetsUptoRow.holds Try.pinned (OpenSpec.upto chainForgetsSpec)

/-- 'coraclelaw10.ChainWaits', WHERE WHAT IT READS IS OF BULK AT MOST 1048576: true; the input reads as it did. -/
def chainWaitsUptoRow : OpenClaim := { program := "ytdababcblhbpeaa", sum := "1ecdea62e5dfb0fb3aace378d2d0561add0bed9ee97c79b9b88d8697d8097548", func := "coracle/coraclelaw10.ChainWaits", spec := "chainWaits", unfollowed := true, recurses := true, plainKeys := false, apart := false, narrowed := true }
def ChainWaitsUptoSaid : Prop := chainWaitsUptoRow.holds Try.pinned (OpenSpec.upto chainWaitsSpec)

/-- 'coraclelaw10.ChainOrder', WHERE WHAT IT READS IS OF BULK AT MOST 1048576: true; the input reads as it did. -/
def chainOrderUptoRow : OpenClaim := { program := "ytdababcblhbpeaa", sum := "1ecdea62e5dfb0fb3aace378d2d0561add0bed9ee97c79b9b88d8697d8097548", func := "coracle/coraclelaw10.ChainOrder", spec := "chainOrder", unfollowed := true, recurses := true, plainKeys := false, apart := false, narrowed := true }
def ChainOrderUptoSaid : Prop := chainOrderUptoRow.holds Try.pinned (OpenSpec.upto chainOrderSpec)

/-- 'coraclelaw10.ChainBest', WHERE WHAT IT READS IS OF BULK AT MOST 1048576: true; the input reads as it did. -/
def chainBestUptoRow : OpenClaim := { program := "ytdababcblhbpeaa", sum := "1ecdea62e5dfb0fb3aace378d2d0561add0bed9ee97c79b9b88d8697d8097548", func := "coracle/coraclelaw10.ChainBest", spec := "chainBest", unfollowed := true, recurses := true, plainKeys := false, apart := false, narrowed := true }
def ChainBestUptoSaid : Prop := chainBestUptoRow.holds Try.pinned (OpenSpec.upto chainBestSpec)

/-- 'coraclelaw10.ChainPlays', WHERE WHAT IT READS IS OF BULK AT MOST 1048576: true; the input reads as it did. -/
def chainPlaysUptoRow : OpenClaim := { program := "ytdababcblhbpeaa", sum := "1ecdea62e5dfb0fb3aace378d2d0561add0bed9ee97c79b9b88d8697d8097548", func := "coracle/coraclelaw10.ChainPlays", spec := "chainPlays", unfollowed := true, recurses := true, plainKeys := false, apart := false, narrowed := true }
def ChainPlaysUptoSaid : Prop := chainPlaysUptoRow.holds Try.pinned (OpenSpec.upto chainPlaysSpec)

end Rows
end Go.Proofs.Ytdababcblhbpeaa
