/-
  No cell of these rows narrows 'for every input' (looked for: loops, veiled, ifaces, maps, wideKeys, modest, calm, conditions, laid).
  DERIVED. THE GIVEN ROWS OF THIS SEAT. 25 by the template 'for every input the law returns true; each argument reads behind the call as it read before'; 0 by the template 'total and deterministic' (their statements: YtfbmgodfpjeanaaTotals.lean).
  GIVEN WITH THE SEED: the statements are not yours to turn. If you find one false, say at which input.
  Laid BY PROGRAM, IN A SANDBOX (cutbox-rows.mjs): the forced cells as the released guide's own fill.sh prints them over the translation 2b8f71ed4f4e9d75… (all of the seat's roots in one cut). By AI agents, Wed Nov 11 2026. No macro, syntax, notation, axiom, sorry.
-/
import Derived.Test.YtfbmgodfpjeanaaChecked
import GoSem.Claim
import GoSem.ClaimJoined
import GoSem.ClaimMapViews
import Derived.JoinedTies
import Derived.KernelRfl
namespace Go.Proofs.Ytfbmgodfpjeanaa
/- THE CELL 'sum', in the pinned program and in every row, IS THE sha256 OF THE DUMP (.gsa) THAT YtfbmgodfpjeanaaProg.lean LOADS. Nothing in Lean hashes anything: it is a label: what it is worth is what the hold of that sum in a sandbox is worth. -/
noncomputable def Try.pinned : Pinned := { name := "ytfbmgodfpjeanaa", sum := "2b8f71ed4f4e9d7592b40876b80af6daba9ad6b998dc7e36b2a27db9b5eadeaa", checked := Try.checked }
namespace Rows
def none {H : Type} : Left H := { results := [], args := [] }

/-- 'quarterdecklaw12.WaitersRank': WHATEVER THE INPUT: true; the input reads as it did. -/
def waitersRankSpec : ChangeSpec := { name := "waitersRank", fn := fun _ => fun
  | [d] => { results := [.lit (.bool true)], args := [d] }
  | _ => none }
def waitersRankRow : OpenClaim := { program := "ytfbmgodfpjeanaa", sum := "2b8f71ed4f4e9d7592b40876b80af6daba9ad6b998dc7e36b2a27db9b5eadeaa", func := "quarterdeck/quarterdecklaw12.WaitersRank", spec := "waitersRank", inPlace := ["slices.overlaps[quarterdeck/api.Wait]"], unfollowed := true, recurses := true, apart := false }
def WaitersRankSaid : Prop := waitersRankRow.holds Try.pinned (OpenSpec.ofChange waitersRankSpec)

/-- ITS FALSE NEIGHBOUR: 'it returns false'. Refute it at one input. -/
def waitersRankWrong : ChangeSpec := { name := "waitersRank", fn := fun _ => fun
  | [d] => { results := [.lit (.bool false)], args := [d] }
  | _ => none }
def WaitersRankWrongFalsely : Prop := waitersRankRow.holds Try.pinned (OpenSpec.ofChange waitersRankWrong)

/-- 'quarterdecklaw12.WaitersOwn': WHATEVER THE INPUT: true; the input reads as it did. -/
def waitersOwnSpec : ChangeSpec := { name := "waitersOwn", fn := fun _ => fun
  | [d1, d2, d3, d4] => { results := [.lit (.bool true)], args := [d1, d2, d3, d4] }
  | _ => none }
def waitersOwnRow : OpenClaim := { program := "ytfbmgodfpjeanaa", sum := "2b8f71ed4f4e9d7592b40876b80af6daba9ad6b998dc7e36b2a27db9b5eadeaa", func := "quarterdeck/quarterdecklaw12.WaitersOwn", spec := "waitersOwn", inPlace := ["slices.overlaps[quarterdeck/api.Wait]"], unfollowed := true, recurses := true, apart := false }
def WaitersOwnSaid : Prop := waitersOwnRow.holds Try.pinned (OpenSpec.ofChange waitersOwnSpec)

/-- ITS FALSE NEIGHBOUR: 'it returns false'. Refute it at one input. -/
def waitersOwnWrong : ChangeSpec := { name := "waitersOwn", fn := fun _ => fun
  | [d1, d2, d3, d4] => { results := [.lit (.bool false)], args := [d1, d2, d3, d4] }
  | _ => none }
def WaitersOwnWrongFalsely : Prop := waitersOwnRow.holds Try.pinned (OpenSpec.ofChange waitersOwnWrong)

/-- 'quarterdecklaw12.WaitersCome': WHATEVER THE INPUT: true; the input reads as it did. -/
def waitersComeSpec : ChangeSpec := { name := "waitersCome", fn := fun _ => fun
  | [d1, d2] => { results := [.lit (.bool true)], args := [d1, d2] }
  | _ => none }
def waitersComeRow : OpenClaim := { program := "ytfbmgodfpjeanaa", sum := "2b8f71ed4f4e9d7592b40876b80af6daba9ad6b998dc7e36b2a27db9b5eadeaa", func := "quarterdeck/quarterdecklaw12.WaitersCome", spec := "waitersCome", inPlace := ["slices.overlaps[quarterdeck/api.Wait]"], unfollowed := true, recurses := true, apart := false }
def WaitersComeSaid : Prop := waitersComeRow.holds Try.pinned (OpenSpec.ofChange waitersComeSpec)

/-- ITS FALSE NEIGHBOUR: 'it returns false'. Refute it at one input. -/
def waitersComeWrong : ChangeSpec := { name := "waitersCome", fn := fun _ => fun
  | [d1, d2] => { results := [.lit (.bool false)], args := [d1, d2] }
  | _ => none }
def WaitersComeWrongFalsely : Prop := waitersComeRow.holds Try.pinned (OpenSpec.ofChange waitersComeWrong)

/-- 'quarterdecklaw12.WaitersDo': WHATEVER THE INPUT: true; the input reads as it did. -/
def waitersDoSpec : ChangeSpec := { name := "waitersDo", fn := fun _ => fun
  | [d1, d2, d3, d4] => { results := [.lit (.bool true)], args := [d1, d2, d3, d4] }
  | _ => none }
def waitersDoRow : OpenClaim := { program := "ytfbmgodfpjeanaa", sum := "2b8f71ed4f4e9d7592b40876b80af6daba9ad6b998dc7e36b2a27db9b5eadeaa", func := "quarterdeck/quarterdecklaw12.WaitersDo", spec := "waitersDo", inPlace := ["slices.overlaps[quarterdeck/api.Wait]"], unfollowed := true, recurses := true, apart := false }
def WaitersDoSaid : Prop := waitersDoRow.holds Try.pinned (OpenSpec.ofChange waitersDoSpec)

/-- ITS FALSE NEIGHBOUR: 'it returns false'. Refute it at one input. -/
def waitersDoWrong : ChangeSpec := { name := "waitersDo", fn := fun _ => fun
  | [d1, d2, d3, d4] => { results := [.lit (.bool false)], args := [d1, d2, d3, d4] }
  | _ => none }
def WaitersDoWrongFalsely : Prop := waitersDoRow.holds Try.pinned (OpenSpec.ofChange waitersDoWrong)

/-- 'quarterdecklaw12.WaitersDrain': WHATEVER THE INPUT: true; the input reads as it did. -/
def waitersDrainSpec : ChangeSpec := { name := "waitersDrain", fn := fun _ => fun
  | [d] => { results := [.lit (.bool true)], args := [d] }
  | _ => none }
def waitersDrainRow : OpenClaim := { program := "ytfbmgodfpjeanaa", sum := "2b8f71ed4f4e9d7592b40876b80af6daba9ad6b998dc7e36b2a27db9b5eadeaa", func := "quarterdeck/quarterdecklaw12.WaitersDrain", spec := "waitersDrain", inPlace := ["slices.overlaps[quarterdeck/api.Wait]"], unfollowed := true, recurses := true, apart := false }
def WaitersDrainSaid : Prop := waitersDrainRow.holds Try.pinned (OpenSpec.ofChange waitersDrainSpec)

/-- ITS FALSE NEIGHBOUR: 'it returns false'. Refute it at one input. -/
def waitersDrainWrong : ChangeSpec := { name := "waitersDrain", fn := fun _ => fun
  | [d] => { results := [.lit (.bool false)], args := [d] }
  | _ => none }
def WaitersDrainWrongFalsely : Prop := waitersDrainRow.holds Try.pinned (OpenSpec.ofChange waitersDrainWrong)

/-- 'quarterdecklaw16.EventWaits': WHATEVER THE INPUT: true; the input reads as it did. -/
def eventWaitsSpec : ChangeSpec := { name := "eventWaits", fn := fun _ => fun
  | [d1, d2] => { results := [.lit (.bool true)], args := [d1, d2] }
  | _ => none }
def eventWaitsRow : OpenClaim := { program := "ytfbmgodfpjeanaa", sum := "2b8f71ed4f4e9d7592b40876b80af6daba9ad6b998dc7e36b2a27db9b5eadeaa", func := "quarterdeck/quarterdecklaw16.EventWaits", spec := "eventWaits", inPlace := ["slices.overlaps[quarterdeck/api.Wait]"], unfollowed := true, recurses := true, apart := false }
def EventWaitsSaid : Prop := eventWaitsRow.holds Try.pinned (OpenSpec.ofChange eventWaitsSpec)

/-- ITS FALSE NEIGHBOUR: 'it returns false'. Refute it at one input. -/
def eventWaitsWrong : ChangeSpec := { name := "eventWaits", fn := fun _ => fun
  | [d1, d2] => { results := [.lit (.bool false)], args := [d1, d2] }
  | _ => none }
def EventWaitsWrongFalsely : Prop := eventWaitsRow.holds Try.pinned (OpenSpec.ofChange eventWaitsWrong)

/-- 'quarterdecklaw13.BoardDoes': WHATEVER THE INPUT: true; the input reads as it did. -/
def boardDoesSpec : ChangeSpec := { name := "boardDoes", fn := fun _ => fun
  | [d1, d2, d3, d4] => { results := [.lit (.bool true)], args := [d1, d2, d3, d4] }
  | _ => none }
def boardDoesRow : OpenClaim := { program := "ytfbmgodfpjeanaa", sum := "2b8f71ed4f4e9d7592b40876b80af6daba9ad6b998dc7e36b2a27db9b5eadeaa", func := "quarterdeck/quarterdecklaw13.BoardDoes", spec := "boardDoes", inPlace := ["slices.overlaps[quarterdeck/api.Wait]"], unfollowed := true, recurses := true, apart := false }
def BoardDoesSaid : Prop := boardDoesRow.holds Try.pinned (OpenSpec.ofChange boardDoesSpec)

/-- ITS FALSE NEIGHBOUR: 'it returns false'. Refute it at one input. -/
def boardDoesWrong : ChangeSpec := { name := "boardDoes", fn := fun _ => fun
  | [d1, d2, d3, d4] => { results := [.lit (.bool false)], args := [d1, d2, d3, d4] }
  | _ => none }
def BoardDoesWrongFalsely : Prop := boardDoesRow.holds Try.pinned (OpenSpec.ofChange boardDoesWrong)

/-- 'quarterdecklaw13.BoardTells': WHATEVER THE INPUT: true; the input reads as it did. -/
def boardTellsSpec : ChangeSpec := { name := "boardTells", fn := fun _ => fun
  | [d1, d2] => { results := [.lit (.bool true)], args := [d1, d2] }
  | _ => none }
def boardTellsRow : OpenClaim := { program := "ytfbmgodfpjeanaa", sum := "2b8f71ed4f4e9d7592b40876b80af6daba9ad6b998dc7e36b2a27db9b5eadeaa", func := "quarterdeck/quarterdecklaw13.BoardTells", spec := "boardTells", inPlace := ["slices.overlaps[quarterdeck/api.Wait]"], unfollowed := true, recurses := true, apart := false }
def BoardTellsSaid : Prop := boardTellsRow.holds Try.pinned (OpenSpec.ofChange boardTellsSpec)

/-- ITS FALSE NEIGHBOUR: 'it returns false'. Refute it at one input. -/
def boardTellsWrong : ChangeSpec := { name := "boardTells", fn := fun _ => fun
  | [d1, d2] => { results := [.lit (.bool false)], args := [d1, d2] }
  | _ => none }
def BoardTellsWrongFalsely : Prop := boardTellsRow.holds Try.pinned (OpenSpec.ofChange boardTellsWrong)

/-- 'quarterdecklaw13.BoardLast': WHATEVER THE INPUT: true; the input reads as it did. -/
def boardLastSpec : ChangeSpec := { name := "boardLast", fn := fun _ => fun
  | [d1, d2, d3] => { results := [.lit (.bool true)], args := [d1, d2, d3] }
  | _ => none }
def boardLastRow : OpenClaim := { program := "ytfbmgodfpjeanaa", sum := "2b8f71ed4f4e9d7592b40876b80af6daba9ad6b998dc7e36b2a27db9b5eadeaa", func := "quarterdeck/quarterdecklaw13.BoardLast", spec := "boardLast", inPlace := ["slices.overlaps[quarterdeck/api.Wait]"], unfollowed := true, recurses := true, apart := false }
def BoardLastSaid : Prop := boardLastRow.holds Try.pinned (OpenSpec.ofChange boardLastSpec)

/-- ITS FALSE NEIGHBOUR: 'it returns false'. Refute it at one input. -/
def boardLastWrong : ChangeSpec := { name := "boardLast", fn := fun _ => fun
  | [d1, d2, d3] => { results := [.lit (.bool false)], args := [d1, d2, d3] }
  | _ => none }
def BoardLastWrongFalsely : Prop := boardLastRow.holds Try.pinned (OpenSpec.ofChange boardLastWrong)

/-- 'quarterdecklaw13.BoardOwn': WHATEVER THE INPUT: true; the input reads as it did. -/
def boardOwnSpec : ChangeSpec := { name := "boardOwn", fn := fun _ => fun
  | [d1, d2, d3] => { results := [.lit (.bool true)], args := [d1, d2, d3] }
  | _ => none }
def boardOwnRow : OpenClaim := { program := "ytfbmgodfpjeanaa", sum := "2b8f71ed4f4e9d7592b40876b80af6daba9ad6b998dc7e36b2a27db9b5eadeaa", func := "quarterdeck/quarterdecklaw13.BoardOwn", spec := "boardOwn", inPlace := ["slices.overlaps[quarterdeck/api.Wait]"], unfollowed := true, recurses := true, apart := false }
def BoardOwnSaid : Prop := boardOwnRow.holds Try.pinned (OpenSpec.ofChange boardOwnSpec)

/-- ITS FALSE NEIGHBOUR: 'it returns false'. Refute it at one input. -/
def boardOwnWrong : ChangeSpec := { name := "boardOwn", fn := fun _ => fun
  | [d1, d2, d3] => { results := [.lit (.bool false)], args := [d1, d2, d3] }
  | _ => none }
def BoardOwnWrongFalsely : Prop := boardOwnRow.holds Try.pinned (OpenSpec.ofChange boardOwnWrong)

/-- 'quarterdecklaw13.BoardWaits': WHATEVER THE INPUT: true; the input reads as it did. -/
def boardWaitsSpec : ChangeSpec := { name := "boardWaits", fn := fun _ => fun
  | [d1, d2] => { results := [.lit (.bool true)], args := [d1, d2] }
  | _ => none }
def boardWaitsRow : OpenClaim := { program := "ytfbmgodfpjeanaa", sum := "2b8f71ed4f4e9d7592b40876b80af6daba9ad6b998dc7e36b2a27db9b5eadeaa", func := "quarterdeck/quarterdecklaw13.BoardWaits", spec := "boardWaits", inPlace := ["slices.overlaps[quarterdeck/api.Wait]"], unfollowed := true, recurses := true, apart := false }
def BoardWaitsSaid : Prop := boardWaitsRow.holds Try.pinned (OpenSpec.ofChange boardWaitsSpec)

/-- ITS FALSE NEIGHBOUR: 'it returns false'. Refute it at one input. -/
def boardWaitsWrong : ChangeSpec := { name := "boardWaits", fn := fun _ => fun
  | [d1, d2] => { results := [.lit (.bool false)], args := [d1, d2] }
  | _ => none }
def BoardWaitsWrongFalsely : Prop := boardWaitsRow.holds Try.pinned (OpenSpec.ofChange boardWaitsWrong)

/-- 'quarterdecklaw16.EventDoes': WHATEVER THE INPUT: true; the input reads as it did. -/
def eventDoesSpec : ChangeSpec := { name := "eventDoes", fn := fun _ => fun
  | [d1, d2, d3] => { results := [.lit (.bool true)], args := [d1, d2, d3] }
  | _ => none }
def eventDoesRow : OpenClaim := { program := "ytfbmgodfpjeanaa", sum := "2b8f71ed4f4e9d7592b40876b80af6daba9ad6b998dc7e36b2a27db9b5eadeaa", func := "quarterdeck/quarterdecklaw16.EventDoes", spec := "eventDoes", inPlace := ["slices.overlaps[quarterdeck/api.Wait]"], unfollowed := true, recurses := true, apart := false }
def EventDoesSaid : Prop := eventDoesRow.holds Try.pinned (OpenSpec.ofChange eventDoesSpec)

/-- ITS FALSE NEIGHBOUR: 'it returns false'. Refute it at one input. -/
def eventDoesWrong : ChangeSpec := { name := "eventDoes", fn := fun _ => fun
  | [d1, d2, d3] => { results := [.lit (.bool false)], args := [d1, d2, d3] }
  | _ => none }
def EventDoesWrongFalsely : Prop := eventDoesRow.holds Try.pinned (OpenSpec.ofChange eventDoesWrong)

/-- 'quarterdecklaw16.EventGoes': WHATEVER THE INPUT: true; the input reads as it did. -/
def eventGoesSpec : ChangeSpec := { name := "eventGoes", fn := fun _ => fun
  | [d] => { results := [.lit (.bool true)], args := [d] }
  | _ => none }
def eventGoesRow : OpenClaim := { program := "ytfbmgodfpjeanaa", sum := "2b8f71ed4f4e9d7592b40876b80af6daba9ad6b998dc7e36b2a27db9b5eadeaa", func := "quarterdeck/quarterdecklaw16.EventGoes", spec := "eventGoes", inPlace := ["slices.overlaps[quarterdeck/api.Wait]"], unfollowed := true, recurses := true, apart := false }
def EventGoesSaid : Prop := eventGoesRow.holds Try.pinned (OpenSpec.ofChange eventGoesSpec)

/-- ITS FALSE NEIGHBOUR: 'it returns false'. Refute it at one input. -/
def eventGoesWrong : ChangeSpec := { name := "eventGoes", fn := fun _ => fun
  | [d] => { results := [.lit (.bool false)], args := [d] }
  | _ => none }
def EventGoesWrongFalsely : Prop := eventGoesRow.holds Try.pinned (OpenSpec.ofChange eventGoesWrong)

/-- 'quarterdecklaw16.EventTwice': WHATEVER THE INPUT: true; the input reads as it did. -/
def eventTwiceSpec : ChangeSpec := { name := "eventTwice", fn := fun _ => fun
  | [d] => { results := [.lit (.bool true)], args := [d] }
  | _ => none }
def eventTwiceRow : OpenClaim := { program := "ytfbmgodfpjeanaa", sum := "2b8f71ed4f4e9d7592b40876b80af6daba9ad6b998dc7e36b2a27db9b5eadeaa", func := "quarterdeck/quarterdecklaw16.EventTwice", spec := "eventTwice", inPlace := ["slices.overlaps[quarterdeck/api.Wait]"], unfollowed := true, recurses := true, apart := false }
def EventTwiceSaid : Prop := eventTwiceRow.holds Try.pinned (OpenSpec.ofChange eventTwiceSpec)

/-- ITS FALSE NEIGHBOUR: 'it returns false'. Refute it at one input. -/
def eventTwiceWrong : ChangeSpec := { name := "eventTwice", fn := fun _ => fun
  | [d] => { results := [.lit (.bool false)], args := [d] }
  | _ => none }
def EventTwiceWrongFalsely : Prop := eventTwiceRow.holds Try.pinned (OpenSpec.ofChange eventTwiceWrong)

/-- 'quarterdecklaw16.EventOwn': WHATEVER THE INPUT: true; the input reads as it did. -/
def eventOwnSpec : ChangeSpec := { name := "eventOwn", fn := fun _ => fun
  | [d1, d2] => { results := [.lit (.bool true)], args := [d1, d2] }
  | _ => none }
def eventOwnRow : OpenClaim := { program := "ytfbmgodfpjeanaa", sum := "2b8f71ed4f4e9d7592b40876b80af6daba9ad6b998dc7e36b2a27db9b5eadeaa", func := "quarterdeck/quarterdecklaw16.EventOwn", spec := "eventOwn", inPlace := ["slices.overlaps[quarterdeck/api.Wait]"], unfollowed := true, recurses := true, apart := false }
def EventOwnSaid : Prop := eventOwnRow.holds Try.pinned (OpenSpec.ofChange eventOwnSpec)

/-- ITS FALSE NEIGHBOUR: 'it returns false'. Refute it at one input. -/
def eventOwnWrong : ChangeSpec := { name := "eventOwn", fn := fun _ => fun
  | [d1, d2] => { results := [.lit (.bool false)], args := [d1, d2] }
  | _ => none }
def EventOwnWrongFalsely : Prop := eventOwnRow.holds Try.pinned (OpenSpec.ofChange eventOwnWrong)

/-- 'quarterdecklaw15.SemaDoes': WHATEVER THE INPUT: true; the input reads as it did. -/
def semaDoesSpec : ChangeSpec := { name := "semaDoes", fn := fun _ => fun
  | [d1, d2, d3] => { results := [.lit (.bool true)], args := [d1, d2, d3] }
  | _ => none }
def semaDoesRow : OpenClaim := { program := "ytfbmgodfpjeanaa", sum := "2b8f71ed4f4e9d7592b40876b80af6daba9ad6b998dc7e36b2a27db9b5eadeaa", func := "quarterdeck/quarterdecklaw15.SemaDoes", spec := "semaDoes", inPlace := ["slices.overlaps[quarterdeck/api.Wait]"], unfollowed := true, recurses := true, apart := false }
def SemaDoesSaid : Prop := semaDoesRow.holds Try.pinned (OpenSpec.ofChange semaDoesSpec)

/-- ITS FALSE NEIGHBOUR: 'it returns false'. Refute it at one input. -/
def semaDoesWrong : ChangeSpec := { name := "semaDoes", fn := fun _ => fun
  | [d1, d2, d3] => { results := [.lit (.bool false)], args := [d1, d2, d3] }
  | _ => none }
def SemaDoesWrongFalsely : Prop := semaDoesRow.holds Try.pinned (OpenSpec.ofChange semaDoesWrong)

/-- 'quarterdecklaw15.SemaCounts': WHATEVER THE INPUT: true; the input reads as it did. -/
def semaCountsSpec : ChangeSpec := { name := "semaCounts", fn := fun _ => fun
  | [d1, d2, d3, d4] => { results := [.lit (.bool true)], args := [d1, d2, d3, d4] }
  | _ => none }
def semaCountsRow : OpenClaim := { program := "ytfbmgodfpjeanaa", sum := "2b8f71ed4f4e9d7592b40876b80af6daba9ad6b998dc7e36b2a27db9b5eadeaa", func := "quarterdeck/quarterdecklaw15.SemaCounts", spec := "semaCounts", inPlace := ["slices.overlaps[quarterdeck/api.Wait]"], unfollowed := true, recurses := true, apart := false }
def SemaCountsSaid : Prop := semaCountsRow.holds Try.pinned (OpenSpec.ofChange semaCountsSpec)

/-- ITS FALSE NEIGHBOUR: 'it returns false'. Refute it at one input. -/
def semaCountsWrong : ChangeSpec := { name := "semaCounts", fn := fun _ => fun
  | [d1, d2, d3, d4] => { results := [.lit (.bool false)], args := [d1, d2, d3, d4] }
  | _ => none }
def SemaCountsWrongFalsely : Prop := semaCountsRow.holds Try.pinned (OpenSpec.ofChange semaCountsWrong)

/-- 'quarterdecklaw15.SemaFull': WHATEVER THE INPUT: true; the input reads as it did. -/
def semaFullSpec : ChangeSpec := { name := "semaFull", fn := fun _ => fun
  | [d1, d2] => { results := [.lit (.bool true)], args := [d1, d2] }
  | _ => none }
def semaFullRow : OpenClaim := { program := "ytfbmgodfpjeanaa", sum := "2b8f71ed4f4e9d7592b40876b80af6daba9ad6b998dc7e36b2a27db9b5eadeaa", func := "quarterdeck/quarterdecklaw15.SemaFull", spec := "semaFull", inPlace := ["slices.overlaps[quarterdeck/api.Wait]"], unfollowed := true, recurses := true, apart := false }
def SemaFullSaid : Prop := semaFullRow.holds Try.pinned (OpenSpec.ofChange semaFullSpec)

/-- ITS FALSE NEIGHBOUR: 'it returns false'. Refute it at one input. -/
def semaFullWrong : ChangeSpec := { name := "semaFull", fn := fun _ => fun
  | [d1, d2] => { results := [.lit (.bool false)], args := [d1, d2] }
  | _ => none }
def SemaFullWrongFalsely : Prop := semaFullRow.holds Try.pinned (OpenSpec.ofChange semaFullWrong)

/-- 'quarterdecklaw15.SemaRanks': WHATEVER THE INPUT: true; the input reads as it did. -/
def semaRanksSpec : ChangeSpec := { name := "semaRanks", fn := fun _ => fun
  | [d1, d2] => { results := [.lit (.bool true)], args := [d1, d2] }
  | _ => none }
def semaRanksRow : OpenClaim := { program := "ytfbmgodfpjeanaa", sum := "2b8f71ed4f4e9d7592b40876b80af6daba9ad6b998dc7e36b2a27db9b5eadeaa", func := "quarterdeck/quarterdecklaw15.SemaRanks", spec := "semaRanks", inPlace := ["slices.overlaps[quarterdeck/api.Wait]"], unfollowed := true, recurses := true, apart := false }
def SemaRanksSaid : Prop := semaRanksRow.holds Try.pinned (OpenSpec.ofChange semaRanksSpec)

/-- ITS FALSE NEIGHBOUR: 'it returns false'. Refute it at one input. -/
def semaRanksWrong : ChangeSpec := { name := "semaRanks", fn := fun _ => fun
  | [d1, d2] => { results := [.lit (.bool false)], args := [d1, d2] }
  | _ => none }
def SemaRanksWrongFalsely : Prop := semaRanksRow.holds Try.pinned (OpenSpec.ofChange semaRanksWrong)

/-- 'quarterdecklaw15.SemaOwn': WHATEVER THE INPUT: true; the input reads as it did. -/
def semaOwnSpec : ChangeSpec := { name := "semaOwn", fn := fun _ => fun
  | [d1, d2] => { results := [.lit (.bool true)], args := [d1, d2] }
  | _ => none }
def semaOwnRow : OpenClaim := { program := "ytfbmgodfpjeanaa", sum := "2b8f71ed4f4e9d7592b40876b80af6daba9ad6b998dc7e36b2a27db9b5eadeaa", func := "quarterdeck/quarterdecklaw15.SemaOwn", spec := "semaOwn", inPlace := ["slices.overlaps[quarterdeck/api.Wait]"], unfollowed := true, recurses := true, apart := false }
def SemaOwnSaid : Prop := semaOwnRow.holds Try.pinned (OpenSpec.ofChange semaOwnSpec)

/-- ITS FALSE NEIGHBOUR: 'it returns false'. Refute it at one input. -/
def semaOwnWrong : ChangeSpec := { name := "semaOwn", fn := fun _ => fun
  | [d1, d2] => { results := [.lit (.bool false)], args := [d1, d2] }
  | _ => none }
def SemaOwnWrongFalsely : Prop := semaOwnRow.holds Try.pinned (OpenSpec.ofChange semaOwnWrong)

/-- 'quarterdecklaw14.BufferDoes': WHATEVER THE INPUT: true; the input reads as it did. -/
def bufferDoesSpec : ChangeSpec := { name := "bufferDoes", fn := fun _ => fun
  | [d1, d2, d3] => { results := [.lit (.bool true)], args := [d1, d2, d3] }
  | _ => none }
def bufferDoesRow : OpenClaim := { program := "ytfbmgodfpjeanaa", sum := "2b8f71ed4f4e9d7592b40876b80af6daba9ad6b998dc7e36b2a27db9b5eadeaa", func := "quarterdeck/quarterdecklaw14.BufferDoes", spec := "bufferDoes", inPlace := ["slices.overlaps[quarterdeck/api.Wait]"], unfollowed := true, recurses := true, apart := false }
def BufferDoesSaid : Prop := bufferDoesRow.holds Try.pinned (OpenSpec.ofChange bufferDoesSpec)

/-- ITS FALSE NEIGHBOUR: 'it returns false'. Refute it at one input. -/
def bufferDoesWrong : ChangeSpec := { name := "bufferDoes", fn := fun _ => fun
  | [d1, d2, d3] => { results := [.lit (.bool false)], args := [d1, d2, d3] }
  | _ => none }
def BufferDoesWrongFalsely : Prop := bufferDoesRow.holds Try.pinned (OpenSpec.ofChange bufferDoesWrong)

/-- 'quarterdecklaw14.BufferOrder': WHATEVER THE INPUT: true; the input reads as it did. -/
def bufferOrderSpec : ChangeSpec := { name := "bufferOrder", fn := fun _ => fun
  | [d1, d2] => { results := [.lit (.bool true)], args := [d1, d2] }
  | _ => none }
def bufferOrderRow : OpenClaim := { program := "ytfbmgodfpjeanaa", sum := "2b8f71ed4f4e9d7592b40876b80af6daba9ad6b998dc7e36b2a27db9b5eadeaa", func := "quarterdeck/quarterdecklaw14.BufferOrder", spec := "bufferOrder", inPlace := ["slices.overlaps[quarterdeck/api.Wait]"], unfollowed := true, recurses := true, apart := false }
def BufferOrderSaid : Prop := bufferOrderRow.holds Try.pinned (OpenSpec.ofChange bufferOrderSpec)

/-- ITS FALSE NEIGHBOUR: 'it returns false'. Refute it at one input. -/
def bufferOrderWrong : ChangeSpec := { name := "bufferOrder", fn := fun _ => fun
  | [d1, d2] => { results := [.lit (.bool false)], args := [d1, d2] }
  | _ => none }
def BufferOrderWrongFalsely : Prop := bufferOrderRow.holds Try.pinned (OpenSpec.ofChange bufferOrderWrong)

/-- 'quarterdecklaw14.BufferFull': WHATEVER THE INPUT: true; the input reads as it did. -/
def bufferFullSpec : ChangeSpec := { name := "bufferFull", fn := fun _ => fun
  | [d1, d2] => { results := [.lit (.bool true)], args := [d1, d2] }
  | _ => none }
def bufferFullRow : OpenClaim := { program := "ytfbmgodfpjeanaa", sum := "2b8f71ed4f4e9d7592b40876b80af6daba9ad6b998dc7e36b2a27db9b5eadeaa", func := "quarterdeck/quarterdecklaw14.BufferFull", spec := "bufferFull", inPlace := ["slices.overlaps[quarterdeck/api.Wait]"], unfollowed := true, recurses := true, apart := false }
def BufferFullSaid : Prop := bufferFullRow.holds Try.pinned (OpenSpec.ofChange bufferFullSpec)

/-- ITS FALSE NEIGHBOUR: 'it returns false'. Refute it at one input. -/
def bufferFullWrong : ChangeSpec := { name := "bufferFull", fn := fun _ => fun
  | [d1, d2] => { results := [.lit (.bool false)], args := [d1, d2] }
  | _ => none }
def BufferFullWrongFalsely : Prop := bufferFullRow.holds Try.pinned (OpenSpec.ofChange bufferFullWrong)

/-- 'quarterdecklaw14.BufferRanks': WHATEVER THE INPUT: true; the input reads as it did. -/
def bufferRanksSpec : ChangeSpec := { name := "bufferRanks", fn := fun _ => fun
  | [d1, d2, d3] => { results := [.lit (.bool true)], args := [d1, d2, d3] }
  | _ => none }
def bufferRanksRow : OpenClaim := { program := "ytfbmgodfpjeanaa", sum := "2b8f71ed4f4e9d7592b40876b80af6daba9ad6b998dc7e36b2a27db9b5eadeaa", func := "quarterdeck/quarterdecklaw14.BufferRanks", spec := "bufferRanks", inPlace := ["slices.overlaps[quarterdeck/api.Wait]"], unfollowed := true, recurses := true, apart := false }
def BufferRanksSaid : Prop := bufferRanksRow.holds Try.pinned (OpenSpec.ofChange bufferRanksSpec)

/-- ITS FALSE NEIGHBOUR: 'it returns false'. Refute it at one input. -/
def bufferRanksWrong : ChangeSpec := { name := "bufferRanks", fn := fun _ => fun
  | [d1, d2, d3] => { results := [.lit (.bool false)], args := [d1, d2, d3] }
  | _ => none }
def BufferRanksWrongFalsely : Prop := bufferRanksRow.holds Try.pinned (OpenSpec.ofChange bufferRanksWrong)

/-- 'quarterdecklaw14.BufferOwn': WHATEVER THE INPUT: true; the input reads as it did. -/
def bufferOwnSpec : ChangeSpec := { name := "bufferOwn", fn := fun _ => fun
  | [d1, d2] => { results := [.lit (.bool true)], args := [d1, d2] }
  | _ => none }
def bufferOwnRow : OpenClaim := { program := "ytfbmgodfpjeanaa", sum := "2b8f71ed4f4e9d7592b40876b80af6daba9ad6b998dc7e36b2a27db9b5eadeaa", func := "quarterdeck/quarterdecklaw14.BufferOwn", spec := "bufferOwn", inPlace := ["slices.overlaps[quarterdeck/api.Wait]"], unfollowed := true, recurses := true, apart := false }
def BufferOwnSaid : Prop := bufferOwnRow.holds Try.pinned (OpenSpec.ofChange bufferOwnSpec)

/-- ITS FALSE NEIGHBOUR: 'it returns false'. Refute it at one input. -/
def bufferOwnWrong : ChangeSpec := { name := "bufferOwn", fn := fun _ => fun
  | [d1, d2] => { results := [.lit (.bool false)], args := [d1, d2] }
  | _ => none }
def BufferOwnWrongFalsely : Prop := bufferOwnRow.holds Try.pinned (OpenSpec.ofChange bufferOwnWrong)

/- THE SECOND FORM. 'bulk': how many values and letters a reading holds, each counted each time it is reached (what is shared counts as often as it is met; a slice's spare places count too). A statement '..UptoSaid' is the law's where the arguments, and the package variables that the reading takes, are together of bulk at most 1048576: NARROWER than '..Said'. Prove '..Said' where nothing that the law and all that it calls make is longer than what came in: it says more and counts as full. Else prove '..UptoSaid'. A law counts once. -/
mutual
def uptoBulk {H : Type} : DataW H → Nat
  | .lit (.string bytes) => bytes.length + 1
  | .lit _ => 1
  | .nil => 1
  | .ptr d => uptoBulk d + 1
  | .slice elems spare => uptoBulkAll elems + uptoBulkAll spare + 1
  | .agg parts => uptoBulkAll parts + 1
  | .iface _ d => uptoBulk d + 1
  | .map entries => uptoBulkEntries entries + 1
  | .held _ => 1
def uptoBulkAll {H : Type} : List (DataW H) → Nat
  | [] => 0
  | d :: r => uptoBulk d + uptoBulkAll r
def uptoBulkEntries {H : Type} : List (Lit × DataW H) → Nat
  | [] => 0
  | x :: r => uptoBulkEntry x + uptoBulkEntries r
def uptoBulkEntry {H : Type} : Lit × DataW H → Nat
  | (.string bytes, d) => bytes.length + uptoBulk d + 1
  | (_, d) => uptoBulk d + 1
 end
def uptoSmall : (H : Type) → List (DataW H) → Bool := fun _ ds => decide (uptoBulkAll ds ≤ 1048576)
def OpenSpec.upto (s : _root_.Go.ChangeSpec) : _root_.Go.OpenSpec := { _root_.Go.OpenSpec.ofChange s with cond := some uptoSmall }

/-- 'quarterdecklaw12.WaitersRank', WHERE WHAT IT READS IS OF BULK AT MOST 1048576: true; the input reads as it did. -/
def waitersRankUptoRow : OpenClaim := { program := "ytfbmgodfpjeanaa", sum := "2b8f71ed4f4e9d7592b40876b80af6daba9ad6b998dc7e36b2a27db9b5eadeaa", func := "quarterdeck/quarterdecklaw12.WaitersRank", spec := "waitersRank", inPlace := ["slices.overlaps[quarterdeck/api.Wait]"], unfollowed := true, recurses := true, apart := false, narrowed := true }
def WaitersRankUptoSaid : Prop := waitersRankUptoRow.holds Try.pinned (OpenSpec.upto waitersRankSpec)

/-- 'quarterdecklaw12.WaitersOwn', WHERE WHAT IT READS IS OF BULK AT MOST 1048576: true; the input reads as it did. -/
def waitersOwnUptoRow : OpenClaim := { program := "ytfbmgodfpjeanaa", sum := "2b8f71ed4f4e9d7592b40876b80af6daba9ad6b998dc7e36b2a27db9b5eadeaa", func := "quarterdeck/quarterdecklaw12.WaitersOwn", spec := "waitersOwn", inPlace := ["slices.overlaps[quarterdeck/api.Wait]"], unfollowed := true, recurses := true, apart := false, narrowed := true }
def WaitersOwnUptoSaid : Prop := waitersOwnUptoRow.holds Try.pinned (OpenSpec.upto waitersOwnSpec)

/-- 'quarterdecklaw12.WaitersCome', WHERE WHAT IT READS IS OF BULK AT MOST 1048576: true; the input reads as it did. -/
def waitersComeUptoRow : OpenClaim := { program := "ytfbmgodfpjeanaa", sum := "2b8f71ed4f4e9d7592b40876b80af6daba9ad6b998dc7e36b2a27db9b5eadeaa", func := "quarterdeck/quarterdecklaw12.WaitersCome", spec := "waitersCome", inPlace := ["slices.overlaps[quarterdeck/api.Wait]"], unfollowed := true, recurses := true, apart := false, narrowed := true }
def WaitersComeUptoSaid : Prop := waitersComeUptoRow.holds Try.pinned (OpenSpec.upto waitersComeSpec)

/-- 'quarterdecklaw12.WaitersDo', WHERE WHAT IT READS IS OF BULK AT MOST 1048576: true; the input reads as it did. -/
def waitersDoUptoRow : OpenClaim := { program := "ytfbmgodfpjeanaa", sum := "2b8f71ed4f4e9d7592b40876b80af6daba9ad6b998dc7e36b2a27db9b5eadeaa", func := "quarterdeck/quarterdecklaw12.WaitersDo", spec := "waitersDo", inPlace := ["slices.overlaps[quarterdeck/api.Wait]"], unfollowed := true, recurses := true, apart := false, narrowed := true }
def WaitersDoUptoSaid : Prop := waitersDoUptoRow.holds Try.pinned (OpenSpec.upto waitersDoSpec)

/-- 'quarterdecklaw12.WaitersDrain', WHERE WHAT IT READS IS OF BULK AT MOST 1048576: true; the input reads as it did. -/
def waitersDrainUptoRow : OpenClaim := { program := "ytfbmgodfpjeanaa", sum := "2b8f71ed4f4e9d7592b40876b80af6daba9ad6b998dc7e36b2a27db9b5eadeaa", func := "quarterdeck/quarterdecklaw12.WaitersDrain", spec := "waitersDrain", inPlace := ["slices.overlaps[quarterdeck/api.Wait]"], unfollowed := true, recurses := true, apart := false, narrowed := true }
def WaitersDrainUptoSaid : Prop := waitersDrainUptoRow.holds Try.pinned (OpenSpec.upto waitersDrainSpec)

/-- 'quarterdecklaw16.EventWaits', WHERE WHAT IT READS IS OF BULK AT MOST 1048576: true; the input reads as it did. -/
def eventWaitsUptoRow : OpenClaim := { program := "ytfbmgodfpjeanaa", sum := "2b8f71ed4f4e9d7592b40876b80af6daba9ad6b998dc7e36b2a27db9b5eadeaa", func := "quarterdeck/quarterdecklaw16.EventWaits", spec := "eventWaits", inPlace := ["slices.overlaps[quarterdeck/api.Wait]"], unfollowed := true, recurses := true, apart := false, narrowed := true }
def EventWaitsUptoSaid : Prop := eventWaitsUptoRow.holds Try.pinned (OpenSpec.upto eventWaitsSpec)

/-- 'quarterdecklaw13.BoardDoes', WHERE WHAT IT READS IS OF BULK AT MOST 1048576: true; the input reads as it did. -/
def boardDoesUptoRow : OpenClaim := { program := "ytfbmgodfpjeanaa", sum := "2b8f71ed4f4e9d7592b40876b80af6daba9ad6b998dc7e36b2a27db9b5eadeaa", func := "quarterdeck/quarterdecklaw13.BoardDoes", spec := "boardDoes", inPlace := ["slices.overlaps[quarterdeck/api.Wait]"], unfollowed := true, recurses := true, apart := false, narrowed := true }
def BoardDoesUptoSaid : Prop := boardDoesUptoRow.holds Try.pinned (OpenSpec.upto boardDoesSpec)

/-- 'quarterdecklaw13.BoardTells', WHERE WHAT IT READS IS OF BULK AT MOST 1048576: true; the input reads as it did. -/
def boardTellsUptoRow : OpenClaim := { program := "ytfbmgodfpjeanaa", sum := "2b8f71ed4f4e9d7592b40876b80af6daba9ad6b998dc7e36b2a27db9b5eadeaa", func := "quarterdeck/quarterdecklaw13.BoardTells", spec := "boardTells", inPlace := ["slices.overlaps[quarterdeck/api.Wait]"], unfollowed := true, recurses := true, apart := false, narrowed := true }
def BoardTellsUptoSaid : Prop := boardTellsUptoRow.holds Try.pinned (OpenSpec.upto boardTellsSpec)

/-- 'quarterdecklaw13.BoardLast', WHERE WHAT IT READS IS OF BULK AT MOST 1048576: true; the input reads as it did. -/
def boardLastUptoRow : OpenClaim := { program := "ytfbmgodfpjeanaa", sum := "2b8f71ed4f4e9d7592b40876b80af6daba9ad6b998dc7e36b2a27db9b5eadeaa", func := "quarterdeck/quarterdecklaw13.BoardLast", spec := "boardLast", inPlace := ["slices.overlaps[quarterdeck/api.Wait]"], unfollowed := true, recurses := true, apart := false, narrowed := true }
def BoardLastUptoSaid : Prop := boardLastUptoRow.holds Try.pinned (OpenSpec.upto boardLastSpec)

/-- 'quarterdecklaw13.BoardOwn', WHERE WHAT IT READS IS OF BULK AT MOST 1048576: true; the input reads as it did. -/
def boardOwnUptoRow : OpenClaim := { program := "ytfbmgodfpjeanaa", sum := "2b8f71ed4f4e9d7592b40876b80af6daba9ad6b998dc7e36b2a27db9b5eadeaa", func := "quarterdeck/quarterdecklaw13.BoardOwn", spec := "boardOwn", inPlace := ["slices.overlaps[quarterdeck/api.Wait]"], unfollowed := true, recurses := true, apart := false, narrowed := true }
def BoardOwnUptoSaid : Prop := boardOwnUptoRow.holds Try.pinned (OpenSpec.upto boardOwnSpec)

/-- 'quarterdecklaw13.BoardWaits', WHERE WHAT IT READS IS OF BULK AT MOST 1048576: true; the input reads as it did. -/
def boardWaitsUptoRow : OpenClaim := { program := "ytfbmgodfpjeanaa", sum := "2b8f71ed4f4e9d7592b40876b80af6daba9ad6b998dc7e36b2a27db9b5eadeaa", func := "quarterdeck/quarterdecklaw13.BoardWaits", spec := "boardWaits", inPlace := ["slices.overlaps[quarterdeck/api.Wait]"], unfollowed := true, recurses := true, apart := false, narrowed := true }
def BoardWaitsUptoSaid : Prop := boardWaitsUptoRow.holds Try.pinned (OpenSpec.upto boardWaitsSpec)

/-- 'quarterdecklaw16.EventDoes', WHERE WHAT IT READS IS OF BULK AT MOST 1048576: true; the input reads as it did. -/
def eventDoesUptoRow : OpenClaim := { program := "ytfbmgodfpjeanaa", sum := "2b8f71ed4f4e9d7592b40876b80af6daba9ad6b998dc7e36b2a27db9b5eadeaa", func := "quarterdeck/quarterdecklaw16.EventDoes", spec := "eventDoes", inPlace := ["slices.overlaps[quarterdeck/api.Wait]"], unfollowed := true, recurses := true, apart := false, narrowed := true }
def EventDoesUptoSaid : Prop := eventDoesUptoRow.holds Try.pinned (OpenSpec.upto eventDoesSpec)

/-- 'quarterdecklaw16.EventGoes', WHERE WHAT IT READS IS OF BULK AT MOST 1048576: true; the input reads as it did. -/
def eventGoesUptoRow : OpenClaim := { program := "ytfbmgodfpjeanaa", sum := "2b8f71ed4f4e9d7592b40876b80af6daba9ad6b998dc7e36b2a27db9b5eadeaa", func := "quarterdeck/quarterdecklaw16.EventGoes", spec := "eventGoes", inPlace := ["slices.overlaps[quarterdeck/api.Wait]"], unfollowed := true, recurses := true, apart := false, narrowed := true }
def EventGoesUptoSaid : Prop := eventGoesUptoRow.holds Try.pinned (OpenSpec.upto eventGoesSpec)

/-- 'quarterdecklaw16.EventTwice', WHERE WHAT IT READS IS OF BULK AT MOST 1048576: true; the input reads as it did. -/
def eventTwiceUptoRow : OpenClaim := { program := "ytfbmgodfpjeanaa", sum := "2b8f71ed4f4e9d7592b40876b80af6daba9ad6b998dc7e36b2a27db9b5eadeaa", func := "quarterdeck/quarterdecklaw16.EventTwice", spec := "eventTwice", inPlace := ["slices.overlaps[quarterdeck/api.Wait]"], unfollowed := true, recurses := true, apart := false, narrowed := true }
def EventTwiceUptoSaid : Prop := eventTwiceUptoRow.holds Try.pinned (OpenSpec.upto eventTwiceSpec)

/-- 'quarterdecklaw16.EventOwn', WHERE WHAT IT READS IS OF BULK AT MOST 1048576: true; the input reads as it did. -/
def eventOwnUptoRow : OpenClaim := { program := "ytfbmgodfpjeanaa", sum := "2b8f71ed4f4e9d7592b40876b80af6daba9ad6b998dc7e36b2a27db9b5eadeaa", func := "quarterdeck/quarterdecklaw16.EventOwn", spec := "eventOwn", inPlace := ["slices.overlaps[quarterdeck/api.Wait]"], unfollowed := true, recurses := true, apart := false, narrowed := true }
def EventOwnUptoSaid : Prop := eventOwnUptoRow.holds Try.pinned (OpenSpec.upto eventOwnSpec)

/-- 'quarterdecklaw15.SemaDoes', WHERE WHAT IT READS IS OF BULK AT MOST 1048576: true; the input reads as it did. -/
def semaDoesUptoRow : OpenClaim := { program := "ytfbmgodfpjeanaa", sum := "2b8f71ed4f4e9d7592b40876b80af6daba9ad6b998dc7e36b2a27db9b5eadeaa", func := "quarterdeck/quarterdecklaw15.SemaDoes", spec := "semaDoes", inPlace := ["slices.overlaps[quarterdeck/api.Wait]"], unfollowed := true, recurses := true, apart := false, narrowed := true }
def SemaDoesUptoSaid : Prop := semaDoesUptoRow.holds Try.pinned (OpenSpec.upto semaDoesSpec)

/-- 'quarterdecklaw15.SemaCounts', WHERE WHAT IT READS IS OF BULK AT MOST 1048576: true; the input reads as it did. -/
def semaCountsUptoRow : OpenClaim := { program := "ytfbmgodfpjeanaa", sum := "2b8f71ed4f4e9d7592b40876b80af6daba9ad6b998dc7e36b2a27db9b5eadeaa", func := "quarterdeck/quarterdecklaw15.SemaCounts", spec := "semaCounts", inPlace := ["slices.overlaps[quarterdeck/api.Wait]"], unfollowed := true, recurses := true, apart := false, narrowed := true }
def SemaCountsUptoSaid : Prop := semaCountsUptoRow.holds Try.pinned (OpenSpec.upto semaCountsSpec)

/-- 'quarterdecklaw15.SemaFull', WHERE WHAT IT READS IS OF BULK AT MOST 1048576: true; the input reads as it did. -/
def semaFullUptoRow : OpenClaim := { program := "ytfbmgodfpjeanaa", sum := "2b8f71ed4f4e9d7592b40876b80af6daba9ad6b998dc7e36b2a27db9b5eadeaa", func := "quarterdeck/quarterdecklaw15.SemaFull", spec := "semaFull", inPlace := ["slices.overlaps[quarterdeck/api.Wait]"], unfollowed := true, recurses := true, apart := false, narrowed := true }
def SemaFullUptoSaid : Prop := semaFullUptoRow.holds Try.pinned (OpenSpec.upto semaFullSpec)

/-- 'quarterdecklaw15.SemaRanks', WHERE WHAT IT READS IS OF BULK AT MOST 1048576: true; the input reads as it did. -/
def semaRanksUptoRow : OpenClaim := { program := "ytfbmgodfpjeanaa", sum := "2b8f71ed4f4e9d7592b40876b80af6daba9ad6b998dc7e36b2a27db9b5eadeaa", func := "quarterdeck/quarterdecklaw15.SemaRanks", spec := "semaRanks", inPlace := ["slices.overlaps[quarterdeck/api.Wait]"], unfollowed := true, recurses := true, apart := false, narrowed := true }
def SemaRanksUptoSaid : Prop := semaRanksUptoRow.holds Try.pinned (OpenSpec.upto semaRanksSpec)

/-- 'quarterdecklaw15.SemaOwn', WHERE WHAT IT READS IS OF BULK AT MOST 1048576: true; the input reads as it did. -/
def semaOwnUptoRow : OpenClaim := { program := "ytfbmgodfpjeanaa", sum := "2b8f71ed4f4e9d7592b40876b80af6daba9ad6b998dc7e36b2a27db9b5eadeaa", func := "quarterdeck/quarterdecklaw15.SemaOwn", spec := "semaOwn", inPlace := ["slices.overlaps[quarterdeck/api.Wait]"], unfollowed := true, recurses := true, apart := false, narrowed := true }
def SemaOwnUptoSaid : Prop := semaOwnUptoRow.holds Try.pinned (OpenSpec.upto semaOwnSpec)

/-- 'quarterdecklaw14.BufferDoes', WHERE WHAT IT READS IS OF BULK AT MOST 1048576: true; the input reads as it did. -/
def bufferDoesUptoRow : OpenClaim := { program := "ytfbmgodfpjeanaa", sum := "2b8f71ed4f4e9d7592b40876b80af6daba9ad6b998dc7e36b2a27db9b5eadeaa", func := "quarterdeck/quarterdecklaw14.BufferDoes", spec := "bufferDoes", inPlace := ["slices.overlaps[quarterdeck/api.Wait]"], unfollowed := true, recurses := true, apart := false, narrowed := true }
def BufferDoesUptoSaid : Prop := bufferDoesUptoRow.holds Try.pinned (OpenSpec.upto bufferDoesSpec)

/-- 'quarterdecklaw14.BufferOrder', WHERE WHAT IT READS IS OF BULK AT MOST 1048576: true; the input reads as it did. -/
def bufferOrderUptoRow : OpenClaim := { program := "ytfbmgodfpjeanaa", sum := "2b8f71ed4f4e9d7592b40876b80af6daba9ad6b998dc7e36b2a27db9b5eadeaa", func := "quarterdeck/quarterdecklaw14.BufferOrder", spec := "bufferOrder", inPlace := ["slices.overlaps[quarterdeck/api.Wait]"], unfollowed := true, recurses := true, apart := false, narrowed := true }
def BufferOrderUptoSaid : Prop := bufferOrderUptoRow.holds Try.pinned (OpenSpec.upto bufferOrderSpec)

/-- 'quarterdecklaw14.BufferFull', WHERE WHAT IT READS IS OF BULK AT MOST 1048576: true; the input reads as it did. -/
def bufferFullUptoRow : OpenClaim := { program := "ytfbmgodfpjeanaa", sum := "2b8f71ed4f4e9d7592b40876b80af6daba9ad6b998dc7e36b2a27db9b5eadeaa", func := "quarterdeck/quarterdecklaw14.BufferFull", spec := "bufferFull", inPlace := ["slices.overlaps[quarterdeck/api.Wait]"], unfollowed := true, recurses := true, apart := false, narrowed := true }
def BufferFullUptoSaid : Prop := bufferFullUptoRow.holds Try.pinned (OpenSpec.upto bufferFullSpec)

/-- 'quarterdecklaw14.BufferRanks', WHERE WHAT IT READS IS OF BULK AT MOST 1048576: true; the input reads as it did. -/
def bufferRanksUptoRow : OpenClaim := { program := "ytfbmgodfpjeanaa", sum := "2b8f71ed4f4e9d7592b40876b80af6daba9ad6b998dc7e36b2a27db9b5eadeaa", func := "quarterdeck/quarterdecklaw14.BufferRanks", spec := "bufferRanks", inPlace := ["slices.overlaps[quarterdeck/api.Wait]"], unfollowed := true, recurses := true, apart := false, narrowed := true }
def BufferRanksUptoSaid : Prop := bufferRanksUptoRow.holds Try.pinned (OpenSpec.upto bufferRanksSpec)

/-- 'quarterdecklaw14.BufferOwn', WHERE WHAT IT READS IS OF BULK AT MOST 1048576: true; the input reads as it did. -/
def bufferOwnUptoRow : OpenClaim := { program := "ytfbmgodfpjeanaa", sum := "2b8f71ed4f4e9d7592b40876b80af6daba9ad6b998dc7e36b2a27db9b5eadeaa", func := "quarterdeck/quarterdecklaw14.BufferOwn", spec := "bufferOwn", inPlace := ["slices.overlaps[quarterdeck/api.Wait]"], unfollowed := true, recurses := true, apart := false, narrowed := true }
def BufferOwnUptoSaid : Prop := bufferOwnUptoRow.holds Try.pinned (OpenSpec.upto bufferOwnSpec)

end Rows
end Go.Proofs.Ytfbmgodfpjeanaa
