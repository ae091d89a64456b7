/-
  No cell of these rows narrows 'for every input' (looked for: loops, veiled, ifaces, maps, wideKeys, modest, calm, conditions, laid).
  DERIVED. THE GIVEN ROWS OF THIS SEAT. 13 by the template 'for every input the law returns true; each argument reads behind the call as it read before'; 0 by the template 'total and deterministic' (their statements: YtkenbgmadkelcaaTotals.lean).
  GIVEN WITH THE SEED: the statements are not yours to turn. If you find one false, say at which input.
  Laid BY PROGRAM, IN A SANDBOX (cutbox-rows.mjs): the forced cells as the released guide's own fill.sh prints them over the translation df77db708ab2d1c3… (all of the seat's roots in one cut). By AI agents, Wed Nov 11 2026. No macro, syntax, notation, axiom, sorry.
-/
import Derived.Test.YtkenbgmadkelcaaChecked
import GoSem.Claim
import GoSem.ClaimJoined
import GoSem.ClaimMapViews
import Derived.JoinedTies
import Derived.KernelRfl
namespace Go.Proofs.Ytkenbgmadkelcaa
/- THE CELL 'sum', in the pinned program and in every row, IS THE sha256 OF THE DUMP (.gsa) THAT YtkenbgmadkelcaaProg.lean LOADS. Nothing in Lean hashes anything: it is a label: what it is worth is what the hold of that sum in a sandbox is worth. -/
noncomputable def Try.pinned : Pinned := { name := "ytkenbgmadkelcaa", sum := "df77db708ab2d1c31317777d958de531ce62e9ba77c7318b9b1b163f22cc110a", checked := Try.checked }
namespace Rows
def none {H : Type} : Left H := { results := [], args := [] }

/-- 'quarterdecklaw10.ProcsStarts': WHATEVER THE INPUT: true; the input reads as it did. -/
def procsStartsSpec : ChangeSpec := { name := "procsStarts", fn := fun _ => fun
  | [d1, d2, d3, d4] => { results := [.lit (.bool true)], args := [d1, d2, d3, d4] }
  | _ => none }
def procsStartsRow : OpenClaim := { program := "ytkenbgmadkelcaa", sum := "df77db708ab2d1c31317777d958de531ce62e9ba77c7318b9b1b163f22cc110a", func := "quarterdeck/quarterdecklaw10.ProcsStarts", spec := "procsStarts", unfollowed := true, recurses := true, apart := false }
def ProcsStartsSaid : Prop := procsStartsRow.holds Try.pinned (OpenSpec.ofChange procsStartsSpec)

/-- ITS FALSE NEIGHBOUR: 'it returns false'. Refute it at one input. -/
def procsStartsWrong : ChangeSpec := { name := "procsStarts", fn := fun _ => fun
  | [d1, d2, d3, d4] => { results := [.lit (.bool false)], args := [d1, d2, d3, d4] }
  | _ => none }
def ProcsStartsWrongFalsely : Prop := procsStartsRow.holds Try.pinned (OpenSpec.ofChange procsStartsWrong)

/-- 'quarterdecklaw10.ProcsWait': WHATEVER THE INPUT: true; the input reads as it did. -/
def procsWaitSpec : ChangeSpec := { name := "procsWait", fn := fun _ => fun
  | [d1, d2, d3, d4, d5, d6] => { results := [.lit (.bool true)], args := [d1, d2, d3, d4, d5, d6] }
  | _ => none }
def procsWaitRow : OpenClaim := { program := "ytkenbgmadkelcaa", sum := "df77db708ab2d1c31317777d958de531ce62e9ba77c7318b9b1b163f22cc110a", func := "quarterdeck/quarterdecklaw10.ProcsWait", spec := "procsWait", unfollowed := true, recurses := true, apart := false }
def ProcsWaitSaid : Prop := procsWaitRow.holds Try.pinned (OpenSpec.ofChange procsWaitSpec)

/-- ITS FALSE NEIGHBOUR: 'it returns false'. Refute it at one input. -/
def procsWaitWrong : ChangeSpec := { name := "procsWait", fn := fun _ => fun
  | [d1, d2, d3, d4, d5, d6] => { results := [.lit (.bool false)], args := [d1, d2, d3, d4, d5, d6] }
  | _ => none }
def ProcsWaitWrongFalsely : Prop := procsWaitRow.holds Try.pinned (OpenSpec.ofChange procsWaitWrong)

/-- 'quarterdecklaw10.ProcsGoes': WHATEVER THE INPUT: true; the input reads as it did. -/
def procsGoesSpec : ChangeSpec := { name := "procsGoes", fn := fun _ => fun
  | [d1, d2, d3, d4] => { results := [.lit (.bool true)], args := [d1, d2, d3, d4] }
  | _ => none }
def procsGoesRow : OpenClaim := { program := "ytkenbgmadkelcaa", sum := "df77db708ab2d1c31317777d958de531ce62e9ba77c7318b9b1b163f22cc110a", func := "quarterdeck/quarterdecklaw10.ProcsGoes", spec := "procsGoes", unfollowed := true, recurses := true, apart := false }
def ProcsGoesSaid : Prop := procsGoesRow.holds Try.pinned (OpenSpec.ofChange procsGoesSpec)

/-- ITS FALSE NEIGHBOUR: 'it returns false'. Refute it at one input. -/
def procsGoesWrong : ChangeSpec := { name := "procsGoes", fn := fun _ => fun
  | [d1, d2, d3, d4] => { results := [.lit (.bool false)], args := [d1, d2, d3, d4] }
  | _ => none }
def ProcsGoesWrongFalsely : Prop := procsGoesRow.holds Try.pinned (OpenSpec.ofChange procsGoesWrong)

/-- 'quarterdecklaw10.ProcsSuspends': WHATEVER THE INPUT: true; the input reads as it did. -/
def procsSuspendsSpec : ChangeSpec := { name := "procsSuspends", fn := fun _ => fun
  | [d1, d2, d3] => { results := [.lit (.bool true)], args := [d1, d2, d3] }
  | _ => none }
def procsSuspendsRow : OpenClaim := { program := "ytkenbgmadkelcaa", sum := "df77db708ab2d1c31317777d958de531ce62e9ba77c7318b9b1b163f22cc110a", func := "quarterdeck/quarterdecklaw10.ProcsSuspends", spec := "procsSuspends", unfollowed := true, recurses := true, apart := false }
def ProcsSuspendsSaid : Prop := procsSuspendsRow.holds Try.pinned (OpenSpec.ofChange procsSuspendsSpec)

/-- ITS FALSE NEIGHBOUR: 'it returns false'. Refute it at one input. -/
def procsSuspendsWrong : ChangeSpec := { name := "procsSuspends", fn := fun _ => fun
  | [d1, d2, d3] => { results := [.lit (.bool false)], args := [d1, d2, d3] }
  | _ => none }
def ProcsSuspendsWrongFalsely : Prop := procsSuspendsRow.holds Try.pinned (OpenSpec.ofChange procsSuspendsWrong)

/-- 'quarterdecklaw10.ProcsChange': WHATEVER THE INPUT: true; the input reads as it did. -/
def procsChangeSpec : ChangeSpec := { name := "procsChange", fn := fun _ => fun
  | [d1, d2, d3, d4] => { results := [.lit (.bool true)], args := [d1, d2, d3, d4] }
  | _ => none }
def procsChangeRow : OpenClaim := { program := "ytkenbgmadkelcaa", sum := "df77db708ab2d1c31317777d958de531ce62e9ba77c7318b9b1b163f22cc110a", func := "quarterdeck/quarterdecklaw10.ProcsChange", spec := "procsChange", unfollowed := true, recurses := true, apart := false }
def ProcsChangeSaid : Prop := procsChangeRow.holds Try.pinned (OpenSpec.ofChange procsChangeSpec)

/-- ITS FALSE NEIGHBOUR: 'it returns false'. Refute it at one input. -/
def procsChangeWrong : ChangeSpec := { name := "procsChange", fn := fun _ => fun
  | [d1, d2, d3, d4] => { results := [.lit (.bool false)], args := [d1, d2, d3, d4] }
  | _ => none }
def ProcsChangeWrongFalsely : Prop := procsChangeRow.holds Try.pinned (OpenSpec.ofChange procsChangeWrong)

/-- 'quarterdecklaw10.ProcsOthers': WHATEVER THE INPUT: true; the input reads as it did. -/
def procsOthersSpec : ChangeSpec := { name := "procsOthers", fn := fun _ => fun
  | [d1, d2, d3, d4, d5] => { results := [.lit (.bool true)], args := [d1, d2, d3, d4, d5] }
  | _ => none }
def procsOthersRow : OpenClaim := { program := "ytkenbgmadkelcaa", sum := "df77db708ab2d1c31317777d958de531ce62e9ba77c7318b9b1b163f22cc110a", func := "quarterdeck/quarterdecklaw10.ProcsOthers", spec := "procsOthers", unfollowed := true, recurses := true, apart := false }
def ProcsOthersSaid : Prop := procsOthersRow.holds Try.pinned (OpenSpec.ofChange procsOthersSpec)

/-- ITS FALSE NEIGHBOUR: 'it returns false'. Refute it at one input. -/
def procsOthersWrong : ChangeSpec := { name := "procsOthers", fn := fun _ => fun
  | [d1, d2, d3, d4, d5] => { results := [.lit (.bool false)], args := [d1, d2, d3, d4, d5] }
  | _ => none }
def ProcsOthersWrongFalsely : Prop := procsOthersRow.holds Try.pinned (OpenSpec.ofChange procsOthersWrong)

/-- 'quarterdecklaw10.ProcsOwn': WHATEVER THE INPUT: true; the input reads as it did. -/
def procsOwnSpec : ChangeSpec := { name := "procsOwn", fn := fun _ => fun
  | [d1, d2, d3, d4] => { results := [.lit (.bool true)], args := [d1, d2, d3, d4] }
  | _ => none }
def procsOwnRow : OpenClaim := { program := "ytkenbgmadkelcaa", sum := "df77db708ab2d1c31317777d958de531ce62e9ba77c7318b9b1b163f22cc110a", func := "quarterdeck/quarterdecklaw10.ProcsOwn", spec := "procsOwn", unfollowed := true, recurses := true, apart := false }
def ProcsOwnSaid : Prop := procsOwnRow.holds Try.pinned (OpenSpec.ofChange procsOwnSpec)

/-- ITS FALSE NEIGHBOUR: 'it returns false'. Refute it at one input. -/
def procsOwnWrong : ChangeSpec := { name := "procsOwn", fn := fun _ => fun
  | [d1, d2, d3, d4] => { results := [.lit (.bool false)], args := [d1, d2, d3, d4] }
  | _ => none }
def ProcsOwnWrongFalsely : Prop := procsOwnRow.holds Try.pinned (OpenSpec.ofChange procsOwnWrong)

/-- 'quarterdecklaw11.TimesDelays': WHATEVER THE INPUT: true; the input reads as it did. -/
def timesDelaysSpec : ChangeSpec := { name := "timesDelays", fn := fun _ => fun
  | [d1, d2, d3, d4, d5] => { results := [.lit (.bool true)], args := [d1, d2, d3, d4, d5] }
  | _ => none }
def timesDelaysRow : OpenClaim := { program := "ytkenbgmadkelcaa", sum := "df77db708ab2d1c31317777d958de531ce62e9ba77c7318b9b1b163f22cc110a", func := "quarterdeck/quarterdecklaw11.TimesDelays", spec := "timesDelays", unfollowed := true, recurses := true, apart := false }
def TimesDelaysSaid : Prop := timesDelaysRow.holds Try.pinned (OpenSpec.ofChange timesDelaysSpec)

/-- ITS FALSE NEIGHBOUR: 'it returns false'. Refute it at one input. -/
def timesDelaysWrong : ChangeSpec := { name := "timesDelays", fn := fun _ => fun
  | [d1, d2, d3, d4, d5] => { results := [.lit (.bool false)], args := [d1, d2, d3, d4, d5] }
  | _ => none }
def TimesDelaysWrongFalsely : Prop := timesDelaysRow.holds Try.pinned (OpenSpec.ofChange timesDelaysWrong)

/-- 'quarterdecklaw11.TimesPeriods': WHATEVER THE INPUT: true; the input reads as it did. -/
def timesPeriodsSpec : ChangeSpec := { name := "timesPeriods", fn := fun _ => fun
  | [d1, d2, d3, d4] => { results := [.lit (.bool true)], args := [d1, d2, d3, d4] }
  | _ => none }
def timesPeriodsRow : OpenClaim := { program := "ytkenbgmadkelcaa", sum := "df77db708ab2d1c31317777d958de531ce62e9ba77c7318b9b1b163f22cc110a", func := "quarterdeck/quarterdecklaw11.TimesPeriods", spec := "timesPeriods", unfollowed := true, recurses := true, apart := false }
def TimesPeriodsSaid : Prop := timesPeriodsRow.holds Try.pinned (OpenSpec.ofChange timesPeriodsSpec)

/-- ITS FALSE NEIGHBOUR: 'it returns false'. Refute it at one input. -/
def timesPeriodsWrong : ChangeSpec := { name := "timesPeriods", fn := fun _ => fun
  | [d1, d2, d3, d4] => { results := [.lit (.bool false)], args := [d1, d2, d3, d4] }
  | _ => none }
def TimesPeriodsWrongFalsely : Prop := timesPeriodsRow.holds Try.pinned (OpenSpec.ofChange timesPeriodsWrong)

/-- 'quarterdecklaw11.TimesWake': WHATEVER THE INPUT: true; the input reads as it did. -/
def timesWakeSpec : ChangeSpec := { name := "timesWake", fn := fun _ => fun
  | [d1, d2, d3] => { results := [.lit (.bool true)], args := [d1, d2, d3] }
  | _ => none }
def timesWakeRow : OpenClaim := { program := "ytkenbgmadkelcaa", sum := "df77db708ab2d1c31317777d958de531ce62e9ba77c7318b9b1b163f22cc110a", func := "quarterdeck/quarterdecklaw11.TimesWake", spec := "timesWake", unfollowed := true, recurses := true, apart := false }
def TimesWakeSaid : Prop := timesWakeRow.holds Try.pinned (OpenSpec.ofChange timesWakeSpec)

/-- ITS FALSE NEIGHBOUR: 'it returns false'. Refute it at one input. -/
def timesWakeWrong : ChangeSpec := { name := "timesWake", fn := fun _ => fun
  | [d1, d2, d3] => { results := [.lit (.bool false)], args := [d1, d2, d3] }
  | _ => none }
def TimesWakeWrongFalsely : Prop := timesWakeRow.holds Try.pinned (OpenSpec.ofChange timesWakeWrong)

/-- 'quarterdecklaw11.TimesOnce': WHATEVER THE INPUT: true; the input reads as it did. -/
def timesOnceSpec : ChangeSpec := { name := "timesOnce", fn := fun _ => fun
  | [d1, d2, d3] => { results := [.lit (.bool true)], args := [d1, d2, d3] }
  | _ => none }
def timesOnceRow : OpenClaim := { program := "ytkenbgmadkelcaa", sum := "df77db708ab2d1c31317777d958de531ce62e9ba77c7318b9b1b163f22cc110a", func := "quarterdeck/quarterdecklaw11.TimesOnce", spec := "timesOnce", unfollowed := true, recurses := true, apart := false }
def TimesOnceSaid : Prop := timesOnceRow.holds Try.pinned (OpenSpec.ofChange timesOnceSpec)

/-- ITS FALSE NEIGHBOUR: 'it returns false'. Refute it at one input. -/
def timesOnceWrong : ChangeSpec := { name := "timesOnce", fn := fun _ => fun
  | [d1, d2, d3] => { results := [.lit (.bool false)], args := [d1, d2, d3] }
  | _ => none }
def TimesOnceWrongFalsely : Prop := timesOnceRow.holds Try.pinned (OpenSpec.ofChange timesOnceWrong)

/-- 'quarterdecklaw11.TimesAsk': WHATEVER THE INPUT: true; the input reads as it did. -/
def timesAskSpec : ChangeSpec := { name := "timesAsk", fn := fun _ => fun
  | [d1, d2, d3, d4, d5] => { results := [.lit (.bool true)], args := [d1, d2, d3, d4, d5] }
  | _ => none }
def timesAskRow : OpenClaim := { program := "ytkenbgmadkelcaa", sum := "df77db708ab2d1c31317777d958de531ce62e9ba77c7318b9b1b163f22cc110a", func := "quarterdeck/quarterdecklaw11.TimesAsk", spec := "timesAsk", unfollowed := true, recurses := true, apart := false }
def TimesAskSaid : Prop := timesAskRow.holds Try.pinned (OpenSpec.ofChange timesAskSpec)

/-- ITS FALSE NEIGHBOUR: 'it returns false'. Refute it at one input. -/
def timesAskWrong : ChangeSpec := { name := "timesAsk", fn := fun _ => fun
  | [d1, d2, d3, d4, d5] => { results := [.lit (.bool false)], args := [d1, d2, d3, d4, d5] }
  | _ => none }
def TimesAskWrongFalsely : Prop := timesAskRow.holds Try.pinned (OpenSpec.ofChange timesAskWrong)

/-- 'quarterdecklaw11.TimesReplenished': WHATEVER THE INPUT: true; the input reads as it did. -/
def timesReplenishedSpec : ChangeSpec := { name := "timesReplenished", fn := fun _ => fun
  | [d1, d2, d3, d4, d5] => { results := [.lit (.bool true)], args := [d1, d2, d3, d4, d5] }
  | _ => none }
def timesReplenishedRow : OpenClaim := { program := "ytkenbgmadkelcaa", sum := "df77db708ab2d1c31317777d958de531ce62e9ba77c7318b9b1b163f22cc110a", func := "quarterdeck/quarterdecklaw11.TimesReplenished", spec := "timesReplenished", unfollowed := true, recurses := true, apart := false }
def TimesReplenishedSaid : Prop := timesReplenishedRow.holds Try.pinned (OpenSpec.ofChange timesReplenishedSpec)

/-- ITS FALSE NEIGHBOUR: 'it returns false'. Refute it at one input. -/
def timesReplenishedWrong : ChangeSpec := { name := "timesReplenished", fn := fun _ => fun
  | [d1, d2, d3, d4, d5] => { results := [.lit (.bool false)], args := [d1, d2, d3, d4, d5] }
  | _ => none }
def TimesReplenishedWrongFalsely : Prop := timesReplenishedRow.holds Try.pinned (OpenSpec.ofChange timesReplenishedWrong)

/- THE SECOND FORM. 'bulk': how many values and letters a reading holds, each counted each time it is reached (what is shared counts as often as it is met; a slice's spare places count too). A statement '..UptoSaid' is the law's where the arguments, and the package variables that the reading takes, are together of bulk at most 1048576: NARROWER than '..Said'. Prove '..Said' where nothing that the law and all that it calls make is longer than what came in: it says more and counts as full. Else prove '..UptoSaid'. A law counts once. -/
mutual
def uptoBulk {H : Type} : DataW H → Nat
  | .lit (.string bytes) => bytes.length + 1
  | .lit _ => 1
  | .nil => 1
  | .ptr d => uptoBulk d + 1
  | .slice elems spare => uptoBulkAll elems + uptoBulkAll spare + 1
  | .agg parts => uptoBulkAll parts + 1
  | .iface _ d => uptoBulk d + 1
  | .map entries => uptoBulkEntries entries + 1
  | .held _ => 1
def uptoBulkAll {H : Type} : List (DataW H) → Nat
  | [] => 0
  | d :: r => uptoBulk d + uptoBulkAll r
def uptoBulkEntries {H : Type} : List (Lit × DataW H) → Nat
  | [] => 0
  | x :: r => uptoBulkEntry x + uptoBulkEntries r
def uptoBulkEntry {H : Type} : Lit × DataW H → Nat
  | (.string bytes, d) => bytes.length + uptoBulk d + 1
  | (_, d) => uptoBulk d + 1
 end
def uptoSmall : (H : Type) → List (DataW H) → Bool := fun _ ds => decide (uptoBulkAll ds ≤ 1048576)
def OpenSpec.upto (s : _root_.Go.ChangeSpec) : _root_.Go.OpenSpec := { _root_.Go.OpenSpec.ofChange s with cond := some uptoSmall }

/-- 'quarterdecklaw10.ProcsStarts', WHERE WHAT IT READS IS OF BULK AT MOST 1048576: true; the input reads as it did. -/
def procsStartsUptoRow : OpenClaim := { program := "ytkenbgmadkelcaa", sum := "df77db708ab2d1c31317777d958de531ce62e9ba77c7318b9b1b163f22cc110a", func := "quarterdeck/quarterdecklaw10.ProcsStarts", spec := "procsStarts", unfollowed := true, recurses := true, apart := false, narrowed := true }
def ProcsStartsUptoSaid : Prop := procsStartsUptoRow.holds Try.pinned (OpenSpec.upto procsStartsSpec)

/-- 'quarterdecklaw10.ProcsWait', WHERE WHAT IT READS IS OF BULK AT MOST 1048576: true; the input reads as it did. -/
def procsWaitUptoRow : OpenClaim := { program := "ytkenbgmadkelcaa", sum := "df77db708ab2d1c31317777d958de531ce62e9ba77c7318b9b1b163f22cc110a", func := "quarterdeck/quarterdecklaw10.ProcsWait", spec := "procsWait", unfollowed := true, recurses := true, apart := false, narrowed := true }
def ProcsWaitUptoSaid : Prop := procsWaitUptoRow.holds Try.pinned (OpenSpec.upto procsWaitSpec)

/-- 'quarterdecklaw10.ProcsGoes', WHERE WHAT IT READS IS OF BULK AT MOST 1048576: true; the input reads as it did. -/
def procsGoesUptoRow : OpenClaim := { program := "ytkenbgmadkelcaa", sum := "df77db708ab2d1c31317777d958de531ce62e9ba77c7318b9b1b163f22cc110a", func := "quarterdeck/quarterdecklaw10.ProcsGoes", spec := "procsGoes", unfollowed := true, recurses := true, apart := false, narrowed := true }
def ProcsGoesUptoSaid : Prop := procsGoesUptoRow.holds Try.pinned (OpenSpec.upto procsGoesSpec)

/-- 'quarterdecklaw10.ProcsSuspends', WHERE WHAT IT READS IS OF BULK AT MOST 1048576: true; the input reads as it did. -/
def procsSuspendsUptoRow : OpenClaim := { program := "ytkenbgmadkelcaa", sum := "df77db708ab2d1c31317777d958de531ce62e9ba77c7318b9b1b163f22cc110a", func := "quarterdeck/quarterdecklaw10.ProcsSuspends", spec := "procsSuspends", unfollowed := true, recurses := true, apart := false, narrowed := true }
def ProcsSuspendsUptoSaid : Prop := procsSuspendsUptoRow.holds Try.pinned (OpenSpec.upto procsSuspendsSpec)

/-- 'quarterdecklaw10.ProcsChange', WHERE WHAT IT READS IS OF BULK AT MOST 1048576: true; the input reads as it did. -/
def procsChangeUptoRow : OpenClaim := { program := "ytkenbgmadkelcaa", sum := "df77db708ab2d1c31317777d958de531ce62e9ba77c7318b9b1b163f22cc110a", func := "quarterdeck/quarterdecklaw10.ProcsChange", spec := "procsChange", unfollowed := true, recurses := true, apart := false, narrowed := true }
def ProcsChangeUptoSaid : Prop := procsChangeUptoRow.holds Try.pinned (OpenSpec.upto procsChangeSpec)

/-- 'quarterdecklaw10.ProcsOthers', WHERE WHAT IT READS IS OF BULK AT MOST 1048576: true; the input reads as it did. -/
def procsOthersUptoRow : OpenClaim := { program := "ytkenbgmadkelcaa", sum := "df77db708ab2d1c31317777d958de531ce62e9ba77c7318b9b1b163f22cc110a", func := "quarterdeck/quarterdecklaw10.ProcsOthers", spec := "procsOthers", unfollowed := true, recurses := true, apart := false, narrowed := true }
def ProcsOthersUptoSaid : Prop := procsOthersUptoRow.holds Try.pinned (OpenSpec.upto procsOthersSpec)

/-- 'quarterdecklaw10.ProcsOwn', WHERE WHAT IT READS IS OF BULK AT MOST 1048576: true; the input reads as it did. -/
def procsOwnUptoRow : OpenClaim := { program := "ytkenbgmadkelcaa", sum := "df77db708ab2d1c31317777d958de531ce62e9ba77c7318b9b1b163f22cc110a", func := "quarterdeck/quarterdecklaw10.ProcsOwn", spec := "procsOwn", unfollowed := true, recurses := true, apart := false, narrowed := true }
def ProcsOwnUptoSaid : Prop := procsOwnUptoRow.holds Try.pinned (OpenSpec.upto procsOwnSpec)

/-- 'quarterdecklaw11.TimesDelays', WHERE WHAT IT READS IS OF BULK AT MOST 1048576: true; the input reads as it did. -/
def timesDelaysUptoRow : OpenClaim := { program := "ytkenbgmadkelcaa", sum := "df77db708ab2d1c31317777d958de531ce62e9ba77c7318b9b1b163f22cc110a", func := "quarterdeck/quarterdecklaw11.TimesDelays", spec := "timesDelays", unfollowed := true, recurses := true, apart := false, narrowed := true }
def TimesDelaysUptoSaid : Prop := timesDelaysUptoRow.holds Try.pinned (OpenSpec.upto timesDelaysSpec)

/-- 'quarterdecklaw11.TimesPeriods', WHERE WHAT IT READS IS OF BULK AT MOST 1048576: true; the input reads as it did. -/
def timesPeriodsUptoRow : OpenClaim := { program := "ytkenbgmadkelcaa", sum := "df77db708ab2d1c31317777d958de531ce62e9ba77c7318b9b1b163f22cc110a", func := "quarterdeck/quarterdecklaw11.TimesPeriods", spec := "timesPeriods", unfollowed := true, recurses := true, apart := false, narrowed := true }
def TimesPeriodsUptoSaid : Prop := timesPeriodsUptoRow.holds Try.pinned (OpenSpec.upto timesPeriodsSpec)

/-- 'quarterdecklaw11.TimesWake', WHERE WHAT IT READS IS OF BULK AT MOST 1048576: true; the input reads as it did. -/
def timesWakeUptoRow : OpenClaim := { program := "ytkenbgmadkelcaa", sum := "df77db708ab2d1c31317777d958de531ce62e9ba77c7318b9b1b163f22cc110a", func := "quarterdeck/quarterdecklaw11.TimesWake", spec := "timesWake", unfollowed := true, recurses := true, apart := false, narrowed := true }
def TimesWakeUptoSaid : Prop := timesWakeUptoRow.holds Try.pinned (OpenSpec.upto timesWakeSpec)

/-- 'quarterdecklaw11.TimesOnce', WHERE WHAT IT READS IS OF BULK AT MOST 1048576: true; the input reads as it did. -/
def timesOnceUptoRow : OpenClaim := { program := "ytkenbgmadkelcaa", sum := "df77db708ab2d1c31317777d958de531ce62e9ba77c7318b9b1b163f22cc110a", func := "quarterdeck/quarterdecklaw11.TimesOnce", spec := "timesOnce", unfollowed := true, recurses := true, apart := false, narrowed := true }
def TimesOnceUptoSaid : Prop := timesOnceUptoRow.holds Try.pinned (OpenSpec.upto timesOnceSpec)

/-- 'quarterdecklaw11.TimesAsk', WHERE WHAT IT READS IS OF BULK AT MOST 1048576: true; the input reads as it did. -/
def timesAskUptoRow : OpenClaim := { program := "ytkenbgmadkelcaa", sum := "df77db708ab2d1c31317777d958de531ce62e9ba77c7318b9b1b163f22cc110a", func := "quarterdeck/quarterdecklaw11.TimesAsk", spec := "timesAsk", unfollowed := true, recurses := true, apart := false, narrowed := true }
def TimesAskUptoSaid : Prop := timesAskUptoRow.holds Try.pinned (OpenSpec.upto timesAskSpec)

/-- 'quarterdecklaw11.TimesReplenished', WHERE WHAT IT READS IS OF BULK AT MOST 1048576: true; the input reads as it did. -/
def timesReplenishedUptoRow : OpenClaim := { program := "ytkenbgmadkelcaa", sum := "df77db708ab2d1c31317777d958de531ce62e9ba77c7318b9b1b163f22cc110a", func := "quarterdeck/quarterdecklaw11.TimesReplenished", spec := "timesReplenished", unfollowed := true, recurses := true, apart := false, narrowed := true }
def TimesReplenishedUptoSaid : Prop := timesReplenishedUptoRow.holds Try.pinned (OpenSpec.upto timesReplenishedSpec)

end Rows
end Go.Proofs.Ytkenbgmadkelcaa
