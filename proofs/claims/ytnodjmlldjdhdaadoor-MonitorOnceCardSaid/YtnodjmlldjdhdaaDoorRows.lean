/-
  NARROWER THAN 'FOR EVERY INPUT', by the rows' own cells (each row's printed sentence says how): MonitorActs: laid · MonitorOnce: laid · MonitorTable: laid · MonitorWhom: laid.
  DERIVED. THE GIVEN ROWS OF THIS SEAT. 4 by the template 'for every input the law returns true; each argument reads behind the call as it read before'; 0 by the template 'total and deterministic' (their statements: YtnodjmlldjdhdaaDoorTotals.lean).
  GIVEN WITH THE SEED: the statements are not yours to turn. If you find one false, say at which input.
  Laid BY PROGRAM, IN A SANDBOX (cutbox-rows.mjs): the forced cells as the released guide's own fill.sh prints them over the translation 93e9b7030d90ab3d… (all of the seat's roots in one cut). By AI agents, Wed Nov 11 2026. No macro, syntax, notation, axiom, sorry.
-/
import Derived.Test.YtnodjmlldjdhdaaDoorChecked
import GoSem.Claim
import GoSem.ClaimJoined
import GoSem.ClaimMapViews
import Derived.JoinedTies
import Derived.KernelRfl
namespace Go.Proofs.YtnodjmlldjdhdaaDoor
/- THE CELL 'sum', in the pinned program and in every row, IS THE sha256 OF THE DUMP (.gsa) THAT YtnodjmlldjdhdaaDoorProg.lean LOADS. Nothing in Lean hashes anything: it is a label: what it is worth is what the hold of that sum in a sandbox is worth. -/
noncomputable def Tryd.pinned : Pinned := { name := "ytnodjmlldjdhdaadoor", sum := "93e9b7030d90ab3d7873c0ad0b2bd871b99f886c8cde84a80b85fbce5b838023", checked := Tryd.checked }
namespace Rows
def none {H : Type} : Left H := { results := [], args := [] }

/- WHAT THE LISTED PACKAGE-LEVEL VARIABLES READ AS WHEN THE CALL BEGINS. Each datum BY PROGRAM (the guide's laid-datum.mjs) off the statement by which the dump's own 'gosem.cut.vars' lays the variable. In a bare row this is a premise. The card (YtnodjmlldjdhdaaDoorCards.lean) ties it to the program's text. -/
def laid_quarterdeck_monitor_concerns {H : Type} : DataW H := .agg [.lit (.bool false), .lit (.bool true), .lit (.bool true), .lit (.bool false), .lit (.bool false)]

/-- 'quarterdecklaw20.MonitorActs': WHATEVER THE INPUT: true; the input reads as it did. -/
def monitorActsSpec : ChangeSpec := { name := "monitorActs", fn := fun _ => fun
  | [d1, d2, d3] => { results := [.lit (.bool true)], args := [d1, d2, d3] }
  | _ => none }
def monitorActsRow : OpenClaim := { program := "ytnodjmlldjdhdaadoor", sum := "93e9b7030d90ab3d7873c0ad0b2bd871b99f886c8cde84a80b85fbce5b838023", func := "quarterdeck/quarterdecklaw20.MonitorActs", spec := "monitorActs", named := ["quarterdeck/monitor.concerns"], apart := false, laid := [("quarterdeck/monitor.concerns", laid_quarterdeck_monitor_concerns)] }
def MonitorActsSaid : Prop := monitorActsRow.holds Tryd.pinned (OpenSpec.ofChange monitorActsSpec)

/-- ITS FALSE NEIGHBOUR: 'it returns false'. Refute it at one input. -/
def monitorActsWrong : ChangeSpec := { name := "monitorActs", fn := fun _ => fun
  | [d1, d2, d3] => { results := [.lit (.bool false)], args := [d1, d2, d3] }
  | _ => none }
def MonitorActsWrongFalsely : Prop := monitorActsRow.holds Tryd.pinned (OpenSpec.ofChange monitorActsWrong)

/-- 'quarterdecklaw20.MonitorOnce': WHATEVER THE INPUT: true; the input reads as it did. -/
def monitorOnceSpec : ChangeSpec := { name := "monitorOnce", fn := fun _ => fun
  | [d1, d2, d3, d4] => { results := [.lit (.bool true)], args := [d1, d2, d3, d4] }
  | _ => none }
def monitorOnceRow : OpenClaim := { program := "ytnodjmlldjdhdaadoor", sum := "93e9b7030d90ab3d7873c0ad0b2bd871b99f886c8cde84a80b85fbce5b838023", func := "quarterdeck/quarterdecklaw20.MonitorOnce", spec := "monitorOnce", named := ["quarterdeck/monitor.concerns"], apart := false, laid := [("quarterdeck/monitor.concerns", laid_quarterdeck_monitor_concerns)] }
def MonitorOnceSaid : Prop := monitorOnceRow.holds Tryd.pinned (OpenSpec.ofChange monitorOnceSpec)

/-- ITS FALSE NEIGHBOUR: 'it returns false'. Refute it at one input. -/
def monitorOnceWrong : ChangeSpec := { name := "monitorOnce", fn := fun _ => fun
  | [d1, d2, d3, d4] => { results := [.lit (.bool false)], args := [d1, d2, d3, d4] }
  | _ => none }
def MonitorOnceWrongFalsely : Prop := monitorOnceRow.holds Tryd.pinned (OpenSpec.ofChange monitorOnceWrong)

/-- 'quarterdecklaw20.MonitorTable': WHATEVER THE INPUT: true; the input reads as it did. -/
def monitorTableSpec : ChangeSpec := { name := "monitorTable", fn := fun _ => fun
  | [d] => { results := [.lit (.bool true)], args := [d] }
  | _ => none }
def monitorTableRow : OpenClaim := { program := "ytnodjmlldjdhdaadoor", sum := "93e9b7030d90ab3d7873c0ad0b2bd871b99f886c8cde84a80b85fbce5b838023", func := "quarterdeck/quarterdecklaw20.MonitorTable", spec := "monitorTable", named := ["quarterdeck/monitor.concerns"], apart := false, laid := [("quarterdeck/monitor.concerns", laid_quarterdeck_monitor_concerns)] }
def MonitorTableSaid : Prop := monitorTableRow.holds Tryd.pinned (OpenSpec.ofChange monitorTableSpec)

/-- ITS FALSE NEIGHBOUR: 'it returns false'. Refute it at one input. -/
def monitorTableWrong : ChangeSpec := { name := "monitorTable", fn := fun _ => fun
  | [d] => { results := [.lit (.bool false)], args := [d] }
  | _ => none }
def MonitorTableWrongFalsely : Prop := monitorTableRow.holds Tryd.pinned (OpenSpec.ofChange monitorTableWrong)

/-- 'quarterdecklaw20.MonitorWhom': WHATEVER THE INPUT: true; the input reads as it did. -/
def monitorWhomSpec : ChangeSpec := { name := "monitorWhom", fn := fun _ => fun
  | [d] => { results := [.lit (.bool true)], args := [d] }
  | _ => none }
def monitorWhomRow : OpenClaim := { program := "ytnodjmlldjdhdaadoor", sum := "93e9b7030d90ab3d7873c0ad0b2bd871b99f886c8cde84a80b85fbce5b838023", func := "quarterdeck/quarterdecklaw20.MonitorWhom", spec := "monitorWhom", named := ["quarterdeck/monitor.concerns"], apart := false, laid := [("quarterdeck/monitor.concerns", laid_quarterdeck_monitor_concerns)] }
def MonitorWhomSaid : Prop := monitorWhomRow.holds Tryd.pinned (OpenSpec.ofChange monitorWhomSpec)

/-- ITS FALSE NEIGHBOUR: 'it returns false'. Refute it at one input. -/
def monitorWhomWrong : ChangeSpec := { name := "monitorWhom", fn := fun _ => fun
  | [d] => { results := [.lit (.bool false)], args := [d] }
  | _ => none }
def MonitorWhomWrongFalsely : Prop := monitorWhomRow.holds Tryd.pinned (OpenSpec.ofChange monitorWhomWrong)

/- THE SECOND FORM. 'bulk': how many values and letters a reading holds, each counted each time it is reached (what is shared counts as often as it is met; a slice's spare places count too). A statement '..UptoSaid' is the law's where the arguments, and the package variables that the reading takes, are together of bulk at most 1048576: NARROWER than '..Said'. Prove '..Said' where nothing that the law and all that it calls make is longer than what came in: it says more and counts as full. Else prove '..UptoSaid'. A law counts once. -/
mutual
def uptoBulk {H : Type} : DataW H → Nat
  | .lit (.string bytes) => bytes.length + 1
  | .lit _ => 1
  | .nil => 1
  | .ptr d => uptoBulk d + 1
  | .slice elems spare => uptoBulkAll elems + uptoBulkAll spare + 1
  | .agg parts => uptoBulkAll parts + 1
  | .iface _ d => uptoBulk d + 1
  | .map entries => uptoBulkEntries entries + 1
  | .held _ => 1
def uptoBulkAll {H : Type} : List (DataW H) → Nat
  | [] => 0
  | d :: r => uptoBulk d + uptoBulkAll r
def uptoBulkEntries {H : Type} : List (Lit × DataW H) → Nat
  | [] => 0
  | x :: r => uptoBulkEntry x + uptoBulkEntries r
def uptoBulkEntry {H : Type} : Lit × DataW H → Nat
  | (.string bytes, d) => bytes.length + uptoBulk d + 1
  | (_, d) => uptoBulk d + 1
 end
def uptoSmall : (H : Type) → List (DataW H) → Bool := fun _ ds => decide (uptoBulkAll ds ≤ 1048576)
def OpenSpec.upto (s : _root_.Go.ChangeSpec) : _root_.Go.OpenSpec := { _root_.Go.OpenSpec.ofChange s with cond := some uptoSmall }

/-- 'quarterdecklaw20.MonitorActs', WHERE WHAT IT READS IS OF BULK AT MOST 1048576: true; the input reads as it did. -/
def monitorActsUptoRow : OpenClaim := { program := "ytnodjmlldjdhdaadoor", sum := "93e9b7030d90ab3d7873c0ad0b2bd871b99f886c8cde84a80b85fbce5b838023", func := "quarterdeck/quarterdecklaw20.MonitorActs", spec := "monitorActs", named := ["quarterdeck/monitor.concerns"], apart := false, laid := [("quarterdeck/monitor.concerns", laid_quarterdeck_monitor_concerns)], narrowed := true }
def MonitorActsUptoSaid : Prop := monitorActsUptoRow.holds Tryd.pinned (OpenSpec.upto monitorActsSpec)

/-- 'quarterdecklaw20.MonitorOnce', WHERE WHAT IT READS IS OF BULK AT MOST 1048576: true; the input reads as it did. -/
def monitorOnceUptoRow : OpenClaim := { program := "ytnodjmlldjdhdaadoor", sum := "93e9b7030d90ab3d7873c0ad0b2bd871b99f886c8cde84a80b85fbce5b838023", func := "quarterdeck/quarterdecklaw20.MonitorOnce", spec := "monitorOnce", named := ["quarterdeck/monitor.concerns"], apart := false, laid := [("quarterdeck/monitor.concerns", laid_quarterdeck_monitor_concerns)], narrowed := true }
def MonitorOnceUptoSaid : Prop := monitorOnceUptoRow.holds Tryd.pinned (OpenSpec.upto monitorOnceSpec)

/-- 'quarterdecklaw20.MonitorTable', WHERE WHAT IT READS IS OF BULK AT MOST 1048576: true; the input reads as it did. -/
def monitorTableUptoRow : OpenClaim := { program := "ytnodjmlldjdhdaadoor", sum := "93e9b7030d90ab3d7873c0ad0b2bd871b99f886c8cde84a80b85fbce5b838023", func := "quarterdeck/quarterdecklaw20.MonitorTable", spec := "monitorTable", named := ["quarterdeck/monitor.concerns"], apart := false, laid := [("quarterdeck/monitor.concerns", laid_quarterdeck_monitor_concerns)], narrowed := true }
def MonitorTableUptoSaid : Prop := monitorTableUptoRow.holds Tryd.pinned (OpenSpec.upto monitorTableSpec)

/-- 'quarterdecklaw20.MonitorWhom', WHERE WHAT IT READS IS OF BULK AT MOST 1048576: true; the input reads as it did. -/
def monitorWhomUptoRow : OpenClaim := { program := "ytnodjmlldjdhdaadoor", sum := "93e9b7030d90ab3d7873c0ad0b2bd871b99f886c8cde84a80b85fbce5b838023", func := "quarterdeck/quarterdecklaw20.MonitorWhom", spec := "monitorWhom", named := ["quarterdeck/monitor.concerns"], apart := false, laid := [("quarterdeck/monitor.concerns", laid_quarterdeck_monitor_concerns)], narrowed := true }
def MonitorWhomUptoSaid : Prop := monitorWhomUptoRow.holds Tryd.pinned (OpenSpec.upto monitorWhomSpec)

end Rows
end Go.Proofs.YtnodjmlldjdhdaaDoor
