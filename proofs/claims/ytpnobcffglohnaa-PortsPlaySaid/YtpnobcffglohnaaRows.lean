/-
  No cell of these rows narrows 'for every input' (looked for: loops, veiled, ifaces, maps, wideKeys, modest, calm, conditions, laid).
  DERIVED. THE GIVEN ROWS OF THIS SEAT. 7 by the template 'for every input the law returns true; each argument reads behind the call as it read before'; 0 by the template 'total and deterministic' (their statements: YtpnobcffglohnaaTotals.lean).
  GIVEN WITH THE SEED: the statements are not yours to turn. If you find one false, say at which input.
  Laid BY PROGRAM, IN A SANDBOX (cutbox-rows.mjs): the forced cells as the released guide's own fill.sh prints them over the translation 9c5ce25772612d4a… (all of the seat's roots in one cut). By AI agents, Wed Nov 11 2026. No macro, syntax, notation, axiom, sorry.
-/
import Derived.Test.YtpnobcffglohnaaChecked
import GoSem.Claim
import GoSem.ClaimJoined
import GoSem.ClaimMapViews
import Derived.JoinedTies
import Derived.KernelRfl
namespace Go.Proofs.Ytpnobcffglohnaa
/- THE CELL 'sum', in the pinned program and in every row, IS THE sha256 OF THE DUMP (.gsa) THAT YtpnobcffglohnaaProg.lean LOADS. Nothing in Lean hashes anything: it is a label: what it is worth is what the hold of that sum in a sandbox is worth. -/
noncomputable def Try.pinned : Pinned := { name := "ytpnobcffglohnaa", sum := "9c5ce25772612d4ab8cfe350230804eef986b1b4bc243ab7143a0c304753aadb", checked := Try.checked }
namespace Rows
def none {H : Type} : Left H := { results := [], args := [] }

/-- 'lychlaw20.LimitBounds': WHATEVER THE INPUT: true; the input reads as it did. -/
def limitBoundsSpec : ChangeSpec := { name := "limitBounds", fn := fun _ => fun
  | [d1, d2, d3] => { results := [.lit (.bool true)], args := [d1, d2, d3] }
  | _ => none }
def limitBoundsRow : OpenClaim := { program := "ytpnobcffglohnaa", sum := "9c5ce25772612d4ab8cfe350230804eef986b1b4bc243ab7143a0c304753aadb", func := "lych/lychlaw20.LimitBounds", spec := "limitBounds", plainKeys := false, apart := false }
def LimitBoundsSaid : Prop := limitBoundsRow.holds Try.pinned (OpenSpec.ofChange limitBoundsSpec)

/-- ITS FALSE NEIGHBOUR: 'it returns false'. Refute it at one input. -/
def limitBoundsWrong : ChangeSpec := { name := "limitBounds", fn := fun _ => fun
  | [d1, d2, d3] => { results := [.lit (.bool false)], args := [d1, d2, d3] }
  | _ => none }
def LimitBoundsWrongFalsely : Prop := limitBoundsRow.holds Try.pinned (OpenSpec.ofChange limitBoundsWrong)

/-- 'lychlaw20.LimitFills': WHATEVER THE INPUT: true; the input reads as it did. -/
def limitFillsSpec : ChangeSpec := { name := "limitFills", fn := fun _ => fun
  | [d1, d2] => { results := [.lit (.bool true)], args := [d1, d2] }
  | _ => none }
def limitFillsRow : OpenClaim := { program := "ytpnobcffglohnaa", sum := "9c5ce25772612d4ab8cfe350230804eef986b1b4bc243ab7143a0c304753aadb", func := "lych/lychlaw20.LimitFills", spec := "limitFills", plainKeys := false, apart := false }
def LimitFillsSaid : Prop := limitFillsRow.holds Try.pinned (OpenSpec.ofChange limitFillsSpec)

/-- ITS FALSE NEIGHBOUR: 'it returns false'. Refute it at one input. -/
def limitFillsWrong : ChangeSpec := { name := "limitFills", fn := fun _ => fun
  | [d1, d2] => { results := [.lit (.bool false)], args := [d1, d2] }
  | _ => none }
def LimitFillsWrongFalsely : Prop := limitFillsRow.holds Try.pinned (OpenSpec.ofChange limitFillsWrong)

/-- 'lychlaw20.LimitPlays': WHATEVER THE INPUT: true; the input reads as it did. -/
def limitPlaysSpec : ChangeSpec := { name := "limitPlays", fn := fun _ => fun
  | [d1, d2, d3] => { results := [.lit (.bool true)], args := [d1, d2, d3] }
  | _ => none }
def limitPlaysRow : OpenClaim := { program := "ytpnobcffglohnaa", sum := "9c5ce25772612d4ab8cfe350230804eef986b1b4bc243ab7143a0c304753aadb", func := "lych/lychlaw20.LimitPlays", spec := "limitPlays", plainKeys := false, apart := false }
def LimitPlaysSaid : Prop := limitPlaysRow.holds Try.pinned (OpenSpec.ofChange limitPlaysSpec)

/-- ITS FALSE NEIGHBOUR: 'it returns false'. Refute it at one input. -/
def limitPlaysWrong : ChangeSpec := { name := "limitPlays", fn := fun _ => fun
  | [d1, d2, d3] => { results := [.lit (.bool false)], args := [d1, d2, d3] }
  | _ => none }
def LimitPlaysWrongFalsely : Prop := limitPlaysRow.holds Try.pinned (OpenSpec.ofChange limitPlaysWrong)

/-- 'lychlaw17.PortsFill': WHATEVER THE INPUT: true; the input reads as it did. -/
def portsFillSpec : ChangeSpec := { name := "portsFill", fn := fun _ => fun
  | [d1, d2, d3, d4] => { results := [.lit (.bool true)], args := [d1, d2, d3, d4] }
  | _ => none }
def portsFillRow : OpenClaim := { program := "ytpnobcffglohnaa", sum := "9c5ce25772612d4ab8cfe350230804eef986b1b4bc243ab7143a0c304753aadb", func := "lych/lychlaw17.PortsFill", spec := "portsFill", plainKeys := false, apart := false }
def PortsFillSaid : Prop := portsFillRow.holds Try.pinned (OpenSpec.ofChange portsFillSpec)

/-- ITS FALSE NEIGHBOUR: 'it returns false'. Refute it at one input. -/
def portsFillWrong : ChangeSpec := { name := "portsFill", fn := fun _ => fun
  | [d1, d2, d3, d4] => { results := [.lit (.bool false)], args := [d1, d2, d3, d4] }
  | _ => none }
def PortsFillWrongFalsely : Prop := portsFillRow.holds Try.pinned (OpenSpec.ofChange portsFillWrong)

/-- 'lychlaw17.PortsHolds': WHATEVER THE INPUT: true; the input reads as it did. -/
def portsHoldsSpec : ChangeSpec := { name := "portsHolds", fn := fun _ => fun
  | [d1, d2, d3, d4] => { results := [.lit (.bool true)], args := [d1, d2, d3, d4] }
  | _ => none }
def portsHoldsRow : OpenClaim := { program := "ytpnobcffglohnaa", sum := "9c5ce25772612d4ab8cfe350230804eef986b1b4bc243ab7143a0c304753aadb", func := "lych/lychlaw17.PortsHolds", spec := "portsHolds", plainKeys := false, apart := false }
def PortsHoldsSaid : Prop := portsHoldsRow.holds Try.pinned (OpenSpec.ofChange portsHoldsSpec)

/-- ITS FALSE NEIGHBOUR: 'it returns false'. Refute it at one input. -/
def portsHoldsWrong : ChangeSpec := { name := "portsHolds", fn := fun _ => fun
  | [d1, d2, d3, d4] => { results := [.lit (.bool false)], args := [d1, d2, d3, d4] }
  | _ => none }
def PortsHoldsWrongFalsely : Prop := portsHoldsRow.holds Try.pinned (OpenSpec.ofChange portsHoldsWrong)

/-- 'lychlaw17.PortsPlay': WHATEVER THE INPUT: true; the input reads as it did. -/
def portsPlaySpec : ChangeSpec := { name := "portsPlay", fn := fun _ => fun
  | [d] => { results := [.lit (.bool true)], args := [d] }
  | _ => none }
def portsPlayRow : OpenClaim := { program := "ytpnobcffglohnaa", sum := "9c5ce25772612d4ab8cfe350230804eef986b1b4bc243ab7143a0c304753aadb", func := "lych/lychlaw17.PortsPlay", spec := "portsPlay", plainKeys := false, apart := false }
def PortsPlaySaid : Prop := portsPlayRow.holds Try.pinned (OpenSpec.ofChange portsPlaySpec)

/-- ITS FALSE NEIGHBOUR: 'it returns false'. Refute it at one input. -/
def portsPlayWrong : ChangeSpec := { name := "portsPlay", fn := fun _ => fun
  | [d] => { results := [.lit (.bool false)], args := [d] }
  | _ => none }
def PortsPlayWrongFalsely : Prop := portsPlayRow.holds Try.pinned (OpenSpec.ofChange portsPlayWrong)

/-- 'lychlaw17.PortsBack': WHATEVER THE INPUT: true; the input reads as it did. -/
def portsBackSpec : ChangeSpec := { name := "portsBack", fn := fun _ => fun
  | [d1, d2, d3] => { results := [.lit (.bool true)], args := [d1, d2, d3] }
  | _ => none }
def portsBackRow : OpenClaim := { program := "ytpnobcffglohnaa", sum := "9c5ce25772612d4ab8cfe350230804eef986b1b4bc243ab7143a0c304753aadb", func := "lych/lychlaw17.PortsBack", spec := "portsBack", plainKeys := false, apart := false }
def PortsBackSaid : Prop := portsBackRow.holds Try.pinned (OpenSpec.ofChange portsBackSpec)

/-- ITS FALSE NEIGHBOUR: 'it returns false'. Refute it at one input. -/
def portsBackWrong : ChangeSpec := { name := "portsBack", fn := fun _ => fun
  | [d1, d2, d3] => { results := [.lit (.bool false)], args := [d1, d2, d3] }
  | _ => none }
def PortsBackWrongFalsely : Prop := portsBackRow.holds Try.pinned (OpenSpec.ofChange portsBackWrong)

/- THE SECOND FORM. 'bulk': how many values and letters a reading holds, each counted each time it is reached (what is shared counts as often as it is met; a slice's spare places count too). A statement '..UptoSaid' is the law's where the arguments, and the package variables that the reading takes, are together of bulk at most 1048576: NARROWER than '..Said'. Prove '..Said' where nothing that the law and all that it calls make is longer than what came in: it says more and counts as full. Else prove '..UptoSaid'. A law counts once. -/
mutual
def uptoBulk {H : Type} : DataW H → Nat
  | .lit (.string bytes) => bytes.length + 1
  | .lit _ => 1
  | .nil => 1
  | .ptr d => uptoBulk d + 1
  | .slice elems spare => uptoBulkAll elems + uptoBulkAll spare + 1
  | .agg parts => uptoBulkAll parts + 1
  | .iface _ d => uptoBulk d + 1
  | .map entries => uptoBulkEntries entries + 1
  | .held _ => 1
def uptoBulkAll {H : Type} : List (DataW H) → Nat
  | [] => 0
  | d :: r => uptoBulk d + uptoBulkAll r
def uptoBulkEntries {H : Type} : List (Lit × DataW H) → Nat
  | [] => 0
  | x :: r => uptoBulkEntry x + uptoBulkEntries r
def uptoBulkEntry {H : Type} : Lit × DataW H → Nat
  | (.string bytes, d) => bytes.length + uptoBulk d + 1
  | (_, d) => uptoBulk d + 1
 end
def uptoSmall : (H : Type) → List (DataW H) → Bool := fun _ ds => decide (uptoBulkAll ds ≤ 1048576)
def OpenSpec.upto (s : _root_.Go.ChangeSpec) : _root_.Go.OpenSpec := { _root_.Go.OpenSpec.ofChange s with cond := some uptoSmall }

/-- 'lychlaw20.LimitBounds', WHERE WHAT IT READS IS OF BULK AT MOST 1048576: true; the input reads as it did. -/
def limitBoundsUptoRow : OpenClaim := { program := "ytpnobcffglohnaa", sum := "9c5ce25772612d4ab8cfe350230804eef986b1b4bc243ab7143a0c304753aadb", func := "lych/lychlaw20.LimitBounds", spec := "limitBounds", plainKeys := false, apart := false, narrowed := true }
def LimitBoundsUptoSaid : Prop := limitBoundsUptoRow.holds Try.pinned (OpenSpec.upto limitBoundsSpec)

/-- 'lychlaw20.LimitFills', WHERE WHAT IT READS IS OF BULK AT MOST 1048576: true; the input reads as it did. -/
def limitFillsUptoRow : OpenClaim := { program := "ytpnobcffglohnaa", sum := "9c5ce25772612d4ab8cfe350230804eef986b1b4bc243ab7143a0c304753aadb", func := "lych/lychlaw20.LimitFills", spec := "limitFills", plainKeys := false, apart := false, narrowed := true }
def LimitFillsUptoSaid : Prop := limitFillsUptoRow.holds Try.pinned (OpenSpec.upto limitFillsSpec)

/-- 'lychlaw20.LimitPlays', WHERE WHAT IT READS IS OF BULK AT MOST 1048576: true; the input reads as it did. -/
def limitPlaysUptoRow : OpenClaim := { program := "ytpnobcffglohnaa", sum := "9c5ce25772612d4ab8cfe350230804eef986b1b4bc243ab7143a0c304753aadb", func := "lych/lychlaw20.LimitPlays", spec := "limitPlays", plainKeys := false, apart := false, narrowed := true }
def LimitPlaysUptoSaid : Prop := limitPlaysUptoRow.holds Try.pinned (OpenSpec.upto limitPlaysSpec)

/-- 'lychlaw17.PortsFill', WHERE WHAT IT READS IS OF BULK AT MOST 1048576: true; the input reads as it did. -/
def portsFillUptoRow : OpenClaim := { program := "ytpnobcffglohnaa", sum := "9c5ce25772612d4ab8cfe350230804eef986b1b4bc243ab7143a0c304753aadb", func := "lych/lychlaw17.PortsFill", spec := "portsFill", plainKeys := false, apart := false, narrowed := true }
def PortsFillUptoSaid : Prop := portsFillUptoRow.holds Try.pinned (OpenSpec.upto portsFillSpec)

/-- 'lychlaw17.PortsHolds', WHERE WHAT IT READS IS OF BULK AT MOST 1048576: true; the input reads as it did. -/
def portsHoldsUptoRow : OpenClaim := { program := "ytpnobcffglohnaa", sum := "9c5ce25772612d4ab8cfe350230804eef986b1b4bc243ab7143a0c304753aadb", func := "lych/lychlaw17.PortsHolds", spec := "portsHolds", plainKeys := false, apart := false, narrowed := true }
def PortsHoldsUptoSaid : Prop := portsHoldsUptoRow.holds Try.pinned (OpenSpec.upto portsHoldsSpec)

/-- 'lychlaw17.PortsPlay', WHERE WHAT IT READS IS OF BULK AT MOST 1048576: true; the input reads as it did. -/
def portsPlayUptoRow : OpenClaim := { program := "ytpnobcffglohnaa", sum := "9c5ce25772612d4ab8cfe350230804eef986b1b4bc243ab7143a0c304753aadb", func := "lych/lychlaw17.PortsPlay", spec := "portsPlay", plainKeys := false, apart := false, narrowed := true }
def PortsPlayUptoSaid : Prop := portsPlayUptoRow.holds Try.pinned (OpenSpec.upto portsPlaySpec)

/-- 'lychlaw17.PortsBack', WHERE WHAT IT READS IS OF BULK AT MOST 1048576: true; the input reads as it did. -/
def portsBackUptoRow : OpenClaim := { program := "ytpnobcffglohnaa", sum := "9c5ce25772612d4ab8cfe350230804eef986b1b4bc243ab7143a0c304753aadb", func := "lych/lychlaw17.PortsBack", spec := "portsBack", plainKeys := false, apart := false, narrowed := true }
def PortsBackUptoSaid : Prop := portsBackUptoRow.holds Try.pinned (OpenSpec.upto portsBackSpec)

end Rows
end Go.Proofs.Ytpnobcffglohnaa
