/-
  No cell of these rows narrows 'for every input' (looked for: loops, veiled, ifaces, maps, wideKeys, modest, calm, conditions, laid).
  DERIVED. THE GIVEN ROWS OF THIS SEAT. 12 by the template 'for every input the law returns true; each argument reads behind the call as it read before'; 0 by the template 'total and deterministic' (their statements: YtimlkngjkiknfaaGreatTotals.lean).
  GIVEN WITH THE SEED: the statements are not yours to turn. If you find one false, say at which input.
  Laid BY PROGRAM, IN A SANDBOX (cutbox-rows.mjs): the forced cells as the released guide's own fill.sh prints them over the translation 9a5b5c74f0879d62… (all of the seat's roots in one cut). By AI agents, Wed Nov 11 2026. No macro, syntax, notation, axiom, sorry.
-/
import Derived.Test.YtimlkngjkiknfaaGreatChecked
import GoSem.Claim
import GoSem.ClaimJoined
import GoSem.ClaimMapViews
import Derived.JoinedTies
import Derived.KernelRfl
namespace Go.Proofs.YtimlkngjkiknfaaGreat
/- THE CELL 'sum', in the pinned program and in every row, IS THE sha256 OF THE DUMP (.gsa) THAT YtimlkngjkiknfaaGreatProg.lean LOADS. Nothing in Lean hashes anything: it is a label: what it is worth is what the hold of that sum in a sandbox is worth. -/
noncomputable def Tryz.pinned : Pinned := { name := "ytimlkngjkiknfaagreat", sum := "9a5b5c74f0879d62bd60fa5cfdd67b6854256a35621da1fc5c53b6ff7feae494", checked := Tryz.checked }
namespace Rows
def none {H : Type} : Left H := { results := [], args := [] }

/-- 'busbarlaw25.ExecOrders': WHATEVER THE INPUT: true; the input reads as it did. -/
def execOrdersSpec : ChangeSpec := { name := "execOrders", fn := fun _ => fun
  | [d] => { results := [.lit (.bool true)], args := [d] }
  | _ => none }
def execOrdersRow : OpenClaim := { program := "ytimlkngjkiknfaagreat", sum := "9a5b5c74f0879d62bd60fa5cfdd67b6854256a35621da1fc5c53b6ff7feae494", func := "busbar/busbarlaw25.ExecOrders", spec := "execOrders", unfollowed := true, recurses := true, plainKeys := false, apart := false }
def ExecOrdersSaid : Prop := execOrdersRow.holds Tryz.pinned (OpenSpec.ofChange execOrdersSpec)

/-- ITS FALSE NEIGHBOUR: 'it returns false'. Refute it at one input. -/
def execOrdersWrong : ChangeSpec := { name := "execOrders", fn := fun _ => fun
  | [d] => { results := [.lit (.bool false)], args := [d] }
  | _ => none }
def ExecOrdersWrongFalsely : Prop := execOrdersRow.holds Tryz.pinned (OpenSpec.ofChange execOrdersWrong)

/-- 'busbarlaw25.ExecRefuses': WHATEVER THE INPUT: true; the input reads as it did. -/
def execRefusesSpec : ChangeSpec := { name := "execRefuses", fn := fun _ => fun
  | [d1, d2, d3, d4, d5] => { results := [.lit (.bool true)], args := [d1, d2, d3, d4, d5] }
  | _ => none }
def execRefusesRow : OpenClaim := { program := "ytimlkngjkiknfaagreat", sum := "9a5b5c74f0879d62bd60fa5cfdd67b6854256a35621da1fc5c53b6ff7feae494", func := "busbar/busbarlaw25.ExecRefuses", spec := "execRefuses", unfollowed := true, recurses := true, plainKeys := false, apart := false }
def ExecRefusesSaid : Prop := execRefusesRow.holds Tryz.pinned (OpenSpec.ofChange execRefusesSpec)

/-- ITS FALSE NEIGHBOUR: 'it returns false'. Refute it at one input. -/
def execRefusesWrong : ChangeSpec := { name := "execRefuses", fn := fun _ => fun
  | [d1, d2, d3, d4, d5] => { results := [.lit (.bool false)], args := [d1, d2, d3, d4, d5] }
  | _ => none }
def ExecRefusesWrongFalsely : Prop := execRefusesRow.holds Tryz.pinned (OpenSpec.ofChange execRefusesWrong)

/-- 'busbarlaw25.ExecIdentifies': WHATEVER THE INPUT: true; the input reads as it did. -/
def execIdentifiesSpec : ChangeSpec := { name := "execIdentifies", fn := fun _ => fun
  | [d1, d2, d3, d4, d5] => { results := [.lit (.bool true)], args := [d1, d2, d3, d4, d5] }
  | _ => none }
def execIdentifiesRow : OpenClaim := { program := "ytimlkngjkiknfaagreat", sum := "9a5b5c74f0879d62bd60fa5cfdd67b6854256a35621da1fc5c53b6ff7feae494", func := "busbar/busbarlaw25.ExecIdentifies", spec := "execIdentifies", unfollowed := true, recurses := true, plainKeys := false, apart := false }
def ExecIdentifiesSaid : Prop := execIdentifiesRow.holds Tryz.pinned (OpenSpec.ofChange execIdentifiesSpec)

/-- ITS FALSE NEIGHBOUR: 'it returns false'. Refute it at one input. -/
def execIdentifiesWrong : ChangeSpec := { name := "execIdentifies", fn := fun _ => fun
  | [d1, d2, d3, d4, d5] => { results := [.lit (.bool false)], args := [d1, d2, d3, d4, d5] }
  | _ => none }
def ExecIdentifiesWrongFalsely : Prop := execIdentifiesRow.holds Tryz.pinned (OpenSpec.ofChange execIdentifiesWrong)

/-- 'busbarlaw25.ExecWindow': WHATEVER THE INPUT: true; the input reads as it did. -/
def execWindowSpec : ChangeSpec := { name := "execWindow", fn := fun _ => fun
  | [d1, d2, d3] => { results := [.lit (.bool true)], args := [d1, d2, d3] }
  | _ => none }
def execWindowRow : OpenClaim := { program := "ytimlkngjkiknfaagreat", sum := "9a5b5c74f0879d62bd60fa5cfdd67b6854256a35621da1fc5c53b6ff7feae494", func := "busbar/busbarlaw25.ExecWindow", spec := "execWindow", unfollowed := true, recurses := true, plainKeys := false, apart := false }
def ExecWindowSaid : Prop := execWindowRow.holds Tryz.pinned (OpenSpec.ofChange execWindowSpec)

/-- ITS FALSE NEIGHBOUR: 'it returns false'. Refute it at one input. -/
def execWindowWrong : ChangeSpec := { name := "execWindow", fn := fun _ => fun
  | [d1, d2, d3] => { results := [.lit (.bool false)], args := [d1, d2, d3] }
  | _ => none }
def ExecWindowWrongFalsely : Prop := execWindowRow.holds Tryz.pinned (OpenSpec.ofChange execWindowWrong)

/-- 'busbarlaw25.ExecPlays': WHATEVER THE INPUT: true; the input reads as it did. -/
def execPlaysSpec : ChangeSpec := { name := "execPlays", fn := fun _ => fun
  | [d1, d2, d3, d4] => { results := [.lit (.bool true)], args := [d1, d2, d3, d4] }
  | _ => none }
def execPlaysRow : OpenClaim := { program := "ytimlkngjkiknfaagreat", sum := "9a5b5c74f0879d62bd60fa5cfdd67b6854256a35621da1fc5c53b6ff7feae494", func := "busbar/busbarlaw25.ExecPlays", spec := "execPlays", unfollowed := true, recurses := true, plainKeys := false, apart := false }
def ExecPlaysSaid : Prop := execPlaysRow.holds Tryz.pinned (OpenSpec.ofChange execPlaysSpec)

/-- ITS FALSE NEIGHBOUR: 'it returns false'. Refute it at one input. -/
def execPlaysWrong : ChangeSpec := { name := "execPlays", fn := fun _ => fun
  | [d1, d2, d3, d4] => { results := [.lit (.bool false)], args := [d1, d2, d3, d4] }
  | _ => none }
def ExecPlaysWrongFalsely : Prop := execPlaysRow.holds Tryz.pinned (OpenSpec.ofChange execPlaysWrong)

/-- 'busbarlaw25.ExecReads': WHATEVER THE INPUT: true; the input reads as it did. -/
def execReadsSpec : ChangeSpec := { name := "execReads", fn := fun _ => fun
  | [d1, d2] => { results := [.lit (.bool true)], args := [d1, d2] }
  | _ => none }
def execReadsRow : OpenClaim := { program := "ytimlkngjkiknfaagreat", sum := "9a5b5c74f0879d62bd60fa5cfdd67b6854256a35621da1fc5c53b6ff7feae494", func := "busbar/busbarlaw25.ExecReads", spec := "execReads", unfollowed := true, recurses := true, plainKeys := false, apart := false }
def ExecReadsSaid : Prop := execReadsRow.holds Tryz.pinned (OpenSpec.ofChange execReadsSpec)

/-- ITS FALSE NEIGHBOUR: 'it returns false'. Refute it at one input. -/
def execReadsWrong : ChangeSpec := { name := "execReads", fn := fun _ => fun
  | [d1, d2] => { results := [.lit (.bool false)], args := [d1, d2] }
  | _ => none }
def ExecReadsWrongFalsely : Prop := execReadsRow.holds Tryz.pinned (OpenSpec.ofChange execReadsWrong)

/-- 'busbarlaw25.ExecBytes': WHATEVER THE INPUT: true; the input reads as it did. -/
def execBytesSpec : ChangeSpec := { name := "execBytes", fn := fun _ => fun
  | [d1, d2, d3] => { results := [.lit (.bool true)], args := [d1, d2, d3] }
  | _ => none }
def execBytesRow : OpenClaim := { program := "ytimlkngjkiknfaagreat", sum := "9a5b5c74f0879d62bd60fa5cfdd67b6854256a35621da1fc5c53b6ff7feae494", func := "busbar/busbarlaw25.ExecBytes", spec := "execBytes", unfollowed := true, recurses := true, plainKeys := false, apart := false }
def ExecBytesSaid : Prop := execBytesRow.holds Tryz.pinned (OpenSpec.ofChange execBytesSpec)

/-- ITS FALSE NEIGHBOUR: 'it returns false'. Refute it at one input. -/
def execBytesWrong : ChangeSpec := { name := "execBytes", fn := fun _ => fun
  | [d1, d2, d3] => { results := [.lit (.bool false)], args := [d1, d2, d3] }
  | _ => none }
def ExecBytesWrongFalsely : Prop := execBytesRow.holds Tryz.pinned (OpenSpec.ofChange execBytesWrong)

/-- 'busbarlaw26.GatePipelines': WHATEVER THE INPUT: true; the input reads as it did. -/
def gatePipelinesSpec : ChangeSpec := { name := "gatePipelines", fn := fun _ => fun
  | [d1, d2, d3] => { results := [.lit (.bool true)], args := [d1, d2, d3] }
  | _ => none }
def gatePipelinesRow : OpenClaim := { program := "ytimlkngjkiknfaagreat", sum := "9a5b5c74f0879d62bd60fa5cfdd67b6854256a35621da1fc5c53b6ff7feae494", func := "busbar/busbarlaw26.GatePipelines", spec := "gatePipelines", unfollowed := true, recurses := true, plainKeys := false, apart := false }
def GatePipelinesSaid : Prop := gatePipelinesRow.holds Tryz.pinned (OpenSpec.ofChange gatePipelinesSpec)

/-- ITS FALSE NEIGHBOUR: 'it returns false'. Refute it at one input. -/
def gatePipelinesWrong : ChangeSpec := { name := "gatePipelines", fn := fun _ => fun
  | [d1, d2, d3] => { results := [.lit (.bool false)], args := [d1, d2, d3] }
  | _ => none }
def GatePipelinesWrongFalsely : Prop := gatePipelinesRow.holds Tryz.pinned (OpenSpec.ofChange gatePipelinesWrong)

/-- 'busbarlaw26.GateFields': WHATEVER THE INPUT: true; the input reads as it did. -/
def gateFieldsSpec : ChangeSpec := { name := "gateFields", fn := fun _ => fun
  | [d1, d2, d3] => { results := [.lit (.bool true)], args := [d1, d2, d3] }
  | _ => none }
def gateFieldsRow : OpenClaim := { program := "ytimlkngjkiknfaagreat", sum := "9a5b5c74f0879d62bd60fa5cfdd67b6854256a35621da1fc5c53b6ff7feae494", func := "busbar/busbarlaw26.GateFields", spec := "gateFields", unfollowed := true, recurses := true, plainKeys := false, apart := false }
def GateFieldsSaid : Prop := gateFieldsRow.holds Tryz.pinned (OpenSpec.ofChange gateFieldsSpec)

/-- ITS FALSE NEIGHBOUR: 'it returns false'. Refute it at one input. -/
def gateFieldsWrong : ChangeSpec := { name := "gateFields", fn := fun _ => fun
  | [d1, d2, d3] => { results := [.lit (.bool false)], args := [d1, d2, d3] }
  | _ => none }
def GateFieldsWrongFalsely : Prop := gateFieldsRow.holds Tryz.pinned (OpenSpec.ofChange gateFieldsWrong)

/-- 'busbarlaw26.GateStalls': WHATEVER THE INPUT: true; the input reads as it did. -/
def gateStallsSpec : ChangeSpec := { name := "gateStalls", fn := fun _ => fun
  | [d1, d2, d3] => { results := [.lit (.bool true)], args := [d1, d2, d3] }
  | _ => none }
def gateStallsRow : OpenClaim := { program := "ytimlkngjkiknfaagreat", sum := "9a5b5c74f0879d62bd60fa5cfdd67b6854256a35621da1fc5c53b6ff7feae494", func := "busbar/busbarlaw26.GateStalls", spec := "gateStalls", unfollowed := true, recurses := true, plainKeys := false, apart := false }
def GateStallsSaid : Prop := gateStallsRow.holds Tryz.pinned (OpenSpec.ofChange gateStallsSpec)

/-- ITS FALSE NEIGHBOUR: 'it returns false'. Refute it at one input. -/
def gateStallsWrong : ChangeSpec := { name := "gateStalls", fn := fun _ => fun
  | [d1, d2, d3] => { results := [.lit (.bool false)], args := [d1, d2, d3] }
  | _ => none }
def GateStallsWrongFalsely : Prop := gateStallsRow.holds Tryz.pinned (OpenSpec.ofChange gateStallsWrong)

/-- 'busbarlaw26.GateTicks': WHATEVER THE INPUT: true; the input reads as it did. -/
def gateTicksSpec : ChangeSpec := { name := "gateTicks", fn := fun _ => fun
  | [d1, d2, d3, d4] => { results := [.lit (.bool true)], args := [d1, d2, d3, d4] }
  | _ => none }
def gateTicksRow : OpenClaim := { program := "ytimlkngjkiknfaagreat", sum := "9a5b5c74f0879d62bd60fa5cfdd67b6854256a35621da1fc5c53b6ff7feae494", func := "busbar/busbarlaw26.GateTicks", spec := "gateTicks", unfollowed := true, recurses := true, plainKeys := false, apart := false }
def GateTicksSaid : Prop := gateTicksRow.holds Tryz.pinned (OpenSpec.ofChange gateTicksSpec)

/-- ITS FALSE NEIGHBOUR: 'it returns false'. Refute it at one input. -/
def gateTicksWrong : ChangeSpec := { name := "gateTicks", fn := fun _ => fun
  | [d1, d2, d3, d4] => { results := [.lit (.bool false)], args := [d1, d2, d3, d4] }
  | _ => none }
def GateTicksWrongFalsely : Prop := gateTicksRow.holds Tryz.pinned (OpenSpec.ofChange gateTicksWrong)

/-- 'busbarlaw26.GateEnds': WHATEVER THE INPUT: true; the input reads as it did. -/
def gateEndsSpec : ChangeSpec := { name := "gateEnds", fn := fun _ => fun
  | [d1, d2, d3, d4, d5] => { results := [.lit (.bool true)], args := [d1, d2, d3, d4, d5] }
  | _ => none }
def gateEndsRow : OpenClaim := { program := "ytimlkngjkiknfaagreat", sum := "9a5b5c74f0879d62bd60fa5cfdd67b6854256a35621da1fc5c53b6ff7feae494", func := "busbar/busbarlaw26.GateEnds", spec := "gateEnds", unfollowed := true, recurses := true, plainKeys := false, apart := false }
def GateEndsSaid : Prop := gateEndsRow.holds Tryz.pinned (OpenSpec.ofChange gateEndsSpec)

/-- ITS FALSE NEIGHBOUR: 'it returns false'. Refute it at one input. -/
def gateEndsWrong : ChangeSpec := { name := "gateEnds", fn := fun _ => fun
  | [d1, d2, d3, d4, d5] => { results := [.lit (.bool false)], args := [d1, d2, d3, d4, d5] }
  | _ => none }
def GateEndsWrongFalsely : Prop := gateEndsRow.holds Tryz.pinned (OpenSpec.ofChange gateEndsWrong)

/- THE SECOND FORM. 'bulk': how many values and letters a reading holds, each counted each time it is reached (what is shared counts as often as it is met; a slice's spare places count too). A statement '..UptoSaid' is the law's where the arguments, and the package variables that the reading takes, are together of bulk at most 1048576: NARROWER than '..Said'. Prove '..Said' where nothing that the law and all that it calls make is longer than what came in: it says more and counts as full. Else prove '..UptoSaid'. A law counts once. -/
mutual
def uptoBulk {H : Type} : DataW H → Nat
  | .lit (.string bytes) => bytes.length + 1
  | .lit _ => 1
  | .nil => 1
  | .ptr d => uptoBulk d + 1
  | .slice elems spare => uptoBulkAll elems + uptoBulkAll spare + 1
  | .agg parts => uptoBulkAll parts + 1
  | .iface _ d => uptoBulk d + 1
  | .map entries => uptoBulkEntries entries + 1
  | .held _ => 1
def uptoBulkAll {H : Type} : List (DataW H) → Nat
  | [] => 0
  | d :: r => uptoBulk d + uptoBulkAll r
def uptoBulkEntries {H : Type} : List (Lit × DataW H) → Nat
  | [] => 0
  | x :: r => uptoBulkEntry x + uptoBulkEntries r
def uptoBulkEntry {H : Type} : Lit × DataW H → Nat
  | (.string bytes, d) => bytes.length + uptoBulk d + 1
  | (_, d) => uptoBulk d + 1
 end
def uptoSmall : (H : Type) → List (DataW H) → Bool := fun _ ds => decide (uptoBulkAll ds ≤ 1048576)
def OpenSpec.upto (s : _root_.Go.ChangeSpec) : _root_.Go.OpenSpec := { _root_.Go.OpenSpec.ofChange s with cond := some uptoSmall }

/-- 'busbarlaw25.ExecOrders', WHERE WHAT IT READS IS OF BULK AT MOST 1048576: true; the input reads as it did. -/
def execOrdersUptoRow : OpenClaim := { program := "ytimlkngjkiknfaagreat", sum := "9a5b5c74f0879d62bd60fa5cfdd67b6854256a35621da1fc5c53b6ff7feae494", func := "busbar/busbarlaw25.ExecOrders", spec := "execOrders", unfollowed := true, recurses := true, plainKeys := false, apart := false, narrowed := true }
def ExecOrdersUptoSaid : Prop := execOrdersUptoRow.holds Tryz.pinned (OpenSpec.upto execOrdersSpec)

/-- 'busbarlaw25.ExecRefuses', WHERE WHAT IT READS IS OF BULK AT MOST 1048576: true; the input reads as it did. -/
def execRefusesUptoRow : OpenClaim := { program := "ytimlkngjkiknfaagreat", sum := "9a5b5c74f0879d62bd60fa5cfdd67b6854256a35621da1fc5c53b6ff7feae494", func := "busbar/busbarlaw25.ExecRefuses", spec := "execRefuses", unfollowed := true, recurses := true, plainKeys := false, apart := false, narrowed := true }
def ExecRefusesUptoSaid : Prop := execRefusesUptoRow.holds Tryz.pinned (OpenSpec.upto execRefusesSpec)

/-- 'busbarlaw25.ExecIdentifies', WHERE WHAT IT READS IS OF BULK AT MOST 1048576: true; the input reads as it did. -/
def execIdentifiesUptoRow : OpenClaim := { program := "ytimlkngjkiknfaagreat", sum := "9a5b5c74f0879d62bd60fa5cfdd67b6854256a35621da1fc5c53b6ff7feae494", func := "busbar/busbarlaw25.ExecIdentifies", spec := "execIdentifies", unfollowed := true, recurses := true, plainKeys := false, apart := false, narrowed := true }
def ExecIdentifiesUptoSaid : Prop := execIdentifiesUptoRow.holds Tryz.pinned (OpenSpec.upto execIdentifiesSpec)

/-- 'busbarlaw25.ExecWindow', WHERE WHAT IT READS IS OF BULK AT MOST 1048576: true; the input reads as it did. -/
def execWindowUptoRow : OpenClaim := { program := "ytimlkngjkiknfaagreat", sum := "9a5b5c74f0879d62bd60fa5cfdd67b6854256a35621da1fc5c53b6ff7feae494", func := "busbar/busbarlaw25.ExecWindow", spec := "execWindow", unfollowed := true, recurses := true, plainKeys := false, apart := false, narrowed := true }
def ExecWindowUptoSaid : Prop := execWindowUptoRow.holds Tryz.pinned (OpenSpec.upto execWindowSpec)

/-- 'busbarlaw25.ExecPlays', WHERE WHAT IT READS IS OF BULK AT MOST 1048576: true; the input reads as it did. -/
def execPlaysUptoRow : OpenClaim := { program := "ytimlkngjkiknfaagreat", sum := "9a5b5c74f0879d62bd60fa5cfdd67b6854256a35621da1fc5c53b6ff7feae494", func := "busbar/busbarlaw25.ExecPlays", spec := "execPlays", unfollowed := true, recurses := true, plainKeys := false, apart := false, narrowed := true }
def ExecPlaysUptoSaid : Prop := execPlaysUptoRow.holds Tryz.pinned (OpenSpec.upto execPlaysSpec)

/-- 'busbarlaw25.ExecReads', WHERE WHAT IT READS IS OF BULK AT MOST 1048576: true; the input reads as it did. -/
def execReadsUptoRow : OpenClaim := { program := "ytimlkngjkiknfaagreat", sum := "9a5b5c74f0879d62bd60fa5cfdd67b6854256a35621da1fc5c53b6ff7feae494", func := "busbar/busbarlaw25.ExecReads", spec := "execReads", unfollowed := true, recurses := true, plainKeys := false, apart := false, narrowed := true }
def ExecReadsUptoSaid : Prop := execReadsUptoRow.holds Tryz.pinned (OpenSpec.upto execReadsSpec)

/-- 'busbarlaw25.ExecBytes', WHERE WHAT IT READS IS OF BULK AT MOST 1048576: true; the input reads as it did. -/
def execBytesUptoRow : OpenClaim := { program := "ytimlkngjkiknfaagreat", sum := "9a5b5c74f0879d62bd60fa5cfdd67b6854256a35621da1fc5c53b6ff7feae494", func := "busbar/busbarlaw25.ExecBytes", spec := "execBytes", unfollowed := true, recurses := true, plainKeys := false, apart := false, narrowed := true }
def ExecBytesUptoSaid : Prop := execBytesUptoRow.holds Tryz.pinned (OpenSpec.upto execBytesSpec)

/-- 'busbarlaw26.GatePipelines', WHERE WHAT IT READS IS OF BULK AT MOST 1048576: true; the input reads as it did. -/
def gatePipelinesUptoRow : OpenClaim := { program := "ytimlkngjkiknfaagreat", sum := "9a5b5c74f0879d62bd60fa5cfdd67b6854256a35621da1fc5c53b6ff7feae494", func := "busbar/busbarlaw26.GatePipelines", spec := "gatePipelines", unfollowed := true, recurses := true, plainKeys := false, apart := false, narrowed := true }
def GatePipelinesUptoSaid : Prop := gatePipelinesUptoRow.holds Tryz.pinned (OpenSpec.upto gatePipelinesSpec)

/-- 'busbarlaw26.GateFields', WHERE WHAT IT READS IS OF BULK AT MOST 1048576: true; the input reads as it did. -/
def gateFieldsUptoRow : OpenClaim := { program := "ytimlkngjkiknfaagreat", sum := "9a5b5c74f0879d62bd60fa5cfdd67b6854256a35621da1fc5c53b6ff7feae494", func := "busbar/busbarlaw26.GateFields", spec := "gateFields", unfollowed := true, recurses := true, plainKeys := false, apart := false, narrowed := true }
def GateFieldsUptoSaid : Prop := gateFieldsUptoRow.holds Tryz.pinned (OpenSpec.upto gateFieldsSpec)

/-- 'busbarlaw26.GateStalls', WHERE WHAT IT READS IS OF BULK AT MOST 1048576: true; the input reads as it did. -/
def gateStallsUptoRow : OpenClaim := { program := "ytimlkngjkiknfaagreat", sum := "9a5b5c74f0879d62bd60fa5cfdd67b6854256a35621da1fc5c53b6ff7feae494", func := "busbar/busbarlaw26.GateStalls", spec := "gateStalls", unfollowed := true, recurses := true, plainKeys := false, apart := false, narrowed := true }
def GateStallsUptoSaid : Prop := gateStallsUptoRow.holds Tryz.pinned (OpenSpec.upto gateStallsSpec)

/-- 'busbarlaw26.GateTicks', WHERE WHAT IT READS IS OF BULK AT MOST 1048576: true; the input reads as it did. -/
def gateTicksUptoRow : OpenClaim := { program := "ytimlkngjkiknfaagreat", sum := "9a5b5c74f0879d62bd60fa5cfdd67b6854256a35621da1fc5c53b6ff7feae494", func := "busbar/busbarlaw26.GateTicks", spec := "gateTicks", unfollowed := true, recurses := true, plainKeys := false, apart := false, narrowed := true }
def GateTicksUptoSaid : Prop := gateTicksUptoRow.holds Tryz.pinned (OpenSpec.upto gateTicksSpec)

/-- 'busbarlaw26.GateEnds', WHERE WHAT IT READS IS OF BULK AT MOST 1048576: true; the input reads as it did. -/
def gateEndsUptoRow : OpenClaim := { program := "ytimlkngjkiknfaagreat", sum := "9a5b5c74f0879d62bd60fa5cfdd67b6854256a35621da1fc5c53b6ff7feae494", func := "busbar/busbarlaw26.GateEnds", spec := "gateEnds", unfollowed := true, recurses := true, plainKeys := false, apart := false, narrowed := true }
def GateEndsUptoSaid : Prop := gateEndsUptoRow.holds Tryz.pinned (OpenSpec.upto gateEndsSpec)

end Rows
end Go.Proofs.YtimlkngjkiknfaaGreat
