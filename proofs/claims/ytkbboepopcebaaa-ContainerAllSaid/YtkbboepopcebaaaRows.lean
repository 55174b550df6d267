/-
  No cell of these rows narrows 'for every input' (looked for: loops, veiled, ifaces, maps, wideKeys, modest, calm, conditions, laid).
  DERIVED. THE GIVEN ROWS OF THIS SEAT. 11 by the template 'for every input the law returns true; each argument reads behind the call as it read before'; 0 by the template 'total and deterministic' (their statements: YtkbboepopcebaaaTotals.lean).
  GIVEN WITH THE SEED: the statements are not yours to turn. If you find one false, say at which input.
  Laid BY PROGRAM, IN A SANDBOX (cutbox-rows.mjs): the forced cells as the released guide's own fill.sh prints them over the translation 8ed5124e0e3b6def… (all of the seat's roots in one cut). By AI agents, Wed Nov 11 2026. No macro, syntax, notation, axiom, sorry.
-/
import Derived.Test.YtkbboepopcebaaaChecked
import GoSem.Claim
import GoSem.ClaimJoined
import GoSem.ClaimMapViews
import Derived.JoinedTies
import Derived.KernelRfl
namespace Go.Proofs.Ytkbboepopcebaaa
/- THE CELL 'sum', in the pinned program and in every row, IS THE sha256 OF THE DUMP (.gsa) THAT YtkbboepopcebaaaProg.lean LOADS. Nothing in Lean hashes anything: it is a label: what it is worth is what the hold of that sum in a sandbox is worth. -/
noncomputable def Try.pinned : Pinned := { name := "ytkbboepopcebaaa", sum := "8ed5124e0e3b6defd06038af9155cb939858e3f3366619643d64e12a65591ddb", checked := Try.checked }
namespace Rows
def none {H : Type} : Left H := { results := [], args := [] }

/-- 'vouchlaw5.ContainerParse': WHATEVER THE INPUT: true; the input reads as it did. -/
def containerParseSpec : ChangeSpec := { name := "containerParse", fn := fun _ => fun
  | [d1, d2] => { results := [.lit (.bool true)], args := [d1, d2] }
  | _ => none }
def containerParseRow : OpenClaim := { program := "ytkbboepopcebaaa", sum := "8ed5124e0e3b6defd06038af9155cb939858e3f3366619643d64e12a65591ddb", func := "vouch/vouchlaw5.ContainerParse", spec := "containerParse", unfollowed := true, recurses := true, apart := false }
def ContainerParseSaid : Prop := containerParseRow.holds Try.pinned (OpenSpec.ofChange containerParseSpec)

/-- ITS FALSE NEIGHBOUR: 'it returns false'. Refute it at one input. -/
def containerParseWrong : ChangeSpec := { name := "containerParse", fn := fun _ => fun
  | [d1, d2] => { results := [.lit (.bool false)], args := [d1, d2] }
  | _ => none }
def ContainerParseWrongFalsely : Prop := containerParseRow.holds Try.pinned (OpenSpec.ofChange containerParseWrong)

/-- 'vouchlaw5.ContainerCheck': WHATEVER THE INPUT: true; the input reads as it did. -/
def containerCheckSpec : ChangeSpec := { name := "containerCheck", fn := fun _ => fun
  | [d] => { results := [.lit (.bool true)], args := [d] }
  | _ => none }
def containerCheckRow : OpenClaim := { program := "ytkbboepopcebaaa", sum := "8ed5124e0e3b6defd06038af9155cb939858e3f3366619643d64e12a65591ddb", func := "vouch/vouchlaw5.ContainerCheck", spec := "containerCheck", unfollowed := true, recurses := true, apart := false }
def ContainerCheckSaid : Prop := containerCheckRow.holds Try.pinned (OpenSpec.ofChange containerCheckSpec)

/-- ITS FALSE NEIGHBOUR: 'it returns false'. Refute it at one input. -/
def containerCheckWrong : ChangeSpec := { name := "containerCheck", fn := fun _ => fun
  | [d] => { results := [.lit (.bool false)], args := [d] }
  | _ => none }
def ContainerCheckWrongFalsely : Prop := containerCheckRow.holds Try.pinned (OpenSpec.ofChange containerCheckWrong)

/-- 'vouchlaw5.ContainerWrites': WHATEVER THE INPUT: true; the input reads as it did. -/
def containerWritesSpec : ChangeSpec := { name := "containerWrites", fn := fun _ => fun
  | [d] => { results := [.lit (.bool true)], args := [d] }
  | _ => none }
def containerWritesRow : OpenClaim := { program := "ytkbboepopcebaaa", sum := "8ed5124e0e3b6defd06038af9155cb939858e3f3366619643d64e12a65591ddb", func := "vouch/vouchlaw5.ContainerWrites", spec := "containerWrites", unfollowed := true, recurses := true, apart := false }
def ContainerWritesSaid : Prop := containerWritesRow.holds Try.pinned (OpenSpec.ofChange containerWritesSpec)

/-- ITS FALSE NEIGHBOUR: 'it returns false'. Refute it at one input. -/
def containerWritesWrong : ChangeSpec := { name := "containerWrites", fn := fun _ => fun
  | [d] => { results := [.lit (.bool false)], args := [d] }
  | _ => none }
def ContainerWritesWrongFalsely : Prop := containerWritesRow.holds Try.pinned (OpenSpec.ofChange containerWritesWrong)

/-- 'vouchlaw5.ContainerBack': WHATEVER THE INPUT: true; the input reads as it did. -/
def containerBackSpec : ChangeSpec := { name := "containerBack", fn := fun _ => fun
  | [d] => { results := [.lit (.bool true)], args := [d] }
  | _ => none }
def containerBackRow : OpenClaim := { program := "ytkbboepopcebaaa", sum := "8ed5124e0e3b6defd06038af9155cb939858e3f3366619643d64e12a65591ddb", func := "vouch/vouchlaw5.ContainerBack", spec := "containerBack", unfollowed := true, recurses := true, apart := false }
def ContainerBackSaid : Prop := containerBackRow.holds Try.pinned (OpenSpec.ofChange containerBackSpec)

/-- ITS FALSE NEIGHBOUR: 'it returns false'. Refute it at one input. -/
def containerBackWrong : ChangeSpec := { name := "containerBack", fn := fun _ => fun
  | [d] => { results := [.lit (.bool false)], args := [d] }
  | _ => none }
def ContainerBackWrongFalsely : Prop := containerBackRow.holds Try.pinned (OpenSpec.ofChange containerBackWrong)

/-- 'vouchlaw5.ContainerForm': WHATEVER THE INPUT: true; the input reads as it did. -/
def containerFormSpec : ChangeSpec := { name := "containerForm", fn := fun _ => fun
  | [d] => { results := [.lit (.bool true)], args := [d] }
  | _ => none }
def containerFormRow : OpenClaim := { program := "ytkbboepopcebaaa", sum := "8ed5124e0e3b6defd06038af9155cb939858e3f3366619643d64e12a65591ddb", func := "vouch/vouchlaw5.ContainerForm", spec := "containerForm", unfollowed := true, recurses := true, apart := false }
def ContainerFormSaid : Prop := containerFormRow.holds Try.pinned (OpenSpec.ofChange containerFormSpec)

/-- ITS FALSE NEIGHBOUR: 'it returns false'. Refute it at one input. -/
def containerFormWrong : ChangeSpec := { name := "containerForm", fn := fun _ => fun
  | [d] => { results := [.lit (.bool false)], args := [d] }
  | _ => none }
def ContainerFormWrongFalsely : Prop := containerFormRow.holds Try.pinned (OpenSpec.ofChange containerFormWrong)

/-- 'vouchlaw5.ContainerCuts': WHATEVER THE INPUT: true; the input reads as it did. -/
def containerCutsSpec : ChangeSpec := { name := "containerCuts", fn := fun _ => fun
  | [d1, d2, d3] => { results := [.lit (.bool true)], args := [d1, d2, d3] }
  | _ => none }
def containerCutsRow : OpenClaim := { program := "ytkbboepopcebaaa", sum := "8ed5124e0e3b6defd06038af9155cb939858e3f3366619643d64e12a65591ddb", func := "vouch/vouchlaw5.ContainerCuts", spec := "containerCuts", unfollowed := true, recurses := true, apart := false }
def ContainerCutsSaid : Prop := containerCutsRow.holds Try.pinned (OpenSpec.ofChange containerCutsSpec)

/-- ITS FALSE NEIGHBOUR: 'it returns false'. Refute it at one input. -/
def containerCutsWrong : ChangeSpec := { name := "containerCuts", fn := fun _ => fun
  | [d1, d2, d3] => { results := [.lit (.bool false)], args := [d1, d2, d3] }
  | _ => none }
def ContainerCutsWrongFalsely : Prop := containerCutsRow.holds Try.pinned (OpenSpec.ofChange containerCutsWrong)

/-- 'vouchlaw5.ContainerTurned': WHATEVER THE INPUT: true; the input reads as it did. -/
def containerTurnedSpec : ChangeSpec := { name := "containerTurned", fn := fun _ => fun
  | [d1, d2, d3] => { results := [.lit (.bool true)], args := [d1, d2, d3] }
  | _ => none }
def containerTurnedRow : OpenClaim := { program := "ytkbboepopcebaaa", sum := "8ed5124e0e3b6defd06038af9155cb939858e3f3366619643d64e12a65591ddb", func := "vouch/vouchlaw5.ContainerTurned", spec := "containerTurned", unfollowed := true, recurses := true, apart := false }
def ContainerTurnedSaid : Prop := containerTurnedRow.holds Try.pinned (OpenSpec.ofChange containerTurnedSpec)

/-- ITS FALSE NEIGHBOUR: 'it returns false'. Refute it at one input. -/
def containerTurnedWrong : ChangeSpec := { name := "containerTurned", fn := fun _ => fun
  | [d1, d2, d3] => { results := [.lit (.bool false)], args := [d1, d2, d3] }
  | _ => none }
def ContainerTurnedWrongFalsely : Prop := containerTurnedRow.holds Try.pinned (OpenSpec.ofChange containerTurnedWrong)

/-- 'vouchlaw5.ContainerLays': WHATEVER THE INPUT: true; the input reads as it did. -/
def containerLaysSpec : ChangeSpec := { name := "containerLays", fn := fun _ => fun
  | [d1, d2] => { results := [.lit (.bool true)], args := [d1, d2] }
  | _ => none }
def containerLaysRow : OpenClaim := { program := "ytkbboepopcebaaa", sum := "8ed5124e0e3b6defd06038af9155cb939858e3f3366619643d64e12a65591ddb", func := "vouch/vouchlaw5.ContainerLays", spec := "containerLays", unfollowed := true, recurses := true, apart := false }
def ContainerLaysSaid : Prop := containerLaysRow.holds Try.pinned (OpenSpec.ofChange containerLaysSpec)

/-- ITS FALSE NEIGHBOUR: 'it returns false'. Refute it at one input. -/
def containerLaysWrong : ChangeSpec := { name := "containerLays", fn := fun _ => fun
  | [d1, d2] => { results := [.lit (.bool false)], args := [d1, d2] }
  | _ => none }
def ContainerLaysWrongFalsely : Prop := containerLaysRow.holds Try.pinned (OpenSpec.ofChange containerLaysWrong)

/-- 'vouchlaw5.ContainerAll': WHATEVER THE INPUT: true; the input reads as it did. -/
def containerAllSpec : ChangeSpec := { name := "containerAll", fn := fun _ => fun
  | [d] => { results := [.lit (.bool true)], args := [d] }
  | _ => none }
def containerAllRow : OpenClaim := { program := "ytkbboepopcebaaa", sum := "8ed5124e0e3b6defd06038af9155cb939858e3f3366619643d64e12a65591ddb", func := "vouch/vouchlaw5.ContainerAll", spec := "containerAll", unfollowed := true, recurses := true, apart := false }
def ContainerAllSaid : Prop := containerAllRow.holds Try.pinned (OpenSpec.ofChange containerAllSpec)

/-- ITS FALSE NEIGHBOUR: 'it returns false'. Refute it at one input. -/
def containerAllWrong : ChangeSpec := { name := "containerAll", fn := fun _ => fun
  | [d] => { results := [.lit (.bool false)], args := [d] }
  | _ => none }
def ContainerAllWrongFalsely : Prop := containerAllRow.holds Try.pinned (OpenSpec.ofChange containerAllWrong)

/-- 'vouchlaw5.ContainerLaid': WHATEVER THE INPUT: true; the input reads as it did. -/
def containerLaidSpec : ChangeSpec := { name := "containerLaid", fn := fun _ => fun
  | [d1, d2, d3] => { results := [.lit (.bool true)], args := [d1, d2, d3] }
  | _ => none }
def containerLaidRow : OpenClaim := { program := "ytkbboepopcebaaa", sum := "8ed5124e0e3b6defd06038af9155cb939858e3f3366619643d64e12a65591ddb", func := "vouch/vouchlaw5.ContainerLaid", spec := "containerLaid", unfollowed := true, recurses := true, apart := false }
def ContainerLaidSaid : Prop := containerLaidRow.holds Try.pinned (OpenSpec.ofChange containerLaidSpec)

/-- ITS FALSE NEIGHBOUR: 'it returns false'. Refute it at one input. -/
def containerLaidWrong : ChangeSpec := { name := "containerLaid", fn := fun _ => fun
  | [d1, d2, d3] => { results := [.lit (.bool false)], args := [d1, d2, d3] }
  | _ => none }
def ContainerLaidWrongFalsely : Prop := containerLaidRow.holds Try.pinned (OpenSpec.ofChange containerLaidWrong)

/-- 'vouchlaw5.ContainerFresh': WHATEVER THE INPUT: true; the input reads as it did. -/
def containerFreshSpec : ChangeSpec := { name := "containerFresh", fn := fun _ => fun
  | [d1, d2] => { results := [.lit (.bool true)], args := [d1, d2] }
  | _ => none }
def containerFreshRow : OpenClaim := { program := "ytkbboepopcebaaa", sum := "8ed5124e0e3b6defd06038af9155cb939858e3f3366619643d64e12a65591ddb", func := "vouch/vouchlaw5.ContainerFresh", spec := "containerFresh", unfollowed := true, recurses := true, apart := false }
def ContainerFreshSaid : Prop := containerFreshRow.holds Try.pinned (OpenSpec.ofChange containerFreshSpec)

/-- ITS FALSE NEIGHBOUR: 'it returns false'. Refute it at one input. -/
def containerFreshWrong : ChangeSpec := { name := "containerFresh", fn := fun _ => fun
  | [d1, d2] => { results := [.lit (.bool false)], args := [d1, d2] }
  | _ => none }
def ContainerFreshWrongFalsely : Prop := containerFreshRow.holds Try.pinned (OpenSpec.ofChange containerFreshWrong)

/- THE SECOND FORM. 'bulk': how many values and letters a reading holds, each counted each time it is reached (what is shared counts as often as it is met; a slice's spare places count too). A statement '..UptoSaid' is the law's where the arguments, and the package variables that the reading takes, are together of bulk at most 1048576: NARROWER than '..Said'. Prove '..Said' where nothing that the law and all that it calls make is longer than what came in: it says more and counts as full. Else prove '..UptoSaid'. A law counts once. -/
mutual
def uptoBulk {H : Type} : DataW H → Nat
  | .lit (.string bytes) => bytes.length + 1
  | .lit _ => 1
  | .nil => 1
  | .ptr d => uptoBulk d + 1
  | .slice elems spare => uptoBulkAll elems + uptoBulkAll spare + 1
  | .agg parts => uptoBulkAll parts + 1
  | .iface _ d => uptoBulk d + 1
  | .map entries => uptoBulkEntries entries + 1
  | .held _ => 1
def uptoBulkAll {H : Type} : List (DataW H) → Nat
  | [] => 0
  | d :: r => uptoBulk d + uptoBulkAll r
def uptoBulkEntries {H : Type} : List (Lit × DataW H) → Nat
  | [] => 0
  | x :: r => uptoBulkEntry x + uptoBulkEntries r
def uptoBulkEntry {H : Type} : Lit × DataW H → Nat
  | (.string bytes, d) => bytes.length + uptoBulk d + 1
  | (_, d) => uptoBulk d + 1
 end
def uptoSmall : (H : Type) → List (DataW H) → Bool := fun _ ds => decide (uptoBulkAll ds ≤ 1048576)
def OpenSpec.upto (s : _root_.Go.ChangeSpec) : _root_.Go.OpenSpec := { _root_.Go.OpenSpec.ofChange s with cond := some uptoSmall }

/-- 'vouchlaw5.ContainerParse', WHERE WHAT IT READS IS OF BULK AT MOST 1048576: true; the input reads as it did. -/
def containerParseUptoRow : OpenClaim := { program := "ytkbboepopcebaaa", sum := "8ed5124e0e3b6defd06038af9155cb939858e3f3366619643d64e12a65591ddb", func := "vouch/vouchlaw5.ContainerParse", spec := "containerParse", unfollowed := true, recurses := true, apart := false, narrowed := true }
def ContainerParseUptoSaid : Prop := containerParseUptoRow.holds Try.pinned (OpenSpec.upto containerParseSpec)

/-- 'vouchlaw5.ContainerCheck', WHERE WHAT IT READS IS OF BULK AT MOST 1048576: true; the input reads as it did. -/
def containerCheckUptoRow : OpenClaim := { program := "ytkbboepopcebaaa", sum := "8ed5124e0e3b6defd06038af9155cb939858e3f3366619643d64e12a65591ddb", func := "vouch/vouchlaw5.ContainerCheck", spec := "containerCheck", unfollowed := true, recurses := true, apart := false, narrowed := true }
def ContainerCheckUptoSaid : Prop := containerCheckUptoRow.holds Try.pinned (OpenSpec.upto containerCheckSpec)

/-- 'vouchlaw5.ContainerWrites', WHERE WHAT IT READS IS OF BULK AT MOST 1048576: true; the input reads as it did. -/
def containerWritesUptoRow : OpenClaim := { program := "ytkbboepopcebaaa", sum := "8ed5124e0e3b6defd06038af9155cb939858e3f3366619643d64e12a65591ddb", func := "vouch/vouchlaw5.ContainerWrites", spec := "containerWrites", unfollowed := true, recurses := true, apart := false, narrowed := true }
def ContainerWritesUptoSaid : Prop := containerWritesUptoRow.holds Try.pinned (OpenSpec.upto containerWritesSpec)

/-- 'vouchlaw5.ContainerBack', WHERE WHAT IT READS IS OF BULK AT MOST 1048576: true; the input reads as it did. -/
def containerBackUptoRow : OpenClaim := { program := "ytkbboepopcebaaa", sum := "8ed5124e0e3b6defd06038af9155cb939858e3f3366619643d64e12a65591ddb", func := "vouch/vouchlaw5.ContainerBack", spec := "containerBack", unfollowed := true, recurses := true, apart := false, narrowed := true }
def ContainerBackUptoSaid : Prop := containerBackUptoRow.holds Try.pinned (OpenSpec.upto containerBackSpec)

/-- 'vouchlaw5.ContainerForm', WHERE WHAT IT READS IS OF BULK AT MOST 1048576: true; the input reads as it did. -/
def containerFormUptoRow : OpenClaim := { program := "ytkbboepopcebaaa", sum := "8ed5124e0e3b6defd06038af9155cb939858e3f3366619643d64e12a65591ddb", func := "vouch/vouchlaw5.ContainerForm", spec := "containerForm", unfollowed := true, recurses := true, apart := false, narrowed := true }
def ContainerFormUptoSaid : Prop := containerFormUptoRow.holds Try.pinned (OpenSpec.upto containerFormSpec)

/-- 'vouchlaw5.ContainerCuts', WHERE WHAT IT READS IS OF BULK AT MOST 1048576: true; the input reads as it did. -/
def containerCutsUptoRow : OpenClaim := { program := "ytkbboepopcebaaa", sum := "8ed5124e0e3b6defd06038af9155cb939858e3f3366619643d64e12a65591ddb", func := "vouch/vouchlaw5.ContainerCuts", spec := "containerCuts", unfollowed := true, recurses := true, apart := false, narrowed := true }
def ContainerCutsUptoSaid : Prop := containerCutsUptoRow.holds Try.pinned (OpenSpec.upto containerCutsSpec)

/-- 'vouchlaw5.ContainerTurned', WHERE WHAT IT READS IS OF BULK AT MOST 1048576: true; the input reads as it did. -/
def containerTurnedUptoRow : OpenClaim := { program := "ytkbboepopcebaaa", sum := "8ed5124e0e3b6defd06038af9155cb939858e3f3366619643d64e12a65591ddb", func := "vouch/vouchlaw5.ContainerTurned", spec := "containerTurned", unfollowed := true, recurses := true, apart := false, narrowed := true }
def ContainerTurnedUptoSaid : Prop := containerTurnedUptoRow.holds Try.pinned (OpenSpec.upto containerTurnedSpec)

/-- 'vouchlaw5.ContainerLays', WHERE WHAT IT READS IS OF BULK AT MOST 1048576: true; the input reads as it did. -/
def containerLaysUptoRow : OpenClaim := { program := "ytkbboepopcebaaa", sum := "8ed5124e0e3b6defd06038af9155cb939858e3f3366619643d64e12a65591ddb", func := "vouch/vouchlaw5.ContainerLays", spec := "containerLays", unfollowed := true, recurses := true, apart := false, narrowed := true }
def ContainerLaysUptoSaid : Prop := containerLaysUptoRow.holds Try.pinned (OpenSpec.upto containerLaysSpec)

/-- 'vouchlaw5.ContainerAll', WHERE WHAT IT READS IS OF BULK AT MOST 1048576: true; the input reads as it did. -/
def containerAllUptoRow : OpenClaim := { program := "ytkbboepopcebaaa", sum := "8ed5124e0e3b6defd06038af9155cb939858e3f3366619643d64e12a65591ddb", func := "vouch/vouchlaw5.ContainerAll", spec := "containerAll", unfollowed := true, recurses := true, apart := false, narrowed := true }
def ContainerAllUptoSaid : Prop := containerAllUptoRow.holds Try.pinned (OpenSpec.upto containerAllSpec)

/-- 'vouchlaw5.ContainerLaid', WHERE WHAT IT READS IS OF BULK AT MOST 1048576: true; the input reads as it did. -/
def containerLaidUptoRow : OpenClaim := { program := "ytkbboepopcebaaa", sum := "8ed5124e0e3b6defd06038af9155cb939858e3f3366619643d64e12a65591ddb", func := "vouch/vouchlaw5.ContainerLaid", spec := "containerLaid", unfollowed := true, recurses := true, apart := false, narrowed := true }
def ContainerLaidUptoSaid : Prop := containerLaidUptoRow.holds Try.pinned (OpenSpec.upto containerLaidSpec)

/-- 'vouchlaw5.ContainerFresh', WHERE WHAT IT READS IS OF BULK AT MOST 1048576: true; the input reads as it did. -/
def containerFreshUptoRow : OpenClaim := { program := "ytkbboepopcebaaa", sum := "8ed5124e0e3b6defd06038af9155cb939858e3f3366619643d64e12a65591ddb", func := "vouch/vouchlaw5.ContainerFresh", spec := "containerFresh", unfollowed := true, recurses := true, apart := false, narrowed := true }
def ContainerFreshUptoSaid : Prop := containerFreshUptoRow.holds Try.pinned (OpenSpec.upto containerFreshSpec)

end Rows
end Go.Proofs.Ytkbboepopcebaaa
