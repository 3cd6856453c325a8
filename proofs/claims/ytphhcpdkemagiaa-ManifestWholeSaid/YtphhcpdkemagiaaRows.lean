/-
  No cell of these rows narrows 'for every input' (looked for: loops, veiled, ifaces, maps, wideKeys, modest, calm, conditions, laid).
  DERIVED. THE GIVEN ROWS OF THIS SEAT. 5 by the template 'for every input the law returns true; each argument reads behind the call as it read before'; 0 by the template 'total and deterministic' (their statements: YtphhcpdkemagiaaTotals.lean).
  GIVEN WITH THE SEED: the statements are not yours to turn. If you find one false, say at which input.
  Laid BY PROGRAM, IN A SANDBOX (cutbox-rows.mjs): the forced cells as the released guide's own fill.sh prints them over the translation f84dd841c1d2c145… (all of the seat's roots in one cut). By AI agents, Wed Nov 11 2026. No macro, syntax, notation, axiom, sorry.
-/
import Derived.Test.YtphhcpdkemagiaaChecked
import GoSem.Claim
import GoSem.ClaimJoined
import GoSem.ClaimMapViews
import Derived.JoinedTies
import Derived.KernelRfl
namespace Go.Proofs.Ytphhcpdkemagiaa
/- THE CELL 'sum', in the pinned program and in every row, IS THE sha256 OF THE DUMP (.gsa) THAT YtphhcpdkemagiaaProg.lean LOADS. Nothing in Lean hashes anything: it is a label: what it is worth is what the hold of that sum in a sandbox is worth. -/
noncomputable def Try.pinned : Pinned := { name := "ytphhcpdkemagiaa", sum := "f84dd841c1d2c14525138e4335ecaf53d3ccf341e6a2a60a7cb6e3b05a051c92", checked := Try.checked }
namespace Rows
def none {H : Type} : Left H := { results := [], args := [] }

/-- 'governorlaw05.ManifestTells': WHATEVER THE INPUT: true; the input reads as it did. -/
def manifestTellsSpec : ChangeSpec := { name := "manifestTells", fn := fun _ => fun
  | [d1, d2] => { results := [.lit (.bool true)], args := [d1, d2] }
  | _ => none }
def manifestTellsRow : OpenClaim := { program := "ytphhcpdkemagiaa", sum := "f84dd841c1d2c14525138e4335ecaf53d3ccf341e6a2a60a7cb6e3b05a051c92", func := "governor/governorlaw05.ManifestTells", spec := "manifestTells", unfollowed := true, recurses := true, apart := false }
def ManifestTellsSaid : Prop := manifestTellsRow.holds Try.pinned (OpenSpec.ofChange manifestTellsSpec)

/-- ITS FALSE NEIGHBOUR: 'it returns false'. Refute it at one input. -/
def manifestTellsWrong : ChangeSpec := { name := "manifestTells", fn := fun _ => fun
  | [d1, d2] => { results := [.lit (.bool false)], args := [d1, d2] }
  | _ => none }
def ManifestTellsWrongFalsely : Prop := manifestTellsRow.holds Try.pinned (OpenSpec.ofChange manifestTellsWrong)

/-- 'governorlaw05.ManifestBack': WHATEVER THE INPUT: true; the input reads as it did. -/
def manifestBackSpec : ChangeSpec := { name := "manifestBack", fn := fun _ => fun
  | [d1, d2, d3, d4] => { results := [.lit (.bool true)], args := [d1, d2, d3, d4] }
  | _ => none }
def manifestBackRow : OpenClaim := { program := "ytphhcpdkemagiaa", sum := "f84dd841c1d2c14525138e4335ecaf53d3ccf341e6a2a60a7cb6e3b05a051c92", func := "governor/governorlaw05.ManifestBack", spec := "manifestBack", unfollowed := true, recurses := true, apart := false }
def ManifestBackSaid : Prop := manifestBackRow.holds Try.pinned (OpenSpec.ofChange manifestBackSpec)

/-- ITS FALSE NEIGHBOUR: 'it returns false'. Refute it at one input. -/
def manifestBackWrong : ChangeSpec := { name := "manifestBack", fn := fun _ => fun
  | [d1, d2, d3, d4] => { results := [.lit (.bool false)], args := [d1, d2, d3, d4] }
  | _ => none }
def ManifestBackWrongFalsely : Prop := manifestBackRow.holds Try.pinned (OpenSpec.ofChange manifestBackWrong)

/-- 'governorlaw05.ManifestRight': WHATEVER THE INPUT: true; the input reads as it did. -/
def manifestRightSpec : ChangeSpec := { name := "manifestRight", fn := fun _ => fun
  | [d1, d2] => { results := [.lit (.bool true)], args := [d1, d2] }
  | _ => none }
def manifestRightRow : OpenClaim := { program := "ytphhcpdkemagiaa", sum := "f84dd841c1d2c14525138e4335ecaf53d3ccf341e6a2a60a7cb6e3b05a051c92", func := "governor/governorlaw05.ManifestRight", spec := "manifestRight", unfollowed := true, recurses := true, apart := false }
def ManifestRightSaid : Prop := manifestRightRow.holds Try.pinned (OpenSpec.ofChange manifestRightSpec)

/-- ITS FALSE NEIGHBOUR: 'it returns false'. Refute it at one input. -/
def manifestRightWrong : ChangeSpec := { name := "manifestRight", fn := fun _ => fun
  | [d1, d2] => { results := [.lit (.bool false)], args := [d1, d2] }
  | _ => none }
def ManifestRightWrongFalsely : Prop := manifestRightRow.holds Try.pinned (OpenSpec.ofChange manifestRightWrong)

/-- 'governorlaw05.ManifestRow': WHATEVER THE INPUT: true; the input reads as it did. -/
def manifestRowSpec : ChangeSpec := { name := "manifestRow", fn := fun _ => fun
  | [d] => { results := [.lit (.bool true)], args := [d] }
  | _ => none }
def manifestRowRow : OpenClaim := { program := "ytphhcpdkemagiaa", sum := "f84dd841c1d2c14525138e4335ecaf53d3ccf341e6a2a60a7cb6e3b05a051c92", func := "governor/governorlaw05.ManifestRow", spec := "manifestRow", unfollowed := true, recurses := true, apart := false }
def ManifestRowSaid : Prop := manifestRowRow.holds Try.pinned (OpenSpec.ofChange manifestRowSpec)

/-- ITS FALSE NEIGHBOUR: 'it returns false'. Refute it at one input. -/
def manifestRowWrong : ChangeSpec := { name := "manifestRow", fn := fun _ => fun
  | [d] => { results := [.lit (.bool false)], args := [d] }
  | _ => none }
def ManifestRowWrongFalsely : Prop := manifestRowRow.holds Try.pinned (OpenSpec.ofChange manifestRowWrong)

/-- 'governorlaw05.ManifestWhole': WHATEVER THE INPUT: true; the input reads as it did. -/
def manifestWholeSpec : ChangeSpec := { name := "manifestWhole", fn := fun _ => fun
  | [d1, d2, d3, d4, d5, d6] => { results := [.lit (.bool true)], args := [d1, d2, d3, d4, d5, d6] }
  | _ => none }
def manifestWholeRow : OpenClaim := { program := "ytphhcpdkemagiaa", sum := "f84dd841c1d2c14525138e4335ecaf53d3ccf341e6a2a60a7cb6e3b05a051c92", func := "governor/governorlaw05.ManifestWhole", spec := "manifestWhole", unfollowed := true, recurses := true, apart := false }
def ManifestWholeSaid : Prop := manifestWholeRow.holds Try.pinned (OpenSpec.ofChange manifestWholeSpec)

/-- ITS FALSE NEIGHBOUR: 'it returns false'. Refute it at one input. -/
def manifestWholeWrong : ChangeSpec := { name := "manifestWhole", fn := fun _ => fun
  | [d1, d2, d3, d4, d5, d6] => { results := [.lit (.bool false)], args := [d1, d2, d3, d4, d5, d6] }
  | _ => none }
def ManifestWholeWrongFalsely : Prop := manifestWholeRow.holds Try.pinned (OpenSpec.ofChange manifestWholeWrong)

/- THE SECOND FORM. 'bulk': how many values and letters a reading holds, each counted each time it is reached (what is shared counts as often as it is met; a slice's spare places count too). A statement '..UptoSaid' is the law's where the arguments, and the package variables that the reading takes, are together of bulk at most 1048576: NARROWER than '..Said'. Prove '..Said' where nothing that the law and all that it calls make is longer than what came in: it says more and counts as full. Else prove '..UptoSaid'. A law counts once. -/
mutual
def uptoBulk {H : Type} : DataW H → Nat
  | .lit (.string bytes) => bytes.length + 1
  | .lit _ => 1
  | .nil => 1
  | .ptr d => uptoBulk d + 1
  | .slice elems spare => uptoBulkAll elems + uptoBulkAll spare + 1
  | .agg parts => uptoBulkAll parts + 1
  | .iface _ d => uptoBulk d + 1
  | .map entries => uptoBulkEntries entries + 1
  | .held _ => 1
def uptoBulkAll {H : Type} : List (DataW H) → Nat
  | [] => 0
  | d :: r => uptoBulk d + uptoBulkAll r
def uptoBulkEntries {H : Type} : List (Lit × DataW H) → Nat
  | [] => 0
  | x :: r => uptoBulkEntry x + uptoBulkEntries r
def uptoBulkEntry {H : Type} : Lit × DataW H → Nat
  | (.string bytes, d) => bytes.length + uptoBulk d + 1
  | (_, d) => uptoBulk d + 1
 end
def uptoSmall : (H : Type) → List (DataW H) → Bool := fun _ ds => decide (uptoBulkAll ds ≤ 1048576)
def OpenSpec.upto (s : _root_.Go.ChangeSpec) : _root_.Go.OpenSpec := { _root_.Go.OpenSpec.ofChange s with cond := some uptoSmall }

/-- 'governorlaw05.ManifestTells', WHERE WHAT IT READS IS OF BULK AT MOST 1048576: true; the input reads as it did. -/
def manifestTellsUptoRow : OpenClaim := { program := "ytphhcpdkemagiaa", sum := "f84dd841c1d2c14525138e4335ecaf53d3ccf341e6a2a60a7cb6e3b05a051c92", func := "governor/governorlaw05.ManifestTells", spec := "manifestTells", unfollowed := true, recurses := true, apart := false, narrowed := true }
def ManifestTellsUptoSaid : Prop := manifestTellsUptoRow.holds Try.pinned (OpenSpec.upto manifestTellsSpec)

/-- 'governorlaw05.ManifestBack', WHERE WHAT IT READS IS OF BULK AT MOST 1048576: true; the input reads as it did. -/
def manifestBackUptoRow : OpenClaim := { program := "ytphhcpdkemagiaa", sum := "f84dd841c1d2c14525138e4335ecaf53d3ccf341e6a2a60a7cb6e3b05a051c92", func := "governor/governorlaw05.ManifestBack", spec := "manifestBack", unfollowed := true, recurses := true, apart := false, narrowed := true }
def ManifestBackUptoSaid : Prop := manifestBackUptoRow.holds Try.pinned (OpenSpec.upto manifestBackSpec)

/-- 'governorlaw05.ManifestRight', WHERE WHAT IT READS IS OF BULK AT MOST 1048576: true; the input reads as it did. -/
def manifestRightUptoRow : OpenClaim := { program := "ytphhcpdkemagiaa", sum := "f84dd841c1d2c14525138e4335ecaf53d3ccf341e6a2a60a7cb6e3b05a051c92", func := "governor/governorlaw05.ManifestRight", spec := "manifestRight", unfollowed := true, recurses := true, apart := false, narrowed := true }
def ManifestRightUptoSaid : Prop := manifestRightUptoRow.holds Try.pinned (OpenSpec.upto manifestRightSpec)

/-- 'governorlaw05.ManifestRow', WHERE WHAT IT READS IS OF BULK AT MOST 1048576: true; the input reads as it did. -/
def manifestRowUptoRow : OpenClaim := { program := "ytphhcpdkemagiaa", sum := "f84dd841c1d2c14525138e4335ecaf53d3ccf341e6a2a60a7cb6e3b05a051c92", func := "governor/governorlaw05.ManifestRow", spec := "manifestRow", unfollowed := true, recurses := true, apart := false, narrowed := true }
def ManifestRowUptoSaid : Prop := manifestRowUptoRow.holds Try.pinned (OpenSpec.upto manifestRowSpec)

/-- 'governorlaw05.ManifestWhole', WHERE WHAT IT READS IS OF BULK AT MOST 1048576: true; the input reads as it did. -/
def manifestWholeUptoRow : OpenClaim := { program := "ytphhcpdkemagiaa", sum := "f84dd841c1d2c14525138e4335ecaf53d3ccf341e6a2a60a7cb6e3b05a051c92", func := "governor/governorlaw05.ManifestWhole", spec := "manifestWhole", unfollowed := true, recurses := true, apart := false, narrowed := true }
def ManifestWholeUptoSaid : Prop := manifestWholeUptoRow.holds Try.pinned (OpenSpec.upto manifestWholeSpec)

end Rows
end Go.Proofs.Ytphhcpdkemagiaa
