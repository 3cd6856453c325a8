/-
  No cell of these rows narrows 'for every input' (looked for: loops, veiled, ifaces, maps, wideKeys, modest, calm, conditions, laid).
  DERIVED. THE GIVEN ROWS OF THIS SEAT. 7 by the template 'for every input the law returns true; each argument reads behind the call as it read before'; 0 by the template 'total and deterministic' (their statements: YtncbfppafgjdiaaGreatTotals.lean).
  GIVEN WITH THE SEED: the statements are not yours to turn. If you find one false, say at which input.
  Laid BY PROGRAM, IN A SANDBOX (cutbox-rows.mjs): the forced cells as the released guide's own fill.sh prints them over the translation 8bc6e5205c5350d0… (all of the seat's roots in one cut). By AI agents, Wed Nov 11 2026. No macro, syntax, notation, axiom, sorry.
-/
import Derived.Test.YtncbfppafgjdiaaGreatChecked
import GoSem.Claim
import GoSem.ClaimJoined
import GoSem.ClaimMapViews
import Derived.JoinedTies
import Derived.KernelRfl
namespace Go.Proofs.YtncbfppafgjdiaaGreat
/- THE CELL 'sum', in the pinned program and in every row, IS THE sha256 OF THE DUMP (.gsa) THAT YtncbfppafgjdiaaGreatProg.lean LOADS. Nothing in Lean hashes anything: it is a label: what it is worth is what the hold of that sum in a sandbox is worth. -/
noncomputable def Tryz.pinned : Pinned := { name := "ytncbfppafgjdiaagreat", sum := "8bc6e5205c5350d0c0b4ae14e7a4e1e690bd17e45b1cb348c3069849f8aa0453", checked := Tryz.checked }
namespace Rows
def none {H : Type} : Left H := { results := [], args := [] }

/-- 'governorlaw20.ControlTells': WHATEVER THE INPUT: true; the input reads as it did. -/
def controlTellsSpec : ChangeSpec := { name := "controlTells", fn := fun _ => fun
  | [d] => { results := [.lit (.bool true)], args := [d] }
  | _ => none }
def controlTellsRow : OpenClaim := { program := "ytncbfppafgjdiaagreat", sum := "8bc6e5205c5350d0c0b4ae14e7a4e1e690bd17e45b1cb348c3069849f8aa0453", func := "governor/governorlaw20.ControlTells", spec := "controlTells", unfollowed := true, recurses := true, apart := false }
def ControlTellsSaid : Prop := controlTellsRow.holds Tryz.pinned (OpenSpec.ofChange controlTellsSpec)

/-- ITS FALSE NEIGHBOUR: 'it returns false'. Refute it at one input. -/
def controlTellsWrong : ChangeSpec := { name := "controlTells", fn := fun _ => fun
  | [d] => { results := [.lit (.bool false)], args := [d] }
  | _ => none }
def ControlTellsWrongFalsely : Prop := controlTellsRow.holds Tryz.pinned (OpenSpec.ofChange controlTellsWrong)

/-- 'governorlaw20.ControlBounds': WHATEVER THE INPUT: true; the input reads as it did. -/
def controlBoundsSpec : ChangeSpec := { name := "controlBounds", fn := fun _ => fun
  | [d] => { results := [.lit (.bool true)], args := [d] }
  | _ => none }
def controlBoundsRow : OpenClaim := { program := "ytncbfppafgjdiaagreat", sum := "8bc6e5205c5350d0c0b4ae14e7a4e1e690bd17e45b1cb348c3069849f8aa0453", func := "governor/governorlaw20.ControlBounds", spec := "controlBounds", unfollowed := true, recurses := true, apart := false }
def ControlBoundsSaid : Prop := controlBoundsRow.holds Tryz.pinned (OpenSpec.ofChange controlBoundsSpec)

/-- ITS FALSE NEIGHBOUR: 'it returns false'. Refute it at one input. -/
def controlBoundsWrong : ChangeSpec := { name := "controlBounds", fn := fun _ => fun
  | [d] => { results := [.lit (.bool false)], args := [d] }
  | _ => none }
def ControlBoundsWrongFalsely : Prop := controlBoundsRow.holds Tryz.pinned (OpenSpec.ofChange controlBoundsWrong)

/-- 'governorlaw20.ControlShadows': WHATEVER THE INPUT: true; the input reads as it did. -/
def controlShadowsSpec : ChangeSpec := { name := "controlShadows", fn := fun _ => fun
  | [d1, d2] => { results := [.lit (.bool true)], args := [d1, d2] }
  | _ => none }
def controlShadowsRow : OpenClaim := { program := "ytncbfppafgjdiaagreat", sum := "8bc6e5205c5350d0c0b4ae14e7a4e1e690bd17e45b1cb348c3069849f8aa0453", func := "governor/governorlaw20.ControlShadows", spec := "controlShadows", unfollowed := true, recurses := true, apart := false }
def ControlShadowsSaid : Prop := controlShadowsRow.holds Tryz.pinned (OpenSpec.ofChange controlShadowsSpec)

/-- ITS FALSE NEIGHBOUR: 'it returns false'. Refute it at one input. -/
def controlShadowsWrong : ChangeSpec := { name := "controlShadows", fn := fun _ => fun
  | [d1, d2] => { results := [.lit (.bool false)], args := [d1, d2] }
  | _ => none }
def ControlShadowsWrongFalsely : Prop := controlShadowsRow.holds Tryz.pinned (OpenSpec.ofChange controlShadowsWrong)

/-- 'governorlaw20.ControlGuard': WHATEVER THE INPUT: true; the input reads as it did. -/
def controlGuardSpec : ChangeSpec := { name := "controlGuard", fn := fun _ => fun
  | [d] => { results := [.lit (.bool true)], args := [d] }
  | _ => none }
def controlGuardRow : OpenClaim := { program := "ytncbfppafgjdiaagreat", sum := "8bc6e5205c5350d0c0b4ae14e7a4e1e690bd17e45b1cb348c3069849f8aa0453", func := "governor/governorlaw20.ControlGuard", spec := "controlGuard", unfollowed := true, recurses := true, apart := false }
def ControlGuardSaid : Prop := controlGuardRow.holds Tryz.pinned (OpenSpec.ofChange controlGuardSpec)

/-- ITS FALSE NEIGHBOUR: 'it returns false'. Refute it at one input. -/
def controlGuardWrong : ChangeSpec := { name := "controlGuard", fn := fun _ => fun
  | [d] => { results := [.lit (.bool false)], args := [d] }
  | _ => none }
def ControlGuardWrongFalsely : Prop := controlGuardRow.holds Tryz.pinned (OpenSpec.ofChange controlGuardWrong)

/-- 'governorlaw20.ControlBack': WHATEVER THE INPUT: true; the input reads as it did. -/
def controlBackSpec : ChangeSpec := { name := "controlBack", fn := fun _ => fun
  | [d1, d2] => { results := [.lit (.bool true)], args := [d1, d2] }
  | _ => none }
def controlBackRow : OpenClaim := { program := "ytncbfppafgjdiaagreat", sum := "8bc6e5205c5350d0c0b4ae14e7a4e1e690bd17e45b1cb348c3069849f8aa0453", func := "governor/governorlaw20.ControlBack", spec := "controlBack", unfollowed := true, recurses := true, apart := false }
def ControlBackSaid : Prop := controlBackRow.holds Tryz.pinned (OpenSpec.ofChange controlBackSpec)

/-- ITS FALSE NEIGHBOUR: 'it returns false'. Refute it at one input. -/
def controlBackWrong : ChangeSpec := { name := "controlBack", fn := fun _ => fun
  | [d1, d2] => { results := [.lit (.bool false)], args := [d1, d2] }
  | _ => none }
def ControlBackWrongFalsely : Prop := controlBackRow.holds Tryz.pinned (OpenSpec.ofChange controlBackWrong)

/-- 'governorlaw20.ControlTime': WHATEVER THE INPUT: true; the input reads as it did. -/
def controlTimeSpec : ChangeSpec := { name := "controlTime", fn := fun _ => fun
  | [d1, d2] => { results := [.lit (.bool true)], args := [d1, d2] }
  | _ => none }
def controlTimeRow : OpenClaim := { program := "ytncbfppafgjdiaagreat", sum := "8bc6e5205c5350d0c0b4ae14e7a4e1e690bd17e45b1cb348c3069849f8aa0453", func := "governor/governorlaw20.ControlTime", spec := "controlTime", unfollowed := true, recurses := true, apart := false }
def ControlTimeSaid : Prop := controlTimeRow.holds Tryz.pinned (OpenSpec.ofChange controlTimeSpec)

/-- ITS FALSE NEIGHBOUR: 'it returns false'. Refute it at one input. -/
def controlTimeWrong : ChangeSpec := { name := "controlTime", fn := fun _ => fun
  | [d1, d2] => { results := [.lit (.bool false)], args := [d1, d2] }
  | _ => none }
def ControlTimeWrongFalsely : Prop := controlTimeRow.holds Tryz.pinned (OpenSpec.ofChange controlTimeWrong)

/-- 'governorlaw20.ControlOwn': WHATEVER THE INPUT: true; the input reads as it did. -/
def controlOwnSpec : ChangeSpec := { name := "controlOwn", fn := fun _ => fun
  | [d] => { results := [.lit (.bool true)], args := [d] }
  | _ => none }
def controlOwnRow : OpenClaim := { program := "ytncbfppafgjdiaagreat", sum := "8bc6e5205c5350d0c0b4ae14e7a4e1e690bd17e45b1cb348c3069849f8aa0453", func := "governor/governorlaw20.ControlOwn", spec := "controlOwn", unfollowed := true, recurses := true, apart := false }
def ControlOwnSaid : Prop := controlOwnRow.holds Tryz.pinned (OpenSpec.ofChange controlOwnSpec)

/-- ITS FALSE NEIGHBOUR: 'it returns false'. Refute it at one input. -/
def controlOwnWrong : ChangeSpec := { name := "controlOwn", fn := fun _ => fun
  | [d] => { results := [.lit (.bool false)], args := [d] }
  | _ => none }
def ControlOwnWrongFalsely : Prop := controlOwnRow.holds Tryz.pinned (OpenSpec.ofChange controlOwnWrong)

/- THE SECOND FORM. 'bulk': how many values and letters a reading holds, each counted each time it is reached (what is shared counts as often as it is met; a slice's spare places count too). A statement '..UptoSaid' is the law's where the arguments, and the package variables that the reading takes, are together of bulk at most 1048576: NARROWER than '..Said'. Prove '..Said' where nothing that the law and all that it calls make is longer than what came in: it says more and counts as full. Else prove '..UptoSaid'. A law counts once. -/
mutual
def uptoBulk {H : Type} : DataW H → Nat
  | .lit (.string bytes) => bytes.length + 1
  | .lit _ => 1
  | .nil => 1
  | .ptr d => uptoBulk d + 1
  | .slice elems spare => uptoBulkAll elems + uptoBulkAll spare + 1
  | .agg parts => uptoBulkAll parts + 1
  | .iface _ d => uptoBulk d + 1
  | .map entries => uptoBulkEntries entries + 1
  | .held _ => 1
def uptoBulkAll {H : Type} : List (DataW H) → Nat
  | [] => 0
  | d :: r => uptoBulk d + uptoBulkAll r
def uptoBulkEntries {H : Type} : List (Lit × DataW H) → Nat
  | [] => 0
  | x :: r => uptoBulkEntry x + uptoBulkEntries r
def uptoBulkEntry {H : Type} : Lit × DataW H → Nat
  | (.string bytes, d) => bytes.length + uptoBulk d + 1
  | (_, d) => uptoBulk d + 1
 end
def uptoSmall : (H : Type) → List (DataW H) → Bool := fun _ ds => decide (uptoBulkAll ds ≤ 1048576)
def OpenSpec.upto (s : _root_.Go.ChangeSpec) : _root_.Go.OpenSpec := { _root_.Go.OpenSpec.ofChange s with cond := some uptoSmall }

/-- 'governorlaw20.ControlTells', WHERE WHAT IT READS IS OF BULK AT MOST 1048576: true; the input reads as it did. -/
def controlTellsUptoRow : OpenClaim := { program := "ytncbfppafgjdiaagreat", sum := "8bc6e5205c5350d0c0b4ae14e7a4e1e690bd17e45b1cb348c3069849f8aa0453", func := "governor/governorlaw20.ControlTells", spec := "controlTells", unfollowed := true, recurses := true, apart := false, narrowed := true }
def ControlTellsUptoSaid : Prop := controlTellsUptoRow.holds Tryz.pinned (OpenSpec.upto controlTellsSpec)

/-- 'governorlaw20.ControlBounds', WHERE WHAT IT READS IS OF BULK AT MOST 1048576: true; the input reads as it did. -/
def controlBoundsUptoRow : OpenClaim := { program := "ytncbfppafgjdiaagreat", sum := "8bc6e5205c5350d0c0b4ae14e7a4e1e690bd17e45b1cb348c3069849f8aa0453", func := "governor/governorlaw20.ControlBounds", spec := "controlBounds", unfollowed := true, recurses := true, apart := false, narrowed := true }
def ControlBoundsUptoSaid : Prop := controlBoundsUptoRow.holds Tryz.pinned (OpenSpec.upto controlBoundsSpec)

/-- 'governorlaw20.ControlShadows', WHERE WHAT IT READS IS OF BULK AT MOST 1048576: true; the input reads as it did. -/
def controlShadowsUptoRow : OpenClaim := { program := "ytncbfppafgjdiaagreat", sum := "8bc6e5205c5350d0c0b4ae14e7a4e1e690bd17e45b1cb348c3069849f8aa0453", func := "governor/governorlaw20.ControlShadows", spec := "controlShadows", unfollowed := true, recurses := true, apart := false, narrowed := true }
def ControlShadowsUptoSaid : Prop := controlShadowsUptoRow.holds Tryz.pinned (OpenSpec.upto controlShadowsSpec)

/-- 'governorlaw20.ControlGuard', WHERE WHAT IT READS IS OF BULK AT MOST 1048576: true; the input reads as it did. -/
def controlGuardUptoRow : OpenClaim := { program := "ytncbfppafgjdiaagreat", sum := "8bc6e5205c5350d0c0b4ae14e7a4e1e690bd17e45b1cb348c3069849f8aa0453", func := "governor/governorlaw20.ControlGuard", spec := "controlGuard", unfollowed := true, recurses := true, apart := false, narrowed := true }
def ControlGuardUptoSaid : Prop := controlGuardUptoRow.holds Tryz.pinned (OpenSpec.upto controlGuardSpec)

/-- 'governorlaw20.ControlBack', WHERE WHAT IT READS IS OF BULK AT MOST 1048576: true; the input reads as it did. -/
def controlBackUptoRow : OpenClaim := { program := "ytncbfppafgjdiaagreat", sum := "8bc6e5205c5350d0c0b4ae14e7a4e1e690bd17e45b1cb348c3069849f8aa0453", func := "governor/governorlaw20.ControlBack", spec := "controlBack", unfollowed := true, recurses := true, apart := false, narrowed := true }
def ControlBackUptoSaid : Prop := controlBackUptoRow.holds Tryz.pinned (OpenSpec.upto controlBackSpec)

/-- 'governorlaw20.ControlTime', WHERE WHAT IT READS IS OF BULK AT MOST 1048576: true; the input reads as it did. -/
def controlTimeUptoRow : OpenClaim := { program := "ytncbfppafgjdiaagreat", sum := "8bc6e5205c5350d0c0b4ae14e7a4e1e690bd17e45b1cb348c3069849f8aa0453", func := "governor/governorlaw20.ControlTime", spec := "controlTime", unfollowed := true, recurses := true, apart := false, narrowed := true }
def ControlTimeUptoSaid : Prop := controlTimeUptoRow.holds Tryz.pinned (OpenSpec.upto controlTimeSpec)

/-- 'governorlaw20.ControlOwn', WHERE WHAT IT READS IS OF BULK AT MOST 1048576: true; the input reads as it did. -/
def controlOwnUptoRow : OpenClaim := { program := "ytncbfppafgjdiaagreat", sum := "8bc6e5205c5350d0c0b4ae14e7a4e1e690bd17e45b1cb348c3069849f8aa0453", func := "governor/governorlaw20.ControlOwn", spec := "controlOwn", unfollowed := true, recurses := true, apart := false, narrowed := true }
def ControlOwnUptoSaid : Prop := controlOwnUptoRow.holds Tryz.pinned (OpenSpec.upto controlOwnSpec)

end Rows
end Go.Proofs.YtncbfppafgjdiaaGreat
