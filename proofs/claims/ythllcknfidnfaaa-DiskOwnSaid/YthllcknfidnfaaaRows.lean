/-
  No cell of these rows narrows 'for every input' (looked for: loops, veiled, ifaces, maps, wideKeys, modest, calm, conditions, laid).
  DERIVED. THE GIVEN ROWS OF THIS SEAT. 6 by the template 'for every input the law returns true; each argument reads behind the call as it read before'; 0 by the template 'total and deterministic' (their statements: YthllcknfidnfaaaTotals.lean).
  GIVEN WITH THE SEED: the statements are not yours to turn. If you find one false, say at which input.
  Laid BY PROGRAM, IN A SANDBOX (cutbox-rows.mjs): the forced cells as the released guide's own fill.sh prints them over the translation ddd5626e2b6d8027… (all of the seat's roots in one cut). By AI agents, Wed Nov 11 2026. No macro, syntax, notation, axiom, sorry.
-/
import Derived.Test.YthllcknfidnfaaaChecked
import GoSem.Claim
import GoSem.ClaimJoined
import GoSem.ClaimMapViews
import Derived.JoinedTies
import Derived.KernelRfl
namespace Go.Proofs.Ythllcknfidnfaaa
/- THE CELL 'sum', in the pinned program and in every row, IS THE sha256 OF THE DUMP (.gsa) THAT YthllcknfidnfaaaProg.lean LOADS. Nothing in Lean hashes anything: it is a label: what it is worth is what the hold of that sum in a sandbox is worth. -/
noncomputable def Try.pinned : Pinned := { name := "ythllcknfidnfaaa", sum := "ddd5626e2b6d8027b60939a42c809152146a0035b182d0b4be97d142bb580663", checked := Try.checked }
namespace Rows
def none {H : Type} : Left H := { results := [], args := [] }

/-- 'governorlaw01.DiskRoom': WHATEVER THE INPUT: true; the input reads as it did. -/
def diskRoomSpec : ChangeSpec := { name := "diskRoom", fn := fun _ => fun
  | [d1, d2] => { results := [.lit (.bool true)], args := [d1, d2] }
  | _ => none }
def diskRoomRow : OpenClaim := { program := "ythllcknfidnfaaa", sum := "ddd5626e2b6d8027b60939a42c809152146a0035b182d0b4be97d142bb580663", func := "governor/governorlaw01.DiskRoom", spec := "diskRoom", unfollowed := true, recurses := true, apart := false }
def DiskRoomSaid : Prop := diskRoomRow.holds Try.pinned (OpenSpec.ofChange diskRoomSpec)

/-- ITS FALSE NEIGHBOUR: 'it returns false'. Refute it at one input. -/
def diskRoomWrong : ChangeSpec := { name := "diskRoom", fn := fun _ => fun
  | [d1, d2] => { results := [.lit (.bool false)], args := [d1, d2] }
  | _ => none }
def DiskRoomWrongFalsely : Prop := diskRoomRow.holds Try.pinned (OpenSpec.ofChange diskRoomWrong)

/-- 'governorlaw01.DiskStill': WHATEVER THE INPUT: true; the input reads as it did. -/
def diskStillSpec : ChangeSpec := { name := "diskStill", fn := fun _ => fun
  | [d1, d2] => { results := [.lit (.bool true)], args := [d1, d2] }
  | _ => none }
def diskStillRow : OpenClaim := { program := "ythllcknfidnfaaa", sum := "ddd5626e2b6d8027b60939a42c809152146a0035b182d0b4be97d142bb580663", func := "governor/governorlaw01.DiskStill", spec := "diskStill", unfollowed := true, recurses := true, apart := false }
def DiskStillSaid : Prop := diskStillRow.holds Try.pinned (OpenSpec.ofChange diskStillSpec)

/-- ITS FALSE NEIGHBOUR: 'it returns false'. Refute it at one input. -/
def diskStillWrong : ChangeSpec := { name := "diskStill", fn := fun _ => fun
  | [d1, d2] => { results := [.lit (.bool false)], args := [d1, d2] }
  | _ => none }
def DiskStillWrongFalsely : Prop := diskStillRow.holds Try.pinned (OpenSpec.ofChange diskStillWrong)

/-- 'governorlaw01.DiskOwn': WHATEVER THE INPUT: true; the input reads as it did. -/
def diskOwnSpec : ChangeSpec := { name := "diskOwn", fn := fun _ => fun
  | [d1, d2] => { results := [.lit (.bool true)], args := [d1, d2] }
  | _ => none }
def diskOwnRow : OpenClaim := { program := "ythllcknfidnfaaa", sum := "ddd5626e2b6d8027b60939a42c809152146a0035b182d0b4be97d142bb580663", func := "governor/governorlaw01.DiskOwn", spec := "diskOwn", unfollowed := true, recurses := true, apart := false }
def DiskOwnSaid : Prop := diskOwnRow.holds Try.pinned (OpenSpec.ofChange diskOwnSpec)

/-- ITS FALSE NEIGHBOUR: 'it returns false'. Refute it at one input. -/
def diskOwnWrong : ChangeSpec := { name := "diskOwn", fn := fun _ => fun
  | [d1, d2] => { results := [.lit (.bool false)], args := [d1, d2] }
  | _ => none }
def DiskOwnWrongFalsely : Prop := diskOwnRow.holds Try.pinned (OpenSpec.ofChange diskOwnWrong)

/-- 'governorlaw01.DiskPlays': WHATEVER THE INPUT: true; the input reads as it did. -/
def diskPlaysSpec : ChangeSpec := { name := "diskPlays", fn := fun _ => fun
  | [d1, d2, d3] => { results := [.lit (.bool true)], args := [d1, d2, d3] }
  | _ => none }
def diskPlaysRow : OpenClaim := { program := "ythllcknfidnfaaa", sum := "ddd5626e2b6d8027b60939a42c809152146a0035b182d0b4be97d142bb580663", func := "governor/governorlaw01.DiskPlays", spec := "diskPlays", unfollowed := true, recurses := true, apart := false }
def DiskPlaysSaid : Prop := diskPlaysRow.holds Try.pinned (OpenSpec.ofChange diskPlaysSpec)

/-- ITS FALSE NEIGHBOUR: 'it returns false'. Refute it at one input. -/
def diskPlaysWrong : ChangeSpec := { name := "diskPlays", fn := fun _ => fun
  | [d1, d2, d3] => { results := [.lit (.bool false)], args := [d1, d2, d3] }
  | _ => none }
def DiskPlaysWrongFalsely : Prop := diskPlaysRow.holds Try.pinned (OpenSpec.ofChange diskPlaysWrong)

/-- 'governorlaw01.DiskLasts': WHATEVER THE INPUT: true; the input reads as it did. -/
def diskLastsSpec : ChangeSpec := { name := "diskLasts", fn := fun _ => fun
  | [d1, d2, d3] => { results := [.lit (.bool true)], args := [d1, d2, d3] }
  | _ => none }
def diskLastsRow : OpenClaim := { program := "ythllcknfidnfaaa", sum := "ddd5626e2b6d8027b60939a42c809152146a0035b182d0b4be97d142bb580663", func := "governor/governorlaw01.DiskLasts", spec := "diskLasts", unfollowed := true, recurses := true, apart := false }
def DiskLastsSaid : Prop := diskLastsRow.holds Try.pinned (OpenSpec.ofChange diskLastsSpec)

/-- ITS FALSE NEIGHBOUR: 'it returns false'. Refute it at one input. -/
def diskLastsWrong : ChangeSpec := { name := "diskLasts", fn := fun _ => fun
  | [d1, d2, d3] => { results := [.lit (.bool false)], args := [d1, d2, d3] }
  | _ => none }
def DiskLastsWrongFalsely : Prop := diskLastsRow.holds Try.pinned (OpenSpec.ofChange diskLastsWrong)

/-- 'governorlaw01.DiskBegins': WHATEVER THE INPUT: true; the input reads as it did. -/
def diskBeginsSpec : ChangeSpec := { name := "diskBegins", fn := fun _ => fun
  | [d1, d2, d3] => { results := [.lit (.bool true)], args := [d1, d2, d3] }
  | _ => none }
def diskBeginsRow : OpenClaim := { program := "ythllcknfidnfaaa", sum := "ddd5626e2b6d8027b60939a42c809152146a0035b182d0b4be97d142bb580663", func := "governor/governorlaw01.DiskBegins", spec := "diskBegins", unfollowed := true, recurses := true, apart := false }
def DiskBeginsSaid : Prop := diskBeginsRow.holds Try.pinned (OpenSpec.ofChange diskBeginsSpec)

/-- ITS FALSE NEIGHBOUR: 'it returns false'. Refute it at one input. -/
def diskBeginsWrong : ChangeSpec := { name := "diskBegins", fn := fun _ => fun
  | [d1, d2, d3] => { results := [.lit (.bool false)], args := [d1, d2, d3] }
  | _ => none }
def DiskBeginsWrongFalsely : Prop := diskBeginsRow.holds Try.pinned (OpenSpec.ofChange diskBeginsWrong)

/- THE SECOND FORM. 'bulk': how many values and letters a reading holds, each counted each time it is reached (what is shared counts as often as it is met; a slice's spare places count too). A statement '..UptoSaid' is the law's where the arguments, and the package variables that the reading takes, are together of bulk at most 1048576: NARROWER than '..Said'. Prove '..Said' where nothing that the law and all that it calls make is longer than what came in: it says more and counts as full. Else prove '..UptoSaid'. A law counts once. -/
mutual
def uptoBulk {H : Type} : DataW H → Nat
  | .lit (.string bytes) => bytes.length + 1
  | .lit _ => 1
  | .nil => 1
  | .ptr d => uptoBulk d + 1
  | .slice elems spare => uptoBulkAll elems + uptoBulkAll spare + 1
  | .agg parts => uptoBulkAll parts + 1
  | .iface _ d => uptoBulk d + 1
  | .map entries => uptoBulkEntries entries + 1
  | .held _ => 1
def uptoBulkAll {H : Type} : List (DataW H) → Nat
  | [] => 0
  | d :: r => uptoBulk d + uptoBulkAll r
def uptoBulkEntries {H : Type} : List (Lit × DataW H) → Nat
  | [] => 0
  | x :: r => uptoBulkEntry x + uptoBulkEntries r
def uptoBulkEntry {H : Type} : Lit × DataW H → Nat
  | (.string bytes, d) => bytes.length + uptoBulk d + 1
  | (_, d) => uptoBulk d + 1
 end
def uptoSmall : (H : Type) → List (DataW H) → Bool := fun _ ds => decide (uptoBulkAll ds ≤ 1048576)
def OpenSpec.upto (s : _root_.Go.ChangeSpec) : _root_.Go.OpenSpec := { _root_.Go.OpenSpec.ofChange s with cond := some uptoSmall }

/-- 'governorlaw01.DiskRoom', WHERE WHAT IT READS IS OF BULK AT MOST 1048576: true; the input reads as it did. -/
def diskRoomUptoRow : OpenClaim := { program := "ythllcknfidnfaaa", sum := "ddd5626e2b6d8027b60939a42c809152146a0035b182d0b4be97d142bb580663", func := "governor/governorlaw01.DiskRoom", spec := "diskRoom", unfollowed := true, recurses := true, apart := false, narrowed := true }
def DiskRoomUptoSaid : Prop := diskRoomUptoRow.holds Try.pinned (OpenSpec.upto diskRoomSpec)

/-- 'governorlaw01.DiskStill', WHERE WHAT IT READS IS OF BULK AT MOST 1048576: true; the input reads as it did. -/
def diskStillUptoRow : OpenClaim := { program := "ythllcknfidnfaaa", sum := "ddd5626e2b6d8027b60939a42c809152146a0035b182d0b4be97d142bb580663", func := "governor/governorlaw01.DiskStill", spec := "diskStill", unfollowed := true, recurses := true, apart := false, narrowed := true }
def DiskStillUptoSaid : Prop := diskStillUptoRow.holds Try.pinned (OpenSpec.upto diskStillSpec)

/-- 'governorlaw01.DiskOwn', WHERE WHAT IT READS IS OF BULK AT MOST 1048576: true; the input reads as it did. -/
def diskOwnUptoRow : OpenClaim := { program := "ythllcknfidnfaaa", sum := "ddd5626e2b6d8027b60939a42c809152146a0035b182d0b4be97d142bb580663", func := "governor/governorlaw01.DiskOwn", spec := "diskOwn", unfollowed := true, recurses := true, apart := false, narrowed := true }
def DiskOwnUptoSaid : Prop := diskOwnUptoRow.holds Try.pinned (OpenSpec.upto diskOwnSpec)

/-- 'governorlaw01.DiskPlays', WHERE WHAT IT READS IS OF BULK AT MOST 1048576: true; the input reads as it did. -/
def diskPlaysUptoRow : OpenClaim := { program := "ythllcknfidnfaaa", sum := "ddd5626e2b6d8027b60939a42c809152146a0035b182d0b4be97d142bb580663", func := "governor/governorlaw01.DiskPlays", spec := "diskPlays", unfollowed := true, recurses := true, apart := false, narrowed := true }
def DiskPlaysUptoSaid : Prop := diskPlaysUptoRow.holds Try.pinned (OpenSpec.upto diskPlaysSpec)

/-- 'governorlaw01.DiskLasts', WHERE WHAT IT READS IS OF BULK AT MOST 1048576: true; the input reads as it did. -/
def diskLastsUptoRow : OpenClaim := { program := "ythllcknfidnfaaa", sum := "ddd5626e2b6d8027b60939a42c809152146a0035b182d0b4be97d142bb580663", func := "governor/governorlaw01.DiskLasts", spec := "diskLasts", unfollowed := true, recurses := true, apart := false, narrowed := true }
def DiskLastsUptoSaid : Prop := diskLastsUptoRow.holds Try.pinned (OpenSpec.upto diskLastsSpec)

/-- 'governorlaw01.DiskBegins', WHERE WHAT IT READS IS OF BULK AT MOST 1048576: true; the input reads as it did. -/
def diskBeginsUptoRow : OpenClaim := { program := "ythllcknfidnfaaa", sum := "ddd5626e2b6d8027b60939a42c809152146a0035b182d0b4be97d142bb580663", func := "governor/governorlaw01.DiskBegins", spec := "diskBegins", unfollowed := true, recurses := true, apart := false, narrowed := true }
def DiskBeginsUptoSaid : Prop := diskBeginsUptoRow.holds Try.pinned (OpenSpec.upto diskBeginsSpec)

end Rows
end Go.Proofs.Ythllcknfidnfaaa
