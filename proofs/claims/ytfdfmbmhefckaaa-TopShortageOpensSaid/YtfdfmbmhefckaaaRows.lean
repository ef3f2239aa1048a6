/-
  No cell of these rows narrows 'for every input' (looked for: loops, veiled, ifaces, maps, wideKeys, modest, calm, conditions, laid).
  DERIVED. THE GIVEN ROWS OF THIS SEAT. 12 by the template 'for every input the law returns true; each argument reads behind the call as it read before'; 0 by the template 'total and deterministic' (their statements: YtfdfmbmhefckaaaTotals.lean).
  GIVEN WITH THE SEED: the statements are not yours to turn. If you find one false, say at which input.
  Laid BY PROGRAM, IN A SANDBOX (cutbox-rows.mjs): the forced cells as the released guide's own fill.sh prints them over the translation 76ba3f6c48c408d4… (all of the seat's roots in one cut). By AI agents, Wed Nov 11 2026. No macro, syntax, notation, axiom, sorry.
-/
import Derived.Test.YtfdfmbmhefckaaaChecked
import GoSem.Claim
import GoSem.ClaimJoined
import GoSem.ClaimMapViews
import Derived.JoinedTies
import Derived.KernelRfl
namespace Go.Proofs.Ytfdfmbmhefckaaa
/- THE CELL 'sum', in the pinned program and in every row, IS THE sha256 OF THE DUMP (.gsa) THAT YtfdfmbmhefckaaaProg.lean LOADS. Nothing in Lean hashes anything: it is a label: what it is worth is what the hold of that sum in a sandbox is worth. -/
noncomputable def Try.pinned : Pinned := { name := "ytfdfmbmhefckaaa", sum := "76ba3f6c48c408d42eb14e861e25d1c35873a4a85f45273ed62f7848dbc4126b", checked := Try.checked }
namespace Rows
def none {H : Type} : Left H := { results := [], args := [] }

/-- 'estoverslaw39.ReclaimplanChecks': WHATEVER THE INPUT: true; the input reads as it did. -/
def reclaimplanChecksSpec : ChangeSpec := { name := "reclaimplanChecks", fn := fun _ => fun
  | [d1, d2] => { results := [.lit (.bool true)], args := [d1, d2] }
  | _ => none }
def reclaimplanChecksRow : OpenClaim := { program := "ytfdfmbmhefckaaa", sum := "76ba3f6c48c408d42eb14e861e25d1c35873a4a85f45273ed62f7848dbc4126b", func := "estovers/estoverslaw39.ReclaimplanChecks", spec := "reclaimplanChecks", unfollowed := true, recurses := true, apart := false }
def ReclaimplanChecksSaid : Prop := reclaimplanChecksRow.holds Try.pinned (OpenSpec.ofChange reclaimplanChecksSpec)

/-- ITS FALSE NEIGHBOUR: 'it returns false'. Refute it at one input. -/
def reclaimplanChecksWrong : ChangeSpec := { name := "reclaimplanChecks", fn := fun _ => fun
  | [d1, d2] => { results := [.lit (.bool false)], args := [d1, d2] }
  | _ => none }
def ReclaimplanChecksWrongFalsely : Prop := reclaimplanChecksRow.holds Try.pinned (OpenSpec.ofChange reclaimplanChecksWrong)

/-- 'estoverslaw39.ReclaimplanReasons': WHATEVER THE INPUT: true; the input reads as it did. -/
def reclaimplanReasonsSpec : ChangeSpec := { name := "reclaimplanReasons", fn := fun _ => fun
  | [d1, d2] => { results := [.lit (.bool true)], args := [d1, d2] }
  | _ => none }
def reclaimplanReasonsRow : OpenClaim := { program := "ytfdfmbmhefckaaa", sum := "76ba3f6c48c408d42eb14e861e25d1c35873a4a85f45273ed62f7848dbc4126b", func := "estovers/estoverslaw39.ReclaimplanReasons", spec := "reclaimplanReasons", unfollowed := true, recurses := true, apart := false }
def ReclaimplanReasonsSaid : Prop := reclaimplanReasonsRow.holds Try.pinned (OpenSpec.ofChange reclaimplanReasonsSpec)

/-- ITS FALSE NEIGHBOUR: 'it returns false'. Refute it at one input. -/
def reclaimplanReasonsWrong : ChangeSpec := { name := "reclaimplanReasons", fn := fun _ => fun
  | [d1, d2] => { results := [.lit (.bool false)], args := [d1, d2] }
  | _ => none }
def ReclaimplanReasonsWrongFalsely : Prop := reclaimplanReasonsRow.holds Try.pinned (OpenSpec.ofChange reclaimplanReasonsWrong)

/-- 'estoverslaw39.ReclaimplanNext': WHATEVER THE INPUT: true; the input reads as it did. -/
def reclaimplanNextSpec : ChangeSpec := { name := "reclaimplanNext", fn := fun _ => fun
  | [d] => { results := [.lit (.bool true)], args := [d] }
  | _ => none }
def reclaimplanNextRow : OpenClaim := { program := "ytfdfmbmhefckaaa", sum := "76ba3f6c48c408d42eb14e861e25d1c35873a4a85f45273ed62f7848dbc4126b", func := "estovers/estoverslaw39.ReclaimplanNext", spec := "reclaimplanNext", unfollowed := true, recurses := true, apart := false }
def ReclaimplanNextSaid : Prop := reclaimplanNextRow.holds Try.pinned (OpenSpec.ofChange reclaimplanNextSpec)

/-- ITS FALSE NEIGHBOUR: 'it returns false'. Refute it at one input. -/
def reclaimplanNextWrong : ChangeSpec := { name := "reclaimplanNext", fn := fun _ => fun
  | [d] => { results := [.lit (.bool false)], args := [d] }
  | _ => none }
def ReclaimplanNextWrongFalsely : Prop := reclaimplanNextRow.holds Try.pinned (OpenSpec.ofChange reclaimplanNextWrong)

/-- 'estoverslaw39.ReclaimplanCounts': WHATEVER THE INPUT: true; the input reads as it did. -/
def reclaimplanCountsSpec : ChangeSpec := { name := "reclaimplanCounts", fn := fun _ => fun
  | [d] => { results := [.lit (.bool true)], args := [d] }
  | _ => none }
def reclaimplanCountsRow : OpenClaim := { program := "ytfdfmbmhefckaaa", sum := "76ba3f6c48c408d42eb14e861e25d1c35873a4a85f45273ed62f7848dbc4126b", func := "estovers/estoverslaw39.ReclaimplanCounts", spec := "reclaimplanCounts", unfollowed := true, recurses := true, apart := false }
def ReclaimplanCountsSaid : Prop := reclaimplanCountsRow.holds Try.pinned (OpenSpec.ofChange reclaimplanCountsSpec)

/-- ITS FALSE NEIGHBOUR: 'it returns false'. Refute it at one input. -/
def reclaimplanCountsWrong : ChangeSpec := { name := "reclaimplanCounts", fn := fun _ => fun
  | [d] => { results := [.lit (.bool false)], args := [d] }
  | _ => none }
def ReclaimplanCountsWrongFalsely : Prop := reclaimplanCountsRow.holds Try.pinned (OpenSpec.ofChange reclaimplanCountsWrong)

/-- 'estoverslaw39.ReclaimplanVerifies': WHATEVER THE INPUT: true; the input reads as it did. -/
def reclaimplanVerifiesSpec : ChangeSpec := { name := "reclaimplanVerifies", fn := fun _ => fun
  | [d1, d2] => { results := [.lit (.bool true)], args := [d1, d2] }
  | _ => none }
def reclaimplanVerifiesRow : OpenClaim := { program := "ytfdfmbmhefckaaa", sum := "76ba3f6c48c408d42eb14e861e25d1c35873a4a85f45273ed62f7848dbc4126b", func := "estovers/estoverslaw39.ReclaimplanVerifies", spec := "reclaimplanVerifies", unfollowed := true, recurses := true, apart := false }
def ReclaimplanVerifiesSaid : Prop := reclaimplanVerifiesRow.holds Try.pinned (OpenSpec.ofChange reclaimplanVerifiesSpec)

/-- ITS FALSE NEIGHBOUR: 'it returns false'. Refute it at one input. -/
def reclaimplanVerifiesWrong : ChangeSpec := { name := "reclaimplanVerifies", fn := fun _ => fun
  | [d1, d2] => { results := [.lit (.bool false)], args := [d1, d2] }
  | _ => none }
def ReclaimplanVerifiesWrongFalsely : Prop := reclaimplanVerifiesRow.holds Try.pinned (OpenSpec.ofChange reclaimplanVerifiesWrong)

/-- 'estoverslaw39.ReclaimplanEither': WHATEVER THE INPUT: true; the input reads as it did. -/
def reclaimplanEitherSpec : ChangeSpec := { name := "reclaimplanEither", fn := fun _ => fun
  | [d] => { results := [.lit (.bool true)], args := [d] }
  | _ => none }
def reclaimplanEitherRow : OpenClaim := { program := "ytfdfmbmhefckaaa", sum := "76ba3f6c48c408d42eb14e861e25d1c35873a4a85f45273ed62f7848dbc4126b", func := "estovers/estoverslaw39.ReclaimplanEither", spec := "reclaimplanEither", unfollowed := true, recurses := true, apart := false }
def ReclaimplanEitherSaid : Prop := reclaimplanEitherRow.holds Try.pinned (OpenSpec.ofChange reclaimplanEitherSpec)

/-- ITS FALSE NEIGHBOUR: 'it returns false'. Refute it at one input. -/
def reclaimplanEitherWrong : ChangeSpec := { name := "reclaimplanEither", fn := fun _ => fun
  | [d] => { results := [.lit (.bool false)], args := [d] }
  | _ => none }
def ReclaimplanEitherWrongFalsely : Prop := reclaimplanEitherRow.holds Try.pinned (OpenSpec.ofChange reclaimplanEitherWrong)

/-- 'estoverslaw39.ReclaimplanSound': WHATEVER THE INPUT: true; the input reads as it did. -/
def reclaimplanSoundSpec : ChangeSpec := { name := "reclaimplanSound", fn := fun _ => fun
  | [d1, d2] => { results := [.lit (.bool true)], args := [d1, d2] }
  | _ => none }
def reclaimplanSoundRow : OpenClaim := { program := "ytfdfmbmhefckaaa", sum := "76ba3f6c48c408d42eb14e861e25d1c35873a4a85f45273ed62f7848dbc4126b", func := "estovers/estoverslaw39.ReclaimplanSound", spec := "reclaimplanSound", unfollowed := true, recurses := true, apart := false }
def ReclaimplanSoundSaid : Prop := reclaimplanSoundRow.holds Try.pinned (OpenSpec.ofChange reclaimplanSoundSpec)

/-- ITS FALSE NEIGHBOUR: 'it returns false'. Refute it at one input. -/
def reclaimplanSoundWrong : ChangeSpec := { name := "reclaimplanSound", fn := fun _ => fun
  | [d1, d2] => { results := [.lit (.bool false)], args := [d1, d2] }
  | _ => none }
def ReclaimplanSoundWrongFalsely : Prop := reclaimplanSoundRow.holds Try.pinned (OpenSpec.ofChange reclaimplanSoundWrong)

/-- 'estoverslaw39.ReclaimplanFloors': WHATEVER THE INPUT: true; the input reads as it did. -/
def reclaimplanFloorsSpec : ChangeSpec := { name := "reclaimplanFloors", fn := fun _ => fun
  | [d] => { results := [.lit (.bool true)], args := [d] }
  | _ => none }
def reclaimplanFloorsRow : OpenClaim := { program := "ytfdfmbmhefckaaa", sum := "76ba3f6c48c408d42eb14e861e25d1c35873a4a85f45273ed62f7848dbc4126b", func := "estovers/estoverslaw39.ReclaimplanFloors", spec := "reclaimplanFloors", unfollowed := true, recurses := true, apart := false }
def ReclaimplanFloorsSaid : Prop := reclaimplanFloorsRow.holds Try.pinned (OpenSpec.ofChange reclaimplanFloorsSpec)

/-- ITS FALSE NEIGHBOUR: 'it returns false'. Refute it at one input. -/
def reclaimplanFloorsWrong : ChangeSpec := { name := "reclaimplanFloors", fn := fun _ => fun
  | [d] => { results := [.lit (.bool false)], args := [d] }
  | _ => none }
def ReclaimplanFloorsWrongFalsely : Prop := reclaimplanFloorsRow.holds Try.pinned (OpenSpec.ofChange reclaimplanFloorsWrong)

/-- 'estoverslaw39.ReclaimplanOldest': WHATEVER THE INPUT: true; the input reads as it did. -/
def reclaimplanOldestSpec : ChangeSpec := { name := "reclaimplanOldest", fn := fun _ => fun
  | [d] => { results := [.lit (.bool true)], args := [d] }
  | _ => none }
def reclaimplanOldestRow : OpenClaim := { program := "ytfdfmbmhefckaaa", sum := "76ba3f6c48c408d42eb14e861e25d1c35873a4a85f45273ed62f7848dbc4126b", func := "estovers/estoverslaw39.ReclaimplanOldest", spec := "reclaimplanOldest", unfollowed := true, recurses := true, apart := false }
def ReclaimplanOldestSaid : Prop := reclaimplanOldestRow.holds Try.pinned (OpenSpec.ofChange reclaimplanOldestSpec)

/-- ITS FALSE NEIGHBOUR: 'it returns false'. Refute it at one input. -/
def reclaimplanOldestWrong : ChangeSpec := { name := "reclaimplanOldest", fn := fun _ => fun
  | [d] => { results := [.lit (.bool false)], args := [d] }
  | _ => none }
def ReclaimplanOldestWrongFalsely : Prop := reclaimplanOldestRow.holds Try.pinned (OpenSpec.ofChange reclaimplanOldestWrong)

/-- 'estoverstop.TopSharesKept': WHATEVER THE INPUT: true; the input reads as it did. -/
def topSharesKeptSpec : ChangeSpec := { name := "topSharesKept", fn := fun _ => fun
  | [d] => { results := [.lit (.bool true)], args := [d] }
  | _ => none }
def topSharesKeptRow : OpenClaim := { program := "ytfdfmbmhefckaaa", sum := "76ba3f6c48c408d42eb14e861e25d1c35873a4a85f45273ed62f7848dbc4126b", func := "estovers/estoverstop.TopSharesKept", spec := "topSharesKept", unfollowed := true, recurses := true, apart := false }
def TopSharesKeptSaid : Prop := topSharesKeptRow.holds Try.pinned (OpenSpec.ofChange topSharesKeptSpec)

/-- ITS FALSE NEIGHBOUR: 'it returns false'. Refute it at one input. -/
def topSharesKeptWrong : ChangeSpec := { name := "topSharesKept", fn := fun _ => fun
  | [d] => { results := [.lit (.bool false)], args := [d] }
  | _ => none }
def TopSharesKeptWrongFalsely : Prop := topSharesKeptRow.holds Try.pinned (OpenSpec.ofChange topSharesKeptWrong)

/-- 'estoverstop.TopShortageOpens': WHATEVER THE INPUT: true; the input reads as it did. -/
def topShortageOpensSpec : ChangeSpec := { name := "topShortageOpens", fn := fun _ => fun
  | [d1, d2] => { results := [.lit (.bool true)], args := [d1, d2] }
  | _ => none }
def topShortageOpensRow : OpenClaim := { program := "ytfdfmbmhefckaaa", sum := "76ba3f6c48c408d42eb14e861e25d1c35873a4a85f45273ed62f7848dbc4126b", func := "estovers/estoverstop.TopShortageOpens", spec := "topShortageOpens", unfollowed := true, recurses := true, apart := false }
def TopShortageOpensSaid : Prop := topShortageOpensRow.holds Try.pinned (OpenSpec.ofChange topShortageOpensSpec)

/-- ITS FALSE NEIGHBOUR: 'it returns false'. Refute it at one input. -/
def topShortageOpensWrong : ChangeSpec := { name := "topShortageOpens", fn := fun _ => fun
  | [d1, d2] => { results := [.lit (.bool false)], args := [d1, d2] }
  | _ => none }
def TopShortageOpensWrongFalsely : Prop := topShortageOpensRow.holds Try.pinned (OpenSpec.ofChange topShortageOpensWrong)

/-- 'estoverstop.TopLocking': WHATEVER THE INPUT: true; the input reads as it did. -/
def topLockingSpec : ChangeSpec := { name := "topLocking", fn := fun _ => fun
  | [d1, d2] => { results := [.lit (.bool true)], args := [d1, d2] }
  | _ => none }
def topLockingRow : OpenClaim := { program := "ytfdfmbmhefckaaa", sum := "76ba3f6c48c408d42eb14e861e25d1c35873a4a85f45273ed62f7848dbc4126b", func := "estovers/estoverstop.TopLocking", spec := "topLocking", unfollowed := true, recurses := true, apart := false }
def TopLockingSaid : Prop := topLockingRow.holds Try.pinned (OpenSpec.ofChange topLockingSpec)

/-- ITS FALSE NEIGHBOUR: 'it returns false'. Refute it at one input. -/
def topLockingWrong : ChangeSpec := { name := "topLocking", fn := fun _ => fun
  | [d1, d2] => { results := [.lit (.bool false)], args := [d1, d2] }
  | _ => none }
def TopLockingWrongFalsely : Prop := topLockingRow.holds Try.pinned (OpenSpec.ofChange topLockingWrong)

/- THE SECOND FORM. 'bulk': how many values and letters a reading holds, each counted each time it is reached (what is shared counts as often as it is met; a slice's spare places count too). A statement '..UptoSaid' is the law's where the arguments, and the package variables that the reading takes, are together of bulk at most 1048576: NARROWER than '..Said'. Prove '..Said' where nothing that the law and all that it calls make is longer than what came in: it says more and counts as full. Else prove '..UptoSaid'. A law counts once. -/
mutual
def uptoBulk {H : Type} : DataW H → Nat
  | .lit (.string bytes) => bytes.length + 1
  | .lit _ => 1
  | .nil => 1
  | .ptr d => uptoBulk d + 1
  | .slice elems spare => uptoBulkAll elems + uptoBulkAll spare + 1
  | .agg parts => uptoBulkAll parts + 1
  | .iface _ d => uptoBulk d + 1
  | .map entries => uptoBulkEntries entries + 1
  | .held _ => 1
def uptoBulkAll {H : Type} : List (DataW H) → Nat
  | [] => 0
  | d :: r => uptoBulk d + uptoBulkAll r
def uptoBulkEntries {H : Type} : List (Lit × DataW H) → Nat
  | [] => 0
  | x :: r => uptoBulkEntry x + uptoBulkEntries r
def uptoBulkEntry {H : Type} : Lit × DataW H → Nat
  | (.string bytes, d) => bytes.length + uptoBulk d + 1
  | (_, d) => uptoBulk d + 1
 end
def uptoSmall : (H : Type) → List (DataW H) → Bool := fun _ ds => decide (uptoBulkAll ds ≤ 1048576)
def OpenSpec.upto (s : _root_.Go.ChangeSpec) : _root_.Go.OpenSpec := { _root_.Go.OpenSpec.ofChange s with cond := some uptoSmall }

/-- 'estoverslaw39.ReclaimplanChecks', WHERE WHAT IT READS IS OF BULK AT MOST 1048576: true; the input reads as it did. -/
def reclaimplanChecksUptoRow : OpenClaim := { program := "ytfdfmbmhefckaaa", sum := "76ba3f6c48c408d42eb14e861e25d1c35873a4a85f45273ed62f7848dbc4126b", func := "estovers/estoverslaw39.ReclaimplanChecks", spec := "reclaimplanChecks", unfollowed := true, recurses := true, apart := false, narrowed := true }
def ReclaimplanChecksUptoSaid : Prop := reclaimplanChecksUptoRow.holds Try.pinned (OpenSpec.upto reclaimplanChecksSpec)

/-- 'estoverslaw39.ReclaimplanReasons', WHERE WHAT IT READS IS OF BULK AT MOST 1048576: true; the input reads as it did. -/
def reclaimplanReasonsUptoRow : OpenClaim := { program := "ytfdfmbmhefckaaa", sum := "76ba3f6c48c408d42eb14e861e25d1c35873a4a85f45273ed62f7848dbc4126b", func := "estovers/estoverslaw39.ReclaimplanReasons", spec := "reclaimplanReasons", unfollowed := true, recurses := true, apart := false, narrowed := true }
def ReclaimplanReasonsUptoSaid : Prop := reclaimplanReasonsUptoRow.holds Try.pinned (OpenSpec.upto reclaimplanReasonsSpec)

/-- 'estoverslaw39.ReclaimplanNext', WHERE WHAT IT READS IS OF BULK AT MOST 1048576: true; the input reads as it did. -/
def reclaimplanNextUptoRow : OpenClaim := { program := "ytfdfmbmhefckaaa", sum := "76ba3f6c48c408d42eb14e861e25d1c35873a4a85f45273ed62f7848dbc4126b", func := "estovers/estoverslaw39.ReclaimplanNext", spec := "reclaimplanNext", unfollowed := true, recurses := true, apart := false, narrowed := true }
def ReclaimplanNextUptoSaid : Prop := reclaimplanNextUptoRow.holds Try.pinned (OpenSpec.upto reclaimplanNextSpec)

/-- 'estoverslaw39.ReclaimplanCounts', WHERE WHAT IT READS IS OF BULK AT MOST 1048576: true; the input reads as it did. -/
def reclaimplanCountsUptoRow : OpenClaim := { program := "ytfdfmbmhefckaaa", sum := "76ba3f6c48c408d42eb14e861e25d1c35873a4a85f45273ed62f7848dbc4126b", func := "estovers/estoverslaw39.ReclaimplanCounts", spec := "reclaimplanCounts", unfollowed := true, recurses := true, apart := false, narrowed := true }
def ReclaimplanCountsUptoSaid : Prop := reclaimplanCountsUptoRow.holds Try.pinned (OpenSpec.upto reclaimplanCountsSpec)

/-- 'estoverslaw39.ReclaimplanVerifies', WHERE WHAT IT READS IS OF BULK AT MOST 1048576: true; the input reads as it did. -/
def reclaimplanVerifiesUptoRow : OpenClaim := { program := "ytfdfmbmhefckaaa", sum := "76ba3f6c48c408d42eb14e861e25d1c35873a4a85f45273ed62f7848dbc4126b", func := "estovers/estoverslaw39.ReclaimplanVerifies", spec := "reclaimplanVerifies", unfollowed := true, recurses := true, apart := false, narrowed := true }
def ReclaimplanVerifiesUptoSaid : Prop := reclaimplanVerifiesUptoRow.holds Try.pinned (OpenSpec.upto reclaimplanVerifiesSpec)

/-- 'estoverslaw39.ReclaimplanEither', WHERE WHAT IT READS IS OF BULK AT MOST 1048576: true; the input reads as it did. -/
def reclaimplanEitherUptoRow : OpenClaim := { program := "ytfdfmbmhefckaaa", sum := "76ba3f6c48c408d42eb14e861e25d1c35873a4a85f45273ed62f7848dbc4126b", func := "estovers/estoverslaw39.ReclaimplanEither", spec := "reclaimplanEither", unfollowed := true, recurses := true, apart := false, narrowed := true }
def ReclaimplanEitherUptoSaid : Prop := reclaimplanEitherUptoRow.holds Try.pinned (OpenSpec.upto reclaimplanEitherSpec)

/-- 'estoverslaw39.ReclaimplanSound', WHERE WHAT IT READS IS OF BULK AT MOST 1048576: true; the input reads as it did. -/
def reclaimplanSoundUptoRow : OpenClaim := { program := "ytfdfmbmhefckaaa", sum := "76ba3f6c48c408d42eb14e861e25d1c35873a4a85f45273ed62f7848dbc4126b", func := "estovers/estoverslaw39.ReclaimplanSound", spec := "reclaimplanSound", unfollowed := true, recurses := true, apart := false, narrowed := true }
def ReclaimplanSoundUptoSaid : Prop := reclaimplanSoundUptoRow.holds Try.pinned (OpenSpec.upto reclaimplanSoundSpec)

/-- 'estoverslaw39.ReclaimplanFloors', WHERE WHAT IT READS IS OF BULK AT MOST 1048576: true; the input reads as it did. -/
def reclaimplanFloorsUptoRow : OpenClaim := { program := "ytfdfmbmhefckaaa", sum := "76ba3f6c48c408d42eb14e861e25d1c35873a4a85f45273ed62f7848dbc4126b", func := "estovers/estoverslaw39.ReclaimplanFloors", spec := "reclaimplanFloors", unfollowed := true, recurses := true, apart := false, narrowed := true }
def ReclaimplanFloorsUptoSaid : Prop := reclaimplanFloorsUptoRow.holds Try.pinned (OpenSpec.upto reclaimplanFloorsSpec)

/-- 'estoverslaw39.ReclaimplanOldest', WHERE WHAT IT READS IS OF BULK AT MOST 1048576: true; the input reads as it did. -/
def reclaimplanOldestUptoRow : OpenClaim := { program := "ytfdfmbmhefckaaa", sum := "76ba3f6c48c408d42eb14e861e25d1c35873a4a85f45273ed62f7848dbc4126b", func := "estovers/estoverslaw39.ReclaimplanOldest", spec := "reclaimplanOldest", unfollowed := true, recurses := true, apart := false, narrowed := true }
def ReclaimplanOldestUptoSaid : Prop := reclaimplanOldestUptoRow.holds Try.pinned (OpenSpec.upto reclaimplanOldestSpec)

/-- 'estoverstop.TopSharesKept', WHERE WHAT IT READS IS OF BULK AT MOST 1048576: true; the input reads as it did. -/
def topSharesKeptUptoRow : OpenClaim := { program := "ytfdfmbmhefckaaa", sum := "76ba3f6c48c408d42eb14e861e25d1c35873a4a85f45273ed62f7848dbc4126b", func := "estovers/estoverstop.TopSharesKept", spec := "topSharesKept", unfollowed := true, recurses := true, apart := false, narrowed := true }
def TopSharesKeptUptoSaid : Prop := topSharesKeptUptoRow.holds Try.pinned (OpenSpec.upto topSharesKeptSpec)

/-- 'estoverstop.TopShortageOpens', WHERE WHAT IT READS IS OF BULK AT MOST 1048576: true; the input reads as it did. -/
def topShortageOpensUptoRow : OpenClaim := { program := "ytfdfmbmhefckaaa", sum := "76ba3f6c48c408d42eb14e861e25d1c35873a4a85f45273ed62f7848dbc4126b", func := "estovers/estoverstop.TopShortageOpens", spec := "topShortageOpens", unfollowed := true, recurses := true, apart := false, narrowed := true }
def TopShortageOpensUptoSaid : Prop := topShortageOpensUptoRow.holds Try.pinned (OpenSpec.upto topShortageOpensSpec)

/-- 'estoverstop.TopLocking', WHERE WHAT IT READS IS OF BULK AT MOST 1048576: true; the input reads as it did. -/
def topLockingUptoRow : OpenClaim := { program := "ytfdfmbmhefckaaa", sum := "76ba3f6c48c408d42eb14e861e25d1c35873a4a85f45273ed62f7848dbc4126b", func := "estovers/estoverstop.TopLocking", spec := "topLocking", unfollowed := true, recurses := true, apart := false, narrowed := true }
def TopLockingUptoSaid : Prop := topLockingUptoRow.holds Try.pinned (OpenSpec.upto topLockingSpec)

end Rows
end Go.Proofs.Ytfdfmbmhefckaaa
