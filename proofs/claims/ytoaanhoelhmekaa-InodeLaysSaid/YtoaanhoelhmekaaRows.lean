/-
  No cell of these rows narrows 'for every input' (looked for: loops, veiled, ifaces, maps, wideKeys, modest, calm, conditions, laid).
  DERIVED. THE GIVEN ROWS OF THIS SEAT. 8 by the template 'for every input the law returns true; each argument reads behind the call as it read before'; 0 by the template 'total and deterministic' (their statements: YtoaanhoelhmekaaTotals.lean).
  GIVEN WITH THE SEED: the statements are not yours to turn. If you find one false, say at which input.
  Laid BY PROGRAM, IN A SANDBOX (cutbox-rows.mjs): the forced cells as the released guide's own fill.sh prints them over the translation 419b3ef3f62a6c56… (all of the seat's roots in one cut). By AI agents, Wed Nov 11 2026. No macro, syntax, notation, axiom, sorry.
-/
import Derived.Test.YtoaanhoelhmekaaChecked
import GoSem.Claim
import GoSem.ClaimJoined
import GoSem.ClaimMapViews
import Derived.JoinedTies
import Derived.KernelRfl
namespace Go.Proofs.Ytoaanhoelhmekaa
/- THE CELL 'sum', in the pinned program and in every row, IS THE sha256 OF THE DUMP (.gsa) THAT YtoaanhoelhmekaaProg.lean LOADS. Nothing in Lean hashes anything: it is a label: what it is worth is what the hold of that sum in a sandbox is worth. -/
noncomputable def Try.pinned : Pinned := { name := "ytoaanhoelhmekaa", sum := "419b3ef3f62a6c569a9939d9b214834c61249332b786a6d9a9bc828069c8ed50", checked := Try.checked }
namespace Rows
def none {H : Type} : Left H := { results := [], args := [] }

/-- 'estoverslaw27.InodeEncodes': WHATEVER THE INPUT: true; the input reads as it did. -/
def inodeEncodesSpec : ChangeSpec := { name := "inodeEncodes", fn := fun _ => fun
  | [d1, d2] => { results := [.lit (.bool true)], args := [d1, d2] }
  | _ => none }
def inodeEncodesRow : OpenClaim := { program := "ytoaanhoelhmekaa", sum := "419b3ef3f62a6c569a9939d9b214834c61249332b786a6d9a9bc828069c8ed50", func := "estovers/estoverslaw27.InodeEncodes", spec := "inodeEncodes", apart := false }
def InodeEncodesSaid : Prop := inodeEncodesRow.holds Try.pinned (OpenSpec.ofChange inodeEncodesSpec)

/-- ITS FALSE NEIGHBOUR: 'it returns false'. Refute it at one input. -/
def inodeEncodesWrong : ChangeSpec := { name := "inodeEncodes", fn := fun _ => fun
  | [d1, d2] => { results := [.lit (.bool false)], args := [d1, d2] }
  | _ => none }
def InodeEncodesWrongFalsely : Prop := inodeEncodesRow.holds Try.pinned (OpenSpec.ofChange inodeEncodesWrong)

/-- 'estoverslaw27.InodeDecodes': WHATEVER THE INPUT: true; the input reads as it did. -/
def inodeDecodesSpec : ChangeSpec := { name := "inodeDecodes", fn := fun _ => fun
  | [d] => { results := [.lit (.bool true)], args := [d] }
  | _ => none }
def inodeDecodesRow : OpenClaim := { program := "ytoaanhoelhmekaa", sum := "419b3ef3f62a6c569a9939d9b214834c61249332b786a6d9a9bc828069c8ed50", func := "estovers/estoverslaw27.InodeDecodes", spec := "inodeDecodes", apart := false }
def InodeDecodesSaid : Prop := inodeDecodesRow.holds Try.pinned (OpenSpec.ofChange inodeDecodesSpec)

/-- ITS FALSE NEIGHBOUR: 'it returns false'. Refute it at one input. -/
def inodeDecodesWrong : ChangeSpec := { name := "inodeDecodes", fn := fun _ => fun
  | [d] => { results := [.lit (.bool false)], args := [d] }
  | _ => none }
def InodeDecodesWrongFalsely : Prop := inodeDecodesRow.holds Try.pinned (OpenSpec.ofChange inodeDecodesWrong)

/-- 'estoverslaw27.InodeLays': WHATEVER THE INPUT: true; the input reads as it did. -/
def inodeLaysSpec : ChangeSpec := { name := "inodeLays", fn := fun _ => fun
  | [d1, d2] => { results := [.lit (.bool true)], args := [d1, d2] }
  | _ => none }
def inodeLaysRow : OpenClaim := { program := "ytoaanhoelhmekaa", sum := "419b3ef3f62a6c569a9939d9b214834c61249332b786a6d9a9bc828069c8ed50", func := "estovers/estoverslaw27.InodeLays", spec := "inodeLays", apart := false }
def InodeLaysSaid : Prop := inodeLaysRow.holds Try.pinned (OpenSpec.ofChange inodeLaysSpec)

/-- ITS FALSE NEIGHBOUR: 'it returns false'. Refute it at one input. -/
def inodeLaysWrong : ChangeSpec := { name := "inodeLays", fn := fun _ => fun
  | [d1, d2] => { results := [.lit (.bool false)], args := [d1, d2] }
  | _ => none }
def InodeLaysWrongFalsely : Prop := inodeLaysRow.holds Try.pinned (OpenSpec.ofChange inodeLaysWrong)

/-- 'estoverslaw27.InodeBack': WHATEVER THE INPUT: true; the input reads as it did. -/
def inodeBackSpec : ChangeSpec := { name := "inodeBack", fn := fun _ => fun
  | [d1, d2] => { results := [.lit (.bool true)], args := [d1, d2] }
  | _ => none }
def inodeBackRow : OpenClaim := { program := "ytoaanhoelhmekaa", sum := "419b3ef3f62a6c569a9939d9b214834c61249332b786a6d9a9bc828069c8ed50", func := "estovers/estoverslaw27.InodeBack", spec := "inodeBack", apart := false }
def InodeBackSaid : Prop := inodeBackRow.holds Try.pinned (OpenSpec.ofChange inodeBackSpec)

/-- ITS FALSE NEIGHBOUR: 'it returns false'. Refute it at one input. -/
def inodeBackWrong : ChangeSpec := { name := "inodeBack", fn := fun _ => fun
  | [d1, d2] => { results := [.lit (.bool false)], args := [d1, d2] }
  | _ => none }
def InodeBackWrongFalsely : Prop := inodeBackRow.holds Try.pinned (OpenSpec.ofChange inodeBackWrong)

/-- 'estoverslaw27.InodeNotices': WHATEVER THE INPUT: true; the input reads as it did. -/
def inodeNoticesSpec : ChangeSpec := { name := "inodeNotices", fn := fun _ => fun
  | [d1, d2, d3] => { results := [.lit (.bool true)], args := [d1, d2, d3] }
  | _ => none }
def inodeNoticesRow : OpenClaim := { program := "ytoaanhoelhmekaa", sum := "419b3ef3f62a6c569a9939d9b214834c61249332b786a6d9a9bc828069c8ed50", func := "estovers/estoverslaw27.InodeNotices", spec := "inodeNotices", apart := false }
def InodeNoticesSaid : Prop := inodeNoticesRow.holds Try.pinned (OpenSpec.ofChange inodeNoticesSpec)

/-- ITS FALSE NEIGHBOUR: 'it returns false'. Refute it at one input. -/
def inodeNoticesWrong : ChangeSpec := { name := "inodeNotices", fn := fun _ => fun
  | [d1, d2, d3] => { results := [.lit (.bool false)], args := [d1, d2, d3] }
  | _ => none }
def InodeNoticesWrongFalsely : Prop := inodeNoticesRow.holds Try.pinned (OpenSpec.ofChange inodeNoticesWrong)

/-- 'estoverslaw27.InodeApart': WHATEVER THE INPUT: true; the input reads as it did. -/
def inodeApartSpec : ChangeSpec := { name := "inodeApart", fn := fun _ => fun
  | [d1, d2] => { results := [.lit (.bool true)], args := [d1, d2] }
  | _ => none }
def inodeApartRow : OpenClaim := { program := "ytoaanhoelhmekaa", sum := "419b3ef3f62a6c569a9939d9b214834c61249332b786a6d9a9bc828069c8ed50", func := "estovers/estoverslaw27.InodeApart", spec := "inodeApart", apart := false }
def InodeApartSaid : Prop := inodeApartRow.holds Try.pinned (OpenSpec.ofChange inodeApartSpec)

/-- ITS FALSE NEIGHBOUR: 'it returns false'. Refute it at one input. -/
def inodeApartWrong : ChangeSpec := { name := "inodeApart", fn := fun _ => fun
  | [d1, d2] => { results := [.lit (.bool false)], args := [d1, d2] }
  | _ => none }
def InodeApartWrongFalsely : Prop := inodeApartRow.holds Try.pinned (OpenSpec.ofChange inodeApartWrong)

/-- 'estoverslaw27.InodeMasks': WHATEVER THE INPUT: true; the input reads as it did. -/
def inodeMasksSpec : ChangeSpec := { name := "inodeMasks", fn := fun _ => fun
  | [d1, d2, d3] => { results := [.lit (.bool true)], args := [d1, d2, d3] }
  | _ => none }
def inodeMasksRow : OpenClaim := { program := "ytoaanhoelhmekaa", sum := "419b3ef3f62a6c569a9939d9b214834c61249332b786a6d9a9bc828069c8ed50", func := "estovers/estoverslaw27.InodeMasks", spec := "inodeMasks", apart := false }
def InodeMasksSaid : Prop := inodeMasksRow.holds Try.pinned (OpenSpec.ofChange inodeMasksSpec)

/-- ITS FALSE NEIGHBOUR: 'it returns false'. Refute it at one input. -/
def inodeMasksWrong : ChangeSpec := { name := "inodeMasks", fn := fun _ => fun
  | [d1, d2, d3] => { results := [.lit (.bool false)], args := [d1, d2, d3] }
  | _ => none }
def InodeMasksWrongFalsely : Prop := inodeMasksRow.holds Try.pinned (OpenSpec.ofChange inodeMasksWrong)

/-- 'estoverslaw27.InodePages': WHATEVER THE INPUT: true; the input reads as it did. -/
def inodePagesSpec : ChangeSpec := { name := "inodePages", fn := fun _ => fun
  | [d] => { results := [.lit (.bool true)], args := [d] }
  | _ => none }
def inodePagesRow : OpenClaim := { program := "ytoaanhoelhmekaa", sum := "419b3ef3f62a6c569a9939d9b214834c61249332b786a6d9a9bc828069c8ed50", func := "estovers/estoverslaw27.InodePages", spec := "inodePages", apart := false }
def InodePagesSaid : Prop := inodePagesRow.holds Try.pinned (OpenSpec.ofChange inodePagesSpec)

/-- ITS FALSE NEIGHBOUR: 'it returns false'. Refute it at one input. -/
def inodePagesWrong : ChangeSpec := { name := "inodePages", fn := fun _ => fun
  | [d] => { results := [.lit (.bool false)], args := [d] }
  | _ => none }
def InodePagesWrongFalsely : Prop := inodePagesRow.holds Try.pinned (OpenSpec.ofChange inodePagesWrong)

/- THE SECOND FORM. 'bulk': how many values and letters a reading holds, each counted each time it is reached (what is shared counts as often as it is met; a slice's spare places count too). A statement '..UptoSaid' is the law's where the arguments, and the package variables that the reading takes, are together of bulk at most 1048576: NARROWER than '..Said'. Prove '..Said' where nothing that the law and all that it calls make is longer than what came in: it says more and counts as full. Else prove '..UptoSaid'. A law counts once. -/
mutual
def uptoBulk {H : Type} : DataW H → Nat
  | .lit (.string bytes) => bytes.length + 1
  | .lit _ => 1
  | .nil => 1
  | .ptr d => uptoBulk d + 1
  | .slice elems spare => uptoBulkAll elems + uptoBulkAll spare + 1
  | .agg parts => uptoBulkAll parts + 1
  | .iface _ d => uptoBulk d + 1
  | .map entries => uptoBulkEntries entries + 1
  | .held _ => 1
def uptoBulkAll {H : Type} : List (DataW H) → Nat
  | [] => 0
  | d :: r => uptoBulk d + uptoBulkAll r
def uptoBulkEntries {H : Type} : List (Lit × DataW H) → Nat
  | [] => 0
  | x :: r => uptoBulkEntry x + uptoBulkEntries r
def uptoBulkEntry {H : Type} : Lit × DataW H → Nat
  | (.string bytes, d) => bytes.length + uptoBulk d + 1
  | (_, d) => uptoBulk d + 1
 end
def uptoSmall : (H : Type) → List (DataW H) → Bool := fun _ ds => decide (uptoBulkAll ds ≤ 1048576)
def OpenSpec.upto (s : _root_.Go.ChangeSpec) : _root_.Go.OpenSpec := { _root_.Go.OpenSpec.ofChange s with cond := some uptoSmall }

/-- 'estoverslaw27.InodeEncodes', WHERE WHAT IT READS IS OF BULK AT MOST 1048576: true; the input reads as it did. -/
def inodeEncodesUptoRow : OpenClaim := { program := "ytoaanhoelhmekaa", sum := "419b3ef3f62a6c569a9939d9b214834c61249332b786a6d9a9bc828069c8ed50", func := "estovers/estoverslaw27.InodeEncodes", spec := "inodeEncodes", apart := false, narrowed := true }
def InodeEncodesUptoSaid : Prop := inodeEncodesUptoRow.holds Try.pinned (OpenSpec.upto inodeEncodesSpec)

/-- 'estoverslaw27.InodeDecodes', WHERE WHAT IT READS IS OF BULK AT MOST 1048576: true; the input reads as it did. -/
def inodeDecodesUptoRow : OpenClaim := { program := "ytoaanhoelhmekaa", sum := "419b3ef3f62a6c569a9939d9b214834c61249332b786a6d9a9bc828069c8ed50", func := "estovers/estoverslaw27.InodeDecodes", spec := "inodeDecodes", apart := false, narrowed := true }
def InodeDecodesUptoSaid : Prop := inodeDecodesUptoRow.holds Try.pinned (OpenSpec.upto inodeDecodesSpec)

/-- 'estoverslaw27.InodeLays', WHERE WHAT IT READS IS OF BULK AT MOST 1048576: true; the input reads as it did. -/
def inodeLaysUptoRow : OpenClaim := { program := "ytoaanhoelhmekaa", sum := "419b3ef3f62a6c569a9939d9b214834c61249332b786a6d9a9bc828069c8ed50", func := "estovers/estoverslaw27.InodeLays", spec := "inodeLays", apart := false, narrowed := true }
def InodeLaysUptoSaid : Prop := inodeLaysUptoRow.holds Try.pinned (OpenSpec.upto inodeLaysSpec)

/-- 'estoverslaw27.InodeBack', WHERE WHAT IT READS IS OF BULK AT MOST 1048576: true; the input reads as it did. -/
def inodeBackUptoRow : OpenClaim := { program := "ytoaanhoelhmekaa", sum := "419b3ef3f62a6c569a9939d9b214834c61249332b786a6d9a9bc828069c8ed50", func := "estovers/estoverslaw27.InodeBack", spec := "inodeBack", apart := false, narrowed := true }
def InodeBackUptoSaid : Prop := inodeBackUptoRow.holds Try.pinned (OpenSpec.upto inodeBackSpec)

/-- 'estoverslaw27.InodeNotices', WHERE WHAT IT READS IS OF BULK AT MOST 1048576: true; the input reads as it did. -/
def inodeNoticesUptoRow : OpenClaim := { program := "ytoaanhoelhmekaa", sum := "419b3ef3f62a6c569a9939d9b214834c61249332b786a6d9a9bc828069c8ed50", func := "estovers/estoverslaw27.InodeNotices", spec := "inodeNotices", apart := false, narrowed := true }
def InodeNoticesUptoSaid : Prop := inodeNoticesUptoRow.holds Try.pinned (OpenSpec.upto inodeNoticesSpec)

/-- 'estoverslaw27.InodeApart', WHERE WHAT IT READS IS OF BULK AT MOST 1048576: true; the input reads as it did. -/
def inodeApartUptoRow : OpenClaim := { program := "ytoaanhoelhmekaa", sum := "419b3ef3f62a6c569a9939d9b214834c61249332b786a6d9a9bc828069c8ed50", func := "estovers/estoverslaw27.InodeApart", spec := "inodeApart", apart := false, narrowed := true }
def InodeApartUptoSaid : Prop := inodeApartUptoRow.holds Try.pinned (OpenSpec.upto inodeApartSpec)

/-- 'estoverslaw27.InodeMasks', WHERE WHAT IT READS IS OF BULK AT MOST 1048576: true; the input reads as it did. -/
def inodeMasksUptoRow : OpenClaim := { program := "ytoaanhoelhmekaa", sum := "419b3ef3f62a6c569a9939d9b214834c61249332b786a6d9a9bc828069c8ed50", func := "estovers/estoverslaw27.InodeMasks", spec := "inodeMasks", apart := false, narrowed := true }
def InodeMasksUptoSaid : Prop := inodeMasksUptoRow.holds Try.pinned (OpenSpec.upto inodeMasksSpec)

/-- 'estoverslaw27.InodePages', WHERE WHAT IT READS IS OF BULK AT MOST 1048576: true; the input reads as it did. -/
def inodePagesUptoRow : OpenClaim := { program := "ytoaanhoelhmekaa", sum := "419b3ef3f62a6c569a9939d9b214834c61249332b786a6d9a9bc828069c8ed50", func := "estovers/estoverslaw27.InodePages", spec := "inodePages", apart := false, narrowed := true }
def InodePagesUptoSaid : Prop := inodePagesUptoRow.holds Try.pinned (OpenSpec.upto inodePagesSpec)

end Rows
end Go.Proofs.Ytoaanhoelhmekaa
