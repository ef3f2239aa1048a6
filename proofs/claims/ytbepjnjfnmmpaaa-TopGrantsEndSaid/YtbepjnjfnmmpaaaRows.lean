/-
  No cell of these rows narrows 'for every input' (looked for: loops, veiled, ifaces, maps, wideKeys, modest, calm, conditions, laid).
  DERIVED. THE GIVEN ROWS OF THIS SEAT. 8 by the template 'for every input the law returns true; each argument reads behind the call as it read before'; 0 by the template 'total and deterministic' (their statements: YtbepjnjfnmmpaaaTotals.lean).
  GIVEN WITH THE SEED: the statements are not yours to turn. If you find one false, say at which input.
  Laid BY PROGRAM, IN A SANDBOX (cutbox-rows.mjs): the forced cells as the released guide's own fill.sh prints them over the translation e3e482f126b69512… (all of the seat's roots in one cut). By AI agents, Wed Nov 11 2026. No macro, syntax, notation, axiom, sorry.
-/
import Derived.Test.YtbepjnjfnmmpaaaChecked
import GoSem.Claim
import GoSem.ClaimJoined
import GoSem.ClaimMapViews
import Derived.JoinedTies
import Derived.KernelRfl
namespace Go.Proofs.Ytbepjnjfnmmpaaa
/- THE CELL 'sum', in the pinned program and in every row, IS THE sha256 OF THE DUMP (.gsa) THAT YtbepjnjfnmmpaaaProg.lean LOADS. Nothing in Lean hashes anything: it is a label: what it is worth is what the hold of that sum in a sandbox is worth. -/
noncomputable def Try.pinned : Pinned := { name := "ytbepjnjfnmmpaaa", sum := "e3e482f126b6951263e8d96de14e410e827b609a268cfd86a743f5d3a1bc2f94", checked := Try.checked }
namespace Rows
def none {H : Type} : Left H := { results := [], args := [] }

/-- 'estoverslaw21.GrantShorts': WHATEVER THE INPUT: true; the input reads as it did. -/
def grantShortsSpec : ChangeSpec := { name := "grantShorts", fn := fun _ => fun
  | [d1, d2, d3] => { results := [.lit (.bool true)], args := [d1, d2, d3] }
  | _ => none }
def grantShortsRow : OpenClaim := { program := "ytbepjnjfnmmpaaa", sum := "e3e482f126b6951263e8d96de14e410e827b609a268cfd86a743f5d3a1bc2f94", func := "estovers/estoverslaw21.GrantShorts", spec := "grantShorts", unfollowed := true, recurses := true, apart := false }
def GrantShortsSaid : Prop := grantShortsRow.holds Try.pinned (OpenSpec.ofChange grantShortsSpec)

/-- ITS FALSE NEIGHBOUR: 'it returns false'. Refute it at one input. -/
def grantShortsWrong : ChangeSpec := { name := "grantShorts", fn := fun _ => fun
  | [d1, d2, d3] => { results := [.lit (.bool false)], args := [d1, d2, d3] }
  | _ => none }
def GrantShortsWrongFalsely : Prop := grantShortsRow.holds Try.pinned (OpenSpec.ofChange grantShortsWrong)

/-- 'estoverslaw21.GrantServes': WHATEVER THE INPUT: true; the input reads as it did. -/
def grantServesSpec : ChangeSpec := { name := "grantServes", fn := fun _ => fun
  | [d1, d2, d3] => { results := [.lit (.bool true)], args := [d1, d2, d3] }
  | _ => none }
def grantServesRow : OpenClaim := { program := "ytbepjnjfnmmpaaa", sum := "e3e482f126b6951263e8d96de14e410e827b609a268cfd86a743f5d3a1bc2f94", func := "estovers/estoverslaw21.GrantServes", spec := "grantServes", unfollowed := true, recurses := true, apart := false }
def GrantServesSaid : Prop := grantServesRow.holds Try.pinned (OpenSpec.ofChange grantServesSpec)

/-- ITS FALSE NEIGHBOUR: 'it returns false'. Refute it at one input. -/
def grantServesWrong : ChangeSpec := { name := "grantServes", fn := fun _ => fun
  | [d1, d2, d3] => { results := [.lit (.bool false)], args := [d1, d2, d3] }
  | _ => none }
def GrantServesWrongFalsely : Prop := grantServesRow.holds Try.pinned (OpenSpec.ofChange grantServesWrong)

/-- 'estoverslaw21.GrantRest': WHATEVER THE INPUT: true; the input reads as it did. -/
def grantRestSpec : ChangeSpec := { name := "grantRest", fn := fun _ => fun
  | [d1, d2, d3] => { results := [.lit (.bool true)], args := [d1, d2, d3] }
  | _ => none }
def grantRestRow : OpenClaim := { program := "ytbepjnjfnmmpaaa", sum := "e3e482f126b6951263e8d96de14e410e827b609a268cfd86a743f5d3a1bc2f94", func := "estovers/estoverslaw21.GrantRest", spec := "grantRest", unfollowed := true, recurses := true, apart := false }
def GrantRestSaid : Prop := grantRestRow.holds Try.pinned (OpenSpec.ofChange grantRestSpec)

/-- ITS FALSE NEIGHBOUR: 'it returns false'. Refute it at one input. -/
def grantRestWrong : ChangeSpec := { name := "grantRest", fn := fun _ => fun
  | [d1, d2, d3] => { results := [.lit (.bool false)], args := [d1, d2, d3] }
  | _ => none }
def GrantRestWrongFalsely : Prop := grantRestRow.holds Try.pinned (OpenSpec.ofChange grantRestWrong)

/-- 'estoverslaw21.GrantMore': WHATEVER THE INPUT: true; the input reads as it did. -/
def grantMoreSpec : ChangeSpec := { name := "grantMore", fn := fun _ => fun
  | [d1, d2, d3] => { results := [.lit (.bool true)], args := [d1, d2, d3] }
  | _ => none }
def grantMoreRow : OpenClaim := { program := "ytbepjnjfnmmpaaa", sum := "e3e482f126b6951263e8d96de14e410e827b609a268cfd86a743f5d3a1bc2f94", func := "estovers/estoverslaw21.GrantMore", spec := "grantMore", unfollowed := true, recurses := true, apart := false }
def GrantMoreSaid : Prop := grantMoreRow.holds Try.pinned (OpenSpec.ofChange grantMoreSpec)

/-- ITS FALSE NEIGHBOUR: 'it returns false'. Refute it at one input. -/
def grantMoreWrong : ChangeSpec := { name := "grantMore", fn := fun _ => fun
  | [d1, d2, d3] => { results := [.lit (.bool false)], args := [d1, d2, d3] }
  | _ => none }
def GrantMoreWrongFalsely : Prop := grantMoreRow.holds Try.pinned (OpenSpec.ofChange grantMoreWrong)

/-- 'estoverslaw21.GrantHopes': WHATEVER THE INPUT: true; the input reads as it did. -/
def grantHopesSpec : ChangeSpec := { name := "grantHopes", fn := fun _ => fun
  | [d1, d2, d3] => { results := [.lit (.bool true)], args := [d1, d2, d3] }
  | _ => none }
def grantHopesRow : OpenClaim := { program := "ytbepjnjfnmmpaaa", sum := "e3e482f126b6951263e8d96de14e410e827b609a268cfd86a743f5d3a1bc2f94", func := "estovers/estoverslaw21.GrantHopes", spec := "grantHopes", unfollowed := true, recurses := true, apart := false }
def GrantHopesSaid : Prop := grantHopesRow.holds Try.pinned (OpenSpec.ofChange grantHopesSpec)

/-- ITS FALSE NEIGHBOUR: 'it returns false'. Refute it at one input. -/
def grantHopesWrong : ChangeSpec := { name := "grantHopes", fn := fun _ => fun
  | [d1, d2, d3] => { results := [.lit (.bool false)], args := [d1, d2, d3] }
  | _ => none }
def GrantHopesWrongFalsely : Prop := grantHopesRow.holds Try.pinned (OpenSpec.ofChange grantHopesWrong)

/-- 'estoverslaw21.GrantFifo': WHATEVER THE INPUT: true; the input reads as it did. -/
def grantFifoSpec : ChangeSpec := { name := "grantFifo", fn := fun _ => fun
  | [d1, d2, d3] => { results := [.lit (.bool true)], args := [d1, d2, d3] }
  | _ => none }
def grantFifoRow : OpenClaim := { program := "ytbepjnjfnmmpaaa", sum := "e3e482f126b6951263e8d96de14e410e827b609a268cfd86a743f5d3a1bc2f94", func := "estovers/estoverslaw21.GrantFifo", spec := "grantFifo", unfollowed := true, recurses := true, apart := false }
def GrantFifoSaid : Prop := grantFifoRow.holds Try.pinned (OpenSpec.ofChange grantFifoSpec)

/-- ITS FALSE NEIGHBOUR: 'it returns false'. Refute it at one input. -/
def grantFifoWrong : ChangeSpec := { name := "grantFifo", fn := fun _ => fun
  | [d1, d2, d3] => { results := [.lit (.bool false)], args := [d1, d2, d3] }
  | _ => none }
def GrantFifoWrongFalsely : Prop := grantFifoRow.holds Try.pinned (OpenSpec.ofChange grantFifoWrong)

/-- 'estoverslaw21.GrantQueues': WHATEVER THE INPUT: true; the input reads as it did. -/
def grantQueuesSpec : ChangeSpec := { name := "grantQueues", fn := fun _ => fun
  | [d1, d2] => { results := [.lit (.bool true)], args := [d1, d2] }
  | _ => none }
def grantQueuesRow : OpenClaim := { program := "ytbepjnjfnmmpaaa", sum := "e3e482f126b6951263e8d96de14e410e827b609a268cfd86a743f5d3a1bc2f94", func := "estovers/estoverslaw21.GrantQueues", spec := "grantQueues", unfollowed := true, recurses := true, apart := false }
def GrantQueuesSaid : Prop := grantQueuesRow.holds Try.pinned (OpenSpec.ofChange grantQueuesSpec)

/-- ITS FALSE NEIGHBOUR: 'it returns false'. Refute it at one input. -/
def grantQueuesWrong : ChangeSpec := { name := "grantQueues", fn := fun _ => fun
  | [d1, d2] => { results := [.lit (.bool false)], args := [d1, d2] }
  | _ => none }
def GrantQueuesWrongFalsely : Prop := grantQueuesRow.holds Try.pinned (OpenSpec.ofChange grantQueuesWrong)

/-- 'estoverstop.TopGrantsEnd': WHATEVER THE INPUT: true; the input reads as it did. -/
def topGrantsEndSpec : ChangeSpec := { name := "topGrantsEnd", fn := fun _ => fun
  | [d] => { results := [.lit (.bool true)], args := [d] }
  | _ => none }
def topGrantsEndRow : OpenClaim := { program := "ytbepjnjfnmmpaaa", sum := "e3e482f126b6951263e8d96de14e410e827b609a268cfd86a743f5d3a1bc2f94", func := "estovers/estoverstop.TopGrantsEnd", spec := "topGrantsEnd", unfollowed := true, recurses := true, apart := false }
def TopGrantsEndSaid : Prop := topGrantsEndRow.holds Try.pinned (OpenSpec.ofChange topGrantsEndSpec)

/-- ITS FALSE NEIGHBOUR: 'it returns false'. Refute it at one input. -/
def topGrantsEndWrong : ChangeSpec := { name := "topGrantsEnd", fn := fun _ => fun
  | [d] => { results := [.lit (.bool false)], args := [d] }
  | _ => none }
def TopGrantsEndWrongFalsely : Prop := topGrantsEndRow.holds Try.pinned (OpenSpec.ofChange topGrantsEndWrong)

/- THE SECOND FORM. 'bulk': how many values and letters a reading holds, each counted each time it is reached (what is shared counts as often as it is met; a slice's spare places count too). A statement '..UptoSaid' is the law's where the arguments, and the package variables that the reading takes, are together of bulk at most 1048576: NARROWER than '..Said'. Prove '..Said' where nothing that the law and all that it calls make is longer than what came in: it says more and counts as full. Else prove '..UptoSaid'. A law counts once. -/
mutual
def uptoBulk {H : Type} : DataW H → Nat
  | .lit (.string bytes) => bytes.length + 1
  | .lit _ => 1
  | .nil => 1
  | .ptr d => uptoBulk d + 1
  | .slice elems spare => uptoBulkAll elems + uptoBulkAll spare + 1
  | .agg parts => uptoBulkAll parts + 1
  | .iface _ d => uptoBulk d + 1
  | .map entries => uptoBulkEntries entries + 1
  | .held _ => 1
def uptoBulkAll {H : Type} : List (DataW H) → Nat
  | [] => 0
  | d :: r => uptoBulk d + uptoBulkAll r
def uptoBulkEntries {H : Type} : List (Lit × DataW H) → Nat
  | [] => 0
  | x :: r => uptoBulkEntry x + uptoBulkEntries r
def uptoBulkEntry {H : Type} : Lit × DataW H → Nat
  | (.string bytes, d) => bytes.length + uptoBulk d + 1
  | (_, d) => uptoBulk d + 1
 end
def uptoSmall : (H : Type) → List (DataW H) → Bool := fun _ ds => decide (uptoBulkAll ds ≤ 1048576)
def OpenSpec.upto (s : _root_.Go.ChangeSpec) : _root_.Go.OpenSpec := { _root_.Go.OpenSpec.ofChange s with cond := some uptoSmall }

/-- 'estoverslaw21.GrantShorts', WHERE WHAT IT READS IS OF BULK AT MOST 1048576: true; the input reads as it did. -/
def grantShortsUptoRow : OpenClaim := { program := "ytbepjnjfnmmpaaa", sum := "e3e482f126b6951263e8d96de14e410e827b609a268cfd86a743f5d3a1bc2f94", func := "estovers/estoverslaw21.GrantShorts", spec := "grantShorts", unfollowed := true, recurses := true, apart := false, narrowed := true }
def GrantShortsUptoSaid : Prop := grantShortsUptoRow.holds Try.pinned (OpenSpec.upto grantShortsSpec)

/-- 'estoverslaw21.GrantServes', WHERE WHAT IT READS IS OF BULK AT MOST 1048576: true; the input reads as it did. -/
def grantServesUptoRow : OpenClaim := { program := "ytbepjnjfnmmpaaa", sum := "e3e482f126b6951263e8d96de14e410e827b609a268cfd86a743f5d3a1bc2f94", func := "estovers/estoverslaw21.GrantServes", spec := "grantServes", unfollowed := true, recurses := true, apart := false, narrowed := true }
def GrantServesUptoSaid : Prop := grantServesUptoRow.holds Try.pinned (OpenSpec.upto grantServesSpec)

/-- 'estoverslaw21.GrantRest', WHERE WHAT IT READS IS OF BULK AT MOST 1048576: true; the input reads as it did. -/
def grantRestUptoRow : OpenClaim := { program := "ytbepjnjfnmmpaaa", sum := "e3e482f126b6951263e8d96de14e410e827b609a268cfd86a743f5d3a1bc2f94", func := "estovers/estoverslaw21.GrantRest", spec := "grantRest", unfollowed := true, recurses := true, apart := false, narrowed := true }
def GrantRestUptoSaid : Prop := grantRestUptoRow.holds Try.pinned (OpenSpec.upto grantRestSpec)

/-- 'estoverslaw21.GrantMore', WHERE WHAT IT READS IS OF BULK AT MOST 1048576: true; the input reads as it did. -/
def grantMoreUptoRow : OpenClaim := { program := "ytbepjnjfnmmpaaa", sum := "e3e482f126b6951263e8d96de14e410e827b609a268cfd86a743f5d3a1bc2f94", func := "estovers/estoverslaw21.GrantMore", spec := "grantMore", unfollowed := true, recurses := true, apart := false, narrowed := true }
def GrantMoreUptoSaid : Prop := grantMoreUptoRow.holds Try.pinned (OpenSpec.upto grantMoreSpec)

/-- 'estoverslaw21.GrantHopes', WHERE WHAT IT READS IS OF BULK AT MOST 1048576: true; the input reads as it did. -/
def grantHopesUptoRow : OpenClaim := { program := "ytbepjnjfnmmpaaa", sum := "e3e482f126b6951263e8d96de14e410e827b609a268cfd86a743f5d3a1bc2f94", func := "estovers/estoverslaw21.GrantHopes", spec := "grantHopes", unfollowed := true, recurses := true, apart := false, narrowed := true }
def GrantHopesUptoSaid : Prop := grantHopesUptoRow.holds Try.pinned (OpenSpec.upto grantHopesSpec)

/-- 'estoverslaw21.GrantFifo', WHERE WHAT IT READS IS OF BULK AT MOST 1048576: true; the input reads as it did. -/
def grantFifoUptoRow : OpenClaim := { program := "ytbepjnjfnmmpaaa", sum := "e3e482f126b6951263e8d96de14e410e827b609a268cfd86a743f5d3a1bc2f94", func := "estovers/estoverslaw21.GrantFifo", spec := "grantFifo", unfollowed := true, recurses := true, apart := false, narrowed := true }
def GrantFifoUptoSaid : Prop := grantFifoUptoRow.holds Try.pinned (OpenSpec.upto grantFifoSpec)

/-- 'estoverslaw21.GrantQueues', WHERE WHAT IT READS IS OF BULK AT MOST 1048576: true; the input reads as it did. -/
def grantQueuesUptoRow : OpenClaim := { program := "ytbepjnjfnmmpaaa", sum := "e3e482f126b6951263e8d96de14e410e827b609a268cfd86a743f5d3a1bc2f94", func := "estovers/estoverslaw21.GrantQueues", spec := "grantQueues", unfollowed := true, recurses := true, apart := false, narrowed := true }
def GrantQueuesUptoSaid : Prop := grantQueuesUptoRow.holds Try.pinned (OpenSpec.upto grantQueuesSpec)

/-- 'estoverstop.TopGrantsEnd', WHERE WHAT IT READS IS OF BULK AT MOST 1048576: true; the input reads as it did. -/
def topGrantsEndUptoRow : OpenClaim := { program := "ytbepjnjfnmmpaaa", sum := "e3e482f126b6951263e8d96de14e410e827b609a268cfd86a743f5d3a1bc2f94", func := "estovers/estoverstop.TopGrantsEnd", spec := "topGrantsEnd", unfollowed := true, recurses := true, apart := false, narrowed := true }
def TopGrantsEndUptoSaid : Prop := topGrantsEndUptoRow.holds Try.pinned (OpenSpec.upto topGrantsEndSpec)

end Rows
end Go.Proofs.Ytbepjnjfnmmpaaa
