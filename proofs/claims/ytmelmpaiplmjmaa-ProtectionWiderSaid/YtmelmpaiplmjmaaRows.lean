/-
  No cell of these rows narrows 'for every input' (looked for: loops, veiled, ifaces, maps, wideKeys, modest, calm, conditions, laid).
  DERIVED. THE GIVEN ROWS OF THIS SEAT. 8 by the template 'for every input the law returns true; each argument reads behind the call as it read before'; 0 by the template 'total and deterministic' (their statements: YtmelmpaiplmjmaaTotals.lean).
  GIVEN WITH THE SEED: the statements are not yours to turn. If you find one false, say at which input.
  Laid BY PROGRAM, IN A SANDBOX (cutbox-rows.mjs): the forced cells as the released guide's own fill.sh prints them over the translation 1488811d98d74213… (all of the seat's roots in one cut). By AI agents, Wed Nov 11 2026. No macro, syntax, notation, axiom, sorry.
-/
import Derived.Test.YtmelmpaiplmjmaaChecked
import GoSem.Claim
import GoSem.ClaimJoined
import GoSem.ClaimMapViews
import Derived.JoinedTies
import Derived.KernelRfl
namespace Go.Proofs.Ytmelmpaiplmjmaa
/- THE CELL 'sum', in the pinned program and in every row, IS THE sha256 OF THE DUMP (.gsa) THAT YtmelmpaiplmjmaaProg.lean LOADS. Nothing in Lean hashes anything: it is a label: what it is worth is what the hold of that sum in a sandbox is worth. -/
noncomputable def Try.pinned : Pinned := { name := "ytmelmpaiplmjmaa", sum := "1488811d98d74213a113597ee4fcd4fc039914f9752f46fe79e1f772196b9855", checked := Try.checked }
namespace Rows
def none {H : Type} : Left H := { results := [], args := [] }

/-- 'estoverslaw20.ProtectionShares': WHATEVER THE INPUT: true; the input reads as it did. -/
def protectionSharesSpec : ChangeSpec := { name := "protectionShares", fn := fun _ => fun
  | [d] => { results := [.lit (.bool true)], args := [d] }
  | _ => none }
def protectionSharesRow : OpenClaim := { program := "ytmelmpaiplmjmaa", sum := "1488811d98d74213a113597ee4fcd4fc039914f9752f46fe79e1f772196b9855", func := "estovers/estoverslaw20.ProtectionShares", spec := "protectionShares", unfollowed := true, recurses := true, apart := false }
def ProtectionSharesSaid : Prop := protectionSharesRow.holds Try.pinned (OpenSpec.ofChange protectionSharesSpec)

/-- ITS FALSE NEIGHBOUR: 'it returns false'. Refute it at one input. -/
def protectionSharesWrong : ChangeSpec := { name := "protectionShares", fn := fun _ => fun
  | [d] => { results := [.lit (.bool false)], args := [d] }
  | _ => none }
def ProtectionSharesWrongFalsely : Prop := protectionSharesRow.holds Try.pinned (OpenSpec.ofChange protectionSharesWrong)

/-- 'estoverslaw20.ProtectionGuards': WHATEVER THE INPUT: true; the input reads as it did. -/
def protectionGuardsSpec : ChangeSpec := { name := "protectionGuards", fn := fun _ => fun
  | [d1, d2, d3] => { results := [.lit (.bool true)], args := [d1, d2, d3] }
  | _ => none }
def protectionGuardsRow : OpenClaim := { program := "ytmelmpaiplmjmaa", sum := "1488811d98d74213a113597ee4fcd4fc039914f9752f46fe79e1f772196b9855", func := "estovers/estoverslaw20.ProtectionGuards", spec := "protectionGuards", unfollowed := true, recurses := true, apart := false }
def ProtectionGuardsSaid : Prop := protectionGuardsRow.holds Try.pinned (OpenSpec.ofChange protectionGuardsSpec)

/-- ITS FALSE NEIGHBOUR: 'it returns false'. Refute it at one input. -/
def protectionGuardsWrong : ChangeSpec := { name := "protectionGuards", fn := fun _ => fun
  | [d1, d2, d3] => { results := [.lit (.bool false)], args := [d1, d2, d3] }
  | _ => none }
def ProtectionGuardsWrongFalsely : Prop := protectionGuardsRow.holds Try.pinned (OpenSpec.ofChange protectionGuardsWrong)

/-- 'estoverslaw20.ProtectionSums': WHATEVER THE INPUT: true; the input reads as it did. -/
def protectionSumsSpec : ChangeSpec := { name := "protectionSums", fn := fun _ => fun
  | [d1, d2, d3] => { results := [.lit (.bool true)], args := [d1, d2, d3] }
  | _ => none }
def protectionSumsRow : OpenClaim := { program := "ytmelmpaiplmjmaa", sum := "1488811d98d74213a113597ee4fcd4fc039914f9752f46fe79e1f772196b9855", func := "estovers/estoverslaw20.ProtectionSums", spec := "protectionSums", unfollowed := true, recurses := true, apart := false }
def ProtectionSumsSaid : Prop := protectionSumsRow.holds Try.pinned (OpenSpec.ofChange protectionSumsSpec)

/-- ITS FALSE NEIGHBOUR: 'it returns false'. Refute it at one input. -/
def protectionSumsWrong : ChangeSpec := { name := "protectionSums", fn := fun _ => fun
  | [d1, d2, d3] => { results := [.lit (.bool false)], args := [d1, d2, d3] }
  | _ => none }
def ProtectionSumsWrongFalsely : Prop := protectionSumsRow.holds Try.pinned (OpenSpec.ofChange protectionSumsWrong)

/-- 'estoverslaw20.ProtectionFinds': WHATEVER THE INPUT: true; the input reads as it did. -/
def protectionFindsSpec : ChangeSpec := { name := "protectionFinds", fn := fun _ => fun
  | [d1, d2, d3] => { results := [.lit (.bool true)], args := [d1, d2, d3] }
  | _ => none }
def protectionFindsRow : OpenClaim := { program := "ytmelmpaiplmjmaa", sum := "1488811d98d74213a113597ee4fcd4fc039914f9752f46fe79e1f772196b9855", func := "estovers/estoverslaw20.ProtectionFinds", spec := "protectionFinds", unfollowed := true, recurses := true, apart := false }
def ProtectionFindsSaid : Prop := protectionFindsRow.holds Try.pinned (OpenSpec.ofChange protectionFindsSpec)

/-- ITS FALSE NEIGHBOUR: 'it returns false'. Refute it at one input. -/
def protectionFindsWrong : ChangeSpec := { name := "protectionFinds", fn := fun _ => fun
  | [d1, d2, d3] => { results := [.lit (.bool false)], args := [d1, d2, d3] }
  | _ => none }
def ProtectionFindsWrongFalsely : Prop := protectionFindsRow.holds Try.pinned (OpenSpec.ofChange protectionFindsWrong)

/-- 'estoverslaw20.ProtectionAdds': WHATEVER THE INPUT: true; the input reads as it did. -/
def protectionAddsSpec : ChangeSpec := { name := "protectionAdds", fn := fun _ => fun
  | [d] => { results := [.lit (.bool true)], args := [d] }
  | _ => none }
def protectionAddsRow : OpenClaim := { program := "ytmelmpaiplmjmaa", sum := "1488811d98d74213a113597ee4fcd4fc039914f9752f46fe79e1f772196b9855", func := "estovers/estoverslaw20.ProtectionAdds", spec := "protectionAdds", unfollowed := true, recurses := true, apart := false }
def ProtectionAddsSaid : Prop := protectionAddsRow.holds Try.pinned (OpenSpec.ofChange protectionAddsSpec)

/-- ITS FALSE NEIGHBOUR: 'it returns false'. Refute it at one input. -/
def protectionAddsWrong : ChangeSpec := { name := "protectionAdds", fn := fun _ => fun
  | [d] => { results := [.lit (.bool false)], args := [d] }
  | _ => none }
def ProtectionAddsWrongFalsely : Prop := protectionAddsRow.holds Try.pinned (OpenSpec.ofChange protectionAddsWrong)

/-- 'estoverslaw20.ProtectionOpens': WHATEVER THE INPUT: true; the input reads as it did. -/
def protectionOpensSpec : ChangeSpec := { name := "protectionOpens", fn := fun _ => fun
  | [d1, d2, d3] => { results := [.lit (.bool true)], args := [d1, d2, d3] }
  | _ => none }
def protectionOpensRow : OpenClaim := { program := "ytmelmpaiplmjmaa", sum := "1488811d98d74213a113597ee4fcd4fc039914f9752f46fe79e1f772196b9855", func := "estovers/estoverslaw20.ProtectionOpens", spec := "protectionOpens", unfollowed := true, recurses := true, apart := false }
def ProtectionOpensSaid : Prop := protectionOpensRow.holds Try.pinned (OpenSpec.ofChange protectionOpensSpec)

/-- ITS FALSE NEIGHBOUR: 'it returns false'. Refute it at one input. -/
def protectionOpensWrong : ChangeSpec := { name := "protectionOpens", fn := fun _ => fun
  | [d1, d2, d3] => { results := [.lit (.bool false)], args := [d1, d2, d3] }
  | _ => none }
def ProtectionOpensWrongFalsely : Prop := protectionOpensRow.holds Try.pinned (OpenSpec.ofChange protectionOpensWrong)

/-- 'estoverslaw20.ProtectionWider': WHATEVER THE INPUT: true; the input reads as it did. -/
def protectionWiderSpec : ChangeSpec := { name := "protectionWider", fn := fun _ => fun
  | [d1, d2, d3] => { results := [.lit (.bool true)], args := [d1, d2, d3] }
  | _ => none }
def protectionWiderRow : OpenClaim := { program := "ytmelmpaiplmjmaa", sum := "1488811d98d74213a113597ee4fcd4fc039914f9752f46fe79e1f772196b9855", func := "estovers/estoverslaw20.ProtectionWider", spec := "protectionWider", unfollowed := true, recurses := true, apart := false }
def ProtectionWiderSaid : Prop := protectionWiderRow.holds Try.pinned (OpenSpec.ofChange protectionWiderSpec)

/-- ITS FALSE NEIGHBOUR: 'it returns false'. Refute it at one input. -/
def protectionWiderWrong : ChangeSpec := { name := "protectionWider", fn := fun _ => fun
  | [d1, d2, d3] => { results := [.lit (.bool false)], args := [d1, d2, d3] }
  | _ => none }
def ProtectionWiderWrongFalsely : Prop := protectionWiderRow.holds Try.pinned (OpenSpec.ofChange protectionWiderWrong)

/-- 'estoverslaw20.ProtectionMoves': WHATEVER THE INPUT: true; the input reads as it did. -/
def protectionMovesSpec : ChangeSpec := { name := "protectionMoves", fn := fun _ => fun
  | [d1, d2, d3] => { results := [.lit (.bool true)], args := [d1, d2, d3] }
  | _ => none }
def protectionMovesRow : OpenClaim := { program := "ytmelmpaiplmjmaa", sum := "1488811d98d74213a113597ee4fcd4fc039914f9752f46fe79e1f772196b9855", func := "estovers/estoverslaw20.ProtectionMoves", spec := "protectionMoves", unfollowed := true, recurses := true, apart := false }
def ProtectionMovesSaid : Prop := protectionMovesRow.holds Try.pinned (OpenSpec.ofChange protectionMovesSpec)

/-- ITS FALSE NEIGHBOUR: 'it returns false'. Refute it at one input. -/
def protectionMovesWrong : ChangeSpec := { name := "protectionMoves", fn := fun _ => fun
  | [d1, d2, d3] => { results := [.lit (.bool false)], args := [d1, d2, d3] }
  | _ => none }
def ProtectionMovesWrongFalsely : Prop := protectionMovesRow.holds Try.pinned (OpenSpec.ofChange protectionMovesWrong)

/- THE SECOND FORM. 'bulk': how many values and letters a reading holds, each counted each time it is reached (what is shared counts as often as it is met; a slice's spare places count too). A statement '..UptoSaid' is the law's where the arguments, and the package variables that the reading takes, are together of bulk at most 1048576: NARROWER than '..Said'. Prove '..Said' where nothing that the law and all that it calls make is longer than what came in: it says more and counts as full. Else prove '..UptoSaid'. A law counts once. -/
mutual
def uptoBulk {H : Type} : DataW H → Nat
  | .lit (.string bytes) => bytes.length + 1
  | .lit _ => 1
  | .nil => 1
  | .ptr d => uptoBulk d + 1
  | .slice elems spare => uptoBulkAll elems + uptoBulkAll spare + 1
  | .agg parts => uptoBulkAll parts + 1
  | .iface _ d => uptoBulk d + 1
  | .map entries => uptoBulkEntries entries + 1
  | .held _ => 1
def uptoBulkAll {H : Type} : List (DataW H) → Nat
  | [] => 0
  | d :: r => uptoBulk d + uptoBulkAll r
def uptoBulkEntries {H : Type} : List (Lit × DataW H) → Nat
  | [] => 0
  | x :: r => uptoBulkEntry x + uptoBulkEntries r
def uptoBulkEntry {H : Type} : Lit × DataW H → Nat
  | (.string bytes, d) => bytes.length + uptoBulk d + 1
  | (_, d) => uptoBulk d + 1
 end
def uptoSmall : (H : Type) → List (DataW H) → Bool := fun _ ds => decide (uptoBulkAll ds ≤ 1048576)
def OpenSpec.upto (s : _root_.Go.ChangeSpec) : _root_.Go.OpenSpec := { _root_.Go.OpenSpec.ofChange s with cond := some uptoSmall }

/-- 'estoverslaw20.ProtectionShares', WHERE WHAT IT READS IS OF BULK AT MOST 1048576: true; the input reads as it did. -/
def protectionSharesUptoRow : OpenClaim := { program := "ytmelmpaiplmjmaa", sum := "1488811d98d74213a113597ee4fcd4fc039914f9752f46fe79e1f772196b9855", func := "estovers/estoverslaw20.ProtectionShares", spec := "protectionShares", unfollowed := true, recurses := true, apart := false, narrowed := true }
def ProtectionSharesUptoSaid : Prop := protectionSharesUptoRow.holds Try.pinned (OpenSpec.upto protectionSharesSpec)

/-- 'estoverslaw20.ProtectionGuards', WHERE WHAT IT READS IS OF BULK AT MOST 1048576: true; the input reads as it did. -/
def protectionGuardsUptoRow : OpenClaim := { program := "ytmelmpaiplmjmaa", sum := "1488811d98d74213a113597ee4fcd4fc039914f9752f46fe79e1f772196b9855", func := "estovers/estoverslaw20.ProtectionGuards", spec := "protectionGuards", unfollowed := true, recurses := true, apart := false, narrowed := true }
def ProtectionGuardsUptoSaid : Prop := protectionGuardsUptoRow.holds Try.pinned (OpenSpec.upto protectionGuardsSpec)

/-- 'estoverslaw20.ProtectionSums', WHERE WHAT IT READS IS OF BULK AT MOST 1048576: true; the input reads as it did. -/
def protectionSumsUptoRow : OpenClaim := { program := "ytmelmpaiplmjmaa", sum := "1488811d98d74213a113597ee4fcd4fc039914f9752f46fe79e1f772196b9855", func := "estovers/estoverslaw20.ProtectionSums", spec := "protectionSums", unfollowed := true, recurses := true, apart := false, narrowed := true }
def ProtectionSumsUptoSaid : Prop := protectionSumsUptoRow.holds Try.pinned (OpenSpec.upto protectionSumsSpec)

/-- 'estoverslaw20.ProtectionFinds', WHERE WHAT IT READS IS OF BULK AT MOST 1048576: true; the input reads as it did. -/
def protectionFindsUptoRow : OpenClaim := { program := "ytmelmpaiplmjmaa", sum := "1488811d98d74213a113597ee4fcd4fc039914f9752f46fe79e1f772196b9855", func := "estovers/estoverslaw20.ProtectionFinds", spec := "protectionFinds", unfollowed := true, recurses := true, apart := false, narrowed := true }
def ProtectionFindsUptoSaid : Prop := protectionFindsUptoRow.holds Try.pinned (OpenSpec.upto protectionFindsSpec)

/-- 'estoverslaw20.ProtectionAdds', WHERE WHAT IT READS IS OF BULK AT MOST 1048576: true; the input reads as it did. -/
def protectionAddsUptoRow : OpenClaim := { program := "ytmelmpaiplmjmaa", sum := "1488811d98d74213a113597ee4fcd4fc039914f9752f46fe79e1f772196b9855", func := "estovers/estoverslaw20.ProtectionAdds", spec := "protectionAdds", unfollowed := true, recurses := true, apart := false, narrowed := true }
def ProtectionAddsUptoSaid : Prop := protectionAddsUptoRow.holds Try.pinned (OpenSpec.upto protectionAddsSpec)

/-- 'estoverslaw20.ProtectionOpens', WHERE WHAT IT READS IS OF BULK AT MOST 1048576: true; the input reads as it did. -/
def protectionOpensUptoRow : OpenClaim := { program := "ytmelmpaiplmjmaa", sum := "1488811d98d74213a113597ee4fcd4fc039914f9752f46fe79e1f772196b9855", func := "estovers/estoverslaw20.ProtectionOpens", spec := "protectionOpens", unfollowed := true, recurses := true, apart := false, narrowed := true }
def ProtectionOpensUptoSaid : Prop := protectionOpensUptoRow.holds Try.pinned (OpenSpec.upto protectionOpensSpec)

/-- 'estoverslaw20.ProtectionWider', WHERE WHAT IT READS IS OF BULK AT MOST 1048576: true; the input reads as it did. -/
def protectionWiderUptoRow : OpenClaim := { program := "ytmelmpaiplmjmaa", sum := "1488811d98d74213a113597ee4fcd4fc039914f9752f46fe79e1f772196b9855", func := "estovers/estoverslaw20.ProtectionWider", spec := "protectionWider", unfollowed := true, recurses := true, apart := false, narrowed := true }
def ProtectionWiderUptoSaid : Prop := protectionWiderUptoRow.holds Try.pinned (OpenSpec.upto protectionWiderSpec)

/-- 'estoverslaw20.ProtectionMoves', WHERE WHAT IT READS IS OF BULK AT MOST 1048576: true; the input reads as it did. -/
def protectionMovesUptoRow : OpenClaim := { program := "ytmelmpaiplmjmaa", sum := "1488811d98d74213a113597ee4fcd4fc039914f9752f46fe79e1f772196b9855", func := "estovers/estoverslaw20.ProtectionMoves", spec := "protectionMoves", unfollowed := true, recurses := true, apart := false, narrowed := true }
def ProtectionMovesUptoSaid : Prop := protectionMovesUptoRow.holds Try.pinned (OpenSpec.upto protectionMovesSpec)

end Rows
end Go.Proofs.Ytmelmpaiplmjmaa
