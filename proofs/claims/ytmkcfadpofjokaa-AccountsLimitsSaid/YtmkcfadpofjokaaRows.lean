/-
  No cell of these rows narrows 'for every input' (looked for: loops, veiled, ifaces, maps, wideKeys, modest, calm, conditions, laid).
  DERIVED. THE GIVEN ROWS OF THIS SEAT. 7 by the template 'for every input the law returns true; each argument reads behind the call as it read before'; 0 by the template 'total and deterministic' (their statements: YtmkcfadpofjokaaTotals.lean).
  GIVEN WITH THE SEED: the statements are not yours to turn. If you find one false, say at which input.
  Laid BY PROGRAM, IN A SANDBOX (cutbox-rows.mjs): the forced cells as the released guide's own fill.sh prints them over the translation 62283ede2f8e23e0… (all of the seat's roots in one cut). By AI agents, Wed Nov 11 2026. No macro, syntax, notation, axiom, sorry.
-/
import Derived.Test.YtmkcfadpofjokaaChecked
import GoSem.Claim
import GoSem.ClaimJoined
import GoSem.ClaimMapViews
import Derived.JoinedTies
import Derived.KernelRfl
namespace Go.Proofs.Ytmkcfadpofjokaa
/- THE CELL 'sum', in the pinned program and in every row, IS THE sha256 OF THE DUMP (.gsa) THAT YtmkcfadpofjokaaProg.lean LOADS. Nothing in Lean hashes anything: it is a label: what it is worth is what the hold of that sum in a sandbox is worth. -/
noncomputable def Try.pinned : Pinned := { name := "ytmkcfadpofjokaa", sum := "62283ede2f8e23e07b604ccb3f400031f664f4ff02d4c14620c89eb5486ece38", checked := Try.checked }
namespace Rows
def none {H : Type} : Left H := { results := [], args := [] }

/-- 'estoverslaw19.AccountsChecks': WHATEVER THE INPUT: true; the input reads as it did. -/
def accountsChecksSpec : ChangeSpec := { name := "accountsChecks", fn := fun _ => fun
  | [d] => { results := [.lit (.bool true)], args := [d] }
  | _ => none }
def accountsChecksRow : OpenClaim := { program := "ytmkcfadpofjokaa", sum := "62283ede2f8e23e07b604ccb3f400031f664f4ff02d4c14620c89eb5486ece38", func := "estovers/estoverslaw19.AccountsChecks", spec := "accountsChecks", unfollowed := true, recurses := true, apart := false }
def AccountsChecksSaid : Prop := accountsChecksRow.holds Try.pinned (OpenSpec.ofChange accountsChecksSpec)

/-- ITS FALSE NEIGHBOUR: 'it returns false'. Refute it at one input. -/
def accountsChecksWrong : ChangeSpec := { name := "accountsChecks", fn := fun _ => fun
  | [d] => { results := [.lit (.bool false)], args := [d] }
  | _ => none }
def AccountsChecksWrongFalsely : Prop := accountsChecksRow.holds Try.pinned (OpenSpec.ofChange accountsChecksWrong)

/-- 'estoverslaw19.AccountsPaths': WHATEVER THE INPUT: true; the input reads as it did. -/
def accountsPathsSpec : ChangeSpec := { name := "accountsPaths", fn := fun _ => fun
  | [d1, d2, d3] => { results := [.lit (.bool true)], args := [d1, d2, d3] }
  | _ => none }
def accountsPathsRow : OpenClaim := { program := "ytmkcfadpofjokaa", sum := "62283ede2f8e23e07b604ccb3f400031f664f4ff02d4c14620c89eb5486ece38", func := "estovers/estoverslaw19.AccountsPaths", spec := "accountsPaths", unfollowed := true, recurses := true, apart := false }
def AccountsPathsSaid : Prop := accountsPathsRow.holds Try.pinned (OpenSpec.ofChange accountsPathsSpec)

/-- ITS FALSE NEIGHBOUR: 'it returns false'. Refute it at one input. -/
def accountsPathsWrong : ChangeSpec := { name := "accountsPaths", fn := fun _ => fun
  | [d1, d2, d3] => { results := [.lit (.bool false)], args := [d1, d2, d3] }
  | _ => none }
def AccountsPathsWrongFalsely : Prop := accountsPathsRow.holds Try.pinned (OpenSpec.ofChange accountsPathsWrong)

/-- 'estoverslaw19.AccountsSteps': WHATEVER THE INPUT: true; the input reads as it did. -/
def accountsStepsSpec : ChangeSpec := { name := "accountsSteps", fn := fun _ => fun
  | [d1, d2] => { results := [.lit (.bool true)], args := [d1, d2] }
  | _ => none }
def accountsStepsRow : OpenClaim := { program := "ytmkcfadpofjokaa", sum := "62283ede2f8e23e07b604ccb3f400031f664f4ff02d4c14620c89eb5486ece38", func := "estovers/estoverslaw19.AccountsSteps", spec := "accountsSteps", unfollowed := true, recurses := true, apart := false }
def AccountsStepsSaid : Prop := accountsStepsRow.holds Try.pinned (OpenSpec.ofChange accountsStepsSpec)

/-- ITS FALSE NEIGHBOUR: 'it returns false'. Refute it at one input. -/
def accountsStepsWrong : ChangeSpec := { name := "accountsSteps", fn := fun _ => fun
  | [d1, d2] => { results := [.lit (.bool false)], args := [d1, d2] }
  | _ => none }
def AccountsStepsWrongFalsely : Prop := accountsStepsRow.holds Try.pinned (OpenSpec.ofChange accountsStepsWrong)

/-- 'estoverslaw19.AccountsLimits': WHATEVER THE INPUT: true; the input reads as it did. -/
def accountsLimitsSpec : ChangeSpec := { name := "accountsLimits", fn := fun _ => fun
  | [d1, d2] => { results := [.lit (.bool true)], args := [d1, d2] }
  | _ => none }
def accountsLimitsRow : OpenClaim := { program := "ytmkcfadpofjokaa", sum := "62283ede2f8e23e07b604ccb3f400031f664f4ff02d4c14620c89eb5486ece38", func := "estovers/estoverslaw19.AccountsLimits", spec := "accountsLimits", unfollowed := true, recurses := true, apart := false }
def AccountsLimitsSaid : Prop := accountsLimitsRow.holds Try.pinned (OpenSpec.ofChange accountsLimitsSpec)

/-- ITS FALSE NEIGHBOUR: 'it returns false'. Refute it at one input. -/
def accountsLimitsWrong : ChangeSpec := { name := "accountsLimits", fn := fun _ => fun
  | [d1, d2] => { results := [.lit (.bool false)], args := [d1, d2] }
  | _ => none }
def AccountsLimitsWrongFalsely : Prop := accountsLimitsRow.holds Try.pinned (OpenSpec.ofChange accountsLimitsWrong)

/-- 'estoverslaw19.AccountsMargins': WHATEVER THE INPUT: true; the input reads as it did. -/
def accountsMarginsSpec : ChangeSpec := { name := "accountsMargins", fn := fun _ => fun
  | [d1, d2, d3] => { results := [.lit (.bool true)], args := [d1, d2, d3] }
  | _ => none }
def accountsMarginsRow : OpenClaim := { program := "ytmkcfadpofjokaa", sum := "62283ede2f8e23e07b604ccb3f400031f664f4ff02d4c14620c89eb5486ece38", func := "estovers/estoverslaw19.AccountsMargins", spec := "accountsMargins", unfollowed := true, recurses := true, apart := false }
def AccountsMarginsSaid : Prop := accountsMarginsRow.holds Try.pinned (OpenSpec.ofChange accountsMarginsSpec)

/-- ITS FALSE NEIGHBOUR: 'it returns false'. Refute it at one input. -/
def accountsMarginsWrong : ChangeSpec := { name := "accountsMargins", fn := fun _ => fun
  | [d1, d2, d3] => { results := [.lit (.bool false)], args := [d1, d2, d3] }
  | _ => none }
def AccountsMarginsWrongFalsely : Prop := accountsMarginsRow.holds Try.pinned (OpenSpec.ofChange accountsMarginsWrong)

/-- 'estoverslaw19.AccountsBack': WHATEVER THE INPUT: true; the input reads as it did. -/
def accountsBackSpec : ChangeSpec := { name := "accountsBack", fn := fun _ => fun
  | [d1, d2, d3] => { results := [.lit (.bool true)], args := [d1, d2, d3] }
  | _ => none }
def accountsBackRow : OpenClaim := { program := "ytmkcfadpofjokaa", sum := "62283ede2f8e23e07b604ccb3f400031f664f4ff02d4c14620c89eb5486ece38", func := "estovers/estoverslaw19.AccountsBack", spec := "accountsBack", unfollowed := true, recurses := true, apart := false }
def AccountsBackSaid : Prop := accountsBackRow.holds Try.pinned (OpenSpec.ofChange accountsBackSpec)

/-- ITS FALSE NEIGHBOUR: 'it returns false'. Refute it at one input. -/
def accountsBackWrong : ChangeSpec := { name := "accountsBack", fn := fun _ => fun
  | [d1, d2, d3] => { results := [.lit (.bool false)], args := [d1, d2, d3] }
  | _ => none }
def AccountsBackWrongFalsely : Prop := accountsBackRow.holds Try.pinned (OpenSpec.ofChange accountsBackWrong)

/-- 'estoverslaw19.AccountsCommute': WHATEVER THE INPUT: true; the input reads as it did. -/
def accountsCommuteSpec : ChangeSpec := { name := "accountsCommute", fn := fun _ => fun
  | [d1, d2, d3] => { results := [.lit (.bool true)], args := [d1, d2, d3] }
  | _ => none }
def accountsCommuteRow : OpenClaim := { program := "ytmkcfadpofjokaa", sum := "62283ede2f8e23e07b604ccb3f400031f664f4ff02d4c14620c89eb5486ece38", func := "estovers/estoverslaw19.AccountsCommute", spec := "accountsCommute", unfollowed := true, recurses := true, apart := false }
def AccountsCommuteSaid : Prop := accountsCommuteRow.holds Try.pinned (OpenSpec.ofChange accountsCommuteSpec)

/-- ITS FALSE NEIGHBOUR: 'it returns false'. Refute it at one input. -/
def accountsCommuteWrong : ChangeSpec := { name := "accountsCommute", fn := fun _ => fun
  | [d1, d2, d3] => { results := [.lit (.bool false)], args := [d1, d2, d3] }
  | _ => none }
def AccountsCommuteWrongFalsely : Prop := accountsCommuteRow.holds Try.pinned (OpenSpec.ofChange accountsCommuteWrong)

/- THE SECOND FORM. 'bulk': how many values and letters a reading holds, each counted each time it is reached (what is shared counts as often as it is met; a slice's spare places count too). A statement '..UptoSaid' is the law's where the arguments, and the package variables that the reading takes, are together of bulk at most 1048576: NARROWER than '..Said'. Prove '..Said' where nothing that the law and all that it calls make is longer than what came in: it says more and counts as full. Else prove '..UptoSaid'. A law counts once. -/
mutual
def uptoBulk {H : Type} : DataW H → Nat
  | .lit (.string bytes) => bytes.length + 1
  | .lit _ => 1
  | .nil => 1
  | .ptr d => uptoBulk d + 1
  | .slice elems spare => uptoBulkAll elems + uptoBulkAll spare + 1
  | .agg parts => uptoBulkAll parts + 1
  | .iface _ d => uptoBulk d + 1
  | .map entries => uptoBulkEntries entries + 1
  | .held _ => 1
def uptoBulkAll {H : Type} : List (DataW H) → Nat
  | [] => 0
  | d :: r => uptoBulk d + uptoBulkAll r
def uptoBulkEntries {H : Type} : List (Lit × DataW H) → Nat
  | [] => 0
  | x :: r => uptoBulkEntry x + uptoBulkEntries r
def uptoBulkEntry {H : Type} : Lit × DataW H → Nat
  | (.string bytes, d) => bytes.length + uptoBulk d + 1
  | (_, d) => uptoBulk d + 1
 end
def uptoSmall : (H : Type) → List (DataW H) → Bool := fun _ ds => decide (uptoBulkAll ds ≤ 1048576)
def OpenSpec.upto (s : _root_.Go.ChangeSpec) : _root_.Go.OpenSpec := { _root_.Go.OpenSpec.ofChange s with cond := some uptoSmall }

/-- 'estoverslaw19.AccountsChecks', WHERE WHAT IT READS IS OF BULK AT MOST 1048576: true; the input reads as it did. -/
def accountsChecksUptoRow : OpenClaim := { program := "ytmkcfadpofjokaa", sum := "62283ede2f8e23e07b604ccb3f400031f664f4ff02d4c14620c89eb5486ece38", func := "estovers/estoverslaw19.AccountsChecks", spec := "accountsChecks", unfollowed := true, recurses := true, apart := false, narrowed := true }
def AccountsChecksUptoSaid : Prop := accountsChecksUptoRow.holds Try.pinned (OpenSpec.upto accountsChecksSpec)

/-- 'estoverslaw19.AccountsPaths', WHERE WHAT IT READS IS OF BULK AT MOST 1048576: true; the input reads as it did. -/
def accountsPathsUptoRow : OpenClaim := { program := "ytmkcfadpofjokaa", sum := "62283ede2f8e23e07b604ccb3f400031f664f4ff02d4c14620c89eb5486ece38", func := "estovers/estoverslaw19.AccountsPaths", spec := "accountsPaths", unfollowed := true, recurses := true, apart := false, narrowed := true }
def AccountsPathsUptoSaid : Prop := accountsPathsUptoRow.holds Try.pinned (OpenSpec.upto accountsPathsSpec)

/-- 'estoverslaw19.AccountsSteps', WHERE WHAT IT READS IS OF BULK AT MOST 1048576: true; the input reads as it did. -/
def accountsStepsUptoRow : OpenClaim := { program := "ytmkcfadpofjokaa", sum := "62283ede2f8e23e07b604ccb3f400031f664f4ff02d4c14620c89eb5486ece38", func := "estovers/estoverslaw19.AccountsSteps", spec := "accountsSteps", unfollowed := true, recurses := true, apart := false, narrowed := true }
def AccountsStepsUptoSaid : Prop := accountsStepsUptoRow.holds Try.pinned (OpenSpec.upto accountsStepsSpec)

/-- 'estoverslaw19.AccountsLimits', WHERE WHAT IT READS IS OF BULK AT MOST 1048576: true; the input reads as it did. -/
def accountsLimitsUptoRow : OpenClaim := { program := "ytmkcfadpofjokaa", sum := "62283ede2f8e23e07b604ccb3f400031f664f4ff02d4c14620c89eb5486ece38", func := "estovers/estoverslaw19.AccountsLimits", spec := "accountsLimits", unfollowed := true, recurses := true, apart := false, narrowed := true }
def AccountsLimitsUptoSaid : Prop := accountsLimitsUptoRow.holds Try.pinned (OpenSpec.upto accountsLimitsSpec)

/-- 'estoverslaw19.AccountsMargins', WHERE WHAT IT READS IS OF BULK AT MOST 1048576: true; the input reads as it did. -/
def accountsMarginsUptoRow : OpenClaim := { program := "ytmkcfadpofjokaa", sum := "62283ede2f8e23e07b604ccb3f400031f664f4ff02d4c14620c89eb5486ece38", func := "estovers/estoverslaw19.AccountsMargins", spec := "accountsMargins", unfollowed := true, recurses := true, apart := false, narrowed := true }
def AccountsMarginsUptoSaid : Prop := accountsMarginsUptoRow.holds Try.pinned (OpenSpec.upto accountsMarginsSpec)

/-- 'estoverslaw19.AccountsBack', WHERE WHAT IT READS IS OF BULK AT MOST 1048576: true; the input reads as it did. -/
def accountsBackUptoRow : OpenClaim := { program := "ytmkcfadpofjokaa", sum := "62283ede2f8e23e07b604ccb3f400031f664f4ff02d4c14620c89eb5486ece38", func := "estovers/estoverslaw19.AccountsBack", spec := "accountsBack", unfollowed := true, recurses := true, apart := false, narrowed := true }
def AccountsBackUptoSaid : Prop := accountsBackUptoRow.holds Try.pinned (OpenSpec.upto accountsBackSpec)

/-- 'estoverslaw19.AccountsCommute', WHERE WHAT IT READS IS OF BULK AT MOST 1048576: true; the input reads as it did. -/
def accountsCommuteUptoRow : OpenClaim := { program := "ytmkcfadpofjokaa", sum := "62283ede2f8e23e07b604ccb3f400031f664f4ff02d4c14620c89eb5486ece38", func := "estovers/estoverslaw19.AccountsCommute", spec := "accountsCommute", unfollowed := true, recurses := true, apart := false, narrowed := true }
def AccountsCommuteUptoSaid : Prop := accountsCommuteUptoRow.holds Try.pinned (OpenSpec.upto accountsCommuteSpec)

end Rows
end Go.Proofs.Ytmkcfadpofjokaa
