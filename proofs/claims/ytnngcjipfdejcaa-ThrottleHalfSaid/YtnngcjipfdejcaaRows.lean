/-
  No cell of these rows narrows 'for every input' (looked for: loops, veiled, ifaces, maps, wideKeys, modest, calm, conditions, laid).
  DERIVED. THE GIVEN ROWS OF THIS SEAT. 6 by the template 'for every input the law returns true; each argument reads behind the call as it read before'; 0 by the template 'total and deterministic' (their statements: YtnngcjipfdejcaaTotals.lean).
  GIVEN WITH THE SEED: the statements are not yours to turn. If you find one false, say at which input.
  Laid BY PROGRAM, IN A SANDBOX (cutbox-rows.mjs): the forced cells as the released guide's own fill.sh prints them over the translation 47b64e18156fa72c… (all of the seat's roots in one cut). By AI agents, Wed Nov 11 2026. No macro, syntax, notation, axiom, sorry.
-/
import Derived.Test.YtnngcjipfdejcaaChecked
import GoSem.Claim
import GoSem.ClaimJoined
import GoSem.ClaimMapViews
import Derived.JoinedTies
import Derived.KernelRfl
namespace Go.Proofs.Ytnngcjipfdejcaa
/- THE CELL 'sum', in the pinned program and in every row, IS THE sha256 OF THE DUMP (.gsa) THAT YtnngcjipfdejcaaProg.lean LOADS. Nothing in Lean hashes anything: it is a label: what it is worth is what the hold of that sum in a sandbox is worth. -/
noncomputable def Try.pinned : Pinned := { name := "ytnngcjipfdejcaa", sum := "47b64e18156fa72c41beb7b11585350a1b3fda3c72e6e15a3a0678d2fb596246", checked := Try.checked }
namespace Rows
def none {H : Type} : Left H := { results := [], args := [] }

/-- 'estoverslaw30.ThrottleHalf': WHATEVER THE INPUT: true; the input reads as it did. -/
def throttleHalfSpec : ChangeSpec := { name := "throttleHalf", fn := fun _ => fun
  | [d1, d2] => { results := [.lit (.bool true)], args := [d1, d2] }
  | _ => none }
def throttleHalfRow : OpenClaim := { program := "ytnngcjipfdejcaa", sum := "47b64e18156fa72c41beb7b11585350a1b3fda3c72e6e15a3a0678d2fb596246", func := "estovers/estoverslaw30.ThrottleHalf", spec := "throttleHalf", unfollowed := true, recurses := true, apart := false }
def ThrottleHalfSaid : Prop := throttleHalfRow.holds Try.pinned (OpenSpec.ofChange throttleHalfSpec)

/-- ITS FALSE NEIGHBOUR: 'it returns false'. Refute it at one input. -/
def throttleHalfWrong : ChangeSpec := { name := "throttleHalf", fn := fun _ => fun
  | [d1, d2] => { results := [.lit (.bool false)], args := [d1, d2] }
  | _ => none }
def ThrottleHalfWrongFalsely : Prop := throttleHalfRow.holds Try.pinned (OpenSpec.ofChange throttleHalfWrong)

/-- 'estoverslaw30.ThrottleShares': WHATEVER THE INPUT: true; the input reads as it did. -/
def throttleSharesSpec : ChangeSpec := { name := "throttleShares", fn := fun _ => fun
  | [d1, d2, d3] => { results := [.lit (.bool true)], args := [d1, d2, d3] }
  | _ => none }
def throttleSharesRow : OpenClaim := { program := "ytnngcjipfdejcaa", sum := "47b64e18156fa72c41beb7b11585350a1b3fda3c72e6e15a3a0678d2fb596246", func := "estovers/estoverslaw30.ThrottleShares", spec := "throttleShares", unfollowed := true, recurses := true, apart := false }
def ThrottleSharesSaid : Prop := throttleSharesRow.holds Try.pinned (OpenSpec.ofChange throttleSharesSpec)

/-- ITS FALSE NEIGHBOUR: 'it returns false'. Refute it at one input. -/
def throttleSharesWrong : ChangeSpec := { name := "throttleShares", fn := fun _ => fun
  | [d1, d2, d3] => { results := [.lit (.bool false)], args := [d1, d2, d3] }
  | _ => none }
def ThrottleSharesWrongFalsely : Prop := throttleSharesRow.holds Try.pinned (OpenSpec.ofChange throttleSharesWrong)

/-- 'estoverslaw30.ThrottleOldest': WHATEVER THE INPUT: true; the input reads as it did. -/
def throttleOldestSpec : ChangeSpec := { name := "throttleOldest", fn := fun _ => fun
  | [d] => { results := [.lit (.bool true)], args := [d] }
  | _ => none }
def throttleOldestRow : OpenClaim := { program := "ytnngcjipfdejcaa", sum := "47b64e18156fa72c41beb7b11585350a1b3fda3c72e6e15a3a0678d2fb596246", func := "estovers/estoverslaw30.ThrottleOldest", spec := "throttleOldest", unfollowed := true, recurses := true, apart := false }
def ThrottleOldestSaid : Prop := throttleOldestRow.holds Try.pinned (OpenSpec.ofChange throttleOldestSpec)

/-- ITS FALSE NEIGHBOUR: 'it returns false'. Refute it at one input. -/
def throttleOldestWrong : ChangeSpec := { name := "throttleOldest", fn := fun _ => fun
  | [d] => { results := [.lit (.bool false)], args := [d] }
  | _ => none }
def ThrottleOldestWrongFalsely : Prop := throttleOldestRow.holds Try.pinned (OpenSpec.ofChange throttleOldestWrong)

/-- 'estoverslaw30.ThrottleLimits': WHATEVER THE INPUT: true; the input reads as it did. -/
def throttleLimitsSpec : ChangeSpec := { name := "throttleLimits", fn := fun _ => fun
  | [d1, d2] => { results := [.lit (.bool true)], args := [d1, d2] }
  | _ => none }
def throttleLimitsRow : OpenClaim := { program := "ytnngcjipfdejcaa", sum := "47b64e18156fa72c41beb7b11585350a1b3fda3c72e6e15a3a0678d2fb596246", func := "estovers/estoverslaw30.ThrottleLimits", spec := "throttleLimits", unfollowed := true, recurses := true, apart := false }
def ThrottleLimitsSaid : Prop := throttleLimitsRow.holds Try.pinned (OpenSpec.ofChange throttleLimitsSpec)

/-- ITS FALSE NEIGHBOUR: 'it returns false'. Refute it at one input. -/
def throttleLimitsWrong : ChangeSpec := { name := "throttleLimits", fn := fun _ => fun
  | [d1, d2] => { results := [.lit (.bool false)], args := [d1, d2] }
  | _ => none }
def ThrottleLimitsWrongFalsely : Prop := throttleLimitsRow.holds Try.pinned (OpenSpec.ofChange throttleLimitsWrong)

/-- 'estoverslaw30.ThrottleSum': WHATEVER THE INPUT: true; the input reads as it did. -/
def throttleSumSpec : ChangeSpec := { name := "throttleSum", fn := fun _ => fun
  | [d1, d2] => { results := [.lit (.bool true)], args := [d1, d2] }
  | _ => none }
def throttleSumRow : OpenClaim := { program := "ytnngcjipfdejcaa", sum := "47b64e18156fa72c41beb7b11585350a1b3fda3c72e6e15a3a0678d2fb596246", func := "estovers/estoverslaw30.ThrottleSum", spec := "throttleSum", unfollowed := true, recurses := true, apart := false }
def ThrottleSumSaid : Prop := throttleSumRow.holds Try.pinned (OpenSpec.ofChange throttleSumSpec)

/-- ITS FALSE NEIGHBOUR: 'it returns false'. Refute it at one input. -/
def throttleSumWrong : ChangeSpec := { name := "throttleSum", fn := fun _ => fun
  | [d1, d2] => { results := [.lit (.bool false)], args := [d1, d2] }
  | _ => none }
def ThrottleSumWrongFalsely : Prop := throttleSumRow.holds Try.pinned (OpenSpec.ofChange throttleSumWrong)

/-- 'estoverslaw30.ThrottleOrder': WHATEVER THE INPUT: true; the input reads as it did. -/
def throttleOrderSpec : ChangeSpec := { name := "throttleOrder", fn := fun _ => fun
  | [d] => { results := [.lit (.bool true)], args := [d] }
  | _ => none }
def throttleOrderRow : OpenClaim := { program := "ytnngcjipfdejcaa", sum := "47b64e18156fa72c41beb7b11585350a1b3fda3c72e6e15a3a0678d2fb596246", func := "estovers/estoverslaw30.ThrottleOrder", spec := "throttleOrder", unfollowed := true, recurses := true, apart := false }
def ThrottleOrderSaid : Prop := throttleOrderRow.holds Try.pinned (OpenSpec.ofChange throttleOrderSpec)

/-- ITS FALSE NEIGHBOUR: 'it returns false'. Refute it at one input. -/
def throttleOrderWrong : ChangeSpec := { name := "throttleOrder", fn := fun _ => fun
  | [d] => { results := [.lit (.bool false)], args := [d] }
  | _ => none }
def ThrottleOrderWrongFalsely : Prop := throttleOrderRow.holds Try.pinned (OpenSpec.ofChange throttleOrderWrong)

/- THE SECOND FORM. 'bulk': how many values and letters a reading holds, each counted each time it is reached (what is shared counts as often as it is met; a slice's spare places count too). A statement '..UptoSaid' is the law's where the arguments, and the package variables that the reading takes, are together of bulk at most 1048576: NARROWER than '..Said'. Prove '..Said' where nothing that the law and all that it calls make is longer than what came in: it says more and counts as full. Else prove '..UptoSaid'. A law counts once. -/
mutual
def uptoBulk {H : Type} : DataW H → Nat
  | .lit (.string bytes) => bytes.length + 1
  | .lit _ => 1
  | .nil => 1
  | .ptr d => uptoBulk d + 1
  | .slice elems spare => uptoBulkAll elems + uptoBulkAll spare + 1
  | .agg parts => uptoBulkAll parts + 1
  | .iface _ d => uptoBulk d + 1
  | .map entries => uptoBulkEntries entries + 1
  | .held _ => 1
def uptoBulkAll {H : Type} : List (DataW H) → Nat
  | [] => 0
  | d :: r => uptoBulk d + uptoBulkAll r
def uptoBulkEntries {H : Type} : List (Lit × DataW H) → Nat
  | [] => 0
  | x :: r => uptoBulkEntry x + uptoBulkEntries r
def uptoBulkEntry {H : Type} : Lit × DataW H → Nat
  | (.string bytes, d) => bytes.length + uptoBulk d + 1
  | (_, d) => uptoBulk d + 1
 end
def uptoSmall : (H : Type) → List (DataW H) → Bool := fun _ ds => decide (uptoBulkAll ds ≤ 1048576)
def OpenSpec.upto (s : _root_.Go.ChangeSpec) : _root_.Go.OpenSpec := { _root_.Go.OpenSpec.ofChange s with cond := some uptoSmall }

/-- 'estoverslaw30.ThrottleHalf', WHERE WHAT IT READS IS OF BULK AT MOST 1048576: true; the input reads as it did. -/
def throttleHalfUptoRow : OpenClaim := { program := "ytnngcjipfdejcaa", sum := "47b64e18156fa72c41beb7b11585350a1b3fda3c72e6e15a3a0678d2fb596246", func := "estovers/estoverslaw30.ThrottleHalf", spec := "throttleHalf", unfollowed := true, recurses := true, apart := false, narrowed := true }
def ThrottleHalfUptoSaid : Prop := throttleHalfUptoRow.holds Try.pinned (OpenSpec.upto throttleHalfSpec)

/-- 'estoverslaw30.ThrottleShares', WHERE WHAT IT READS IS OF BULK AT MOST 1048576: true; the input reads as it did. -/
def throttleSharesUptoRow : OpenClaim := { program := "ytnngcjipfdejcaa", sum := "47b64e18156fa72c41beb7b11585350a1b3fda3c72e6e15a3a0678d2fb596246", func := "estovers/estoverslaw30.ThrottleShares", spec := "throttleShares", unfollowed := true, recurses := true, apart := false, narrowed := true }
def ThrottleSharesUptoSaid : Prop := throttleSharesUptoRow.holds Try.pinned (OpenSpec.upto throttleSharesSpec)

/-- 'estoverslaw30.ThrottleOldest', WHERE WHAT IT READS IS OF BULK AT MOST 1048576: true; the input reads as it did. -/
def throttleOldestUptoRow : OpenClaim := { program := "ytnngcjipfdejcaa", sum := "47b64e18156fa72c41beb7b11585350a1b3fda3c72e6e15a3a0678d2fb596246", func := "estovers/estoverslaw30.ThrottleOldest", spec := "throttleOldest", unfollowed := true, recurses := true, apart := false, narrowed := true }
def ThrottleOldestUptoSaid : Prop := throttleOldestUptoRow.holds Try.pinned (OpenSpec.upto throttleOldestSpec)

/-- 'estoverslaw30.ThrottleLimits', WHERE WHAT IT READS IS OF BULK AT MOST 1048576: true; the input reads as it did. -/
def throttleLimitsUptoRow : OpenClaim := { program := "ytnngcjipfdejcaa", sum := "47b64e18156fa72c41beb7b11585350a1b3fda3c72e6e15a3a0678d2fb596246", func := "estovers/estoverslaw30.ThrottleLimits", spec := "throttleLimits", unfollowed := true, recurses := true, apart := false, narrowed := true }
def ThrottleLimitsUptoSaid : Prop := throttleLimitsUptoRow.holds Try.pinned (OpenSpec.upto throttleLimitsSpec)

/-- 'estoverslaw30.ThrottleSum', WHERE WHAT IT READS IS OF BULK AT MOST 1048576: true; the input reads as it did. -/
def throttleSumUptoRow : OpenClaim := { program := "ytnngcjipfdejcaa", sum := "47b64e18156fa72c41beb7b11585350a1b3fda3c72e6e15a3a0678d2fb596246", func := "estovers/estoverslaw30.ThrottleSum", spec := "throttleSum", unfollowed := true, recurses := true, apart := false, narrowed := true }
def ThrottleSumUptoSaid : Prop := throttleSumUptoRow.holds Try.pinned (OpenSpec.upto throttleSumSpec)

/-- 'estoverslaw30.ThrottleOrder', WHERE WHAT IT READS IS OF BULK AT MOST 1048576: true; the input reads as it did. -/
def throttleOrderUptoRow : OpenClaim := { program := "ytnngcjipfdejcaa", sum := "47b64e18156fa72c41beb7b11585350a1b3fda3c72e6e15a3a0678d2fb596246", func := "estovers/estoverslaw30.ThrottleOrder", spec := "throttleOrder", unfollowed := true, recurses := true, apart := false, narrowed := true }
def ThrottleOrderUptoSaid : Prop := throttleOrderUptoRow.holds Try.pinned (OpenSpec.upto throttleOrderSpec)

end Rows
end Go.Proofs.Ytnngcjipfdejcaa
