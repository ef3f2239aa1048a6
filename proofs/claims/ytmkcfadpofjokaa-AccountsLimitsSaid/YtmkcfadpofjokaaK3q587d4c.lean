/- Accounts: the laws AccountsCommute, AccountsMargins, AccountsBack. -/
import Derived.Test.YtmkcfadpofjokaaK2qe6173a
import Derived.Test.YtmkcfadpofjokaaP1qefc1d1
set_option linter.unusedSimpArgs false
set_option linter.unusedVariables false
namespace Go.Proofs.Ytmkcfadpofjokaa
open Go.AM Classical
set_option maxRecDepth 100000
set_option maxHeartbeats 4000000
structure Opc where
  take : Bool
  acc : Int
  n : Int
def Opc.cells (o : Opc) : List D := [.bool o.take, .int .i64 o.acc, .int .i64 o.n]
theorem Opc.cells_len (o : Opc) : o.cells.length = 3 := rfl
theorem typed_op {n : Nat} {p : List D} (h : Typed Try.prog (n + 2) 34 p) : ∃ o : Opc, p = o.cells := by
  obtain ⟨ps, rfl, h1⟩ := typed_struct' Try.underlying34 h
  match ps, h1.1 with
  | [a, b, c], _ =>
    obtain ⟨x, rfl⟩ := typed_bool' Try.underlying4 (h1.2 0 _ a rfl rfl)
    obtain ⟨y, rfl, _⟩ := typed_int' Try.underlying3 (h1.2 1 _ b rfl rfl)
    obtain ⟨z, rfl, _⟩ := typed_int' Try.underlying3 (h1.2 2 _ c rfl rfl)
    exact ⟨⟨x, y, z⟩, rfl⟩
theorem typed_ops {d : D} (h : TypedA Try.prog 32 d) : ∃ l : List Opc, d = .vs 3 (l.flatMap Opc.cells) l.length ∧ l.length ≤ maxLen := by
  obtain ⟨ps, rfl, h1, h2⟩ := typed_slice Try.underlying32 h
  obtain ⟨l, rfl, h3⟩ := all_map (f := Opc.cells) (q := fun _ => True) (fun p hp => let ⟨o, ho⟩ := typed_op (h2 p hp); ⟨o, ho, trivial⟩)
  refine ⟨l, ?_, by simpa using h1⟩
  rw [List.length_map, ← List.flatMap_def, show Try.prog.cellsOf 34 = 3 by kernel_rfl]
end Go.Proofs.Ytmkcfadpofjokaa
