/- Accounts: the law AccountsSteps. -/
import Derived.Test.YtmkcfadpofjokaaK4qfa1225
set_option linter.unusedSimpArgs false
set_option linter.unusedVariables false
namespace Go.Proofs.Ytmkcfadpofjokaa
open Go.AM Classical
set_option maxRecDepth 100000
set_option maxHeartbeats 4000000
theorem chg_len (l : List Acct) (a n : Int) : (chgF l a n).1.length ≤ l.length := by
  rcases chg_e (l := l) (a := a) (n := n) with ⟨_, e⟩ | ⟨_, e, _⟩
  · rw [e]; exact Nat.le_of_eq (addF_len _ _ _)
  · rw [e]; simp
theorem unc_len (l : List Acct) (a n : Int) : (uncF l a n).1.length ≤ l.length := by
  rcases unc_e (l := l) (a := a) (n := n) with ⟨_, e⟩ | ⟨e, _⟩
  · rw [e]; exact Nat.le_of_eq (addF_len _ _ _)
  · rw [e]; simp
theorem opr {o : List Opc} {i : Nat} (h : i < o.length) : ((o.flatMap Opc.cells).drop (i * 3)).take 3 = [.bool o[i].take, .int .i64 o[i].acc, .int .i64 o[i].n] := fm_row Opc.cells_len h
theorem ops_len (o : List Opc) : (o.flatMap Opc.cells).length = o.length * 3 := fm_len Opc.cells_len o
end Go.Proofs.Ytmkcfadpofjokaa
