/- Accounts: plain laws of paths and sums. -/
import Derived.Test.YtmkcfadpofjokaaA8q711611
set_option linter.unusedSimpArgs false
set_option linter.unusedVariables false
namespace Go.Proofs.Ytmkcfadpofjokaa
open Go.AM Classical
set_option maxRecDepth 100000
set_option maxHeartbeats 4000000
/-! ### Charges that succeed -/
theorem stopL_none {l : List Acct} {n : Int} {p : List Int} : stopL l n p = none ↔ ∀ x ∈ p, n ≤ roomA l x := by
  unfold stopL
  rw [List.find?_eq_none]
  simp
/-- A charge can be made. -/
def canP (l : List Acct) (a n : Int) : Prop := isP l a ∧ inR n ∧ ∀ x ∈ pathF l a, n ≤ roomA l x
theorem req_can {l : List Acct} {a n : Int} (h : isP l a) (hn : inR n) : reqF l a n = 0 := by rw [reqF, if_pos h.1, if_pos h, if_pos hn]
theorem chg_can {l : List Acct} {a n : Int} (h : canP l a n) : chgF l a n = (addF l a n, -1, 0) := by
  rw [chgF, if_pos (req_can h.1 h.2.1), stopL_none.2 h.2.2]
theorem chg_e {l : List Acct} {a n : Int} : (canP l a n ∧ chgF l a n = (addF l a n, -1, 0)) ∨ (¬ canP l a n ∧ (chgF l a n).1 = [] ∧ (chgF l a n).2.2 ≠ 0) := by
  by_cases h : canP l a n
  · exact .inl ⟨h, chg_can h⟩
  · refine .inr ⟨h, ?_⟩
    unfold chgF
    split
    · rename_i h1
      obtain ⟨h2, h3, h4⟩ := req_ok h1
      split
      · simp
      · rename_i h5
        exact absurd ⟨h3, h4, stopL_none.1 h5⟩ h
    · exact ⟨rfl, by assumption⟩
theorem unc_e {l : List Acct} {a n : Int} : ((isP l a ∧ inR n ∧ n ≤ ownF l a) ∧ uncF l a n = (addF l a (-n), 0)) ∨ ((uncF l a n).1 = [] ∧ (uncF l a n).2 ≠ 0) := by
  unfold uncF
  split
  · rename_i h1
    obtain ⟨h2, h3, h4⟩ := req_ok h1
    split
    · right; simp
    · left; exact ⟨⟨h3, h4, by omega⟩, rfl⟩
  · right; exact ⟨rfl, by assumption⟩
end Go.Proofs.Ytmkcfadpofjokaa
