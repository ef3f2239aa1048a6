/- Accounts: plain laws of paths and sums. -/
import Derived.Test.YtmkcfadpofjokaaA8q10de65
set_option linter.unusedSimpArgs false
set_option linter.unusedVariables false
namespace Go.Proofs.Ytmkcfadpofjokaa
open Go.AM Classical
set_option maxRecDepth 100000
set_option maxHeartbeats 4000000
theorem pathF_is {l : List Acct} {a : Int} (h : isP l a) : pathF l a = pathG l 8 a := if_pos h
theorem pathG_self {l : List Acct} {f : Nat} {a : Int} (h : 0 ≤ a) : a ∈ pathG l (f + 1) a := by
  rw [pathG, if_pos h]; simp
theorem pathF_self {l : List Acct} {a : Int} (h : isP l a) : a ∈ pathF l a := by rw [pathF_is h]; exact pathG_self h.2.1
/-! ### Charges that succeed -/
theorem stopL_none {l : List Acct} {n : Int} {p : List Int} : stopL l n p = none ↔ ∀ x ∈ p, n ≤ roomA l x := by
  unfold stopL
  rw [List.find?_eq_none]
  simp
/-- A charge can be made. -/
def canP (l : List Acct) (a n : Int) : Prop := isP l a ∧ inR n ∧ ∀ x ∈ pathF l a, n ≤ roomA l x
theorem req_can {l : List Acct} {a n : Int} (h : isP l a) (hn : inR n) : reqF l a n = 0 := by rw [reqF, if_pos h.1, if_pos h, if_pos hn]
theorem chg_can {l : List Acct} {a n : Int} (h : canP l a n) : chgF l a n = (addF l a n, -1, 0) := by
  rw [chgF, if_pos (req_can h.1 h.2.1), stopL_none.2 h.2.2]
/-! ### Margins -/
theorem mar_fold {l : List Acct} : ∀ (p : List Int) (s : Int × Int), s.1 = roomA l s.2 → (p.foldl (marS l) s).1 = roomA l (p.foldl (marS l) s).2 ∧ ((p.foldl (marS l) s).2 = s.2 ∨ (p.foldl (marS l) s).2 ∈ p) ∧
    (p.foldl (marS l) s).1 ≤ s.1 ∧ ∀ x ∈ p, (p.foldl (marS l) s).1 ≤ roomA l x
  | [], s, h => ⟨h, .inl rfl, Int.le_refl _, by simp⟩
  | x :: r, s, h => by
    rw [List.foldl_cons]
    have h1 : (marS l s x).1 = roomA l (marS l s x).2 ∧ ((marS l s x).2 = s.2 ∨ (marS l s x).2 = x) ∧ (marS l s x).1 ≤ s.1 ∧ (marS l s x).1 ≤ roomA l x := by
      unfold marS
      split
      · exact ⟨rfl, .inr rfl, by dsimp only; omega, Int.le_refl _⟩
      · exact ⟨h, .inl rfl, Int.le_refl _, by omega⟩
    obtain ⟨i1, i2, i3, i4⟩ := mar_fold r (marS l s x) h1.1
    refine ⟨i1, ?_, by omega, ?_⟩
    · rcases i2 with h2 | h2
      · rw [h2]
        rcases h1.2.1 with h3 | h3
        · exact .inl h3
        · right; rw [h3]; simp
      · right; simp [h2]
    · intro y hy
      rcases List.mem_cons.1 hy with rfl | hy
      · omega
      · exact i4 y hy
theorem mar_e {l : List Acct} {a : Int} (h : isP l a) : ∃ m by_, marF l a = (m, by_, 0) ∧ by_ ∈ pathF l a ∧ m = roomA l by_ ∧ ∀ x ∈ pathF l a, m ≤ roomA l x := by
  obtain ⟨h1, h2, h3, h4⟩ := mar_fold (l := l) (pathF l a) (roomA l a, a) rfl
  refine ⟨_, _, by rw [marF, if_pos h.1, if_pos h], ?_, h1, h4⟩
  rcases h2 with h2 | h2
  · rw [h2]; exact pathF_self h
  · exact h2
end Go.Proofs.Ytmkcfadpofjokaa
