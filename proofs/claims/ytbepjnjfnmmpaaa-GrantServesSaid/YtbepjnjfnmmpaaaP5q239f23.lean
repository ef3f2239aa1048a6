/- Protection: plain laws. -/
import Derived.Test.YtbepjnjfnmmpaaaP2q549069
import Derived.Test.YtbepjnjfnmmpaaaAmZ3qd9e510
set_option linter.unusedSimpArgs false
set_option linter.unusedVariables false
namespace Go.Proofs.Ytbepjnjfnmmpaaa
open Go.AM Classical
set_option maxRecDepth 100000
set_option maxHeartbeats 4000000
theorem pathG_fuel {l : List Acct} (ht : treeP l) : ∀ (f g : Nat) (a : Int), a < f → a < g → a < l.length → pathG l f a = pathG l g a
  | 0, 0, _, _, _, _ => rfl
  | 0, g + 1, a, h, _, _ => by rw [pathG, pathG, if_neg (by omega)]
  | f + 1, 0, a, _, h, _ => by rw [pathG, pathG, if_neg (by omega)]
  | f + 1, g + 1, a, h1, h2, h3 => by
    rw [pathG, pathG]
    by_cases h0 : 0 ≤ a
    · have hp := pa_lt ht (a := a) ⟨h0, h3⟩
      rw [if_pos h0, if_pos h0, pathG_fuel ht f g _ (by omega) (by omega) (by omega)]
    · rw [if_neg h0, if_neg h0]
theorem path_mem {l : List Acct} {a : Int} (h : isP l a) {y : Int} : y ∈ pathG l 8 a ↔ y = a ∨ y ∈ pathG l 8 (pa l a.toNat) := by
  obtain ⟨hl, ht, _⟩ := chk_ok h.1
  have hp := pa_lt ht h.2
  have h2 := h.2
  rw [show pathG l 8 a = pathG l (7 + 1) a from rfl, pathG, if_pos h.2.1, List.mem_cons, pathG_fuel ht 7 8 _ (by omega) (by omega) (by omega)]
theorem path_self {l : List Acct} {a : Int} (h : isP l a) : a ∈ pathG l 8 a := (path_mem h).2 (.inl rfl)
theorem path_zero {l : List Acct} {a : Int} (h : isP l a) : 0 ∈ pathG l 8 a := by
  obtain ⟨hl, ht, _⟩ := chk_ok h.1
  suffices H : ∀ n : Nat, ∀ a : Int, a.toNat = n → isP l a → 0 ∈ pathG l 8 a from H a.toNat a rfl h
  intro n
  induction n using Nat.strongRecOn with
  | _ n ih =>
    intro a hn ha
    by_cases h0 : a = 0
    · subst h0; exact path_self ha
    · have ha2 := ha.2
      have h1 := ht a.toNat (by omega) (by omega)
      unfold okP at h1
      rw [← pa_at (by omega)] at h1
      exact (path_mem ha).2 (.inr (ih (pa l a.toNat).toNat (by omega) _ rfl ⟨h.1, by omega, by omega⟩))
end Go.Proofs.Ytbepjnjfnmmpaaa
