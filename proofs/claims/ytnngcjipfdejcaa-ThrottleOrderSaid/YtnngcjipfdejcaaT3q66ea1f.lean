/- Throttle: the laws ThrottleShares and ThrottleOldest. -/
import Derived.Test.YtnngcjipfdejcaaT2q2ed311
import Derived.Test.YtnngcjipfdejcaaA9q155a38
set_option linter.unusedSimpArgs false
set_option linter.unusedVariables false
namespace Go.Proofs.Ytnngcjipfdejcaa
open Go.AM Classical
set_option maxRecDepth 100000
set_option maxHeartbeats 4000000
theorem typed_sk {n : Nat} {p : List D} (h : Typed Try.prog (n + 2) 46 p) : ∃ s : Sk, p = s.cells ∧ s.ok := by
  obtain ⟨ps, rfl, h1⟩ := typed_struct' Try.underlying46 h
  match ps, h1.1 with
  | [a, b, c, d], _ =>
    obtain ⟨x, rfl, hx⟩ := typed_int' Try.underlying5 (h1.2 0 _ a rfl rfl)
    obtain ⟨y, rfl, hy⟩ := typed_int' Try.underlying5 (h1.2 1 _ b rfl rfl)
    obtain ⟨z, rfl⟩ := typed_bool' Try.underlying4 (h1.2 2 _ c rfl rfl)
    obtain ⟨w, rfl, _⟩ := typed_int' Try.underlying3 (h1.2 3 _ d rfl rfl)
    exact ⟨⟨x, y, z, w⟩, rfl, wf_u8 hx, wf_u8 hy⟩
theorem typed_sks {d : D} (h : TypedA Try.prog 28 d) : ∃ l : List Sk, d = .vs 4 (l.flatMap Sk.cells) l.length ∧ l.length ≤ maxLen ∧ ∀ s ∈ l, s.ok := by
  obtain ⟨ps, rfl, h1, h2⟩ := typed_slice Try.underlying28 h
  obtain ⟨l, rfl, h3⟩ := all_map (f := Sk.cells) (q := Sk.ok) (fun p hp => typed_sk (h2 p hp))
  refine ⟨l, ?_, by simpa using h1, h3⟩
  rw [List.length_map, ← List.flatMap_def, show Try.prog.cellsOf 46 = 4 by kernel_rfl]
/-- What Oldest chooses. -/
theorem oldTo_sp (l : List Fr) : ∀ i, i ≤ l.length → (oldTo l i = -1 ∧ ∀ j (h : j < l.length), j < i → ¬ rdy l[j]) ∨
    (0 ≤ oldTo l i ∧ (∀ h : (oldTo l i).toNat < l.length, rdy l[(oldTo l i).toNat]) ∧ ∀ j (h : j < l.length), j < i → rdy l[j] → sn l (oldTo l i) < l[j].since ∨ (sn l (oldTo l i) = l[j].since ∧ oldTo l i ≤ j))
  | 0, _ => .inl ⟨rfl, fun j h hj => by omega⟩
  | i + 1, hi => by
    have ih := oldTo_sp l i (by omega)
    have hin := oldTo_in l i
    have hst : oldTo l (i + 1) = if rdy l[i] ∧ (oldTo l i < 0 ∨ l[i].since < sn l (oldTo l i)) then (i : Int) else oldTo l i := by rw [oldTo, dif_pos (by omega)]
    rw [hst]
    generalize oldTo l i = k at *
    by_cases h1 : rdy l[i] ∧ (k < 0 ∨ l[i].since < sn l k)
    · rw [if_pos h1]
      right
      refine ⟨by omega, fun h => by simpa using h1.1, fun j h hj hr => ?_⟩
      rw [sn_at (by omega : ((i : Int)).toNat < l.length)]
      simp only [Int.toNat_natCast]
      rcases Nat.lt_succ_iff_lt_or_eq.1 hj with h2 | rfl
      · rcases ih with ⟨h3, h4⟩ | ⟨h3, _, h4⟩
        · exact absurd hr (h4 j h h2)
        · have := h4 j h h2 hr
          rcases h1.2 with h5 | h5
          · omega
          · left; omega
      · right; exact ⟨rfl, by omega⟩
    · rw [if_neg h1]
      rcases ih with ⟨h3, h4⟩ | ⟨h3, h3b, h4⟩
      · refine .inl ⟨h3, fun j h hj hr => ?_⟩
        rcases Nat.lt_succ_iff_lt_or_eq.1 hj with h2 | rfl
        · exact h4 j h h2 hr
        · exact h1 ⟨hr, .inl (by omega)⟩
      · refine .inr ⟨h3, h3b, fun j h hj hr => ?_⟩
        rcases Nat.lt_succ_iff_lt_or_eq.1 hj with h2 | rfl
        · exact h4 j h h2 hr
        · have : ¬ l[j].since < sn l k := fun h5 => h1 ⟨hr, .inr h5⟩
          omega
end Go.Proofs.Ytnngcjipfdejcaa
