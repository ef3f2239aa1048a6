/- Rows that change; first places. -/
import Derived.Test.YtnngcjipfdejcaaAmY
set_option linter.unusedSimpArgs false
set_option linter.unusedVariables false
namespace Go.AM
open Go

theorem fm_set {α : Type} {f : α → List D} {w : Nat} (hf : ∀ a, (f a).length = w) {l : List α} {i j : Nat} {d : D} {b : α} (hi : i < l.length) (hj : j < w) (hb : f b = (f l[i]).set j d) :
    (l.flatMap f).set (i * w + j) d = (l.set i b).flatMap f := by
  induction l generalizing i with
  | nil => simp at hi
  | cons a r ih =>
    cases i with
    | zero =>
      simp only [Nat.zero_mul, Nat.zero_add, List.set_cons_zero, List.flatMap_cons]
      rw [List.set_append_left _ _ (by rw [hf]; exact hj)]
      simp only [List.getElem_cons_zero] at hb
      rw [hb]
    | succ i =>
      simp only [List.set_cons_succ, List.flatMap_cons]
      simp only [List.length_cons] at hi
      rw [List.set_append_right _ _ (by rw [hf, Nat.succ_mul]; omega), hf, ← ih (by omega) (by simpa using hb)]
      congr 2
      rw [Nat.succ_mul]; omega
theorem fm_st {α : Type} {f : α → List D} {w : Nat} (hf : ∀ a, (f a).length = w) {l : List α} {i j : Nat} {d : D} {b : α} (hi : i < l.length) (hj : j < w) (hb : f b = (f l[i]).set j d) :
    List.take (i * w + j) (l.flatMap f) ++ [d] ++ List.drop (i * w + j + 1) (l.flatMap f) = (l.set i b).flatMap f := by
  have h1 : i * w + w ≤ l.length * w := by rw [← Nat.succ_mul]; exact Nat.mul_le_mul_right w hi
  rw [set_form (by rw [fm_len hf]; omega), fm_set hf hi hj hb]
theorem rep_zero {k : IntKind} {xs : List Int} {n : Nat} (hl : xs.length = n) (h : ∀ x ∈ xs, x = 0) : rep n [D.int k 0] = xs.map (.int k) := by
  subst hl
  simp only [rep, List.flatten_replicate_singleton]
  apply List.ext_getElem (by simp)
  intro j h1 h2
  rw [List.getElem_replicate, List.getElem_map, h _ (List.getElem_mem _)]
theorem map_st {k : IntKind} {xs ys : List Int} {i : Nat} {v : Int} (hi : i < xs.length) (hs : xs.set i v = ys) : List.take i (xs.map (D.int k)) ++ [D.int k v] ++ List.drop (i + 1) (xs.map (D.int k)) = ys.map (.int k) := by
  rw [set_form (by simpa using hi), ← List.map_set, hs]
theorem map_g {k : IntKind} {xs : List Int} {i : Nat} (hi : i < xs.length) : (xs.map (D.int k))[i]? = some (.int k (xs.getD i 0)) := by
  rw [List.getElem?_map, List.getD_eq_getElem?_getD, List.getElem?_eq_getElem hi]; rfl
end Go.AM
