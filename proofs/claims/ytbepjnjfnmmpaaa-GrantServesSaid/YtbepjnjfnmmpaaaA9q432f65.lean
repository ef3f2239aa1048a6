/- Accounts: lists of accounts as arguments. -/
import Derived.Test.YtbepjnjfnmmpaaaA4q7d9b34
import Derived.Test.YtbepjnjfnmmpaaaAmZ3qd9e510
set_option linter.unusedSimpArgs false
set_option linter.unusedVariables false
namespace Go.Proofs.Ytbepjnjfnmmpaaa
open Go.AM Classical
set_option maxRecDepth 100000
set_option maxHeartbeats 4000000
theorem typed_nums {P : Program} {n : Nat} {k : IntKind} : ∀ {fs : List Field} {ps : List (List D)}, All2 (fun (f : Field) p => Typed P (n + 1) f.type p) fs ps → (∀ f ∈ fs, P.underlying f.type = some (.int k)) →
    ∃ xs : List Int, ps.flatten = xs.map (.int k) ∧ xs.length = fs.length ∧ ∀ x ∈ xs, (Lit.int k x).wf = true
  | [], ps, h, _ => by
    obtain rfl : ps = [] := by have := h.1; simpa using this.symm
    exact ⟨[], rfl, rfl, by simp⟩
  | f :: fs, [], h, _ => by have := h.1; simp at this
  | f :: fs, p :: ps, h, hf => by
    obtain ⟨x, hx, hw⟩ := typed_int' (hf f (by simp)) (h.2 0 f p rfl rfl)
    obtain ⟨xs, h1, h2, h3⟩ := typed_nums (fs := fs) (ps := ps) ⟨by have := h.1; simpa using this, fun i v d h4 h5 => h.2 (i + 1) v d (by simpa using h4) (by simpa using h5)⟩ (fun f hm => hf f (by simp [hm]))
    exact ⟨x :: xs, by simp [hx, h1], by simp [h2], by simpa using ⟨hw, h3⟩⟩
theorem typed_acct {n : Nat} {p : List D} (h : Typed Try.prog (n + 2) 46 p) : ∃ a : Acct, p = a.cells ∧ AIn a := by
  obtain ⟨ps, rfl, h1⟩ := typed_struct' Try.underlying46 h
  obtain ⟨xs, h2, h3, h4⟩ := typed_nums (k := .i64) h1 (by simp [Try.underlying3])
  match xs, h3, h2, h4 with
  | [a, b, c, d, e], _, h2, h4 =>
    refine ⟨⟨a, b, c, d, e⟩, h2, ?_⟩
    simp only [List.mem_cons, List.not_mem_nil, or_false, forall_eq_or_imp, forall_eq] at h4
    exact ⟨wf_i64 h4.1, wf_i64 h4.2.1, wf_i64 h4.2.2.1, wf_i64 h4.2.2.2.1, wf_i64 h4.2.2.2.2⟩
theorem typed_accs {d : D} (h : TypedA Try.prog 24 d) : ∃ l : List Acct, d = accs l ∧ l.length ≤ maxLen ∧ ∀ a ∈ l, AIn a := by
  obtain ⟨ps, rfl, h1, h2⟩ := typed_slice Try.underlying24 h
  obtain ⟨l, rfl, h3⟩ := all_map (f := Acct.cells) (q := AIn) (fun p hp => typed_acct (h2 p hp))
  refine ⟨l, ?_, by simpa using h1, h3⟩
  rw [List.length_map, ← List.flatMap_def, show Try.prog.cellsOf 46 = 5 by kernel_rfl]
theorem maxLen_le {n : Nat} (h : n ≤ maxLen) : n ≤ 9223372036854775807 := by
  unfold maxLen at h; omega
end Go.Proofs.Ytbepjnjfnmmpaaa
