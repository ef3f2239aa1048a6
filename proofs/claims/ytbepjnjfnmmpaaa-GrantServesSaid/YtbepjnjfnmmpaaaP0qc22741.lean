/- Accounts: paths, sums. -/
import Derived.Test.YtbepjnjfnmmpaaaA6q6646df
import Derived.Test.YtbepjnjfnmmpaaaAmZ3qd9e510
set_option linter.unusedSimpArgs false
set_option linter.unusedVariables false
namespace Go.Proofs.Ytbepjnjfnmmpaaa
open Go.AM Classical
set_option maxRecDepth 100000
set_option maxHeartbeats 4000000
theorem pathF_is {l : List Acct} {a : Int} (h : isP l a) : pathF l a = pathG l 8 a := if_pos h
theorem pathG_self {l : List Acct} {f : Nat} {a : Int} (h : 0 ≤ a) : a ∈ pathG l (f + 1) a := by
  rw [pathG, if_pos h]; simp
theorem pathF_self {l : List Acct} {a : Int} (h : isP l a) : a ∈ pathF l a := by rw [pathF_is h]; exact pathG_self h.2.1
theorem pathG_nodup {l : List Acct} (ht : treeP l) : ∀ (f : Nat) (a : Int), a < l.length → (pathG l f a).Nodup
  | 0, a, _ => by simp [pathG]
  | f + 1, a, ha => by
    unfold pathG
    split
    · rename_i h0
      have h1 := pa_lt ht (a := a) ⟨h0, ha⟩
      refine List.nodup_cons.2 ⟨fun hm => ?_, pathG_nodup ht f _ (by omega)⟩
      have := pathG_in ht f _ (by omega) a hm
      omega
    · simp
theorem pathG_mem {l : List Acct} (ht : treeP l) : ∀ (f : Nat) (a : Int), a < l.length → a < f → ∀ x ∈ pathG l f a, (0 ≤ pa l x.toNat → pa l x.toNat ∈ pathG l f a) ∧ (x ≠ a → ∃ c ∈ pathG l f a, 0 < c ∧ pa l c.toNat = x)
  | 0, _, _, _, x, hx => by simp [pathG] at hx
  | f + 1, a, ha, hf, x, hx => by
    unfold pathG at hx ⊢
    split at hx
    · rename_i h0
      rw [if_pos h0]
      have h1 := pa_lt ht (a := a) ⟨h0, ha⟩
      have ih := pathG_mem ht f (pa l a.toNat) (by omega) (by omega)
      rcases List.mem_cons.1 hx with rfl | hx
      · refine ⟨fun h => List.mem_cons_of_mem _ ?_, fun h => absurd rfl h⟩
        obtain ⟨g, rfl⟩ : ∃ g, f = g + 1 := ⟨f - 1, by omega⟩
        exact pathG_self h
      · obtain ⟨i1, i2⟩ := ih x hx
        refine ⟨fun h => List.mem_cons_of_mem _ (i1 h), fun h => ?_⟩
        have hx2 := pathG_in ht f _ (by omega) x hx
        by_cases hxp : x = pa l a.toNat
        · exact ⟨a, by simp, by omega, hxp.symm⟩
        · obtain ⟨c, hc, h2⟩ := i2 hxp
          exact ⟨c, List.mem_cons_of_mem _ hc, h2⟩
    · simp at hx
theorem pathG_gap {l : List Acct} (ht : treeP l) : ∀ (f : Nat) (a : Int), a < l.length → ∀ x ∈ pathG l f a, ∀ y ∈ pathG l f a, y < x → y ≤ pa l x.toNat
  | 0, _, _, x, hx, _, _, _ => by simp [pathG] at hx
  | f + 1, a, ha, x, hx, y, hy, hyx => by
    unfold pathG at hx hy
    split at hx
    · rename_i h0
      rw [if_pos h0] at hy
      have h1 := pa_lt ht (a := a) ⟨h0, ha⟩
      rcases List.mem_cons.1 hx with rfl | hx
      · rcases List.mem_cons.1 hy with rfl | hy
        · omega
        · exact (pathG_in ht f _ (by omega) y hy).2.2
      · have hx2 := pathG_in ht f _ (by omega) x hx
        rcases List.mem_cons.1 hy with rfl | hy
        · omega
        · exact pathG_gap ht f _ (by omega) x hx y hy hyx
    · simp at hx
theorem pathF_up {l : List Acct} {a x : Int} (h : isP l a) (hx : x ∈ pathF l a) (h0 : 0 ≤ pa l x.toNat) : pa l x.toNat ∈ pathF l a := by
  obtain ⟨hl, ht, _⟩ := chk_ok h.1
  have h2 := h.2
  rw [pathF_is h] at hx ⊢
  exact (pathG_mem ht 8 a h2.2 (by omega) x hx).1 h0
theorem pathF_down {l : List Acct} {a x : Int} (h : isP l a) (hx : x ∈ pathF l a) (h0 : x ≠ a) : ∃ c ∈ pathF l a, 0 < c ∧ pa l c.toNat = x := by
  obtain ⟨hl, ht, _⟩ := chk_ok h.1
  have h2 := h.2
  rw [pathF_is h] at hx ⊢
  exact (pathG_mem ht 8 a h2.2 (by omega) x hx).2 h0
theorem pathF_gap {l : List Acct} {a x y : Int} (h : isP l a) (hx : x ∈ pathF l a) (hy : y ∈ pathF l a) (hyx : y < x) : y ≤ pa l x.toNat := by
  obtain ⟨hl, ht, _⟩ := chk_ok h.1
  rw [pathF_is h] at hx hy
  exact pathG_gap ht 8 a h.2.2 x hx y hy hyx
theorem pathF_le {l : List Acct} {a x : Int} (h : isP l a) (hx : x ∈ pathF l a) : x ≤ a := by
  obtain ⟨hl, ht, _⟩ := chk_ok h.1
  rw [pathF_is h] at hx
  exact (pathG_in ht 8 a h.2.2 x hx).2.2
theorem pathF_nodup {l : List Acct} {a : Int} (h : isP l a) : (pathF l a).Nodup := by
  rw [pathF_is h]; exact pathG_nodup (chk_ok h.1).2.1 8 a h.2.2
end Go.Proofs.Ytbepjnjfnmmpaaa
