/- Accounts: plain laws of charges and sums. -/
import Derived.Test.YtbepjnjfnmmpaaaA8qc6df3a
import Derived.Test.YtbepjnjfnmmpaaaP0qc22741
import Derived.Test.YtbepjnjfnmmpaaaAmZ3qd9e510
set_option linter.unusedSimpArgs false
set_option linter.unusedVariables false
namespace Go.Proofs.Ytbepjnjfnmmpaaa
open Go.AM Classical
set_option maxRecDepth 100000
set_option maxHeartbeats 4000000
/-! ### Sums on a path -/
def addA (x : Acct) (n : Int) : Acct := { x with usage := x.usage + n }
theorem addU_get (o : List Acct) (n x : Int) (j : Nat) : (addU o n x)[j]? = o[j]?.map fun y => addA y (if x.toNat = j then n else 0) := by
  unfold addU
  rw [List.getElem?_modify]
  cases o[j]? with
  | none => rfl
  | some y =>
    by_cases h : x.toNat = j
    · simp [h, addA]
    · simp [h, addA]
theorem foldU_get {n : Int} {j : Nat} : ∀ (p : List Int) (o : List Acct), p.Nodup → (∀ x ∈ p, 0 ≤ x) → (p.foldl (fun o x => addU o n x) o)[j]? = o[j]?.map fun y => addA y (if (j : Int) ∈ p then n else 0)
  | [], o, _, _ => by cases h : o[j]? <;> simp [h, addA]
  | x :: r, o, hn, h0 => by
    obtain ⟨hx, hr⟩ := List.nodup_cons.1 hn
    rw [List.foldl_cons, foldU_get r _ hr (fun y hy => h0 y (by simp [hy])), addU_get]
    have hx0 := h0 x (by simp)
    cases h : o[j]? with
    | none => rfl
    | some y =>
      simp only [Option.map_some, addA]
      by_cases h1 : (j : Int) ∈ r
      · have h2 : ¬ x.toNat = j := fun h => hx (by rwa [← h, Int.toNat_of_nonneg hx0] at h1)
        simp [h1, h2]
      · by_cases h2 : x.toNat = j
        · have h3 : (j : Int) = x := by omega
          simp [h1, h2, h3, hx]
        · have h3 : (j : Int) ≠ x := by omega
          simp [h1, h2, h3]
theorem addF_get {l : List Acct} {a n : Int} (h : isP l a) (j : Nat) : (addF l a n)[j]? = l[j]?.map fun y => addA y (if (j : Int) ∈ pathF l a then n else 0) :=
  foldU_get _ _ (pathF_nodup h) fun x hx => (pathF_in hx).1
theorem addF_at {l : List Acct} {a n : Int} (h : isP l a) {j : Nat} (hj : j < (addF l a n).length) (hj' : j < l.length) : (addF l a n)[j] = addA l[j] (if (j : Int) ∈ pathF l a then n else 0) := by
  have := addF_get (n := n) h j
  rw [List.getElem?_eq_getElem hj, List.getElem?_eq_getElem hj'] at this
  simpa using this
theorem addF_us {l : List Acct} {a n : Int} (h : isP l a) {j : Nat} (hj : j < l.length) : us (addF l a n) j = us l j + (if (j : Int) ∈ pathF l a then n else 0) := by
  have hj' : j < (addF l a n).length := by rw [addF_len]; exact hj
  rw [us_at hj', us_at hj, addF_at h hj' hj]; rfl
theorem addF_pa {l : List Acct} {a n : Int} (h : isP l a) (j : Nat) : pa (addF l a n) j = pa l j := by
  by_cases hj : j < l.length
  · have hj' : j < (addF l a n).length := by rw [addF_len]; exact hj
    rw [pa_at hj', pa_at hj, addF_at h hj' hj]; rfl
  · rw [pa, pa, dif_neg hj, dif_neg (by rw [addF_len]; exact hj)]
theorem addF_tree {l : List Acct} {a n : Int} (h : isP l a) : treeP (addF l a n) := by
  intro j hj hj'
  have hl : j < l.length := by rw [addF_len] at hj; exact hj
  have := (chk_ok h.1).2.1 j hl hl
  rw [addF_at h hj' hl]
  exact this
theorem kidsTo_add {l : List Acct} {a n : Int} (h : isP l a) (j : Nat) : ∀ c, c ≤ l.length → kidsTo (addF l a n) j c = kidsTo l j c + (if ∃ d : Nat, d < c ∧ 0 < d ∧ (d : Int) ∈ pathF l a ∧ pa l d = j then n else 0)
  | 0, _ => by
    rw [if_neg (by rintro ⟨d, h, _⟩; omega)]; rfl
  | c + 1, hc => by
    unfold kidsTo
    rw [kidsTo_add h j c (by omega), addF_pa h, addF_us h (by omega)]
    by_cases h1 : 0 < c ∧ pa l c = j
    · rw [if_pos h1, if_pos h1]
      by_cases h2 : (c : Int) ∈ pathF l a
      · rw [if_pos h2]
        have h3 : ¬ ∃ d : Nat, d < c ∧ 0 < d ∧ (d : Int) ∈ pathF l a ∧ pa l d = j := by
          rintro ⟨d, hd, hd0, hdm, hdp⟩
          have h4 := pathF_gap h h2 hdm (by omega)
          have h5 := pa_lt (chk_ok h.1).2.1 (a := (d : Int)) (by omega)
          simp only [Int.toNat_natCast] at h4 h5
          omega
        rw [if_neg h3, if_pos ⟨c, by omega, h1.1, h2, h1.2⟩]
        omega
      · rw [if_neg h2]
        have h3 : (∃ d : Nat, d < c + 1 ∧ 0 < d ∧ (d : Int) ∈ pathF l a ∧ pa l d = j) ↔ ∃ d : Nat, d < c ∧ 0 < d ∧ (d : Int) ∈ pathF l a ∧ pa l d = j := by
          constructor
          · rintro ⟨d, hd, h4⟩
            refine ⟨d, ?_, h4⟩
            rcases Nat.lt_succ_iff_lt_or_eq.1 hd with h5 | rfl
            · exact h5
            · exact absurd h4.2.1 h2
          · rintro ⟨d, hd, h4⟩; exact ⟨d, by omega, h4⟩
        simp only [h3]
        omega
    · rw [if_neg h1, if_neg h1]
      have h3 : (∃ d : Nat, d < c + 1 ∧ 0 < d ∧ (d : Int) ∈ pathF l a ∧ pa l d = j) ↔ ∃ d : Nat, d < c ∧ 0 < d ∧ (d : Int) ∈ pathF l a ∧ pa l d = j := by
        constructor
        · rintro ⟨d, hd, h4⟩
          refine ⟨d, ?_, h4⟩
          rcases Nat.lt_succ_iff_lt_or_eq.1 hd with h5 | rfl
          · exact h5
          · exact absurd ⟨h4.1, h4.2.2⟩ h1
        · rintro ⟨d, hd, h4⟩; exact ⟨d, by omega, h4⟩
      simp only [h3]
      omega
theorem kids_add {l : List Acct} {a n : Int} (h : isP l a) (j : Nat) : kids (addF l a n) j = kids l j + (if (j : Int) ∈ pathF l a ∧ (j : Int) ≠ a then n else 0) := by
  unfold kids
  rw [addF_len, kidsTo_add h j _ (Nat.le_refl _)]
  have : (∃ d : Nat, d < l.length ∧ 0 < d ∧ (d : Int) ∈ pathF l a ∧ pa l d = j) ↔ (j : Int) ∈ pathF l a ∧ (j : Int) ≠ a := by
    constructor
    · rintro ⟨d, h1, h2, h3, h4⟩
      have h5 := pathF_up h h3 (by rw [Int.toNat_natCast, h4]; omega)
      rw [Int.toNat_natCast, h4] at h5
      have h6 := pa_lt (chk_ok h.1).2.1 (a := (d : Int)) (by omega)
      have h7 := pathF_le h h3
      rw [Int.toNat_natCast] at h6
      exact ⟨h5, by omega⟩
    · rintro ⟨h1, h2⟩
      obtain ⟨c, h3, h4, h5⟩ := pathF_down h h1 h2
      have h6 := pathF_in h3
      exact ⟨c.toNat, by omega, by omega, by rw [Int.toNat_of_nonneg h6.1]; exact h3, h5⟩
  simp only [this]
theorem own_add {l : List Acct} {a n : Int} (h : isP l a) {j : Nat} (hj : j < l.length) : us (addF l a n) j - kids (addF l a n) j = us l j - kids l j + (if (j : Int) = a then n else 0) := by
  rw [addF_us h hj, kids_add h]
  by_cases h1 : (j : Int) = a
  · have := pathF_self h
    simp [h1, this]; omega
  · by_cases h2 : (j : Int) ∈ pathF l a
    · simp [h1, h2]; omega
    · simp [h1, h2]
theorem chk_add {l : List Acct} {a n : Int} (h : isP l a) (hp : ∀ j : Nat, (j : Int) ∈ pathF l a → 0 ≤ us l j + n ∧ us l j + n ≤ mx l j) (ho : 0 ≤ us l a.toNat - kids l a + n) : chkF (addF l a n) = 0 := by
  obtain ⟨h0, ht, ha, hm, hs⟩ := chk_ok h.1
  have hmem : ∀ {x : Acct}, x ∈ addF l a n → ∃ (j : Nat) (hj : j < l.length), x = addA l[j] (if (j : Int) ∈ pathF l a then n else 0) := by
    intro x hx
    obtain ⟨j, hj, rfl⟩ := List.mem_iff_getElem.1 hx
    have hj' : j < l.length := by rw [addF_len] at hj; exact hj
    exact ⟨j, hj', addF_at h hj hj'⟩
  refine chk_mk (by rw [addF_len]; exact h0) (addF_tree h) ⟨?_, ?_⟩ ?_ ?_
  · intro j hj hj'
    have hl : j < l.length := by rw [addF_len] at hj; exact hj
    have h1 := ha.1 j hl hl
    have h2 := mx_in ha.1 j
    have h3 := hp j
    rw [us_at hl] at h3
    rw [addF_at h hj' hl]
    unfold okA inR at h1
    unfold okA inR addA
    dsimp only
    split
    · have := h3 (by assumption); omega
    · omega
  · intro h1
    have := ha.2 h0.1
    rw [addF_at h h1 h0.1]
    exact this
  · intro x hx
    obtain ⟨j, hj, rfl⟩ := hmem hx
    have h2 := hm _ (List.getElem_mem hj)
    have h3 := hp j
    rw [us_at hj, mx_at hj] at h3
    unfold addA
    dsimp only
    split
    · exact (h3 (by assumption)).2
    · omega
  · intro j hj
    have hl : j < l.length := by rw [addF_len] at hj; exact hj
    have h1 := own_add (n := n) h hl
    have h2 := hs j hl
    by_cases h3 : (j : Int) = a
    · rw [if_pos h3] at h1
      subst h3
      rw [Int.toNat_natCast] at ho
      omega
    · rw [if_neg h3] at h1
      omega
/-! ### Charges that succeed -/
theorem stopL_none {l : List Acct} {n : Int} {p : List Int} : stopL l n p = none ↔ ∀ x ∈ p, n ≤ roomA l x := by
  unfold stopL
  rw [List.find?_eq_none]
  simp
def canP (l : List Acct) (a n : Int) : Prop := isP l a ∧ inR n ∧ ∀ x ∈ pathF l a, n ≤ roomA l x
theorem req_can {l : List Acct} {a n : Int} (h : isP l a) (hn : inR n) : reqF l a n = 0 := by rw [reqF, if_pos h.1, if_pos h, if_pos hn]
theorem chg_can {l : List Acct} {a n : Int} (h : canP l a n) : chgF l a n = (addF l a n, -1, 0) := by
  rw [chgF, if_pos (req_can h.1 h.2.1), stopL_none.2 h.2.2]
theorem can_chk {l : List Acct} {a n : Int} (h : canP l a n) : chkF (addF l a n) = 0 := by
  obtain ⟨h1, h2, h3⟩ := h
  obtain ⟨h0, ht, ha, hm, hs⟩ := chk_ok h1.1
  have h4 := h1.2
  refine chk_add h1 (fun j hj => ?_) ?_
  · have h5 := h3 _ hj
    have h6 := us_in ha.1 j
    unfold roomA at h5
    rw [Int.toNat_natCast] at h5
    unfold inR at h2
    omega
  · have h5 := hs a.toNat (by omega)
    rw [Int.toNat_of_nonneg h4.1] at h5
    unfold inR at h2
    omega
end Go.Proofs.Ytbepjnjfnmmpaaa
