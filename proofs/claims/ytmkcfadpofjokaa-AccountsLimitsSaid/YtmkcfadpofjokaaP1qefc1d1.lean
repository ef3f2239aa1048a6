/- Accounts: plain laws of paths and sums. -/
import Derived.Test.YtmkcfadpofjokaaA8q2aaccd
set_option linter.unusedSimpArgs false
set_option linter.unusedVariables false
namespace Go.Proofs.Ytmkcfadpofjokaa
open Go.AM Classical
set_option maxRecDepth 100000
set_option maxHeartbeats 4000000
theorem pathF_is {l : List Acct} {a : Int} (h : isP l a) : pathF l a = pathG l 8 a := if_pos h
theorem pathG_self {l : List Acct} {f : Nat} {a : Int} (h : 0 ≤ a) : a ∈ pathG l (f + 1) a := by
  rw [pathG, if_pos h]; simp
theorem pathF_self {l : List Acct} {a : Int} (h : isP l a) : a ∈ pathF l a := by rw [pathF_is h]; exact pathG_self h.2.1
theorem pathG_nodup {l : List Acct} (ht : treeP l) : ∀ (f : Nat) (a : Int), a < l.length → (pathG l f a).Nodup
  | 0, a, _ => by simp [pathG]
  | f + 1, a, ha => by
    unfold pathG
    split
    · rename_i h0
      have h1 := pa_lt ht (a := a) ⟨h0, ha⟩
      refine List.nodup_cons.2 ⟨fun hm => ?_, pathG_nodup ht f _ (by omega)⟩
      have := pathG_in ht f _ (by omega) a hm
      omega
    · simp
/-- The members of a path: each one's parent is on it, and each one but the first is the parent of one on it. -/
theorem pathG_mem {l : List Acct} (ht : treeP l) : ∀ (f : Nat) (a : Int), a < l.length → a < f → ∀ x ∈ pathG l f a, (0 ≤ pa l x.toNat → pa l x.toNat ∈ pathG l f a) ∧ (x ≠ a → ∃ c ∈ pathG l f a, 0 < c ∧ pa l c.toNat = x)
  | 0, _, _, _, x, hx => by simp [pathG] at hx
  | f + 1, a, ha, hf, x, hx => by
    unfold pathG at hx ⊢
    split at hx
    · rename_i h0
      rw [if_pos h0]
      have h1 := pa_lt ht (a := a) ⟨h0, ha⟩
      have ih := pathG_mem ht f (pa l a.toNat) (by omega) (by omega)
      rcases List.mem_cons.1 hx with rfl | hx
      · refine ⟨fun h => List.mem_cons_of_mem _ ?_, fun h => absurd rfl h⟩
        obtain ⟨g, rfl⟩ : ∃ g, f = g + 1 := ⟨f - 1, by omega⟩
        exact pathG_self h
      · obtain ⟨i1, i2⟩ := ih x hx
        refine ⟨fun h => List.mem_cons_of_mem _ (i1 h), fun h => ?_⟩
        have hx2 := pathG_in ht f _ (by omega) x hx
        by_cases hxp : x = pa l a.toNat
        · exact ⟨a, by simp, by omega, hxp.symm⟩
        · obtain ⟨c, hc, h2⟩ := i2 hxp
          exact ⟨c, List.mem_cons_of_mem _ hc, h2⟩
    · simp at hx
theorem pathG_gap {l : List Acct} (ht : treeP l) : ∀ (f : Nat) (a : Int), a < l.length → ∀ x ∈ pathG l f a, ∀ y ∈ pathG l f a, y < x → y ≤ pa l x.toNat
  | 0, _, _, x, hx, _, _, _ => by simp [pathG] at hx
  | f + 1, a, ha, x, hx, y, hy, hyx => by
    unfold pathG at hx hy
    split at hx
    · rename_i h0
      rw [if_pos h0] at hy
      have h1 := pa_lt ht (a := a) ⟨h0, ha⟩
      rcases List.mem_cons.1 hx with rfl | hx
      · rcases List.mem_cons.1 hy with rfl | hy
        · omega
        · exact (pathG_in ht f _ (by omega) y hy).2.2
      · have hx2 := pathG_in ht f _ (by omega) x hx
        rcases List.mem_cons.1 hy with rfl | hy
        · omega
        · exact pathG_gap ht f _ (by omega) x hx y hy hyx
    · simp at hx
theorem pathF_up {l : List Acct} {a x : Int} (h : isP l a) (hx : x ∈ pathF l a) (h0 : 0 ≤ pa l x.toNat) : pa l x.toNat ∈ pathF l a := by
  obtain ⟨hl, ht, _⟩ := chk_ok h.1
  have h2 := h.2
  rw [pathF_is h] at hx ⊢
  exact (pathG_mem ht 8 a h2.2 (by omega) x hx).1 h0
theorem pathF_down {l : List Acct} {a x : Int} (h : isP l a) (hx : x ∈ pathF l a) (h0 : x ≠ a) : ∃ c ∈ pathF l a, 0 < c ∧ pa l c.toNat = x := by
  obtain ⟨hl, ht, _⟩ := chk_ok h.1
  have h2 := h.2
  rw [pathF_is h] at hx ⊢
  exact (pathG_mem ht 8 a h2.2 (by omega) x hx).2 h0
theorem pathF_gap {l : List Acct} {a x y : Int} (h : isP l a) (hx : x ∈ pathF l a) (hy : y ∈ pathF l a) (hyx : y < x) : y ≤ pa l x.toNat := by
  obtain ⟨hl, ht, _⟩ := chk_ok h.1
  rw [pathF_is h] at hx hy
  exact pathG_gap ht 8 a h.2.2 x hx y hy hyx
theorem pathF_le {l : List Acct} {a x : Int} (h : isP l a) (hx : x ∈ pathF l a) : x ≤ a := by
  obtain ⟨hl, ht, _⟩ := chk_ok h.1
  rw [pathF_is h] at hx
  exact (pathG_in ht 8 a h.2.2 x hx).2.2
theorem pathF_nodup {l : List Acct} {a : Int} (h : isP l a) : (pathF l a).Nodup := by
  rw [pathF_is h]; exact pathG_nodup (chk_ok h.1).2.1 8 a h.2.2
/-! ### Sums on a path -/
def addA (x : Acct) (n : Int) : Acct := { x with usage := x.usage + n }
theorem addU_get (o : List Acct) (n x : Int) (j : Nat) : (addU o n x)[j]? = o[j]?.map fun y => addA y (if x.toNat = j then n else 0) := by
  unfold addU
  rw [List.getElem?_modify]
  cases o[j]? with
  | none => rfl
  | some y =>
    by_cases h : x.toNat = j
    · simp [h, addA]
    · simp [h, addA]
theorem foldU_get {n : Int} {j : Nat} : ∀ (p : List Int) (o : List Acct), p.Nodup → (∀ x ∈ p, 0 ≤ x) → (p.foldl (fun o x => addU o n x) o)[j]? = o[j]?.map fun y => addA y (if (j : Int) ∈ p then n else 0)
  | [], o, _, _ => by cases h : o[j]? <;> simp [h, addA]
  | x :: r, o, hn, h0 => by
    obtain ⟨hx, hr⟩ := List.nodup_cons.1 hn
    rw [List.foldl_cons, foldU_get r _ hr (fun y hy => h0 y (by simp [hy])), addU_get]
    have hx0 := h0 x (by simp)
    cases h : o[j]? with
    | none => rfl
    | some y =>
      simp only [Option.map_some, addA]
      by_cases h1 : (j : Int) ∈ r
      · have h2 : ¬ x.toNat = j := fun h => hx (by rwa [← h, Int.toNat_of_nonneg hx0] at h1)
        simp [h1, h2]
      · by_cases h2 : x.toNat = j
        · have h3 : (j : Int) = x := by omega
          simp [h1, h2, h3, hx]
        · have h3 : (j : Int) ≠ x := by omega
          simp [h1, h2, h3]
theorem addF_get {l : List Acct} {a n : Int} (h : isP l a) (j : Nat) : (addF l a n)[j]? = l[j]?.map fun y => addA y (if (j : Int) ∈ pathF l a then n else 0) :=
  foldU_get _ _ (pathF_nodup h) fun x hx => (pathF_in hx).1
theorem addF_at {l : List Acct} {a n : Int} (h : isP l a) {j : Nat} (hj : j < (addF l a n).length) (hj' : j < l.length) : (addF l a n)[j] = addA l[j] (if (j : Int) ∈ pathF l a then n else 0) := by
  have := addF_get (n := n) h j
  rw [List.getElem?_eq_getElem hj, List.getElem?_eq_getElem hj'] at this
  simpa using this
theorem addF_us {l : List Acct} {a n : Int} (h : isP l a) {j : Nat} (hj : j < l.length) : us (addF l a n) j = us l j + (if (j : Int) ∈ pathF l a then n else 0) := by
  have hj' : j < (addF l a n).length := by rw [addF_len]; exact hj
  rw [us_at hj', us_at hj, addF_at h hj' hj]; rfl
theorem addF_pa {l : List Acct} {a n : Int} (h : isP l a) (j : Nat) : pa (addF l a n) j = pa l j := by
  by_cases hj : j < l.length
  · have hj' : j < (addF l a n).length := by rw [addF_len]; exact hj
    rw [pa_at hj', pa_at hj, addF_at h hj' hj]; rfl
  · rw [pa, pa, dif_neg hj, dif_neg (by rw [addF_len]; exact hj)]
theorem addF_tree {l : List Acct} {a n : Int} (h : isP l a) : treeP (addF l a n) := by
  intro j hj hj'
  have hl : j < l.length := by rw [addF_len] at hj; exact hj
  have := (chk_ok h.1).2.1 j hl hl
  rw [addF_at h hj' hl]
  exact this
theorem kidsTo_add {l : List Acct} {a n : Int} (h : isP l a) (j : Nat) : ∀ c, c ≤ l.length → kidsTo (addF l a n) j c = kidsTo l j c + (if ∃ d : Nat, d < c ∧ 0 < d ∧ (d : Int) ∈ pathF l a ∧ pa l d = j then n else 0)
  | 0, _ => by
    rw [if_neg (by rintro ⟨d, h, _⟩; omega)]; rfl
  | c + 1, hc => by
    unfold kidsTo
    rw [kidsTo_add h j c (by omega), addF_pa h, addF_us h (by omega)]
    by_cases h1 : 0 < c ∧ pa l c = j
    · rw [if_pos h1, if_pos h1]
      by_cases h2 : (c : Int) ∈ pathF l a
      · rw [if_pos h2]
        have h3 : ¬ ∃ d : Nat, d < c ∧ 0 < d ∧ (d : Int) ∈ pathF l a ∧ pa l d = j := by
          rintro ⟨d, hd, hd0, hdm, hdp⟩
          have h4 := pathF_gap h h2 hdm (by omega)
          have h5 := pa_lt (chk_ok h.1).2.1 (a := (d : Int)) (by omega)
          simp only [Int.toNat_natCast] at h4 h5
          omega
        rw [if_neg h3, if_pos ⟨c, by omega, h1.1, h2, h1.2⟩]
        omega
      · rw [if_neg h2]
        have h3 : (∃ d : Nat, d < c + 1 ∧ 0 < d ∧ (d : Int) ∈ pathF l a ∧ pa l d = j) ↔ ∃ d : Nat, d < c ∧ 0 < d ∧ (d : Int) ∈ pathF l a ∧ pa l d = j := by
          constructor
          · rintro ⟨d, hd, h4⟩
            refine ⟨d, ?_, h4⟩
            rcases Nat.lt_succ_iff_lt_or_eq.1 hd with h5 | rfl
            · exact h5
            · exact absurd h4.2.1 h2
          · rintro ⟨d, hd, h4⟩; exact ⟨d, by omega, h4⟩
        simp only [h3]
        omega
    · rw [if_neg h1, if_neg h1]
      have h3 : (∃ d : Nat, d < c + 1 ∧ 0 < d ∧ (d : Int) ∈ pathF l a ∧ pa l d = j) ↔ ∃ d : Nat, d < c ∧ 0 < d ∧ (d : Int) ∈ pathF l a ∧ pa l d = j := by
        constructor
        · rintro ⟨d, hd, h4⟩
          refine ⟨d, ?_, h4⟩
          rcases Nat.lt_succ_iff_lt_or_eq.1 hd with h5 | rfl
          · exact h5
          · exact absurd ⟨h4.1, h4.2.2⟩ h1
        · rintro ⟨d, hd, h4⟩; exact ⟨d, by omega, h4⟩
      simp only [h3]
      omega
theorem kids_add {l : List Acct} {a n : Int} (h : isP l a) (j : Nat) : kids (addF l a n) j = kids l j + (if (j : Int) ∈ pathF l a ∧ (j : Int) ≠ a then n else 0) := by
  unfold kids
  rw [addF_len, kidsTo_add h j _ (Nat.le_refl _)]
  have : (∃ d : Nat, d < l.length ∧ 0 < d ∧ (d : Int) ∈ pathF l a ∧ pa l d = j) ↔ (j : Int) ∈ pathF l a ∧ (j : Int) ≠ a := by
    constructor
    · rintro ⟨d, h1, h2, h3, h4⟩
      have h5 := pathF_up h h3 (by rw [Int.toNat_natCast, h4]; omega)
      rw [Int.toNat_natCast, h4] at h5
      have h6 := pa_lt (chk_ok h.1).2.1 (a := (d : Int)) (by omega)
      have h7 := pathF_le h h3
      rw [Int.toNat_natCast] at h6
      exact ⟨h5, by omega⟩
    · rintro ⟨h1, h2⟩
      obtain ⟨c, h3, h4, h5⟩ := pathF_down h h1 h2
      have h6 := pathF_in h3
      exact ⟨c.toNat, by omega, by omega, by rw [Int.toNat_of_nonneg h6.1]; exact h3, h5⟩
  simp only [this]
theorem own_add {l : List Acct} {a n : Int} (h : isP l a) {j : Nat} (hj : j < l.length) : us (addF l a n) j - kids (addF l a n) j = us l j - kids l j + (if (j : Int) = a then n else 0) := by
  rw [addF_us h hj, kids_add h]
  by_cases h1 : (j : Int) = a
  · have := pathF_self h
    simp [h1, this]; omega
  · by_cases h2 : (j : Int) ∈ pathF l a
    · simp [h1, h2]; omega
    · simp [h1, h2]
theorem chk_add {l : List Acct} {a n : Int} (h : isP l a) (hp : ∀ j : Nat, (j : Int) ∈ pathF l a → 0 ≤ us l j + n ∧ us l j + n ≤ mx l j) (ho : 0 ≤ us l a.toNat - kids l a + n) : chkF (addF l a n) = 0 := by
  obtain ⟨h0, ht, ha, hm, hs⟩ := chk_ok h.1
  have hmem : ∀ {x : Acct}, x ∈ addF l a n → ∃ (j : Nat) (hj : j < l.length), x = addA l[j] (if (j : Int) ∈ pathF l a then n else 0) := by
    intro x hx
    obtain ⟨j, hj, rfl⟩ := List.mem_iff_getElem.1 hx
    have hj' : j < l.length := by rw [addF_len] at hj; exact hj
    exact ⟨j, hj', addF_at h hj hj'⟩
  refine chk_mk (by rw [addF_len]; exact h0) (addF_tree h) ⟨?_, ?_⟩ ?_ ?_
  · intro j hj hj'
    have hl : j < l.length := by rw [addF_len] at hj; exact hj
    have h1 := ha.1 j hl hl
    have h2 := mx_in ha.1 j
    have h3 := hp j
    rw [us_at hl] at h3
    rw [addF_at h hj' hl]
    unfold okA inR at h1
    unfold okA inR addA
    dsimp only
    split
    · have := h3 (by assumption); omega
    · omega
  · intro h1
    have := ha.2 h0.1
    rw [addF_at h h1 h0.1]
    exact this
  · intro x hx
    obtain ⟨j, hj, rfl⟩ := hmem hx
    have h2 := hm _ (List.getElem_mem hj)
    have h3 := hp j
    rw [us_at hj, mx_at hj] at h3
    unfold addA
    dsimp only
    split
    · exact (h3 (by assumption)).2
    · omega
  · intro j hj
    have hl : j < l.length := by rw [addF_len] at hj; exact hj
    have h1 := own_add (n := n) h hl
    have h2 := hs j hl
    by_cases h3 : (j : Int) = a
    · rw [if_pos h3] at h1
      subst h3
      rw [Int.toNat_natCast] at ho
      omega
    · rw [if_neg h3] at h1
      omega
theorem kids_ge {l : List Acct} (ha : amtTo l l.length) {c : Nat} (hc : c < l.length) (h0 : 0 < c) : us l c ≤ kids l (pa l c) := by
  have key : ∀ m, c < m → us l c ≤ kidsTo l (pa l c) m := by
    intro m
    induction m with
    | zero => intro h; omega
    | succ m ih =>
      intro h
      unfold kidsTo
      have h1 := us_in ha m
      have h2 := kidsTo_in ha (pa l c) m
      rcases Nat.lt_succ_iff_lt_or_eq.1 h with h3 | rfl
      · have := ih h3
        split <;> omega
      · rw [if_pos ⟨h0, rfl⟩]; omega
  exact key _ hc
theorem path_us {l : List Acct} (hc : chkF l = 0) : ∀ (f : Nat) (a : Int), a < l.length → ∀ x ∈ pathG l f a, us l a.toNat ≤ us l x.toNat
  | 0, _, _, x, hx => by simp [pathG] at hx
  | f + 1, a, ha, x, hx => by
    obtain ⟨h0, ht, hm, _, hs⟩ := chk_ok hc
    unfold pathG at hx
    split at hx
    · rename_i h1
      have h2 := pa_lt ht (a := a) ⟨h1, ha⟩
      rcases List.mem_cons.1 hx with rfl | hx
      · exact Int.le_refl _
      · by_cases h3 : 0 ≤ pa l a.toNat
        · have h4 := path_us hc f _ (by omega) x hx
          have h5 := kids_ge hm.1 (c := a.toNat) (by omega) (by omega)
          have h6 := hs (pa l a.toNat).toNat (by omega)
          rw [Int.toNat_of_nonneg h3] at h6
          omega
        · cases f with
          | zero => simp [pathG] at hx
          | succ f => rw [pathG, if_neg h3] at hx; simp at hx
    · simp at hx
/-! ### Charges that succeed -/
theorem stopL_none {l : List Acct} {n : Int} {p : List Int} : stopL l n p = none ↔ ∀ x ∈ p, n ≤ roomA l x := by
  unfold stopL
  rw [List.find?_eq_none]
  simp
/-- A charge can be made. -/
def canP (l : List Acct) (a n : Int) : Prop := isP l a ∧ inR n ∧ ∀ x ∈ pathF l a, n ≤ roomA l x
theorem req_can {l : List Acct} {a n : Int} (h : isP l a) (hn : inR n) : reqF l a n = 0 := by rw [reqF, if_pos h.1, if_pos h, if_pos hn]
theorem chg_can {l : List Acct} {a n : Int} (h : canP l a n) : chgF l a n = (addF l a n, -1, 0) := by
  rw [chgF, if_pos (req_can h.1 h.2.1), stopL_none.2 h.2.2]
theorem chg_e {l : List Acct} {a n : Int} : (canP l a n ∧ chgF l a n = (addF l a n, -1, 0)) ∨ (¬ canP l a n ∧ (chgF l a n).1 = [] ∧ (chgF l a n).2.2 ≠ 0) := by
  by_cases h : canP l a n
  · exact .inl ⟨h, chg_can h⟩
  · refine .inr ⟨h, ?_⟩
    unfold chgF
    split
    · rename_i h1
      obtain ⟨h2, h3, h4⟩ := req_ok h1
      split
      · simp
      · rename_i h5
        exact absurd ⟨h3, h4, stopL_none.1 h5⟩ h
    · exact ⟨rfl, by assumption⟩
theorem can_chk {l : List Acct} {a n : Int} (h : canP l a n) : chkF (addF l a n) = 0 := by
  obtain ⟨h1, h2, h3⟩ := h
  obtain ⟨h0, ht, ha, hm, hs⟩ := chk_ok h1.1
  have h4 := h1.2
  refine chk_add h1 (fun j hj => ?_) ?_
  · have h5 := h3 _ hj
    have h6 := us_in ha.1 j
    unfold roomA at h5
    rw [Int.toNat_natCast] at h5
    unfold inR at h2
    omega
  · have h5 := hs a.toNat (by omega)
    rw [Int.toNat_of_nonneg h4.1] at h5
    unfold inR at h2
    omega
theorem unc_e {l : List Acct} {a n : Int} : ((isP l a ∧ inR n ∧ n ≤ ownF l a) ∧ uncF l a n = (addF l a (-n), 0)) ∨ ((uncF l a n).1 = [] ∧ (uncF l a n).2 ≠ 0) := by
  unfold uncF
  split
  · rename_i h1
    obtain ⟨h2, h3, h4⟩ := req_ok h1
    split
    · right; simp
    · left; exact ⟨⟨h3, h4, by omega⟩, rfl⟩
  · right; exact ⟨rfl, by assumption⟩
theorem unc_chk {l : List Acct} {a n : Int} (h : isP l a) (hn : inR n) (ho : n ≤ ownF l a) : chkF (addF l a (-n)) = 0 := by
  obtain ⟨h0, ht, ha, hm, hs⟩ := chk_ok h.1
  have h2 := h.2
  rw [ownF, if_pos h] at ho
  have hk : 0 ≤ kids l a := (kidsTo_in ha.1 a l.length).1
  unfold inR at hn
  refine chk_add h (fun j hj => ?_) (by omega)
  have h3 := path_us h.1 8 a h2.2 j (by rw [← pathF_is h]; exact hj)
  rw [Int.toNat_natCast] at h3
  have hj' := pathF_in hj
  have hjl : j < l.length := by omega
  have h4 := hm _ (List.getElem_mem hjl)
  rw [us_at hjl] at h3 ⊢
  rw [mx_at hjl]
  omega
/-! ### Own usages add up -/
def sumN (f : Nat → Int) : Nat → Int
  | 0 => 0
  | n + 1 => sumN f n + f n
theorem sumN_add (f g : Nat → Int) : ∀ n, sumN (fun j => f j + g j) n = sumN f n + sumN g n
  | 0 => rfl
  | n + 1 => by simp only [sumN]; rw [sumN_add f g n]; omega
theorem sumN_sub (f g : Nat → Int) : ∀ n, sumN (fun j => f j - g j) n = sumN f n - sumN g n
  | 0 => rfl
  | n + 1 => by simp only [sumN]; rw [sumN_sub f g n]; omega
theorem sumN_ind (p v : Int) : ∀ n : Nat, sumN (fun j => if p = (j : Int) then v else 0) n = if 0 ≤ p ∧ p < n then v else 0
  | 0 => by rw [if_neg (by omega)]; rfl
  | n + 1 => by
    simp only [sumN]
    rw [sumN_ind p v n]
    by_cases h : p = n
    · rw [if_pos h, if_neg (by omega), if_pos (by omega)]; omega
    · rw [if_neg h]
      by_cases h2 : 0 ≤ p ∧ p < n
      · rw [if_pos h2, if_pos (by omega)]; omega
      · rw [if_neg h2, if_neg (by omega)]; rfl
theorem sumN_zero : ∀ n, sumN (fun _ => 0) n = 0
  | 0 => rfl
  | n + 1 => by simp only [sumN]; rw [sumN_zero n]; rfl
theorem sumN_congr {f g : Nat → Int} : ∀ n, (∀ j, j < n → f j = g j) → sumN f n = sumN g n
  | 0, _ => rfl
  | n + 1, h => by simp only [sumN]; rw [sumN_congr n (fun j hj => h j (by omega)), h n (by omega)]
theorem kids_sum {l : List Acct} (ht : treeP l) : ∀ c, c ≤ l.length → sumN (fun j => kidsTo l j c) l.length = sumN (fun d => if 0 < d then us l d else 0) c
  | 0, _ => sumN_zero _
  | c + 1, hc => by
    simp only [sumN, kidsTo]
    rw [sumN_add, kids_sum ht c (by omega)]
    congr 1
    have h1 := pa_lt ht (a := (c : Int)) (by omega)
    rw [Int.toNat_natCast] at h1
    by_cases h0 : 0 < c
    · have h2 := ht c (by omega) (by omega)
      have h3 := pa_at (l := l) (j := c) (by omega)
      have h4 : 0 ≤ pa l c := by rcases h2 with h | h <;> omega
      rw [if_pos h0, sumN_congr (g := fun j => if pa l c = (j : Int) then us l c else 0) _ (fun j _ => by simp [h0]), sumN_ind, if_pos (by omega)]
    · rw [if_neg h0, sumN_congr (g := fun _ => 0) _ (fun j _ => by simp [h0]), sumN_zero]
theorem own_sum {l : List Acct} (hc : chkF l = 0) : sumN (fun j => us l j - kids l j) l.length = us l 0 := by
  obtain ⟨h0, ht, _⟩ := chk_ok hc
  rw [sumN_sub]
  unfold kids
  rw [kids_sum ht _ (Nat.le_refl _), ← sumN_sub, sumN_congr (g := fun j => if (0 : Int) = (j : Int) then us l 0 else 0) _ (fun j _ => ?_), sumN_ind, if_pos (by omega)]
  by_cases h : 0 < j
  · rw [if_pos h, if_neg (by omega)]; omega
  · obtain rfl : j = 0 := by omega
    simp
theorem own_part {l : List Acct} (hc : chkF l = 0) : ∀ i, i ≤ l.length → 0 ≤ sumN (fun j => us l j - kids l j) i ∧ sumN (fun j => us l j - kids l j) i ≤ 1048576 * i
  | 0, _ => by simp [sumN]
  | i + 1, hi => by
    obtain ⟨h0, ht, ha, hm, hs⟩ := chk_ok hc
    have h1 := own_part hc i (by omega)
    have h2 := us_in ha.1 i
    have h3 := kidsTo_in ha.1 (i : Int) l.length
    have h4 := hs i (by omega)
    unfold kids at h4 ⊢
    unfold kids at h1
    simp only [sumN]
    omega
end Go.Proofs.Ytmkcfadpofjokaa
