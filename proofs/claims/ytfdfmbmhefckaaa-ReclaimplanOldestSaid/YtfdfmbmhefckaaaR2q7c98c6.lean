/- Reclaim plans: what is leaving; reasons. -/
import Derived.Test.YtfdfmbmhefckaaaR1qaa78e5
import Derived.Test.YtfdfmbmhefckaaaAmZ3q8c31dc
set_option linter.unusedSimpArgs false
set_option linter.unusedVariables false
namespace Go.Proofs.Ytfdfmbmhefckaaa
open Go.AM Classical
set_option maxRecDepth 100000
set_option maxHeartbeats 4000000
def isLv (q : Pg) (a : Int) : Int := if q.leaving = true ∧ q.account = a then 1 else 0
theorem isLv_in (q : Pg) (a : Int) : 0 ≤ isLv q a ∧ isLv q a ≤ 1 := by unfold isLv; split <;> omega
def cntA (p : List Pg) (a : Int) : Nat → Int
  | 0 => 0
  | m + 1 => cntA p a m + (if h : m < p.length then isLv p[m] a else 0)
theorem cntA_s {p : List Pg} {a : Int} {m : Nat} (h : m < p.length) : cntA p a (m + 1) = cntA p a m + isLv p[m] a := by rw [cntA, dif_pos h]
theorem cntA_in (p : List Pg) (a : Int) : ∀ m, 0 ≤ cntA p a m ∧ cntA p a m ≤ m
  | 0 => by simp [cntA]
  | m + 1 => by
    have := cntA_in p a m
    unfold cntA
    split
    · have := isLv_in p[m] a; omega
    · omega
def lvT (n : Nat) (p : List Pg) (m : Nat) : List Int := (List.range n).map fun (a : Nat) => cntA p a m
def lvL (l : List Acct) (p : List Pg) : List Int := lvT l.length p p.length
theorem lvT_len (n : Nat) (p : List Pg) (m : Nat) : (lvT n p m).length = n := by simp [lvT]
theorem lvL_len (l : List Acct) (p : List Pg) : (lvL l p).length = l.length := lvT_len _ _ _
theorem lvT_at {n : Nat} {p : List Pg} {m j : Nat} (h : j < (lvT n p m).length) : (lvT n p m)[j] = cntA p j m := by simp [lvT]
theorem lvT_g {n : Nat} {p : List Pg} {m j : Nat} (h : j < n) : ((lvT n p m).map (D.int .i64))[j]? = some (.int .i64 (cntA p j m)) := by
  rw [List.getElem?_map, List.getElem?_eq_getElem (by rw [lvT_len]; exact h), lvT_at]; rfl
theorem lvT_zero (n : Nat) (p : List Pg) : ∀ x ∈ lvT n p 0, x = 0 := by simp [lvT, cntA]
theorem lvT_yes {n : Nat} {p : List Pg} {m : Nat} (h : m < p.length) (hl : p[m].leaving = true) (ha : 0 ≤ p[m].account) : (lvT n p m).set p[m].account.toNat (cntA p p[m].account m + 1) = lvT n p (m + 1) := by
  apply List.ext_getElem (by simp [lvT_len])
  intro j h1 h2
  rw [List.getElem_set, lvT_at h2, cntA_s h]
  by_cases hj : p[m].account.toNat = j
  · subst hj
    rw [if_pos rfl, Int.toNat_of_nonneg ha, isLv, if_pos ⟨hl, rfl⟩]
  · rw [if_neg hj, lvT_at (by simpa using h1), isLv, if_neg (by rintro ⟨_, h3⟩; omega), Int.add_zero]
theorem lvT_no {n : Nat} {p : List Pg} {m : Nat} (h : m < p.length) (hl : ¬ (p[m].leaving = true ∧ 0 ≤ p[m].account)) : lvT n p m = lvT n p (m + 1) := by
  apply List.ext_getElem (by simp [lvT_len])
  intro j h1 h2
  rw [lvT_at h1, lvT_at h2, cntA_s h, isLv, if_neg (by rintro ⟨h3, h4⟩; exact hl ⟨h3, by omega⟩), Int.add_zero]
theorem errA_ok {l : List Acct} {p : List Pg} (h : pchk p l = 0) : chkF l = 0 ∧ ∀ i (hi : i < p.length), (0 ≤ p[i].frame ∧ p[i].frame < 256) ∧ (-1 ≤ p[i].account ∧ p[i].account < l.length) ∧ (0 ≤ p[i].reason ∧ p[i].reason ≤ 10) ∧ -1 ≤ p[i].age ∧ prevF p i < p[i].frame ∧ ¬ (p[i].reason = 0 ∧ p[i].leaving = false ∧ p[i].age = -1) := by
  unfold pchk at h
  split at h
  · rename_i hc
    refine ⟨hc, fun i hi => ?_⟩
    have h1 := fE_zero.1 h i hi
    unfold errA at h1
    rw [dif_pos hi] at h1
    unfold pgE at h1
    split at h1
    · omega
    · split at h1
      · omega
      · split at h1
        · omega
        · split at h1
          · omega
          · refine ⟨by omega, by omega, by omega, by omega, by omega, by assumption⟩
  · contradiction
theorem val_lv {l : List Acct} {p : List Pg} (h : chkF l = 0) (hP : p.length ≤ 1000000) : valP l (lvL l p) := by
  refine ⟨h, lvL_len _ _, fun x hx => ?_⟩
  obtain ⟨j, hj, rfl⟩ := List.getElem_of_mem hx
  have h1 : (lvL l p)[j] = cntA p j p.length := lvT_at (n := l.length) hj
  rw [h1]
  have := cntA_in p j p.length
  unfold inR
  omega
def quP (p : List Pg) (l : List Acct) (s : Int) : Prop := pchk p l = 0 ∧ -1 ≤ s ∧ s < l.length
def outP (l : List Acct) (s : Int) (q : Pg) : Prop := 0 ≤ s ∧ (q.account < 0 ∨ ¬ insP l q.account s)
def gdP (l : List Acct) (v : List Int) (s : Int) (low : Bool) (q : Pg) : Prop := 0 ≤ q.account ∧ grdP l v q.account s low
noncomputable def rsn (l : List Acct) (v : List Int) (s : Int) (kn : Bool) (q : Pg) : Int :=
  if outP l s q then 13 else if kn = true ∧ q.normal = false then 12 else if q.leaving = true then 8 else if q.reason ≠ 0 ∧ q.reason ≠ 8 then q.reason else if gdP l v s false q then 11 else q.reason
def hldP (l : List Acct) (v : List Int) (s : Int) (kn : Bool) (q : Pg) (c : Int) : Prop :=
  if c = 13 then outP l s q else if c = 12 then kn = true ∧ q.normal = false else if q.leaving = true ∨ c = 0 ∨ c = 8 then False else if c = 11 then gdP l v s false q else c = q.reason
end Go.Proofs.Ytfdfmbmhefckaaa
