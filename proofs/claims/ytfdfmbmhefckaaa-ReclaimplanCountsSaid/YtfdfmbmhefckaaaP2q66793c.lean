/- Protection: sums over the tree, effective guarantees, who is guarded. -/
import Derived.Test.YtfdfmbmhefckaaaP0q9096bd
import Derived.Test.YtfdfmbmhefckaaaAmZ3q8c31dc
set_option linter.unusedSimpArgs false
set_option linter.unusedVariables false
namespace Go.Proofs.Ytfdfmbmhefckaaa
open Go.AM Classical
set_option maxRecDepth 100000
set_option maxHeartbeats 4000000
def kT (l : List Acct) (f : Nat → Int) (j : Int) : Nat → Int
  | 0 => 0
  | c + 1 => kT l f j c + (if 0 < c ∧ pa l c = j then f c else 0)
theorem kT_s (l : List Acct) (f : Nat → Int) (j : Int) (c : Nat) : kT l f j (c + 1) = kT l f j c + (if 0 < c ∧ pa l c = j then f c else 0) := rfl
theorem kT_zero {l : List Acct} (ht : treeP l) {f : Nat → Int} {j : Nat} : ∀ {n : Nat}, n ≤ j + 1 → n ≤ l.length → kT l f j n = 0
  | 0, _, _ => rfl
  | n + 1, hn, hl => by
    rw [kT_s, kT_zero ht (by omega) (by omega), if_neg, Int.add_zero]
    rintro ⟨h0, h1⟩
    have h2 := ht n (by omega) (by omega)
    unfold okP at h2
    rw [pa_at (by omega)] at h1
    omega
theorem kT_in {l : List Acct} {f : Nat → Int} {b : Int} (hf : ∀ c, 0 ≤ f c ∧ f c ≤ b) (j : Int) : ∀ n : Nat, 0 ≤ kT l f j n ∧ kT l f j n ≤ n * b
  | 0 => by simp [kT]
  | n + 1 => by
    have := kT_in (l := l) hf j n
    have := hf n
    have e : ((n + 1 : Nat) : Int) * b = n * b + b := by rw [Int.natCast_succ, Int.add_mul, Int.one_mul]
    rw [kT_s]
    split <;> omega
theorem kT_add {l : List Acct} {f g : Nat → Int} (j : Int) : ∀ n : Nat, kT l (fun c => f c + g c) j n = kT l f j n + kT l g j n
  | 0 => rfl
  | n + 1 => by
    rw [kT_s, kT_s, kT_s, kT_add j n]; split <;> omega
theorem kT_path {l : List Acct} {a : Int} (h : isP l a) (w : Int) (j : Nat) : ∀ c, c ≤ l.length → kT l (fun k => if (k : Int) ∈ pathG l 8 a then w else 0) j c = (if ∃ d : Nat, d < c ∧ 0 < d ∧ (d : Int) ∈ pathG l 8 a ∧ pa l d = j then w else 0)
  | 0, _ => by
    rw [if_neg (by rintro ⟨d, h, _⟩; omega)]; rfl
  | c + 1, hc => by
    rw [kT_s, kT_path h w j c (by omega)]
    by_cases h1 : 0 < c ∧ pa l c = j
    · rw [if_pos h1]
      by_cases h2 : (c : Int) ∈ pathG l 8 a
      · have hR : ∃ d : Nat, d < c + 1 ∧ 0 < d ∧ (d : Int) ∈ pathG l 8 a ∧ pa l d = j := ⟨c, by omega, h1.1, h2, h1.2⟩
        have hL : ¬ ∃ d : Nat, d < c ∧ 0 < d ∧ (d : Int) ∈ pathG l 8 a ∧ pa l d = j := by
          rintro ⟨d, hd, hd0, hdm, hdp⟩
          have := pathF_gap h (x := (c : Int)) (by rw [pathF_is h]; exact h2) (y := (d : Int)) (by rw [pathF_is h]; exact hdm) (by omega)
          rw [Int.toNat_natCast, h1.2] at this
          have h3 := pa_lt (chk_ok h.1).2.1 (a := (d : Int)) (by omega)
          rw [Int.toNat_natCast, hdp] at h3
          omega
        rw [if_pos h2, if_pos hR, if_neg hL]; omega
      · rw [if_neg h2, Int.add_zero]
        congr 1
        refine propext ⟨fun ⟨d, hd, r⟩ => ⟨d, by omega, r⟩, fun ⟨d, hd, r⟩ => ?_⟩
        rcases Nat.lt_succ_iff_lt_or_eq.1 hd with h3 | rfl
        · exact ⟨d, h3, r⟩
        · exact absurd r.2.1 h2
    · rw [if_neg h1, Int.add_zero]
      congr 1
      refine propext ⟨fun ⟨d, hd, r⟩ => ⟨d, by omega, r⟩, fun ⟨d, hd, r⟩ => ?_⟩
      rcases Nat.lt_succ_iff_lt_or_eq.1 hd with h3 | rfl
      · exact ⟨d, h3, r⟩
      · exact absurd ⟨r.1, r.2.2⟩ h1
def insN (l : List Acct) (v : Nat → Int) (x : Int) : Nat → Int
  | 0 => 0
  | c + 1 => insN l v x c + (if x ∈ pathG l 8 (c : Int) then v c else 0)
theorem insN_s (l : List Acct) (v : Nat → Int) (x : Int) (c : Nat) : insN l v x (c + 1) = insN l v x c + (if x ∈ pathG l 8 (c : Int) then v c else 0) := rfl
def insF (l : List Acct) (v : Nat → Int) (x : Int) : Int := insN l v x l.length
theorem insN_in {l : List Acct} {v : Nat → Int} {b : Int} (hv : ∀ c, 0 ≤ v c ∧ v c ≤ b) (x : Int) : ∀ n : Nat, 0 ≤ insN l v x n ∧ insN l v x n ≤ n * b
  | 0 => by simp [insN]
  | n + 1 => by
    have := insN_in (l := l) hv x n
    have := hv n
    have e : ((n + 1 : Nat) : Int) * b = n * b + b := by rw [Int.natCast_succ, Int.add_mul, Int.one_mul]
    rw [insN_s]
    split <;> omega
theorem isP_mk {l : List Acct} (hc : chkF l = 0) {c : Nat} (h : c < l.length) : isP l (c : Int) := ⟨hc, by omega, by omega⟩
theorem insN_rec {l : List Acct} (hc : chkF l = 0) (v : Nat → Int) {x : Nat} (hx : x < l.length) : ∀ n : Nat, n ≤ l.length → insN l v x n = (if x < n then v x else 0) + kT l (fun k => insN l v k n) x l.length
  | 0, _ => by
    have : ∀ m, kT l (fun k => insN l v k 0) x m = 0 := by
      intro m
      induction m with
      | zero => rfl
      | succ m ih => rw [kT_s, ih]; simp [insN]
    rw [this]; rfl
  | c + 1, hn => by
    have hp := isP_mk hc (c := c) (by omega)
    have ih := insN_rec hc v hx c (by omega)
    have e1 : kT l (fun k => insN l v k (c + 1)) x l.length = kT l (fun k => insN l v k c) x l.length + kT l (fun k => if (k : Int) ∈ pathG l 8 (c : Int) then v c else 0) x l.length := kT_add _ _
    rw [e1, kT_path hp _ _ _ (Nat.le_refl _)]
    rw [insN_s, ih]
    have hpx : (x : Int) ∈ pathG l 8 (c : Int) ↔ x = c ∨ ∃ d : Nat, d < l.length ∧ 0 < d ∧ (d : Int) ∈ pathG l 8 (c : Int) ∧ pa l d = x := by
      rw [← pathF_is hp]
      constructor
      · intro h
        by_cases h1 : x = c
        · exact .inl h1
        · obtain ⟨d, h2, h3, h4⟩ := pathF_down hp h (by omega)
          have h5 := pathF_in h2
          exact .inr ⟨d.toNat, by omega, by omega, by rwa [Int.toNat_of_nonneg (by omega)], h4⟩
      · rintro (rfl | ⟨d, _, h0, hd, hpd⟩)
        · exact pathF_self hp
        · have := pathF_up hp hd (by rw [Int.toNat_natCast, hpd]; omega)
          rwa [Int.toNat_natCast, hpd] at this
    by_cases h1 : ∃ d : Nat, d < l.length ∧ 0 < d ∧ (d : Int) ∈ pathG l 8 (c : Int) ∧ pa l d = x
    · have hxc : x ≠ c := by
        rintro rfl
        obtain ⟨d, h2, h3, h4, h5⟩ := h1
        have h6 := pathF_le hp (by rw [pathF_is hp]; exact h4)
        have h7 := pa_lt (chk_ok hc).2.1 (a := (d : Int)) (by omega)
        rw [Int.toNat_natCast, h5] at h7
        omega
      rw [if_pos (hpx.2 (.inr h1)), if_pos h1]
      by_cases h2 : x < c
      · rw [if_pos h2, if_pos (by omega)]; omega
      · rw [if_neg h2, if_neg (by omega)]; omega
    · rw [if_neg h1]
      by_cases h2 : x = c
      · subst h2
        rw [if_pos (hpx.2 (.inl rfl)), if_neg (by omega), if_pos (by omega)]; omega
      · rw [if_neg (fun h : (x : Int) ∈ pathG l 8 (c : Int) => (hpx.1 h).elim h2 h1)]
        by_cases h3 : x < c
        · rw [if_pos h3, if_pos (by omega)]; omega
        · rw [if_neg h3, if_neg (by omega)]; omega
theorem ins_rec {l : List Acct} (hc : chkF l = 0) (v : Nat → Int) {x : Nat} (hx : x < l.length) : insF l v x = v x + kT l (fun k => insF l v k) x l.length := by
  have := insN_rec hc v hx l.length (Nat.le_refl _)
  rwa [if_pos hx] at this
def downTo (l : List Acct) (v g : Nat → Int) (m : Nat) : List Int := (List.range l.length).map fun j => (if m ≤ j then v j else 0) + (kT l g j l.length - kT l g j m)
theorem downTo_len (l : List Acct) (v g : Nat → Int) (m : Nat) : (downTo l v g m).length = l.length := by simp [downTo]
theorem downTo_at {l : List Acct} {v g : Nat → Int} {m j : Nat} (h : j < (downTo l v g m).length) : (downTo l v g m)[j] = (if m ≤ j then v j else 0) + (kT l g j l.length - kT l g j m) := by simp [downTo]
theorem downTo_end (l : List Acct) (v g : Nat → Int) : downTo l v g l.length = (List.replicate l.length 0 : List Int) := by
  apply List.ext_getElem (by simp [downTo])
  intro j h1 h2
  rw [downTo_at h1, if_neg (by rw [downTo_len] at h1; omega)]
  simp
theorem downTo_g {l : List Acct} {v g : Nat → Int} {m j : Nat} (h : j < l.length) : (downTo l v g m)[j]? = some ((if m ≤ j then v j else 0) + (kT l g j l.length - kT l g j m)) := by
  rw [List.getElem?_eq_getElem (by rw [downTo_len]; exact h), downTo_at]
theorem downTo_d {l : List Acct} {v g : Nat → Int} {m j : Nat} (h : j < l.length) : (downTo l v g m).getD j 0 = (if m ≤ j then v j else 0) + (kT l g j l.length - kT l g j m) := by
  rw [List.getD_eq_getElem?_getD, downTo_g h]; rfl
theorem downTo_step {l : List Acct} (ht : treeP l) (v g : Nat → Int) {m : Nat} (hm : m < l.length) :
    downTo l v g m = (if 0 < m then ((downTo l v g (m + 1)).set m ((downTo l v g (m + 1)).getD m 0 + v m)).set (pa l m).toNat ((downTo l v g (m + 1)).getD (pa l m).toNat 0 + g m) else (downTo l v g (m + 1)).set m ((downTo l v g (m + 1)).getD m 0 + v m)) := by
  have hp := ht m hm hm
  unfold okP at hp
  rw [← pa_at hm] at hp
  apply List.ext_getElem?
  intro j
  by_cases hj : j < l.length
  · have hk : ∀ i : Int, kT l g i (m + 1) = kT l g i m + (if 0 < m ∧ pa l m = i then g m else 0) := fun i => rfl
    rw [downTo_g hj]
    by_cases h0 : 0 < m
    · rw [if_pos h0]
      have hpp : 0 ≤ pa l m ∧ pa l m < m := by rcases hp with h | h <;> omega
      by_cases hjp : j = (pa l m).toNat
      · subst hjp
        rw [List.getElem?_set_self (by rw [List.length_set, downTo_len]; exact hj), downTo_d hj, hk, if_neg (show ¬ m ≤ (pa l m).toNat by omega), if_neg (show ¬ m + 1 ≤ (pa l m).toNat by omega), if_pos (show 0 < m ∧ pa l m = ((pa l m).toNat : Int) by omega)]
        congr 1; omega
      · rw [List.getElem?_set_ne (by omega)]
        by_cases hji : j = m
        · subst hji
          rw [List.getElem?_set_self (by rw [downTo_len]; exact hj), downTo_d hj, if_pos (Nat.le_refl _), if_neg (by omega), hk, if_neg (by omega)]
          congr 1; try omega
        · rw [List.getElem?_set_ne (by omega), downTo_g hj, hk, if_neg (by omega : ¬(0 < m ∧ pa l m = j))]
          congr 1
          by_cases h3 : m ≤ j
          · rw [if_pos h3, if_pos (by omega)]; try omega
          · rw [if_neg h3, if_neg (by omega)]; try omega
    · rw [if_neg h0]
      obtain rfl : m = 0 := by omega
      by_cases hji : j = 0
      · subst hji
        rw [List.getElem?_set_self (by rw [downTo_len]; exact hj), downTo_d hj, if_pos (Nat.le_refl _), if_neg (by omega), hk, if_neg (by omega)]
        congr 1; try omega
      · rw [List.getElem?_set_ne (by omega), downTo_g hj, hk, if_pos (by omega), if_pos (by omega), if_neg (by omega)]
        congr 1; try omega
  · have e : ∀ x : List Int, x.length = l.length → x[j]? = none := fun x hx => List.getElem?_eq_none (by omega)
    rw [e _ (downTo_len _ _ _ _)]
    split <;> rw [e _ (by simp [downTo_len])]
def mn (l : List Acct) (j : Nat) : Int := if h : j < l.length then l[j].min else 0
def lw (l : List Acct) (j : Nat) : Int := if h : j < l.length then l[j].low else 0
theorem mn_at {l : List Acct} {j : Nat} (h : j < l.length) : mn l j = l[j].min := dif_pos h
theorem lw_at {l : List Acct} {j : Nat} (h : j < l.length) : lw l j = l[j].low := dif_pos h
def flr (l : List Acct) (low : Bool) (x : Nat) : Int := if low then lw l x else mn l x
def vF (v : List Int) (j : Nat) : Int := v.getD j 0
def valP (l : List Acct) (v : List Int) : Prop := chkF l = 0 ∧ v.length = l.length ∧ ∀ x ∈ v, inR x
theorem vF_in {l : List Acct} {v : List Int} (h : valP l v) (j : Nat) : 0 ≤ vF v j ∧ vF v j ≤ 1048576 := by
  unfold vF
  by_cases hj : j < v.length
  · rw [List.getD_eq_getElem?_getD, List.getElem?_eq_getElem hj]; exact h.2.2 _ (List.getElem_mem hj)
  · rw [List.getD_eq_getElem?_getD, List.getElem?_eq_none (by omega)]; simp
def stuckP (l : List Acct) (v : List Int) (a s : Int) (low : Bool) : Prop := ∃ x ∈ pathG l 8 a, 0 < x ∧ s < x ∧ us l x.toNat - insF l (vF v) x ≤ flr l low x.toNat
def askP (l : List Acct) (v : List Int) (a s : Int) : Prop := valP l v ∧ (0 ≤ a ∧ a < l.length) ∧ (-1 ≤ s ∧ s < l.length)
def grdP (l : List Acct) (v : List Int) (a s : Int) (low : Bool) : Prop := ¬ (askP l v a s ∧ (s = -1 ∨ s ∈ pathG l 8 a)) ∨ stuckP l v a s low
noncomputable def insL (l : List Acct) (v : List Int) : List Int := (List.range l.length).map fun (j : Nat) => insF l (vF v) (j : Int)
end Go.Proofs.Ytfdfmbmhefckaaa
