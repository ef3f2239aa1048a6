/- Protection: sums over the tree, effective guarantees, who is guarded. -/
import Derived.Test.YtmelmpaiplmjmaaP0q0364c6
set_option linter.unusedSimpArgs false
set_option linter.unusedVariables false
namespace Go.Proofs.Ytmelmpaiplmjmaa
open Go.AM Classical
set_option maxRecDepth 100000
set_option maxHeartbeats 4000000
/-- What f gives for the children of j among the first n accounts. -/
def kT (l : List Acct) (f : Nat → Int) (j : Int) : Nat → Int
  | 0 => 0
  | c + 1 => kT l f j c + (if 0 < c ∧ pa l c = j then f c else 0)
theorem kT_s (l : List Acct) (f : Nat → Int) (j : Int) (c : Nat) : kT l f j (c + 1) = kT l f j c + (if 0 < c ∧ pa l c = j then f c else 0) := rfl
theorem kT_zero {l : List Acct} (ht : treeP l) {f : Nat → Int} {j : Nat} : ∀ {n : Nat}, n ≤ j + 1 → n ≤ l.length → kT l f j n = 0
  | 0, _, _ => rfl
  | n + 1, hn, hl => by
    rw [kT_s, kT_zero ht (by omega) (by omega), if_neg, Int.add_zero]
    rintro ⟨h0, h1⟩
    have h2 := ht n (by omega) (by omega)
    unfold okP at h2
    rw [pa_at (by omega)] at h1
    omega
theorem kT_in {l : List Acct} {f : Nat → Int} {b : Int} (hf : ∀ c, 0 ≤ f c ∧ f c ≤ b) (j : Int) : ∀ n : Nat, 0 ≤ kT l f j n ∧ kT l f j n ≤ n * b
  | 0 => by simp [kT]
  | n + 1 => by
    have := kT_in (l := l) hf j n
    have := hf n
    have e : ((n + 1 : Nat) : Int) * b = n * b + b := by rw [Int.natCast_succ, Int.add_mul, Int.one_mul]
    rw [kT_s]
    split <;> omega
theorem kT_add {l : List Acct} {f g : Nat → Int} (j : Int) : ∀ n : Nat, kT l (fun c => f c + g c) j n = kT l f j n + kT l g j n
  | 0 => rfl
  | n + 1 => by
    rw [kT_s, kT_s, kT_s, kT_add j n]; split <;> omega
/-- A single child of j is on a path. -/
theorem kT_path {l : List Acct} {a : Int} (h : isP l a) (w : Int) (j : Nat) : ∀ c, c ≤ l.length → kT l (fun k => if (k : Int) ∈ pathG l 8 a then w else 0) j c = (if ∃ d : Nat, d < c ∧ 0 < d ∧ (d : Int) ∈ pathG l 8 a ∧ pa l d = j then w else 0)
  | 0, _ => by
    rw [if_neg (by rintro ⟨d, h, _⟩; omega)]; rfl
  | c + 1, hc => by
    rw [kT_s, kT_path h w j c (by omega)]
    by_cases h1 : 0 < c ∧ pa l c = j
    · rw [if_pos h1]
      by_cases h2 : (c : Int) ∈ pathG l 8 a
      · have hR : ∃ d : Nat, d < c + 1 ∧ 0 < d ∧ (d : Int) ∈ pathG l 8 a ∧ pa l d = j := ⟨c, by omega, h1.1, h2, h1.2⟩
        have hL : ¬ ∃ d : Nat, d < c ∧ 0 < d ∧ (d : Int) ∈ pathG l 8 a ∧ pa l d = j := by
          rintro ⟨d, hd, hd0, hdm, hdp⟩
          have := pathF_gap h (x := (c : Int)) (by rw [pathF_is h]; exact h2) (y := (d : Int)) (by rw [pathF_is h]; exact hdm) (by omega)
          rw [Int.toNat_natCast, h1.2] at this
          have h3 := pa_lt (chk_ok h.1).2.1 (a := (d : Int)) (by omega)
          rw [Int.toNat_natCast, hdp] at h3
          omega
        rw [if_pos h2, if_pos hR, if_neg hL]; omega
      · rw [if_neg h2, Int.add_zero]
        congr 1
        refine propext ⟨fun ⟨d, hd, r⟩ => ⟨d, by omega, r⟩, fun ⟨d, hd, r⟩ => ?_⟩
        rcases Nat.lt_succ_iff_lt_or_eq.1 hd with h3 | rfl
        · exact ⟨d, h3, r⟩
        · exact absurd r.2.1 h2
    · rw [if_neg h1, Int.add_zero]
      congr 1
      refine propext ⟨fun ⟨d, hd, r⟩ => ⟨d, by omega, r⟩, fun ⟨d, hd, r⟩ => ?_⟩
      rcases Nat.lt_succ_iff_lt_or_eq.1 hd with h3 | rfl
      · exact ⟨d, h3, r⟩
      · exact absurd ⟨r.1, r.2.2⟩ h1
/-- What leaves inside of x, of the first n accounts. -/
def insN (l : List Acct) (v : Nat → Int) (x : Int) : Nat → Int
  | 0 => 0
  | c + 1 => insN l v x c + (if x ∈ pathG l 8 (c : Int) then v c else 0)
theorem insN_s (l : List Acct) (v : Nat → Int) (x : Int) (c : Nat) : insN l v x (c + 1) = insN l v x c + (if x ∈ pathG l 8 (c : Int) then v c else 0) := rfl
def insF (l : List Acct) (v : Nat → Int) (x : Int) : Int := insN l v x l.length
theorem insN_in {l : List Acct} {v : Nat → Int} {b : Int} (hv : ∀ c, 0 ≤ v c ∧ v c ≤ b) (x : Int) : ∀ n : Nat, 0 ≤ insN l v x n ∧ insN l v x n ≤ n * b
  | 0 => by simp [insN]
  | n + 1 => by
    have := insN_in (l := l) hv x n
    have := hv n
    have e : ((n + 1 : Nat) : Int) * b = n * b + b := by rw [Int.natCast_succ, Int.add_mul, Int.one_mul]
    rw [insN_s]
    split <;> omega
theorem isP_mk {l : List Acct} (hc : chkF l = 0) {c : Nat} (h : c < l.length) : isP l (c : Int) := ⟨hc, by omega, by omega⟩
theorem insN_rec {l : List Acct} (hc : chkF l = 0) (v : Nat → Int) {x : Nat} (hx : x < l.length) : ∀ n : Nat, n ≤ l.length → insN l v x n = (if x < n then v x else 0) + kT l (fun k => insN l v k n) x l.length
  | 0, _ => by
    have : ∀ m, kT l (fun k => insN l v k 0) x m = 0 := by
      intro m
      induction m with
      | zero => rfl
      | succ m ih => rw [kT_s, ih]; simp [insN]
    rw [this]; rfl
  | c + 1, hn => by
    have hp := isP_mk hc (c := c) (by omega)
    have ih := insN_rec hc v hx c (by omega)
    have e1 : kT l (fun k => insN l v k (c + 1)) x l.length = kT l (fun k => insN l v k c) x l.length + kT l (fun k => if (k : Int) ∈ pathG l 8 (c : Int) then v c else 0) x l.length := kT_add _ _
    rw [e1, kT_path hp _ _ _ (Nat.le_refl _)]
    rw [insN_s, ih]
    have hpx : (x : Int) ∈ pathG l 8 (c : Int) ↔ x = c ∨ ∃ d : Nat, d < l.length ∧ 0 < d ∧ (d : Int) ∈ pathG l 8 (c : Int) ∧ pa l d = x := by
      rw [← pathF_is hp]
      constructor
      · intro h
        by_cases h1 : x = c
        · exact .inl h1
        · obtain ⟨d, h2, h3, h4⟩ := pathF_down hp h (by omega)
          have h5 := pathF_in h2
          exact .inr ⟨d.toNat, by omega, by omega, by rwa [Int.toNat_of_nonneg (by omega)], h4⟩
      · rintro (rfl | ⟨d, _, h0, hd, hpd⟩)
        · exact pathF_self hp
        · have := pathF_up hp hd (by rw [Int.toNat_natCast, hpd]; omega)
          rwa [Int.toNat_natCast, hpd] at this
    by_cases h1 : ∃ d : Nat, d < l.length ∧ 0 < d ∧ (d : Int) ∈ pathG l 8 (c : Int) ∧ pa l d = x
    · have hxc : x ≠ c := by
        rintro rfl
        obtain ⟨d, h2, h3, h4, h5⟩ := h1
        have h6 := pathF_le hp (by rw [pathF_is hp]; exact h4)
        have h7 := pa_lt (chk_ok hc).2.1 (a := (d : Int)) (by omega)
        rw [Int.toNat_natCast, h5] at h7
        omega
      rw [if_pos (hpx.2 (.inr h1)), if_pos h1]
      by_cases h2 : x < c
      · rw [if_pos h2, if_pos (by omega)]; omega
      · rw [if_neg h2, if_neg (by omega)]; omega
    · rw [if_neg h1]
      by_cases h2 : x = c
      · subst h2
        rw [if_pos (hpx.2 (.inl rfl)), if_neg (by omega), if_pos (by omega)]; omega
      · rw [if_neg (fun h : (x : Int) ∈ pathG l 8 (c : Int) => (hpx.1 h).elim h2 h1)]
        by_cases h3 : x < c
        · rw [if_pos h3, if_pos (by omega)]; omega
        · rw [if_neg h3, if_neg (by omega)]; omega
theorem ins_rec {l : List Acct} (hc : chkF l = 0) (v : Nat → Int) {x : Nat} (hx : x < l.length) : insF l v x = v x + kT l (fun k => insF l v k) x l.length := by
  have := insN_rec hc v hx l.length (Nat.le_refl _)
  rwa [if_pos hx] at this
/-- The sums when the accounts from m on have been looked at. -/
def downTo (l : List Acct) (v g : Nat → Int) (m : Nat) : List Int := (List.range l.length).map fun j => (if m ≤ j then v j else 0) + (kT l g j l.length - kT l g j m)
theorem downTo_len (l : List Acct) (v g : Nat → Int) (m : Nat) : (downTo l v g m).length = l.length := by simp [downTo]
theorem downTo_at {l : List Acct} {v g : Nat → Int} {m j : Nat} (h : j < (downTo l v g m).length) : (downTo l v g m)[j] = (if m ≤ j then v j else 0) + (kT l g j l.length - kT l g j m) := by simp [downTo]
theorem downTo_end (l : List Acct) (v g : Nat → Int) : downTo l v g l.length = (List.replicate l.length 0 : List Int) := by
  apply List.ext_getElem (by simp [downTo])
  intro j h1 h2
  rw [downTo_at h1, if_neg (by rw [downTo_len] at h1; omega)]
  simp
theorem downTo_g {l : List Acct} {v g : Nat → Int} {m j : Nat} (h : j < l.length) : (downTo l v g m)[j]? = some ((if m ≤ j then v j else 0) + (kT l g j l.length - kT l g j m)) := by
  rw [List.getElem?_eq_getElem (by rw [downTo_len]; exact h), downTo_at]
theorem downTo_d {l : List Acct} {v g : Nat → Int} {m j : Nat} (h : j < l.length) : (downTo l v g m).getD j 0 = (if m ≤ j then v j else 0) + (kT l g j l.length - kT l g j m) := by
  rw [List.getD_eq_getElem?_getD, downTo_g h]; rfl
theorem downTo_step {l : List Acct} (ht : treeP l) (v g : Nat → Int) {m : Nat} (hm : m < l.length) :
    downTo l v g m = (if 0 < m then ((downTo l v g (m + 1)).set m ((downTo l v g (m + 1)).getD m 0 + v m)).set (pa l m).toNat ((downTo l v g (m + 1)).getD (pa l m).toNat 0 + g m) else (downTo l v g (m + 1)).set m ((downTo l v g (m + 1)).getD m 0 + v m)) := by
  have hp := ht m hm hm
  unfold okP at hp
  rw [← pa_at hm] at hp
  apply List.ext_getElem?
  intro j
  by_cases hj : j < l.length
  · have hk : ∀ i : Int, kT l g i (m + 1) = kT l g i m + (if 0 < m ∧ pa l m = i then g m else 0) := fun i => rfl
    rw [downTo_g hj]
    by_cases h0 : 0 < m
    · rw [if_pos h0]
      have hpp : 0 ≤ pa l m ∧ pa l m < m := by rcases hp with h | h <;> omega
      by_cases hjp : j = (pa l m).toNat
      · subst hjp
        rw [List.getElem?_set_self (by rw [List.length_set, downTo_len]; exact hj), downTo_d hj, hk, if_neg (show ¬ m ≤ (pa l m).toNat by omega), if_neg (show ¬ m + 1 ≤ (pa l m).toNat by omega), if_pos (show 0 < m ∧ pa l m = ((pa l m).toNat : Int) by omega)]
        congr 1; omega
      · rw [List.getElem?_set_ne (by omega)]
        by_cases hji : j = m
        · subst hji
          rw [List.getElem?_set_self (by rw [downTo_len]; exact hj), downTo_d hj, if_pos (Nat.le_refl _), if_neg (by omega), hk, if_neg (by omega)]
          congr 1; try omega
        · rw [List.getElem?_set_ne (by omega), downTo_g hj, hk, if_neg (by omega : ¬(0 < m ∧ pa l m = j))]
          congr 1
          by_cases h3 : m ≤ j
          · rw [if_pos h3, if_pos (by omega)]; try omega
          · rw [if_neg h3, if_neg (by omega)]; try omega
    · rw [if_neg h0]
      obtain rfl : m = 0 := by omega
      by_cases hji : j = 0
      · subst hji
        rw [List.getElem?_set_self (by rw [downTo_len]; exact hj), downTo_d hj, if_pos (Nat.le_refl _), if_neg (by omega), hk, if_neg (by omega)]
        congr 1; try omega
      · rw [List.getElem?_set_ne (by omega), downTo_g hj, hk, if_pos (by omega), if_pos (by omega), if_neg (by omega)]
        congr 1; try omega
  · have e : ∀ x : List Int, x.length = l.length → x[j]? = none := fun x hx => List.getElem?_eq_none (by omega)
    rw [e _ (downTo_len _ _ _ _)]
    split <;> rw [e _ (by simp [downTo_len])]
def mn (l : List Acct) (j : Nat) : Int := if h : j < l.length then l[j].min else 0
def lw (l : List Acct) (j : Nat) : Int := if h : j < l.length then l[j].low else 0
theorem mn_at {l : List Acct} {j : Nat} (h : j < l.length) : mn l j = l[j].min := dif_pos h
theorem lw_at {l : List Acct} {j : Nat} (h : j < l.length) : lw l j = l[j].low := dif_pos h
theorem mn_in {l : List Acct} (h : amtTo l l.length) (j : Nat) : 0 ≤ mn l j ∧ mn l j ≤ 1048576 := by
  unfold mn
  split
  · rename_i hj; exact (h j hj hj).2.1
  · omega
/-- What an account is guaranteed at most. -/
def wt (l : List Acct) (j : Nat) : Int := if us l j < mn l j then us l j else mn l j
theorem wt_in {l : List Acct} (h : amtTo l l.length) (j : Nat) : 0 ≤ wt l j ∧ wt l j ≤ 1048576 := by
  have := us_in h j
  have := mn_in h j
  unfold wt; split <;> omega
/-- Effective guarantees. -/
def effG (l : List Acct) : Nat → Nat → Int
  | 0, _ => 0
  | f + 1, x => if x = 0 then us l 0 else if effG l f (pa l x).toNat < kT l (wt l) (pa l x) l.length then wt l x * effG l f (pa l x).toNat / kT l (wt l) (pa l x) l.length else wt l x
def eff (l : List Acct) (x : Nat) : Int := effG l 8 x
theorem effG_fuel {l : List Acct} (ht : treeP l) : ∀ f g x, x < f → x < g → x < l.length → effG l f x = effG l g x
  | 0, _, _, h, _, _ => by omega
  | _, 0, _, _, h, _ => by omega
  | f + 1, g + 1, x, h1, h2, h3 => by
    unfold effG
    by_cases h0 : x = 0
    · rw [if_pos h0, if_pos h0]
    · have hp := ht x h3 h3
      unfold okP at hp
      rw [← pa_at h3] at hp
      rw [if_neg h0, if_neg h0, effG_fuel ht f g _ (by omega) (by omega) (by omega)]
theorem eff_rec {l : List Acct} (ht : treeP l) (hl : l.length ≤ 8) {x : Nat} (hx : x < l.length) (h0 : 0 < x) :
    eff l x = if eff l (pa l x).toNat < kT l (wt l) (pa l x) l.length then wt l x * eff l (pa l x).toNat / kT l (wt l) (pa l x) l.length else wt l x := by
  have hp := ht x hx hx
  unfold okP at hp
  rw [← pa_at hx] at hp
  unfold eff
  rw [show effG l 8 x = effG l (7 + 1) x from rfl, effG, if_neg (by omega), effG_fuel ht 7 8 _ (by omega) (by omega) (by omega)]
theorem eff_zero (l : List Acct) : eff l 0 = us l 0 := by unfold eff effG; rw [if_pos rfl]
theorem eff_in {l : List Acct} (hc : chkF l = 0) : ∀ x, x < l.length → 0 ≤ eff l x ∧ eff l x ≤ us l x ∧ (0 < x → eff l x ≤ wt l x) := by
  obtain ⟨hl, ht, ha, _⟩ := chk_ok hc
  intro x
  induction x using Nat.strongRecOn with
  | _ x ih =>
    intro hx
    have hu := us_in ha.1 x
    have hw := wt_in ha.1 x
    have hwu : wt l x ≤ us l x := by unfold wt; split <;> omega
    by_cases h0 : x = 0
    · subst h0; rw [eff_zero]; omega
    · have hp := ht x hx hx
      unfold okP at hp
      rw [← pa_at hx] at hp
      have ih := ih (pa l x).toNat (by omega) (by omega)
      rw [eff_rec ht hl.2 hx (by omega)]
      have ht0 := kT_in (l := l) (f := wt l) (b := 1048576) (wt_in ha.1) (pa l x) l.length
      generalize eff l (pa l x).toNat = g at *
      generalize kT l (wt l) (pa l x) l.length = t at *
      by_cases h1 : g < t
      · rw [if_pos h1]
        have h2 : 0 ≤ wt l x * g / t := Int.ediv_nonneg (Int.mul_nonneg hw.1 ih.1) (by omega)
        have h3 : wt l x * g / t ≤ wt l x := by
          refine Int.le_trans (Int.ediv_le_ediv (by omega) (Int.mul_le_mul_of_nonneg_left (Int.le_of_lt h1) hw.1)) ?_
          rw [Int.mul_ediv_cancel _ (by omega)]; exact Int.le_refl _
        exact ⟨h2, by omega, fun _ => h3⟩
      · rw [if_neg h1]; exact ⟨hw.1, hwu, fun _ => Int.le_refl _⟩
def flr (l : List Acct) (low : Bool) (x : Nat) : Int := if low then lw l x else mn l x
def vF (v : List Int) (j : Nat) : Int := v.getD j 0
/-- The numbers of leaving pages are valid. -/
def valP (l : List Acct) (v : List Int) : Prop := chkF l = 0 ∧ v.length = l.length ∧ ∀ x ∈ v, inR x
theorem vF_at {v : List Int} {i : Nat} (h : i < v.length) : vF v i = v[i] := (getD_at h).symm
theorem vF_in {l : List Acct} {v : List Int} (h : valP l v) (j : Nat) : 0 ≤ vF v j ∧ vF v j ≤ 1048576 := by
  unfold vF
  by_cases hj : j < v.length
  · rw [List.getD_eq_getElem?_getD, List.getElem?_eq_getElem hj]; exact h.2.2 _ (List.getElem_mem hj)
  · rw [List.getD_eq_getElem?_getD, List.getElem?_eq_none (by omega)]; simp
/-- Some account on the path below the scope has no more left than it is guaranteed. -/
def stuckP (l : List Acct) (v : List Int) (a s : Int) (low : Bool) : Prop := ∃ x ∈ pathG l 8 a, 0 < x ∧ s < x ∧ us l x.toNat - insF l (vF v) x ≤ flr l low x.toNat
def askP (l : List Acct) (v : List Int) (a s : Int) : Prop := valP l v ∧ (0 ≤ a ∧ a < l.length) ∧ (-1 ≤ s ∧ s < l.length)
def grdP (l : List Acct) (v : List Int) (a s : Int) (low : Bool) : Prop := ¬ (askP l v a s ∧ (s = -1 ∨ s ∈ pathG l 8 a)) ∨ stuckP l v a s low
def openP (l : List Acct) (v : List Int) (s : Int) (a : Nat) : Prop := vF v a < us l a - kids l a ∧ ¬ grdP l v a s false
noncomputable def opnF (l : List Acct) (v : List Int) (s : Int) : Int := if valP l v then firstI (fun a => decide (openP l v s a)) (List.range l.length) else -1
/-- Overcommitted. -/
def ovrP (l : List Acct) (fr : Int) (x : Nat) : Prop := (if x = 0 then fr else mn l x) < kT l (mn l) x l.length
noncomputable def ovrF (l : List Acct) (fr : Int) : Int × Int := if chkF l = 0 then (if inR fr then (firstI (fun a => decide (ovrP l fr a)) (List.range l.length), 0) else (0, 2)) else (0, chkF l)
noncomputable def insL (l : List Acct) (v : List Int) : List Int := (List.range l.length).map fun (j : Nat) => insF l (vF v) (j : Int)
noncomputable def effL (l : List Acct) : List Int := (List.range l.length).map (eff l)
end Go.Proofs.Ytmelmpaiplmjmaa
