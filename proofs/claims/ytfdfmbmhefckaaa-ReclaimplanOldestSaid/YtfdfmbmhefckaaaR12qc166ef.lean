/- Reclaim plans: the law ReclaimplanOldest. -/
import Derived.Test.YtfdfmbmhefckaaaR10q38f3fb
import Derived.Test.YtfdfmbmhefckaaaAmZ3q8c31dc
set_option linter.unusedSimpArgs false
set_option linter.unusedVariables false
namespace Go.Proofs.Ytfdfmbmhefckaaa
open Go.AM Classical
set_option maxRecDepth 100000
set_option maxHeartbeats 4000000
def hiA (a : Acct) : Acct := ⟨a.parent, a.usage, if a.low > a.min then a.low else a.min, a.low, a.max⟩
def hiL (l : List Acct) : List Acct := l.map hiA
theorem hiL_len (l : List Acct) : (hiL l).length = l.length := by simp [hiL]
theorem hiL_at {l : List Acct} {i : Nat} (h : i < (hiL l).length) : (hiL l)[i] = hiA (l[i]'(by rwa [hiL_len] at h)) := by simp [hiL]
theorem hi_us (l : List Acct) (j : Nat) : us (hiL l) j = us l j := by
  unfold us
  by_cases h : j < l.length
  · rw [dif_pos (by rwa [hiL_len]), dif_pos h, hiL_at]; rfl
  · rw [dif_neg (by rwa [hiL_len]), dif_neg h]
theorem hi_pa (l : List Acct) (j : Nat) : pa (hiL l) j = pa l j := by
  unfold pa
  by_cases h : j < l.length
  · rw [dif_pos (by rwa [hiL_len]), dif_pos h, hiL_at]; rfl
  · rw [dif_neg (by rwa [hiL_len]), dif_neg h]
theorem hi_mn (l : List Acct) (j : Nat) : mn (hiL l) j = if lw l j > mn l j then lw l j else mn l j := by
  unfold mn lw
  by_cases h : j < l.length
  · rw [dif_pos (by rwa [hiL_len]), dif_pos h, dif_pos h, hiL_at]; rfl
  · rw [dif_neg (by rwa [hiL_len]), dif_neg h, dif_neg h]; rfl
theorem hi_path (l : List Acct) : ∀ (f : Nat) (a : Int), pathG (hiL l) f a = pathG l f a
  | 0, _ => rfl
  | f + 1, a => by rw [pathG, pathG, hi_pa, hi_path l f]
theorem hi_kids (l : List Acct) (j : Int) : ∀ n, kidsTo (hiL l) j n = kidsTo l j n
  | 0 => rfl
  | n + 1 => by unfold kidsTo; rw [hi_kids l j n, hi_pa, hi_us]
theorem hi_chk {l : List Acct} (h : chkF l = 0) : chkF (hiL l) = 0 := by
  obtain ⟨hl, ht, ⟨ha, hz⟩, hm, hs⟩ := chk_ok h
  refine chk_mk (by rwa [hiL_len]) ?_ ⟨?_, ?_⟩ ?_ ?_
  · intro i h1 h2
    have h3 : i < l.length := by rwa [hiL_len] at h2
    have := ht i h3 h3
    rw [hiL_at]; exact this
  · intro i h1 h2
    have h3 : i < l.length := by rwa [hiL_len] at h2
    obtain ⟨k1, k2, k3, k4⟩ := ha i h3 h3
    rw [hiL_at]
    refine ⟨k1, ?_, k3, k4⟩
    show inR (if l[i].low > l[i].min then l[i].low else l[i].min)
    split
    · exact k3
    · exact k2
  · intro h2
    have h3 : 0 < l.length := hl.1
    obtain ⟨k1, k2⟩ := hz h3
    rw [hiL_at]
    refine ⟨?_, k2⟩
    show (if l[0].low > l[0].min then l[0].low else l[0].min) = 0
    rw [k1, k2]; rfl
  · intro a hma
    obtain ⟨b, hb, rfl⟩ := List.mem_map.1 hma
    exact hm b hb
  · intro i hi
    rw [hi_us]
    unfold kids
    rw [hi_kids, hiL_len]
    exact hs i (by rwa [hiL_len] at hi)
theorem hi_ins (l : List Acct) (v : Nat → Int) (x : Int) : ∀ n, insN (hiL l) v x n = insN l v x n
  | 0 => rfl
  | n + 1 => by rw [insN_s, insN_s, hi_ins l v x n, hi_path]
theorem hi_lv (l : List Acct) (p : List Pg) : lvL (hiL l) p = lvL l p := by unfold lvL; rw [hiL_len]
theorem hi_qu {p : List Pg} {l : List Acct} {s : Int} (h : quP p l s) : quP p (hiL l) s := by
  have hc := (errA_ok h.1).1
  refine ⟨?_, h.2.1, by rw [hiL_len]; exact h.2.2⟩
  have h1 := h.1
  unfold pchk at h1 ⊢
  rw [if_pos hc] at h1
  rw [if_pos (hi_chk hc)]
  have e : errA (hiL l) p = errA l p := by funext i; unfold errA; rw [hiL_len]
  rw [e, h1]
theorem hi_is {l : List Acct} {a : Int} (hc : chkF l = 0) : isP (hiL l) a ↔ isP l a := by
  unfold isP
  rw [hiL_len]
  exact ⟨fun h => ⟨hc, h.2⟩, fun h => ⟨hi_chk hc, h.2⟩⟩
theorem hi_insP {l : List Acct} {a s : Int} (hc : chkF l = 0) : insP (hiL l) a s ↔ insP l a s := by
  unfold insP
  rw [hi_is hc]
  refine and_congr_right fun h => ?_
  rw [pathF_is ((hi_is hc).2 h), pathF_is h, hi_path]
theorem hi_out {l : List Acct} {s : Int} {q : Pg} (hc : chkF l = 0) : outP (hiL l) s q ↔ outP l s q := by
  unfold outP
  rw [hi_insP hc]
theorem hi_gd {l : List Acct} {v : List Int} {s : Int} {q : Pg} (hv : valP l v) (hn : ¬ gdP l v s false q) : gdP (hiL l) v s false q ↔ gdP l v s true q := by
  unfold gdP at *
  refine and_congr_right fun h0 => ?_
  have hng : ¬ grdP l v q.account s false := fun h => hn ⟨h0, h⟩
  unfold grdP at *
  have hq : askP (hiL l) v q.account s ↔ askP l v q.account s := by
    unfold askP valP
    rw [hiL_len]
    exact ⟨fun h => ⟨hv, h.2⟩, fun h => ⟨⟨hi_chk hv.1, h.1.2⟩, h.2⟩⟩
  rw [hq, hi_path]
  refine or_congr Iff.rfl ?_
  unfold stuckP at *
  rw [hi_path]
  constructor
  · rintro ⟨y, hy, h1, h2, h3⟩
    refine ⟨y, hy, h1, h2, ?_⟩
    have hno : ¬ us l y.toNat - insF l (vF v) y ≤ flr l false y.toNat := fun h => hng (.inr ⟨y, hy, h1, h2, h⟩)
    unfold insF at h3 hno ⊢
    rw [hi_us, hi_ins, hiL_len] at h3
    simp only [flr, Bool.false_eq_true, if_false, if_true] at h3 hno ⊢
    rw [hi_mn] at h3
    split at h3
    · exact h3
    · exact absurd h3 hno
  · rintro ⟨y, hy, h1, h2, h3⟩
    refine ⟨y, hy, h1, h2, ?_⟩
    unfold insF at h3 ⊢
    rw [hi_us, hi_ins, hiL_len]
    simp only [flr, Bool.false_eq_true, if_false, if_true] at h3 ⊢
    rw [hi_mn]
    split
    · exact h3
    · omega
theorem rsn_zero {l : List Acct} {v : List Int} {s : Int} {kn : Bool} {q : Pg} (h : rsn l v s kn q = 0) : ¬ outP l s q ∧ ¬ (kn = true ∧ q.normal = false) ∧ ¬ q.leaving = true ∧ ¬ (q.reason ≠ 0 ∧ q.reason ≠ 8) ∧ ¬ gdP l v s false q ∧ q.reason = 0 := by
  unfold rsn at h
  split at h
  · omega
  · split at h
    · omega
    · split at h
      · omega
      · split at h
        · omega
        · split at h
          · omega
          · exact ⟨by assumption, by assumption, by assumption, by assumption, by assumption, h⟩
theorem hi_rsn {l : List Acct} {v : List Int} {s : Int} {kn : Bool} {q : Pg} (hv : valP l v) (h : rsn l v s kn q = 0) : rsn (hiL l) v s kn q = 0 ↔ ¬ gdP l v s true q := by
  obtain ⟨h1, h2, h3, h4, h5, h6⟩ := rsn_zero h
  unfold rsn
  rw [if_neg (fun h => h1 ((hi_out hv.1).1 h)), if_neg h2, if_neg h3, if_neg h4]
  rw [← hi_gd hv h5]
  by_cases hg : gdP (hiL l) v s false q
  · rw [if_pos hg]; exact ⟨fun h => by omega, fun h => absurd hg h⟩
  · rw [if_neg hg]; exact ⟨fun _ => hg, fun _ => h6⟩
theorem nxS_spec {l : List Acct} {v : List Int} {s : Int} {kn : Bool} {p : List Pg} : ∀ i, i ≤ p.length →
    (((nxS l v s kn p i).1 = -1 ∧ ∀ j (h : j < p.length), j < i → rsn l v s kn p[j] = 0 → gdP l v s true p[j]) ∨
      (0 ≤ (nxS l v s kn p i).1 ∧ (∀ h : (nxS l v s kn p i).1.toNat < p.length, rsn l v s kn p[(nxS l v s kn p i).1.toNat] = 0 ∧ ¬ gdP l v s true p[(nxS l v s kn p i).1.toNat]) ∧ ∀ j (h : j < p.length), j < i → rsn l v s kn p[j] = 0 → ¬ gdP l v s true p[j] → agA p (nxS l v s kn p i).1 ≤ p[j].age)) ∧
    (((nxS l v s kn p i).2 = -1 ∧ ∀ j (h : j < p.length), j < i → rsn l v s kn p[j] ≠ 0) ∨
      (0 ≤ (nxS l v s kn p i).2 ∧ (∀ h : (nxS l v s kn p i).2.toNat < p.length, rsn l v s kn p[(nxS l v s kn p i).2.toNat] = 0) ∧ ∀ j (h : j < p.length), j < i → rsn l v s kn p[j] = 0 → agA p (nxS l v s kn p i).2 ≤ p[j].age))
  | 0, _ => ⟨.inl ⟨rfl, fun j _ h => by omega⟩, .inl ⟨rfl, fun j _ h => by omega⟩⟩
  | i + 1, hi => by
    obtain ⟨h1, h2⟩ := nxS_spec (l := l) (v := v) (s := s) (kn := kn) (p := p) i (by omega)
    have hil : i < p.length := by omega
    have hst : nxS l v s kn p (i + 1) = (if rsn l v s kn p[i] = 0 then
        (if ¬ gdP l v s true p[i] ∧ ((nxS l v s kn p i).1 < 0 ∨ p[i].age < agA p (nxS l v s kn p i).1) then (i : Int) else (nxS l v s kn p i).1,
         if (nxS l v s kn p i).2 < 0 ∨ p[i].age < agA p (nxS l v s kn p i).2 then (i : Int) else (nxS l v s kn p i).2)
       else nxS l v s kn p i) := by rw [nxS, dif_pos hil]
    generalize nxS l v s kn p (i + 1) = B at hst ⊢
    generalize nxS l v s kn p i = b at *
    obtain ⟨b, c⟩ := b
    obtain ⟨B1, B2⟩ := B
    dsimp only at h1 h2 hst ⊢
    have hag : agA p (i : Int) = p[i].age := by unfold agA; rw [dif_pos (by simpa using hil)]; simp
    by_cases hr : rsn l v s kn p[i] = 0
    · rw [if_pos hr] at hst
      injection hst with hB1 hB2
      refine ⟨?_, ?_⟩
      · by_cases hc : ¬ gdP l v s true p[i] ∧ (b < 0 ∨ p[i].age < agA p b)
        · rw [if_pos hc] at hB1
          subst hB1
          refine .inr ⟨by omega, fun h => by simpa using ⟨hr, hc.1⟩, fun j hj hji hrj hgj => ?_⟩
          rw [hag]
          rcases Nat.lt_succ_iff_lt_or_eq.1 hji with h4 | rfl
          · rcases h1 with ⟨h5, h6⟩ | ⟨h5, _, h6⟩
            · exact absurd (h6 j hj h4 hrj) hgj
            · have := h6 j hj h4 hrj hgj
              rcases hc.2 with h7 | h7 <;> omega
          · exact Int.le_refl _
        · rw [if_neg hc] at hB1
          replace hB1 := hB1.symm
          subst hB1
          rcases h1 with ⟨h5, h6⟩ | ⟨h5, h6, h7⟩
          · refine .inl ⟨h5, fun j hj hji hrj => ?_⟩
            rcases Nat.lt_succ_iff_lt_or_eq.1 hji with h4 | rfl
            · exact h6 j hj h4 hrj
            · exact Classical.byContradiction fun hg => hc ⟨hg, .inl (by omega)⟩
          · refine .inr ⟨h5, h6, fun j hj hji hrj hgj => ?_⟩
            rcases Nat.lt_succ_iff_lt_or_eq.1 hji with h4 | rfl
            · exact h7 j hj h4 hrj hgj
            · have : ¬ p[j].age < agA p b := fun h => hc ⟨hgj, .inr h⟩
              omega
      · by_cases hc : c < 0 ∨ p[i].age < agA p c
        · rw [if_pos hc] at hB2
          subst hB2
          refine .inr ⟨by omega, fun h => by simpa using hr, fun j hj hji hrj => ?_⟩
          rw [hag]
          rcases Nat.lt_succ_iff_lt_or_eq.1 hji with h4 | rfl
          · rcases h2 with ⟨h5, h6⟩ | ⟨h5, _, h6⟩
            · exact absurd hrj (h6 j hj h4)
            · have := h6 j hj h4 hrj
              rcases hc with h7 | h7 <;> omega
          · exact Int.le_refl _
        · rw [if_neg hc] at hB2
          replace hB2 := hB2.symm
          subst hB2
          rcases h2 with ⟨h5, h6⟩ | ⟨h5, h6, h7⟩
          · omega
          · refine .inr ⟨h5, h6, fun j hj hji hrj => ?_⟩
            rcases Nat.lt_succ_iff_lt_or_eq.1 hji with h4 | rfl
            · exact h7 j hj h4 hrj
            · omega
    · rw [if_neg hr] at hst
      injection hst with hB1 hB2
      replace hB1 := hB1.symm
      replace hB2 := hB2.symm
      subst hB1 hB2
      refine ⟨?_, ?_⟩
      · rcases h1 with ⟨h5, h6⟩ | ⟨h5, h6, h7⟩
        · refine .inl ⟨h5, fun j hj hji hrj => ?_⟩
          rcases Nat.lt_succ_iff_lt_or_eq.1 hji with h4 | rfl
          · exact h6 j hj h4 hrj
          · exact absurd hrj hr
        · refine .inr ⟨h5, h6, fun j hj hji hrj hgj => ?_⟩
          rcases Nat.lt_succ_iff_lt_or_eq.1 hji with h4 | rfl
          · exact h7 j hj h4 hrj hgj
          · exact absurd hrj hr
      · rcases h2 with ⟨h5, h6⟩ | ⟨h5, h6, h7⟩
        · refine .inl ⟨h5, fun j hj hji => ?_⟩
          rcases Nat.lt_succ_iff_lt_or_eq.1 hji with h4 | rfl
          · exact h6 j hj h4
          · exact hr
        · refine .inr ⟨h5, h6, fun j hj hji hrj => ?_⟩
          rcases Nat.lt_succ_iff_lt_or_eq.1 hji with h4 | rfl
          · exact h7 j hj h4 hrj
          · exact absurd hrj hr
theorem old_law {p : List Pg} {l : List Acct} {s : Int} {kn : Bool} {k : Int} (hP : p.length ≤ 1000000) (hk : nxtF p l s kn = k) (h0 : 0 ≤ k) : quP p l s ∧ k < p.length ∧ ∀ i (hi : i < p.length), reaF p l s i kn = 0 →
    (reaF p (hiL l) s i kn = 0 → reaF p (hiL l) s k kn = 0 ∧ agA p k ≤ p[i].age) ∧ (reaF p (hiL l) s k kn ≠ 0 → agA p k ≤ p[i].age) := by
  unfold nxtF at hk
  split at hk
  · rename_i hq
    have hv := val_lv (errA_ok hq.1).1 hP
    have hq2 := hi_qu hq
    have hin := nxS_in l (lvL l p) s kn p p.length
    have hsp := nxS_spec (l := l) (v := lvL l p) (s := s) (kn := kn) (p := p) p.length (Nat.le_refl _)
    generalize nxS l (lvL l p) s kn p p.length = b at *
    obtain ⟨b, c⟩ := b
    unfold nxtV at hk
    dsimp only at hk hin hsp
    have hkl : k < p.length := by split at hk <;> omega
    refine ⟨hq, hkl, fun i hi hri => ?_⟩
    have r1 : ∀ j : Int, (hj : 0 ≤ j ∧ j < p.length) → reaF p (hiL l) s j kn = rsn (hiL l) (lvL l p) s kn (p[j.toNat]'(by omega)) := fun j hj => by
      rw [reaF, if_pos hq2, dif_pos hj, hi_lv]
    have hri' : rsn l (lvL l p) s kn p[i] = 0 := by
      rw [reaF, if_pos hq, dif_pos (by omega)] at hri
      simpa using hri
    rw [r1 k ⟨h0, hkl⟩, r1 i (by omega)]
    simp only [Int.toNat_natCast]
    rw [hi_rsn hv hri']
    by_cases hb : 0 ≤ b
    · rw [if_pos hb] at hk
      subst hk
      rcases hsp.1 with ⟨h5, _⟩ | ⟨_, h6, h7⟩
      · omega
      · obtain ⟨k1, k2⟩ := h6 (by omega)
        have hz := (hi_rsn hv k1).2 k2
        refine ⟨fun hg => ⟨hz, h7 i hi hi hri' hg⟩, fun h => absurd hz h⟩
    · rw [if_neg hb] at hk
      subst hk
      rcases hsp.1 with ⟨_, h6⟩ | ⟨h5, _⟩
      · rcases hsp.2 with ⟨h7, _⟩ | ⟨_, h7, h8⟩
        · omega
        · exact ⟨fun hg => absurd (h6 i hi hi hri') hg, fun _ => h8 i hi hi hri'⟩
      · omega
  · omega
def mapA (f : Acct → Acct) (p : List Acct) (i : Nat) : List Acct := (p.take i).map f ++ p.drop i
theorem mapA_len (f : Acct → Acct) (p : List Acct) {i : Nat} (hi : i ≤ p.length) : (mapA f p i).length = p.length := by simp [mapA]; omega
theorem mapA_at {f : Acct → Acct} {p : List Acct} {i : Nat} (hi : i < p.length) : (mapA f p i)[i]'(by rw [mapA_len f p (by omega)]; exact hi) = p[i] := by
  unfold mapA
  rw [List.getElem_append_right (by simp; omega)]
  simp only [List.length_map, List.length_take]
  rw [List.getElem_drop]
  congr 1
  omega
theorem mapA_step {f : Acct → Acct} {p : List Acct} {i : Nat} (hi : i < p.length) : (mapA f p i).set i (f p[i]) = mapA f p (i + 1) := by
  unfold mapA
  rw [List.set_append_right _ _ (by simp; omega), List.take_succ_eq_append_getElem hi, List.map_append, List.append_assoc]
  congr 1
  simp only [List.length_map, List.length_take, Nat.min_eq_left (Nat.le_of_lt hi), Nat.sub_self, List.map_cons, List.map_nil]
  rw [List.drop_eq_getElem_cons hi]
  rfl
theorem mapA_end (f : Acct → Acct) (p : List Acct) : mapA f p p.length = p.map f := by simp [mapA]
end Go.Proofs.Ytfdfmbmhefckaaa
