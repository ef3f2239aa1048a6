/- Throttle: the law ThrottleOrder. -/
import Derived.Test.YtnngcjipfdejcaaT3q66ea1f
import Derived.Test.YtnngcjipfdejcaaAmZ
set_option linter.unusedSimpArgs false
set_option linter.unusedVariables false
namespace Go.Proofs.Ytnngcjipfdejcaa
open Go.AM Classical
set_option maxRecDepth 100000
set_option maxHeartbeats 4000000
def rB (f : Fr) : Int := if rdy f then 1 else 0
def nrTo (l : List Fr) : Nat → Int
  | 0 => 0
  | i + 1 => nrTo l i + (if h : i < l.length then rB l[i] else 0)
theorem rB_in (f : Fr) : 0 ≤ rB f ∧ rB f ≤ 1 := by unfold rB; split <;> omega
theorem nrTo_s {l : List Fr} {n : Nat} (h : n < l.length) : nrTo l (n + 1) = nrTo l n + rB l[n] := by rw [nrTo, dif_pos h]
theorem nrTo_in (l : List Fr) : ∀ n, 0 ≤ nrTo l n ∧ nrTo l n ≤ n
  | 0 => by simp [nrTo]
  | n + 1 => by
    have := nrTo_in l n
    unfold nrTo
    split
    · have := rB_in l[n]; omega
    · omega
theorem nrTo_set {l : List Fr} {i : Nat} {f : Fr} (hi : i < l.length) : ∀ n, n ≤ l.length → nrTo (l.set i f) n = nrTo l n + (if i < n then rB f - rB l[i] else 0)
  | 0, _ => by simp [nrTo]
  | n + 1, hn => by
    rw [nrTo_s (by rw [List.length_set]; omega), nrTo_s (by omega), nrTo_set hi n (by omega), List.getElem_set]
    by_cases h : i = n
    · subst h; rw [if_pos rfl, if_neg (by omega), if_pos (by omega)]; omega
    · rw [if_neg h]
      by_cases h2 : i < n
      · rw [if_pos h2, if_pos (by omega)]; omega
      · rw [if_neg h2, if_neg (by omega)]; omega
theorem nrTo_pos {l : List Fr} : ∀ n, n ≤ l.length → 0 < nrTo l n → ∃ j, ∃ h : j < l.length, j < n ∧ rdy l[j]
  | 0, _, h => by simp [nrTo] at h
  | n + 1, hn, h => by
    rw [nrTo_s (by omega)] at h
    by_cases h1 : rdy l[n]
    · exact ⟨n, by omega, by omega, h1⟩
    · rw [show rB l[n] = 0 from if_neg h1] at h
      obtain ⟨j, h2, h3, h4⟩ := nrTo_pos (l := l) n (by omega) (by omega)
      exact ⟨j, h2, by omega, h4⟩
theorem nrTo_no {l : List Fr} : ∀ n, n ≤ l.length → nrTo l n = 0 → ∀ j (h : j < l.length), j < n → ¬ rdy l[j]
  | 0, _, _, j, _, hj, _ => by omega
  | n + 1, hn, h, j, hjl, hj, hr => by
    rw [nrTo_s (by omega)] at h
    have h1 := nrTo_in l n
    have h2 := rB_in l[n]
    rcases Nat.lt_succ_iff_lt_or_eq.1 hj with h3 | rfl
    · exact nrTo_no (l := l) n (by omega) (by omega) j hjl h3 hr
    · rw [show rB l[j] = 1 from if_pos hr] at h; omega
def offF (f : Fr) : Fr := ⟨f.kind, f.phase, f.since, false⟩
theorem off_not (f : Fr) : ¬ rdy (offF f) := by rintro ⟨_, h, _⟩; simp [offF] at h
/-- The state after some pages were cleaned. -/
def ordI (fs : List Fr) (k : Int) (n : Int) : Prop := nrTo fs fs.length = n ∧ (k = -1 ∨ (0 ≤ k ∧ k < fs.length ∧ ∀ j (h : j < fs.length), rdy fs[j] → sn fs k ≤ fs[j].since))
theorem ord_step {fs : List Fr} {k n : Int} (h : ordI fs k n) (hn : 0 < n) : (0 ≤ old fs ∧ old fs < fs.length) ∧ ∃ hk : (old fs).toNat < fs.length, rdy fs[(old fs).toNat] ∧ (0 ≤ k → sn fs k ≤ sn fs (old fs)) ∧ ordI (fs.set (old fs).toNat (offF fs[(old fs).toNat])) (old fs) (n - 1) := by
  have hin := oldTo_in fs fs.length
  unfold old
  obtain ⟨j, hj, _, hr⟩ := nrTo_pos fs.length (Nat.le_refl _) (by rw [h.1]; exact hn)
  rcases oldTo_sp fs fs.length (Nat.le_refl _) with ⟨_, h2⟩ | ⟨h1, h2, h3⟩
  · exact absurd hr (h2 j hj hj)
  · generalize oldTo fs fs.length = a at *
    have ha : a.toNat < fs.length := by omega
    refine ⟨⟨h1, hin.2⟩, ha, h2 ha, fun h0 => ?_, ?_, .inr ⟨h1, by rw [List.length_set]; exact hin.2, fun i hi hri => ?_⟩⟩
    · rcases h.2 with h4 | ⟨_, _, h4⟩
      · omega
      · have := h4 _ ha (h2 ha)
        rwa [← sn_at ha] at this
    · rw [List.length_set, nrTo_set ha _ (Nat.le_refl _), if_pos ha, h.1, show rB (offF fs[a.toNat]) = 0 from if_neg (off_not _), show rB fs[a.toNat] = 1 from if_pos (h2 ha)]; omega
    · rw [List.length_set] at hi
      have hs : sn (fs.set a.toNat (offF fs[a.toNat])) a = sn fs a := by
        rw [sn_at (by rw [List.length_set]; exact ha), sn_at ha, List.getElem_set_self]; rfl
      rw [hs]
      by_cases h5 : a.toNat = i
      · subst h5
        rw [List.getElem_set_self] at hri
        exact absurd hri (off_not _)
      · rw [List.getElem_set_ne h5] at hri ⊢
        rcases h3 i hi hi hri with h6 | h6 <;> omega
theorem ord_end {fs : List Fr} {k : Int} (h : ordI fs k 0) : old fs = -1 := by
  unfold old
  rcases oldTo_sp fs fs.length (Nat.le_refl _) with ⟨h1, _⟩ | ⟨h1, h2, _⟩
  · exact h1
  · have hin := oldTo_in fs fs.length
    have ha : (oldTo fs fs.length).toNat < fs.length := by omega
    exact absurd (h2 ha) (nrTo_no fs.length (Nat.le_refl _) h.1 _ ha ha)
theorem order_c (l : List Sk) (hk : ∀ s ∈ l, s.ok) : PCon Try.prog 8 [.vs 4 (l.flatMap Sk.cells) l.length] (.bool true) := by
  refine A8p (by simp [A8]) ?_
  simp only [A8, argEnv]
  by_cases h3 : l.length ≤ 60
  · have c1 := frames_c l (by omega) hk
    have hfl : (l.map frOf).length = l.length := List.length_map _
    generalize l.map frOf = f at *
    have lf := frs_len f
    have sf := frs_scal f
    rw [← hfl] at c1 ⊢
    have hf60 : f.length ≤ 60 := by omega
    clear hfl hk h3
    repeat' (first
      | (with_reducible first | refine W_seq ?_ | refine then_n ?_ | refine W_block ?_ | refine blk_n ?_ | refine blk_r ?_ | refine blk_e ?_ | refine W_skip ?_ | refine W_ret ?_ | refine then_r ?_ | refine W_exit ?_ | refine then_e ?_)
      | (refine blk_j (by decide) ?_)
      | ((with_reducible refine s_reg ?_); intro K hK)
      | ((with_reducible refine k_nil ?_); (with_reducible apply s_nil hK); (· (repeat (first | exact norm_nil | ((with_reducible apply norm_cons); (· rfl)) | ((with_reducible apply norm_skip); (· rfl))))); clear hK; clear K)
      | ((with_reducible refine k_cond ?_); (first | ((with_reducible apply s_condT); (· rfl); (· (repeat (first | exact norm_nil | ((with_reducible apply norm_cons); (· rfl)) | ((with_reducible apply norm_skip); (· rfl)))))) | ((with_reducible apply s_condF); (· rfl); (· (repeat (first | exact norm_nil | ((with_reducible apply norm_cons); (· rfl)) | ((with_reducible apply norm_skip); (· rfl)))))) | ((with_reducible apply s_condS); (· rfl); (· (repeat (first | exact norm_nil | ((with_reducible apply norm_cons); (· rfl)) | ((with_reducible apply norm_skip); (· rfl))))); (· (repeat (first | exact norm_nil | ((with_reducible apply norm_cons); (· rfl)) | ((with_reducible apply norm_skip); (· rfl))))))))
      | ((with_reducible refine k_guard ?_); (first | (refine s_gt rfl ?_) | (refine s_gf1 rfl ?_) | (refine s_gfn rfl ?_) | (refine s_gx1 rfl ?_) | (refine s_gxn rfl ?_) | (refine s_gs rfl ?_)))
      | ((with_reducible refine k_mv ?_); (refine s_mv rfl ?_))
      | ((with_reducible refine k_len ?_); (first | (refine s_len rfl rfl ?_) | ((with_reducible apply s_len); (· rfl); (· exact SlOwn.len (by assumption)))))
      | ((with_reducible refine k_pick ?_); (first | (refine s_pickT rfl rfl ?_) | (refine s_pickF rfl rfl ?_)))
      | ((with_reducible refine k_not ?_); (refine s_not rfl (by first | exact Bool.not_true | exact Bool.not_false | rfl) ?_))
      | ((with_reducible refine k_gtr ?_); (refine s_gtr rfl rfl ?_))
      | ((with_reducible refine k_callF ?_); (first | ((with_reducible apply s_call1); (· rfl)) | ((with_reducible apply s_calln); (· rfl))))
      | ((with_reducible refine k_con ?_); (first | ((with_reducible apply con_val (awake_c)); (· (repeat (first | exact All2.nil | (apply All2.cons; (· first | exact Rd_int | exact Rd_bool | exact Rd_vs | exact Rd_nil | exact Rd_emp | exact Rd_vp | exact Rd_sl0 upd_self rfl rfl | exact Rd_fn0 | exact Rd_flat rfl | ((apply Rd_sl0); (· (first | exact upd_self | rfl | assumption | (simp (disch := (first | omega | exact ne_key hkF ‹_› | exact (ne_key hkF ‹_›).symm | exact ne_key1 hkF ‹_› | exact (ne_key1 hkF ‹_›).symm | exact ne_key2 hkF ‹_› | exact (ne_key2 hkF ‹_›).symm | exact ne_key3 hkF ‹_› | exact (ne_key3 hkF ‹_›).symm)) only [upd_self, upd_ne]; first | done | rfl | assumption))); (· first | rfl | exact scal_i | exact scal_b | assumption); (· first | rfl | assumption | (simp; done) | (simp; omega))) | ((apply Rd_so); (· first | assumption | ((repeat' (first | assumption | (with_reducible apply SlOwn.upd) | (simp only [upd_none]; assumption))); done)); (· first | rfl | exact scal_i | exact scal_b | assumption))))))); (· rfl); (· exact fun _ => rfl)) | ((with_reducible apply con_of_pcon (c1)); (· (repeat (first | exact All2.nil | (apply All2.cons; (· first | exact Rd_int | exact Rd_bool | exact Rd_vs | exact Rd_nil | exact Rd_emp | exact Rd_vp | exact Rd_sl0 upd_self rfl rfl | exact Rd_fn0 | exact Rd_flat rfl | ((apply Rd_sl0); (· (first | exact upd_self | rfl | assumption | (simp (disch := (first | omega | exact ne_key hkF ‹_› | exact (ne_key hkF ‹_›).symm | exact ne_key1 hkF ‹_› | exact (ne_key1 hkF ‹_›).symm | exact ne_key2 hkF ‹_› | exact (ne_key2 hkF ‹_›).symm | exact ne_key3 hkF ‹_› | exact (ne_key3 hkF ‹_›).symm)) only [upd_self, upd_ne]; first | done | rfl | assumption))); (· first | rfl | exact scal_i | exact scal_b | assumption); (· first | rfl | assumption | (simp; done) | (simp; omega))) | ((apply Rd_so); (· first | assumption | ((repeat' (first | assumption | (with_reducible apply SlOwn.upd) | (simp only [upd_none]; assumption))); done)); (· first | rfl | exact scal_i | exact scal_b | assumption))))))); intro kF hkF; (try simp only [upd_none] at hkF); simp only [thaw, thawC, List.map, thawH, owOf, owL])))
      | ((with_reducible refine k_dreg ?_); refine s_dreg rfl rfl ?_; intro K hK)
      | (with_reducible refine d_nilS ?_)
      | ((with_reducible refine k_dnil ?_); (with_reducible apply d_nil hK); (· (repeat (first | exact norm_nil | ((with_reducible apply norm_cons); (· rfl)) | ((with_reducible apply norm_skip); (· rfl))))); clear hK; clear K)
      | ((with_reducible refine k_dguard ?_); (first | (refine d_gt rfl ?_) | (refine d_gf rfl ?_) | (refine d_gx rfl ?_) | (refine d_gs rfl ?_)))
      | ((with_reducible refine k_dop ?_); refine d_step (by first | exact Or.inl rfl | exact Or.inr rfl) ?_)
      | (with_reducible refine d_back ?_)
      | ((with_reducible refine k_br ?_); (first | (with_reducible first | refine Br_dec ?_ | refine Br_not ?_ | refine Br_eqF ?_ | refine Br_and ?_ | refine Br_or ?_ | refine Br_neg ?_ | refine Br_band ?_ | refine Br_bor ?_ | refine Br_beq ?_) | (refine Br_t (by first | omega | assumption | rfl) ?_) | (refine Br_f (by first | omega | assumption | decide) ?_) | (with_reducible apply Br_sb <;> intro hbr <;> (first | subst hbr | simp only [hbr] | skip)) | (with_reducible apply Br_s <;> intro hbr)))
      | (with_reducible refine WN_succ ?_)
      | ((first | (with_reducible apply q_eqI) | (with_reducible apply q_eqN)); (first | (simp (disch := omega) only [w64, wu8, wu16, wu32, wu64, tm_nn, td_nn, fd_nn, Int.reduceAdd, Int.reduceSub, Int.reduceMul, Int.reduceDiv, Int.reduceMod, Int.reduceNeg, Int.reduceToNat, Int.toNat_natCast, Int.toNat_zero, Int.zero_add, Int.add_zero, Int.one_mul, Int.reducePow, Nat.mul_one, Nat.zero_add, Nat.add_zero, Nat.zero_mul, Nat.reduceAdd, Nat.reduceMul, Nat.reduceSub, Nat.min_eq_left, IntKind.bits, Nat.sub_zero]; try rfl; done) | rfl))
      | ((first | (with_reducible apply q_eqL) | (with_reducible apply q_eqO)); (first | (simp (disch := omega) only [upd_self, upd_ne, upd_upd, rep, splice, List.take_succ_cons, List.take_zero, List.drop_succ_cons, List.drop_zero, List.cons_append, List.nil_append, List.append_nil, List.length_cons, List.length_nil, List.reduceReplicate, List.flatten_cons, List.flatten_nil, Nat.reduceAdd, Nat.reduceMul, Nat.reduceSub, Nat.zero_add, Nat.add_zero, List.getElem?_cons_zero, List.getElem?_cons_succ]; try rfl; done) | rfl)))
    all_goals first | (first | exact Fin_flat trivial rfl rfl | (refine Fin_tup trivial rfl ?_ (Nat.le_of_ble_eq_true rfl); (repeat (first | exact All2.nil | (apply All2.cons; (· first | exact exc_n | exact exc_e | exact exc_v rfl rfl | exact exc_o upd_self rfl rfl)))); done) | (refine Fin_own trivial rfl upd_self ?_ (Nat.le_of_ble_eq_true rfl); (repeat (first | exact All2.nil | (apply All2.cons; (· first | exact exc_n | exact exc_e | exact exc_v rfl rfl | exact exc_o upd_self rfl rfl)))); done) | exact Fin_nil trivial rfl | exact Fin_sl trivial rfl upd_self rfl rfl) | skip
    refine W_for f.length (fun i st => st = ⟨[(3, .sl kF 16 0 f.length), (4, .int .i64 (nrTo f i)), (19, .int .i64 f.length), (20, .int .i64 i)], upd (fun _ => none) kF (f.flatMap Fr.cells)⟩) rfl ?_ ?_
    · rintro i e' h' hi he
      cases he
      have hni := nrTo_in f i
      have hst := nrTo_s hi
      have g0 := fr0 hi
      have g1 := fr1 hi
      have g10 := fr10 hi
      rw [hst]
      clear hst
      generalize f[i] = r at *
      obtain ⟨kd, ph, sc, dt⟩ := r
      unfold rB
      cases dt
      all_goals
        repeat' (first
          | (with_reducible first | refine W_seq ?_ | refine then_n ?_ | refine W_block ?_ | refine blk_n ?_ | refine blk_r ?_ | refine blk_e ?_ | refine W_skip ?_ | refine W_ret ?_ | refine then_r ?_ | refine W_exit ?_ | refine then_e ?_)
          | (refine blk_j (by decide) ?_)
          | ((with_reducible refine s_reg ?_); intro K hK)
          | ((with_reducible refine k_nil ?_); (with_reducible apply s_nil hK); (· (repeat (first | exact norm_nil | ((with_reducible apply norm_cons); (· rfl)) | ((with_reducible apply norm_skip); (· rfl))))); clear hK; clear K)
          | ((with_reducible refine k_cond ?_); (first | ((with_reducible apply s_condT); (· rfl); (· (repeat (first | exact norm_nil | ((with_reducible apply norm_cons); (· rfl)) | ((with_reducible apply norm_skip); (· rfl)))))) | ((with_reducible apply s_condF); (· rfl); (· (repeat (first | exact norm_nil | ((with_reducible apply norm_cons); (· rfl)) | ((with_reducible apply norm_skip); (· rfl)))))) | ((with_reducible apply s_condS); (· rfl); (· (repeat (first | exact norm_nil | ((with_reducible apply norm_cons); (· rfl)) | ((with_reducible apply norm_skip); (· rfl))))); (· (repeat (first | exact norm_nil | ((with_reducible apply norm_cons); (· rfl)) | ((with_reducible apply norm_skip); (· rfl))))))))
          | ((with_reducible refine k_guard ?_); (first | (refine s_gt rfl ?_) | (refine s_gf1 rfl ?_) | (refine s_gfn rfl ?_) | (refine s_gx1 rfl ?_) | (refine s_gxn rfl ?_) | (refine s_gs rfl ?_)))
          | ((with_reducible refine k_mv ?_); (refine s_mv rfl ?_))
          | ((with_reducible refine k_pick ?_); (first | (refine s_pickT rfl rfl ?_) | (refine s_pickF rfl rfl ?_)))
          | ((with_reducible refine k_eql ?_); (first | (refine s_eql rfl rfl ?_) | (refine s_strEq rfl rfl ?_)))
          | ((with_reducible refine k_lss ?_); (refine s_lss rfl rfl ?_))
          | ((with_reducible refine k_iaddr ?_); (first | ((with_reducible apply s_iaddrV); (· rfl); (· rfl); (· (first | omega | exact ⟨rfl, by omega⟩ | skip))) | ((with_reducible apply s_iaddrO); (· rfl); (· rfl); (· (first | omega | exact ⟨rfl, by omega⟩ | skip)); (· (first | exact upd_self | rfl | assumption | (simp (disch := omega) only [upd_self, upd_ne]; first | done | rfl | assumption)))) | ((with_reducible apply s_iaddrSO); (· rfl); (· assumption); (· rfl); (· (first | omega | exact ⟨rfl, by omega⟩ | skip)); (· (first | (simp (disch := omega) only [w64, wu8, wu16, wu32, wu64, tm_nn, td_nn, fd_nn, Int.reduceAdd, Int.reduceSub, Int.reduceMul, Int.reduceDiv, Int.reduceMod, Int.reduceNeg, Int.reduceToNat, Int.toNat_natCast, Int.toNat_zero, Int.zero_add, Int.add_zero, Int.one_mul, Int.reducePow, Nat.mul_one, Nat.zero_add, Nat.add_zero, Nat.zero_mul, Nat.reduceAdd, Nat.reduceMul, Nat.reduceSub, Nat.min_eq_left, IntKind.bits, Nat.sub_zero, g0, g1, g10]; try rfl; done) | rfl)); intro ks hks)))
          | ((with_reducible refine k_load ?_); (first | ((with_reducible apply s_loadV); (· rfl)) | ((with_reducible apply s_loadP); (· rfl); (· (first | exact upd_self | rfl | assumption | (simp (disch := omega) only [upd_self, upd_ne]; first | done | rfl | assumption))))))
          | ((with_reducible refine k_add ?_); ((with_reducible apply s_add); (· rfl); (· rfl)))
          | ((with_reducible refine k_faddr ?_); (first | ((with_reducible apply s_faddrV); (· rfl); (· rfl)) | ((with_reducible apply s_faddrP); (· rfl); (· rfl))))
          | ((with_reducible refine k_dreg ?_); refine s_dreg rfl rfl ?_; intro K hK)
          | (with_reducible refine d_nilS ?_)
          | ((with_reducible refine k_dnil ?_); (with_reducible apply d_nil hK); (· (repeat (first | exact norm_nil | ((with_reducible apply norm_cons); (· rfl)) | ((with_reducible apply norm_skip); (· rfl))))); clear hK; clear K)
          | ((with_reducible refine k_dguard ?_); (first | (refine d_gt rfl ?_) | (refine d_gf rfl ?_) | (refine d_gx rfl ?_) | (refine d_gs rfl ?_)))
          | ((with_reducible refine k_dop ?_); refine d_step (by first | exact Or.inl rfl | exact Or.inr rfl) ?_)
          | (with_reducible refine d_back ?_)
          | ((with_reducible refine k_br ?_); (first | (with_reducible first | refine Br_dec ?_ | refine Br_not ?_ | refine Br_eqF ?_ | refine Br_and ?_ | refine Br_or ?_ | refine Br_neg ?_ | refine Br_band ?_ | refine Br_bor ?_ | refine Br_beq ?_) | (refine Br_t (by first | omega | assumption | rfl) ?_) | (refine Br_f (by first | omega | assumption | decide) ?_) | (with_reducible apply Br_sb <;> intro hbr <;> (first | subst hbr | simp only [hbr] | skip)) | (with_reducible apply Br_s <;> intro hbr)))
          | (with_reducible refine WN_succ ?_)
          | ((first | (with_reducible apply q_eqI) | (with_reducible apply q_eqN)); (first | (simp (disch := omega) only [w64, wu8, wu16, wu32, wu64, tm_nn, td_nn, fd_nn, Int.reduceAdd, Int.reduceSub, Int.reduceMul, Int.reduceDiv, Int.reduceMod, Int.reduceNeg, Int.reduceToNat, Int.toNat_natCast, Int.toNat_zero, Int.zero_add, Int.add_zero, Int.one_mul, Int.reducePow, Nat.mul_one, Nat.zero_add, Nat.add_zero, Nat.zero_mul, Nat.reduceAdd, Nat.reduceMul, Nat.reduceSub, Nat.min_eq_left, IntKind.bits, Nat.sub_zero, g0, g1, g10]; try rfl; done) | rfl))
          | ((first | (with_reducible apply q_eqL) | (with_reducible apply q_eqO)); (first | (simp (disch := omega) only [upd_self, upd_ne, upd_upd, rep, splice, List.take_succ_cons, List.take_zero, List.drop_succ_cons, List.drop_zero, List.cons_append, List.nil_append, List.append_nil, List.length_cons, List.length_nil, List.reduceReplicate, List.flatten_cons, List.flatten_nil, Nat.reduceAdd, Nat.reduceMul, Nat.reduceSub, Nat.zero_add, Nat.add_zero, List.getElem?_cons_zero, List.getElem?_cons_succ, g0, g1, g10]; try rfl; done) | rfl)))
      all_goals first
        | (rw [if_pos (by (simp [rdy]) <;> omega)]; rfl)
        | (rw [if_neg (by (simp [rdy]) <;> omega), Int.add_zero]; rfl)
    · rintro e' h' he
      cases he
      have hin := nrTo_in f f.length
      obtain ⟨n, hn⟩ := Int.eq_ofNat_of_zero_le hin.1
      rw [hn] at hin ⊢
      repeat' (first
        | (with_reducible first | refine W_seq ?_ | refine then_n ?_ | refine W_block ?_ | refine blk_n ?_ | refine blk_r ?_ | refine blk_e ?_ | refine W_skip ?_ | refine W_ret ?_ | refine then_r ?_ | refine W_exit ?_ | refine then_e ?_)
        | (refine blk_j (by decide) ?_)
        | ((with_reducible refine s_reg ?_); intro K hK)
        | ((with_reducible refine k_nil ?_); (with_reducible apply s_nil hK); (· (repeat (first | exact norm_nil | ((with_reducible apply norm_cons); (· rfl)) | ((with_reducible apply norm_skip); (· rfl))))); clear hK; clear K)
        | ((with_reducible refine k_cond ?_); (first | ((with_reducible apply s_condT); (· rfl); (· (repeat (first | exact norm_nil | ((with_reducible apply norm_cons); (· rfl)) | ((with_reducible apply norm_skip); (· rfl)))))) | ((with_reducible apply s_condF); (· rfl); (· (repeat (first | exact norm_nil | ((with_reducible apply norm_cons); (· rfl)) | ((with_reducible apply norm_skip); (· rfl)))))) | ((with_reducible apply s_condS); (· rfl); (· (repeat (first | exact norm_nil | ((with_reducible apply norm_cons); (· rfl)) | ((with_reducible apply norm_skip); (· rfl))))); (· (repeat (first | exact norm_nil | ((with_reducible apply norm_cons); (· rfl)) | ((with_reducible apply norm_skip); (· rfl))))))))
        | ((with_reducible refine k_guard ?_); (first | (refine s_gt rfl ?_) | (refine s_gf1 rfl ?_) | (refine s_gfn rfl ?_) | (refine s_gx1 rfl ?_) | (refine s_gxn rfl ?_) | (refine s_gs rfl ?_)))
        | ((with_reducible refine k_mv ?_); (refine s_mv rfl ?_))
        | ((with_reducible refine k_lss ?_); (refine s_lss rfl rfl ?_))
        | ((with_reducible refine k_dreg ?_); refine s_dreg rfl rfl ?_; intro K hK)
        | (with_reducible refine d_nilS ?_)
        | ((with_reducible refine k_dnil ?_); (with_reducible apply d_nil hK); (· (repeat (first | exact norm_nil | ((with_reducible apply norm_cons); (· rfl)) | ((with_reducible apply norm_skip); (· rfl))))); clear hK; clear K)
        | ((with_reducible refine k_dguard ?_); (first | (refine d_gt rfl ?_) | (refine d_gf rfl ?_) | (refine d_gx rfl ?_) | (refine d_gs rfl ?_)))
        | ((with_reducible refine k_dop ?_); refine d_step (by first | exact Or.inl rfl | exact Or.inr rfl) ?_)
        | (with_reducible refine d_back ?_)
        | ((with_reducible refine k_br ?_); (first | (with_reducible first | refine Br_dec ?_ | refine Br_not ?_ | refine Br_eqF ?_ | refine Br_and ?_ | refine Br_or ?_ | refine Br_neg ?_ | refine Br_band ?_ | refine Br_bor ?_ | refine Br_beq ?_) | (refine Br_t (by first | omega | assumption | rfl) ?_) | (refine Br_f (by first | omega | assumption | decide) ?_) | (with_reducible apply Br_sb <;> intro hbr <;> (first | subst hbr | simp only [hbr] | skip)) | (with_reducible apply Br_s <;> intro hbr)))
        | (with_reducible refine WN_succ ?_)
        | ((first | (with_reducible apply q_eqI) | (with_reducible apply q_eqN)); (first | (simp (disch := omega) only [w64, wu8, wu16, wu32, wu64, tm_nn, td_nn, fd_nn, Int.reduceAdd, Int.reduceSub, Int.reduceMul, Int.reduceDiv, Int.reduceMod, Int.reduceNeg, Int.reduceToNat, Int.toNat_natCast, Int.toNat_zero, Int.zero_add, Int.add_zero, Int.one_mul, Int.reducePow, Nat.mul_one, Nat.zero_add, Nat.add_zero, Nat.zero_mul, Nat.reduceAdd, Nat.reduceMul, Nat.reduceSub, Nat.min_eq_left, IntKind.bits, Nat.sub_zero]; try rfl; done) | rfl))
        | ((first | (with_reducible apply q_eqL) | (with_reducible apply q_eqO)); (first | (simp (disch := omega) only [upd_self, upd_ne, upd_upd, rep, splice, List.take_succ_cons, List.take_zero, List.drop_succ_cons, List.drop_zero, List.cons_append, List.nil_append, List.append_nil, List.length_cons, List.length_nil, List.reduceReplicate, List.flatten_cons, List.flatten_nil, Nat.reduceAdd, Nat.reduceMul, Nat.reduceSub, Nat.zero_add, Nat.add_zero, List.getElem?_cons_zero, List.getElem?_cons_succ]; try rfl; done) | rfl)))
      refine W_for n (fun i st => ∃ fs k h', st = ⟨[(3, .sl kF 16 0 f.length), (6, .int .i64 k), (47, .int .i64 n), (48, .int .i64 i)], h'⟩ ∧ h' kF = some (fs.flatMap Fr.cells) ∧ fs.length = f.length ∧ ordI fs k (n - i)) ⟨f, -1, _, rfl, upd_self, rfl, by rw [hn]; simp, .inl rfl⟩ ?_ ?_
      · rintro i e' h' hi ⟨fs, k, h1, he, hk, hfl, ho⟩
        cases he
        have c2 := oldest_c fs (by omega)
        obtain ⟨hr, hkl, hrd, hsn, hnx⟩ := ord_step ho (by omega)
        have hk2 : k = -1 ∨ (0 ≤ k ∧ k < f.length) := by rcases ho.2 with h | h <;> omega
        have lf2 := frs_len fs
        have sf2 := frs_scal fs
        simp only [frs, hfl] at c2 lf2 hr
        have g10 := fr10 hkl
        have g9 := fr9s (l := fs) (k := old fs) hkl
        have g9k := fr9s (l := fs) (k := k)
        rw [hrd.2.1] at g10
        have s4 := fm_st (f := Fr.cells) (l := fs) (j := 10) (d := .bool false) (b := offF fs[(old fs).toNat]) Fr.cells_len hkl (by omega) rfl
        have hls : (fs.set (old fs).toNat (offF fs[(old fs).toNat])).length = f.length := by rw [List.length_set, hfl]
        generalize fs.set (old fs).toNat (offF fs[(old fs).toNat]) = gs at *
        generalize old fs = a at *
        rcases hk2 with rfl | hk2
        all_goals
          repeat' (first
            | (with_reducible first | refine W_seq ?_ | refine then_n ?_ | refine W_block ?_ | refine blk_n ?_ | refine blk_r ?_ | refine blk_e ?_ | refine W_skip ?_ | refine W_ret ?_ | refine then_r ?_ | refine W_exit ?_ | refine then_e ?_)
            | (refine blk_j (by decide) ?_)
            | ((with_reducible refine s_reg ?_); intro K hK)
            | ((with_reducible refine k_nil ?_); (with_reducible apply s_nil hK); (· (repeat (first | exact norm_nil | ((with_reducible apply norm_cons); (· rfl)) | ((with_reducible apply norm_skip); (· rfl))))); clear hK; clear K)
            | ((with_reducible refine k_cond ?_); (first | ((with_reducible apply s_condT); (· rfl); (· (repeat (first | exact norm_nil | ((with_reducible apply norm_cons); (· rfl)) | ((with_reducible apply norm_skip); (· rfl)))))) | ((with_reducible apply s_condF); (· rfl); (· (repeat (first | exact norm_nil | ((with_reducible apply norm_cons); (· rfl)) | ((with_reducible apply norm_skip); (· rfl)))))) | ((with_reducible apply s_condS); (· rfl); (· (repeat (first | exact norm_nil | ((with_reducible apply norm_cons); (· rfl)) | ((with_reducible apply norm_skip); (· rfl))))); (· (repeat (first | exact norm_nil | ((with_reducible apply norm_cons); (· rfl)) | ((with_reducible apply norm_skip); (· rfl))))))))
            | ((with_reducible refine k_guard ?_); (first | (refine s_gt rfl ?_) | (refine s_gf1 rfl ?_) | (refine s_gfn rfl ?_) | (refine s_gx1 rfl ?_) | (refine s_gxn rfl ?_) | (refine s_gs rfl ?_)))
            | ((with_reducible refine k_mv ?_); (refine s_mv rfl ?_))
            | ((with_reducible refine k_len ?_); (first | (refine s_len rfl rfl ?_) | ((with_reducible apply s_len); (· rfl); (· exact SlOwn.len (by assumption)))))
            | ((with_reducible refine k_pick ?_); (first | (refine s_pickT rfl rfl ?_) | (refine s_pickF rfl rfl ?_)))
            | ((with_reducible refine k_not ?_); (refine s_not rfl (by first | exact Bool.not_true | exact Bool.not_false | rfl) ?_))
            | ((with_reducible refine k_lss ?_); (refine s_lss rfl rfl ?_))
            | ((with_reducible refine k_geq ?_); (refine s_geq rfl rfl ?_))
            | ((with_reducible refine k_iaddr ?_); (first | ((with_reducible apply s_iaddrV); (· rfl); (· rfl); (· (first | omega | exact ⟨rfl, by omega⟩ | skip))) | ((with_reducible apply s_iaddrO); (· rfl); (· rfl); (· (first | omega | exact ⟨rfl, by omega⟩ | skip)); (· (first | exact upd_self | rfl | assumption | (simp (disch := omega) only [upd_self, upd_ne]; first | done | rfl | assumption)))) | ((with_reducible apply s_iaddrSO); (· rfl); (· assumption); (· rfl); (· (first | omega | exact ⟨rfl, by omega⟩ | skip)); (· (first | (simp (disch := omega) only [w64, wu8, wu16, wu32, wu64, tm_nn, td_nn, fd_nn, Int.reduceAdd, Int.reduceSub, Int.reduceMul, Int.reduceDiv, Int.reduceMod, Int.reduceNeg, Int.reduceToNat, Int.toNat_natCast, Int.toNat_zero, Int.zero_add, Int.add_zero, Int.one_mul, Int.reducePow, Nat.mul_one, Nat.zero_add, Nat.add_zero, Nat.zero_mul, Nat.reduceAdd, Nat.reduceMul, Nat.reduceSub, Nat.min_eq_left, IntKind.bits, Nat.sub_zero, g10, g9, g9k, s4]; try rfl; done) | rfl)); intro ks hks)))
            | ((with_reducible refine k_load ?_); (first | ((with_reducible apply s_loadV); (· rfl)) | ((with_reducible apply s_loadP); (· rfl); (· (first | exact upd_self | rfl | assumption | (simp (disch := omega) only [upd_self, upd_ne]; first | done | rfl | assumption))))))
            | ((with_reducible refine k_add ?_); ((with_reducible apply s_add); (· rfl); (· rfl)))
            | ((with_reducible refine k_store ?_); ((with_reducible apply s_store0); (· rfl); (· rfl); (· rfl); (· (first | exact upd_self | rfl | assumption | (simp (disch := omega) only [upd_self, upd_ne]; first | done | rfl | assumption))); (· (exact ⟨rfl, by first | exact Nat.le_of_ble_eq_true rfl | omega | (simp [g10, g9, g9k, s4]; omega)⟩)); (· ((first | (simp (disch := omega) only [upd_self, upd_ne, upd_upd, rep, splice, List.take_succ_cons, List.take_zero, List.drop_succ_cons, List.drop_zero, List.cons_append, List.nil_append, List.append_nil, List.length_cons, List.length_nil, List.reduceReplicate, List.flatten_cons, List.flatten_nil, Nat.reduceAdd, Nat.reduceMul, Nat.reduceSub, Nat.zero_add, Nat.add_zero, List.getElem?_cons_zero, List.getElem?_cons_succ, g10, g9, g9k, s4]; try rfl; done) | rfl))); (· (first | exact upd_upd | rfl))))
            | ((with_reducible refine k_faddr ?_); (first | ((with_reducible apply s_faddrV); (· rfl); (· rfl)) | ((with_reducible apply s_faddrP); (· rfl); (· rfl))))
            | ((with_reducible refine k_callF ?_); (first | ((with_reducible apply s_call1); (· rfl)) | ((with_reducible apply s_calln); (· rfl))))
            | ((with_reducible refine k_con ?_); (first | ((with_reducible apply con_val (c2)); (· (repeat (first | exact All2.nil | (apply All2.cons; (· first | exact Rd_int | exact Rd_bool | exact Rd_vs | exact Rd_nil | exact Rd_emp | exact Rd_vp | exact Rd_sl0 upd_self rfl rfl | exact Rd_fn0 | exact Rd_flat rfl | ((apply Rd_sl0); (· (first | exact upd_self | rfl | assumption | (simp (disch := omega) only [upd_self, upd_ne]; first | done | rfl | assumption))); (· first | rfl | exact scal_i | exact scal_b | assumption); (· first | rfl | assumption | (simp [g10, g9, g9k, s4]; done) | (simp [g10, g9, g9k, s4]; omega))) | ((apply Rd_so); (· first | assumption | ((repeat' (first | assumption | (with_reducible apply SlOwn.upd) | (simp only [upd_none]; assumption))); done)); (· first | rfl | exact scal_i | exact scal_b | assumption))))))); (· rfl); (· exact fun _ => rfl))))
            | ((with_reducible refine k_dreg ?_); refine s_dreg rfl rfl ?_; intro K hK)
            | (with_reducible refine d_nilS ?_)
            | ((with_reducible refine k_dnil ?_); (with_reducible apply d_nil hK); (· (repeat (first | exact norm_nil | ((with_reducible apply norm_cons); (· rfl)) | ((with_reducible apply norm_skip); (· rfl))))); clear hK; clear K)
            | ((with_reducible refine k_dguard ?_); (first | (refine d_gt rfl ?_) | (refine d_gf rfl ?_) | (refine d_gx rfl ?_) | (refine d_gs rfl ?_)))
            | ((with_reducible refine k_dop ?_); refine d_step (by first | exact Or.inl rfl | exact Or.inr rfl) ?_)
            | (with_reducible refine d_back ?_)
            | ((with_reducible refine k_br ?_); (first | (with_reducible first | refine Br_dec ?_ | refine Br_not ?_ | refine Br_eqF ?_ | refine Br_and ?_ | refine Br_or ?_ | refine Br_neg ?_ | refine Br_band ?_ | refine Br_bor ?_ | refine Br_beq ?_) | (refine Br_t (by first | omega | assumption | rfl) ?_) | (refine Br_f (by first | omega | assumption | decide) ?_) | (with_reducible apply Br_sb <;> intro hbr <;> (first | subst hbr | simp only [hbr] | skip)) | (with_reducible apply Br_s <;> intro hbr)))
            | (with_reducible refine WN_succ ?_)
            | ((first | (with_reducible apply q_eqI) | (with_reducible apply q_eqN)); (first | (simp (disch := omega) only [w64, wu8, wu16, wu32, wu64, tm_nn, td_nn, fd_nn, Int.reduceAdd, Int.reduceSub, Int.reduceMul, Int.reduceDiv, Int.reduceMod, Int.reduceNeg, Int.reduceToNat, Int.toNat_natCast, Int.toNat_zero, Int.zero_add, Int.add_zero, Int.one_mul, Int.reducePow, Nat.mul_one, Nat.zero_add, Nat.add_zero, Nat.zero_mul, Nat.reduceAdd, Nat.reduceMul, Nat.reduceSub, Nat.min_eq_left, IntKind.bits, Nat.sub_zero, g10, g9, g9k, s4]; try rfl; done) | rfl))
            | ((first | (with_reducible apply q_eqL) | (with_reducible apply q_eqO)); (first | (simp (disch := omega) only [upd_self, upd_ne, upd_upd, rep, splice, List.take_succ_cons, List.take_zero, List.drop_succ_cons, List.drop_zero, List.cons_append, List.nil_append, List.append_nil, List.length_cons, List.length_nil, List.reduceReplicate, List.flatten_cons, List.flatten_nil, Nat.reduceAdd, Nat.reduceMul, Nat.reduceSub, Nat.zero_add, Nat.add_zero, List.getElem?_cons_zero, List.getElem?_cons_succ, g10, g9, g9k, s4]; try rfl; done) | rfl)))
        all_goals first | (exfalso; omega) | (exfalso; have := hsn (by omega); omega) | skip
        all_goals exact ⟨gs, a, _, rfl, upd_self, hls, by rw [show (n : Int) - (i + 1 : Nat) = n - i - 1 by omega]; exact hnx⟩
      · rintro e' h' ⟨fs, k, h1, he, hk, hfl, ho⟩
        cases he
        have c2 := oldest_c fs (by omega)
        rw [Int.sub_self] at ho
        rw [ord_end ho] at c2
        have lf2 := frs_len fs
        have sf2 := frs_scal fs
        simp only [frs, hfl] at c2 lf2
        repeat' (first
          | (with_reducible first | refine W_seq ?_ | refine then_n ?_ | refine W_block ?_ | refine blk_n ?_ | refine blk_r ?_ | refine blk_e ?_ | refine W_skip ?_ | refine W_ret ?_ | refine then_r ?_ | refine W_exit ?_ | refine then_e ?_)
          | (refine blk_j (by decide) ?_)
          | ((with_reducible refine s_reg ?_); intro K hK)
          | ((with_reducible refine k_nil ?_); (with_reducible apply s_nil hK); (· (repeat (first | exact norm_nil | ((with_reducible apply norm_cons); (· rfl)) | ((with_reducible apply norm_skip); (· rfl))))); clear hK; clear K)
          | ((with_reducible refine k_cond ?_); (first | ((with_reducible apply s_condT); (· rfl); (· (repeat (first | exact norm_nil | ((with_reducible apply norm_cons); (· rfl)) | ((with_reducible apply norm_skip); (· rfl)))))) | ((with_reducible apply s_condF); (· rfl); (· (repeat (first | exact norm_nil | ((with_reducible apply norm_cons); (· rfl)) | ((with_reducible apply norm_skip); (· rfl)))))) | ((with_reducible apply s_condS); (· rfl); (· (repeat (first | exact norm_nil | ((with_reducible apply norm_cons); (· rfl)) | ((with_reducible apply norm_skip); (· rfl))))); (· (repeat (first | exact norm_nil | ((with_reducible apply norm_cons); (· rfl)) | ((with_reducible apply norm_skip); (· rfl))))))))
          | ((with_reducible refine k_guard ?_); (first | (refine s_gt rfl ?_) | (refine s_gf1 rfl ?_) | (refine s_gfn rfl ?_) | (refine s_gx1 rfl ?_) | (refine s_gxn rfl ?_) | (refine s_gs rfl ?_)))
          | ((with_reducible refine k_mv ?_); (refine s_mv rfl ?_))
          | ((with_reducible refine k_eql ?_); (first | (refine s_eql rfl rfl ?_) | (refine s_strEq rfl rfl ?_)))
          | ((with_reducible refine k_lss ?_); (refine s_lss rfl rfl ?_))
          | ((with_reducible refine k_callF ?_); (first | ((with_reducible apply s_call1); (· rfl)) | ((with_reducible apply s_calln); (· rfl))))
          | ((with_reducible refine k_con ?_); (first | ((with_reducible apply con_val (c2)); (· (repeat (first | exact All2.nil | (apply All2.cons; (· first | exact Rd_int | exact Rd_bool | exact Rd_vs | exact Rd_nil | exact Rd_emp | exact Rd_vp | exact Rd_sl0 upd_self rfl rfl | exact Rd_fn0 | exact Rd_flat rfl | ((apply Rd_sl0); (· (first | exact upd_self | rfl | assumption | (simp (disch := omega) only [upd_self, upd_ne]; first | done | rfl | assumption))); (· first | rfl | exact scal_i | exact scal_b | assumption); (· first | rfl | assumption | (simp; done) | (simp; omega))) | ((apply Rd_so); (· first | assumption | ((repeat' (first | assumption | (with_reducible apply SlOwn.upd) | (simp only [upd_none]; assumption))); done)); (· first | rfl | exact scal_i | exact scal_b | assumption))))))); (· rfl); (· exact fun _ => rfl))))
          | ((with_reducible refine k_dreg ?_); refine s_dreg rfl rfl ?_; intro K hK)
          | (with_reducible refine d_nilS ?_)
          | ((with_reducible refine k_dnil ?_); (with_reducible apply d_nil hK); (· (repeat (first | exact norm_nil | ((with_reducible apply norm_cons); (· rfl)) | ((with_reducible apply norm_skip); (· rfl))))); clear hK; clear K)
          | ((with_reducible refine k_dguard ?_); (first | (refine d_gt rfl ?_) | (refine d_gf rfl ?_) | (refine d_gx rfl ?_) | (refine d_gs rfl ?_)))
          | ((with_reducible refine k_dop ?_); refine d_step (by first | exact Or.inl rfl | exact Or.inr rfl) ?_)
          | (with_reducible refine d_back ?_)
          | ((with_reducible refine k_br ?_); (first | (with_reducible first | refine Br_dec ?_ | refine Br_not ?_ | refine Br_eqF ?_ | refine Br_and ?_ | refine Br_or ?_ | refine Br_neg ?_ | refine Br_band ?_ | refine Br_bor ?_ | refine Br_beq ?_) | (refine Br_t (by first | omega | assumption | rfl) ?_) | (refine Br_f (by first | omega | assumption | decide) ?_) | (with_reducible apply Br_sb <;> intro hbr <;> (first | subst hbr | simp only [hbr] | skip)) | (with_reducible apply Br_s <;> intro hbr)))
          | (with_reducible refine WN_succ ?_)
          | ((first | (with_reducible apply q_eqI) | (with_reducible apply q_eqN)); (first | (simp (disch := omega) only [w64, wu8, wu16, wu32, wu64, tm_nn, td_nn, fd_nn, Int.reduceAdd, Int.reduceSub, Int.reduceMul, Int.reduceDiv, Int.reduceMod, Int.reduceNeg, Int.reduceToNat, Int.toNat_natCast, Int.toNat_zero, Int.zero_add, Int.add_zero, Int.one_mul, Int.reducePow, Nat.mul_one, Nat.zero_add, Nat.add_zero, Nat.zero_mul, Nat.reduceAdd, Nat.reduceMul, Nat.reduceSub, Nat.min_eq_left, IntKind.bits, Nat.sub_zero]; try rfl; done) | rfl))
          | ((first | (with_reducible apply q_eqL) | (with_reducible apply q_eqO)); (first | (simp (disch := omega) only [upd_self, upd_ne, upd_upd, rep, splice, List.take_succ_cons, List.take_zero, List.drop_succ_cons, List.drop_zero, List.cons_append, List.nil_append, List.append_nil, List.length_cons, List.length_nil, List.reduceReplicate, List.flatten_cons, List.flatten_nil, Nat.reduceAdd, Nat.reduceMul, Nat.reduceSub, Nat.zero_add, Nat.add_zero, List.getElem?_cons_zero, List.getElem?_cons_succ]; try rfl; done) | rfl)))
        all_goals first | (exfalso; omega) | (first | exact Fin_flat trivial rfl rfl | (refine Fin_tup trivial rfl ?_ (Nat.le_of_ble_eq_true rfl); (repeat (first | exact All2.nil | (apply All2.cons; (· first | exact exc_n | exact exc_e | exact exc_v rfl rfl | exact exc_o upd_self rfl rfl)))); done) | (refine Fin_own trivial rfl upd_self ?_ (Nat.le_of_ble_eq_true rfl); (repeat (first | exact All2.nil | (apply All2.cons; (· first | exact exc_n | exact exc_e | exact exc_v rfl rfl | exact exc_o upd_self rfl rfl)))); done) | exact Fin_nil trivial rfl | exact Fin_sl trivial rfl upd_self rfl rfl)
  · repeat' (first
      | (with_reducible first | refine W_seq ?_ | refine then_n ?_ | refine W_block ?_ | refine blk_n ?_ | refine blk_r ?_ | refine blk_e ?_ | refine W_skip ?_ | refine W_ret ?_ | refine then_r ?_ | refine W_exit ?_ | refine then_e ?_)
      | (refine blk_j (by decide) ?_)
      | ((with_reducible refine s_reg ?_); intro K hK)
      | ((with_reducible refine k_nil ?_); (with_reducible apply s_nil hK); (· (repeat (first | exact norm_nil | ((with_reducible apply norm_cons); (· rfl)) | ((with_reducible apply norm_skip); (· rfl))))); clear hK; clear K)
      | ((with_reducible refine k_cond ?_); (first | ((with_reducible apply s_condT); (· rfl); (· (repeat (first | exact norm_nil | ((with_reducible apply norm_cons); (· rfl)) | ((with_reducible apply norm_skip); (· rfl)))))) | ((with_reducible apply s_condF); (· rfl); (· (repeat (first | exact norm_nil | ((with_reducible apply norm_cons); (· rfl)) | ((with_reducible apply norm_skip); (· rfl)))))) | ((with_reducible apply s_condS); (· rfl); (· (repeat (first | exact norm_nil | ((with_reducible apply norm_cons); (· rfl)) | ((with_reducible apply norm_skip); (· rfl))))); (· (repeat (first | exact norm_nil | ((with_reducible apply norm_cons); (· rfl)) | ((with_reducible apply norm_skip); (· rfl))))))))
      | ((with_reducible refine k_guard ?_); (first | (refine s_gt rfl ?_) | (refine s_gf1 rfl ?_) | (refine s_gfn rfl ?_) | (refine s_gx1 rfl ?_) | (refine s_gxn rfl ?_) | (refine s_gs rfl ?_)))
      | ((with_reducible refine k_mv ?_); (refine s_mv rfl ?_))
      | ((with_reducible refine k_len ?_); (first | (refine s_len rfl rfl ?_) | ((with_reducible apply s_len); (· rfl); (· exact SlOwn.len (by assumption)))))
      | ((with_reducible refine k_pick ?_); (first | (refine s_pickT rfl rfl ?_) | (refine s_pickF rfl rfl ?_)))
      | ((with_reducible refine k_not ?_); (refine s_not rfl (by first | exact Bool.not_true | exact Bool.not_false | rfl) ?_))
      | ((with_reducible refine k_gtr ?_); (refine s_gtr rfl rfl ?_))
      | ((with_reducible refine k_callF ?_); (first | ((with_reducible apply s_call1); (· rfl)) | ((with_reducible apply s_calln); (· rfl))))
      | ((with_reducible refine k_con ?_); (first | ((with_reducible apply con_val (awake_c)); (· (repeat (first | exact All2.nil | (apply All2.cons; (· first | exact Rd_int | exact Rd_bool | exact Rd_vs | exact Rd_nil | exact Rd_emp | exact Rd_vp | exact Rd_sl0 upd_self rfl rfl | exact Rd_fn0 | exact Rd_flat rfl | ((apply Rd_sl0); (· (first | exact upd_self | rfl | assumption | (simp (disch := omega) only [upd_self, upd_ne]; first | done | rfl | assumption))); (· first | rfl | exact scal_i | exact scal_b | assumption); (· first | rfl | assumption | (simp; done) | (simp; omega))) | ((apply Rd_so); (· first | assumption | ((repeat' (first | assumption | (with_reducible apply SlOwn.upd) | (simp only [upd_none]; assumption))); done)); (· first | rfl | exact scal_i | exact scal_b | assumption))))))); (· rfl); (· exact fun _ => rfl))))
      | ((with_reducible refine k_dreg ?_); refine s_dreg rfl rfl ?_; intro K hK)
      | (with_reducible refine d_nilS ?_)
      | ((with_reducible refine k_dnil ?_); (with_reducible apply d_nil hK); (· (repeat (first | exact norm_nil | ((with_reducible apply norm_cons); (· rfl)) | ((with_reducible apply norm_skip); (· rfl))))); clear hK; clear K)
      | ((with_reducible refine k_dguard ?_); (first | (refine d_gt rfl ?_) | (refine d_gf rfl ?_) | (refine d_gx rfl ?_) | (refine d_gs rfl ?_)))
      | ((with_reducible refine k_dop ?_); refine d_step (by first | exact Or.inl rfl | exact Or.inr rfl) ?_)
      | (with_reducible refine d_back ?_)
      | ((with_reducible refine k_br ?_); (first | (with_reducible first | refine Br_dec ?_ | refine Br_not ?_ | refine Br_eqF ?_ | refine Br_and ?_ | refine Br_or ?_ | refine Br_neg ?_ | refine Br_band ?_ | refine Br_bor ?_ | refine Br_beq ?_) | (refine Br_t (by first | omega | assumption | rfl) ?_) | (refine Br_f (by first | omega | assumption | decide) ?_) | (with_reducible apply Br_sb <;> intro hbr <;> (first | subst hbr | simp only [hbr] | skip)) | (with_reducible apply Br_s <;> intro hbr)))
      | (with_reducible refine WN_succ ?_)
      | ((first | (with_reducible apply q_eqI) | (with_reducible apply q_eqN)); (first | (simp (disch := omega) only [w64, wu8, wu16, wu32, wu64, tm_nn, td_nn, fd_nn, Int.reduceAdd, Int.reduceSub, Int.reduceMul, Int.reduceDiv, Int.reduceMod, Int.reduceNeg, Int.reduceToNat, Int.toNat_natCast, Int.toNat_zero, Int.zero_add, Int.add_zero, Int.one_mul, Int.reducePow, Nat.mul_one, Nat.zero_add, Nat.add_zero, Nat.zero_mul, Nat.reduceAdd, Nat.reduceMul, Nat.reduceSub, Nat.min_eq_left, IntKind.bits, Nat.sub_zero]; try rfl; done) | rfl))
      | ((first | (with_reducible apply q_eqL) | (with_reducible apply q_eqO)); (first | (simp (disch := omega) only [upd_self, upd_ne, upd_upd, rep, splice, List.take_succ_cons, List.take_zero, List.drop_succ_cons, List.drop_zero, List.cons_append, List.nil_append, List.append_nil, List.length_cons, List.length_nil, List.reduceReplicate, List.flatten_cons, List.flatten_nil, Nat.reduceAdd, Nat.reduceMul, Nat.reduceSub, Nat.zero_add, Nat.add_zero, List.getElem?_cons_zero, List.getElem?_cons_succ]; try rfl; done) | rfl)))
    all_goals first | exact Fin_flat trivial rfl rfl | (refine Fin_tup trivial rfl ?_ (Nat.le_of_ble_eq_true rfl); (repeat (first | exact All2.nil | (apply All2.cons; (· first | exact exc_n | exact exc_e | exact exc_v rfl rfl | exact exc_o upd_self rfl rfl)))); done) | (refine Fin_own trivial rfl upd_self ?_ (Nat.le_of_ble_eq_true rfl); (repeat (first | exact All2.nil | (apply All2.cons; (· first | exact exc_n | exact exc_e | exact exc_v rfl rfl | exact exc_o upd_self rfl rfl)))); done) | exact Fin_nil trivial rfl | exact Fin_sl trivial rfl upd_self rfl rfl
theorem order_t : ∀ dts, All2 (TypedA Try.prog) Try.f8.params.toList dts → PCon Try.prog 8 dts (.bool true) := by
  intro dts h
  rw [Try.params8] at h
  obtain ⟨a, rfl, ha⟩ := one_arg h
  obtain ⟨l, rfl, hl, hk⟩ := typed_sks ha
  exact order_c l hk
end Go.Proofs.Ytnngcjipfdejcaa
