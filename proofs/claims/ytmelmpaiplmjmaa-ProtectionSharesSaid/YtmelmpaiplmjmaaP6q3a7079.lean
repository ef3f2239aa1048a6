/- Protection: contracts of the reference's functions. -/
import Derived.Test.YtmelmpaiplmjmaaP4qfc5fa7
set_option linter.unusedSimpArgs false
set_option linter.unusedVariables false
namespace Go.Proofs.Ytmelmpaiplmjmaa
open Go.AM Classical
set_option maxRecDepth 100000
set_option maxHeartbeats 4000000
theorem isame_c (a b : List Int) (hl : a.length ≤ 9223372036854775807) : PCon Try.prog 15 [ints a, ints b] (.bool (decide (a = b))) := by
  refine A15p (by simp [A15]) ?_
  simp only [A15, argEnv]
  repeat' (first
    | (with_reducible first | refine W_seq ?_ | refine then_n ?_ | refine W_block ?_ | refine blk_n ?_ | refine blk_r ?_ | refine blk_e ?_ | refine W_skip ?_ | refine W_ret ?_ | refine then_r ?_ | refine W_exit ?_ | refine then_e ?_)
    | (refine blk_j (by decide) ?_)
    | ((with_reducible refine s_reg ?_); intro K hK)
    | ((with_reducible refine k_nil ?_); (with_reducible apply s_nil hK); (· (repeat (first | exact norm_nil | ((with_reducible apply norm_cons); (· rfl)) | ((with_reducible apply norm_skip); (· rfl))))); clear hK; clear K)
    | ((with_reducible refine k_cond ?_); (first | ((with_reducible apply s_condT); (· rfl); (· (repeat (first | exact norm_nil | ((with_reducible apply norm_cons); (· rfl)) | ((with_reducible apply norm_skip); (· rfl)))))) | ((with_reducible apply s_condF); (· rfl); (· (repeat (first | exact norm_nil | ((with_reducible apply norm_cons); (· rfl)) | ((with_reducible apply norm_skip); (· rfl)))))) | ((with_reducible apply s_condS); (· rfl); (· (repeat (first | exact norm_nil | ((with_reducible apply norm_cons); (· rfl)) | ((with_reducible apply norm_skip); (· rfl))))); (· (repeat (first | exact norm_nil | ((with_reducible apply norm_cons); (· rfl)) | ((with_reducible apply norm_skip); (· rfl))))))))
    | ((with_reducible refine k_guard ?_); (first | (refine s_gt rfl ?_) | (refine s_gf1 rfl ?_) | (refine s_gfn rfl ?_) | (refine s_gx1 rfl ?_) | (refine s_gxn rfl ?_) | (refine s_gs rfl ?_)))
    | ((with_reducible refine k_mv ?_); (refine s_mv rfl ?_))
    | ((with_reducible refine k_len ?_); (first | (refine s_len rfl rfl ?_) | ((with_reducible apply s_len); (· rfl); (· exact SlOwn.len (by assumption)))))
    | ((with_reducible refine k_neq ?_); (first | (refine s_neq rfl rfl ?_) | (refine s_strNe rfl rfl ?_)))
    | ((with_reducible refine k_dreg ?_); refine s_dreg rfl rfl ?_; intro K hK)
    | (with_reducible refine d_nilS ?_)
    | ((with_reducible refine k_dnil ?_); (with_reducible apply d_nil hK); (· (repeat (first | exact norm_nil | ((with_reducible apply norm_cons); (· rfl)) | ((with_reducible apply norm_skip); (· rfl))))); clear hK; clear K)
    | ((with_reducible refine k_dguard ?_); (first | (refine d_gt rfl ?_) | (refine d_gf rfl ?_) | (refine d_gx rfl ?_) | (refine d_gs rfl ?_)))
    | ((with_reducible refine k_dop ?_); refine d_step (by first | exact Or.inl rfl | exact Or.inr rfl) ?_)
    | (with_reducible refine d_back ?_)
    | ((with_reducible refine k_br ?_); (first | (with_reducible first | refine Br_dec ?_ | refine Br_not ?_ | refine Br_eqF ?_ | refine Br_and ?_ | refine Br_or ?_ | refine Br_neg ?_ | refine Br_band ?_ | refine Br_bor ?_ | refine Br_beq ?_) | (refine Br_t (by first | omega | assumption | rfl) ?_) | (refine Br_f (by first | omega | assumption | decide) ?_) | (with_reducible apply Br_sb <;> intro hbr <;> (first | subst hbr | simp only [hbr] | skip)) | (with_reducible apply Br_s <;> intro hbr)))
    | (with_reducible refine WN_succ ?_)
    | ((first | (with_reducible apply q_eqI) | (with_reducible apply q_eqN)); (first | (simp (disch := omega) only [w64, wu8, wu16, wu32, wu64, tm_nn, td_nn, fd_nn, Int.reduceAdd, Int.reduceSub, Int.reduceMul, Int.reduceDiv, Int.reduceMod, Int.reduceNeg, Int.reduceToNat, Int.toNat_natCast, Int.toNat_zero, Int.zero_add, Int.add_zero, Int.one_mul, Int.reducePow, Nat.mul_one, Nat.zero_add, Nat.add_zero, Nat.zero_mul, Nat.reduceAdd, Nat.reduceMul, Nat.reduceSub, Nat.min_eq_left, IntKind.bits, Nat.sub_zero]; try rfl; done) | rfl))
    | ((first | (with_reducible apply q_eqL) | (with_reducible apply q_eqO)); (first | (simp (disch := omega) only [upd_self, upd_ne, upd_upd, rep, splice, List.take_succ_cons, List.take_zero, List.drop_succ_cons, List.drop_zero, List.cons_append, List.nil_append, List.append_nil, List.length_cons, List.length_nil, List.reduceReplicate, List.flatten_cons, List.flatten_nil, Nat.reduceAdd, Nat.reduceMul, Nat.reduceSub, Nat.zero_add, Nat.add_zero, List.getElem?_cons_zero, List.getElem?_cons_succ]; try rfl; done) | rfl)))
  all_goals first | exact Fin_bf trivial rfl (by rintro rfl; omega) | skip
  refine W_for a.length (fun i st => (∀ j (h1 : j < a.length) (h2 : j < b.length), j < i → a[j] = b[j]) ∧ st = ⟨[(0, ints a), (1, ints b), (5, .int .i64 i)], fun _ => none⟩) ⟨fun j _ _ h => by omega, rfl⟩ ?_ ?_
  · rintro i e' h' hi ⟨hj, he⟩
    cases he
    have hib : i < b.length := by omega
    have g1 := map_g (k := .i64) hi
    have g2 := map_g (k := .i64) hib
    rw [← getD_at hi] at g1
    rw [← getD_at hib] at g2
    have hne : a[i] ≠ b[i] → a ≠ b := fun h h2 => h (by subst h2; rfl)
    have heq : a[i] = b[i] → ∀ j (h1 : j < a.length) (h2 : j < b.length), j < i + 1 → a[j] = b[j] := fun h j h1 h2 h3 => by
      rcases Nat.lt_succ_iff_lt_or_eq.1 h3 with h4 | rfl
      · exact hj j h1 h2 h4
      · exact h
    generalize a[i] = x at *
    generalize b[i] = y at *
    repeat' (first
      | (with_reducible first | refine W_seq ?_ | refine then_n ?_ | refine W_block ?_ | refine blk_n ?_ | refine blk_r ?_ | refine blk_e ?_ | refine W_skip ?_ | refine W_ret ?_ | refine then_r ?_ | refine W_exit ?_ | refine then_e ?_)
      | (refine blk_j (by decide) ?_)
      | ((with_reducible refine s_reg ?_); intro K hK)
      | ((with_reducible refine k_nil ?_); (with_reducible apply s_nil hK); (· (repeat (first | exact norm_nil | ((with_reducible apply norm_cons); (· rfl)) | ((with_reducible apply norm_skip); (· rfl))))); clear hK; clear K)
      | ((with_reducible refine k_cond ?_); (first | ((with_reducible apply s_condT); (· rfl); (· (repeat (first | exact norm_nil | ((with_reducible apply norm_cons); (· rfl)) | ((with_reducible apply norm_skip); (· rfl)))))) | ((with_reducible apply s_condF); (· rfl); (· (repeat (first | exact norm_nil | ((with_reducible apply norm_cons); (· rfl)) | ((with_reducible apply norm_skip); (· rfl)))))) | ((with_reducible apply s_condS); (· rfl); (· (repeat (first | exact norm_nil | ((with_reducible apply norm_cons); (· rfl)) | ((with_reducible apply norm_skip); (· rfl))))); (· (repeat (first | exact norm_nil | ((with_reducible apply norm_cons); (· rfl)) | ((with_reducible apply norm_skip); (· rfl))))))))
      | ((with_reducible refine k_guard ?_); (first | (refine s_gt rfl ?_) | (refine s_gf1 rfl ?_) | (refine s_gfn rfl ?_) | (refine s_gx1 rfl ?_) | (refine s_gxn rfl ?_) | (refine s_gs rfl ?_)))
      | ((with_reducible refine k_mv ?_); (refine s_mv rfl ?_))
      | ((with_reducible refine k_len ?_); (first | (refine s_len rfl rfl ?_) | ((with_reducible apply s_len); (· rfl); (· exact SlOwn.len (by assumption)))))
      | ((with_reducible refine k_neq ?_); (first | (refine s_neq rfl rfl ?_) | (refine s_strNe rfl rfl ?_)))
      | ((with_reducible refine k_lss ?_); (refine s_lss rfl rfl ?_))
      | ((with_reducible refine k_iaddr ?_); (first | ((with_reducible apply s_iaddrV); (· rfl); (· rfl); (· (first | omega | exact ⟨rfl, by omega⟩ | skip))) | ((with_reducible apply s_iaddrO); (· rfl); (· rfl); (· (first | omega | exact ⟨rfl, by omega⟩ | skip)); (· (first | exact upd_self | rfl | assumption | (simp (disch := omega) only [upd_self, upd_ne]; first | done | rfl | assumption)))) | ((with_reducible apply s_iaddrSO); (· rfl); (· assumption); (· rfl); (· (first | omega | exact ⟨rfl, by omega⟩ | skip)); (· (first | (simp (disch := omega) only [w64, wu8, wu16, wu32, wu64, tm_nn, td_nn, fd_nn, Int.reduceAdd, Int.reduceSub, Int.reduceMul, Int.reduceDiv, Int.reduceMod, Int.reduceNeg, Int.reduceToNat, Int.toNat_natCast, Int.toNat_zero, Int.zero_add, Int.add_zero, Int.one_mul, Int.reducePow, Nat.mul_one, Nat.zero_add, Nat.add_zero, Nat.zero_mul, Nat.reduceAdd, Nat.reduceMul, Nat.reduceSub, Nat.min_eq_left, IntKind.bits, Nat.sub_zero, g1, g2]; try rfl; done) | rfl)); intro ks hks)))
      | ((with_reducible refine k_load ?_); (first | ((with_reducible apply s_loadV); (· rfl)) | ((with_reducible apply s_loadP); (· rfl); (· (first | exact upd_self | rfl | assumption | (simp (disch := omega) only [upd_self, upd_ne]; first | done | rfl | assumption))))))
      | ((with_reducible refine k_add ?_); ((with_reducible apply s_add); (· rfl); (· rfl)))
      | ((with_reducible refine k_dreg ?_); refine s_dreg rfl rfl ?_; intro K hK)
      | (with_reducible refine d_nilS ?_)
      | ((with_reducible refine k_dnil ?_); (with_reducible apply d_nil hK); (· (repeat (first | exact norm_nil | ((with_reducible apply norm_cons); (· rfl)) | ((with_reducible apply norm_skip); (· rfl))))); clear hK; clear K)
      | ((with_reducible refine k_dguard ?_); (first | (refine d_gt rfl ?_) | (refine d_gf rfl ?_) | (refine d_gx rfl ?_) | (refine d_gs rfl ?_)))
      | ((with_reducible refine k_dop ?_); refine d_step (by first | exact Or.inl rfl | exact Or.inr rfl) ?_)
      | (with_reducible refine d_back ?_)
      | ((with_reducible refine k_br ?_); (first | (with_reducible first | refine Br_dec ?_ | refine Br_not ?_ | refine Br_eqF ?_ | refine Br_and ?_ | refine Br_or ?_ | refine Br_neg ?_ | refine Br_band ?_ | refine Br_bor ?_ | refine Br_beq ?_) | (refine Br_t (by first | omega | assumption | rfl) ?_) | (refine Br_f (by first | omega | assumption | decide) ?_) | (with_reducible apply Br_sb <;> intro hbr <;> (first | subst hbr | simp only [hbr] | skip)) | (with_reducible apply Br_s <;> intro hbr)))
      | (with_reducible refine WN_succ ?_)
      | ((first | (with_reducible apply q_eqI) | (with_reducible apply q_eqN)); (first | (simp (disch := omega) only [w64, wu8, wu16, wu32, wu64, tm_nn, td_nn, fd_nn, Int.reduceAdd, Int.reduceSub, Int.reduceMul, Int.reduceDiv, Int.reduceMod, Int.reduceNeg, Int.reduceToNat, Int.toNat_natCast, Int.toNat_zero, Int.zero_add, Int.add_zero, Int.one_mul, Int.reducePow, Nat.mul_one, Nat.zero_add, Nat.add_zero, Nat.zero_mul, Nat.reduceAdd, Nat.reduceMul, Nat.reduceSub, Nat.min_eq_left, IntKind.bits, Nat.sub_zero, g1, g2]; try rfl; done) | rfl))
      | ((first | (with_reducible apply q_eqL) | (with_reducible apply q_eqO)); (first | (simp (disch := omega) only [upd_self, upd_ne, upd_upd, rep, splice, List.take_succ_cons, List.take_zero, List.drop_succ_cons, List.drop_zero, List.cons_append, List.nil_append, List.append_nil, List.length_cons, List.length_nil, List.reduceReplicate, List.flatten_cons, List.flatten_nil, Nat.reduceAdd, Nat.reduceMul, Nat.reduceSub, Nat.zero_add, Nat.add_zero, List.getElem?_cons_zero, List.getElem?_cons_succ, g1, g2]; try rfl; done) | rfl)))
    all_goals first | exact ⟨heq (by assumption), rfl⟩ | exact ⟨heq rfl, rfl⟩ | exact Fin_bf trivial rfl (hne (by assumption))
  · rintro e' h' ⟨hj, he⟩
    cases he
    repeat' (first
      | (with_reducible first | refine W_seq ?_ | refine then_n ?_ | refine W_block ?_ | refine blk_n ?_ | refine blk_r ?_ | refine blk_e ?_ | refine W_skip ?_ | refine W_ret ?_ | refine then_r ?_ | refine W_exit ?_ | refine then_e ?_)
      | (refine blk_j (by decide) ?_)
      | ((with_reducible refine s_reg ?_); intro K hK)
      | ((with_reducible refine k_nil ?_); (with_reducible apply s_nil hK); (· (repeat (first | exact norm_nil | ((with_reducible apply norm_cons); (· rfl)) | ((with_reducible apply norm_skip); (· rfl))))); clear hK; clear K)
      | ((with_reducible refine k_cond ?_); (first | ((with_reducible apply s_condT); (· rfl); (· (repeat (first | exact norm_nil | ((with_reducible apply norm_cons); (· rfl)) | ((with_reducible apply norm_skip); (· rfl)))))) | ((with_reducible apply s_condF); (· rfl); (· (repeat (first | exact norm_nil | ((with_reducible apply norm_cons); (· rfl)) | ((with_reducible apply norm_skip); (· rfl)))))) | ((with_reducible apply s_condS); (· rfl); (· (repeat (first | exact norm_nil | ((with_reducible apply norm_cons); (· rfl)) | ((with_reducible apply norm_skip); (· rfl))))); (· (repeat (first | exact norm_nil | ((with_reducible apply norm_cons); (· rfl)) | ((with_reducible apply norm_skip); (· rfl))))))))
      | ((with_reducible refine k_guard ?_); (first | (refine s_gt rfl ?_) | (refine s_gf1 rfl ?_) | (refine s_gfn rfl ?_) | (refine s_gx1 rfl ?_) | (refine s_gxn rfl ?_) | (refine s_gs rfl ?_)))
      | ((with_reducible refine k_mv ?_); (refine s_mv rfl ?_))
      | ((with_reducible refine k_len ?_); (first | (refine s_len rfl rfl ?_) | ((with_reducible apply s_len); (· rfl); (· exact SlOwn.len (by assumption)))))
      | ((with_reducible refine k_lss ?_); (refine s_lss rfl rfl ?_))
      | ((with_reducible refine k_dreg ?_); refine s_dreg rfl rfl ?_; intro K hK)
      | (with_reducible refine d_nilS ?_)
      | ((with_reducible refine k_dnil ?_); (with_reducible apply d_nil hK); (· (repeat (first | exact norm_nil | ((with_reducible apply norm_cons); (· rfl)) | ((with_reducible apply norm_skip); (· rfl))))); clear hK; clear K)
      | ((with_reducible refine k_dguard ?_); (first | (refine d_gt rfl ?_) | (refine d_gf rfl ?_) | (refine d_gx rfl ?_) | (refine d_gs rfl ?_)))
      | ((with_reducible refine k_dop ?_); refine d_step (by first | exact Or.inl rfl | exact Or.inr rfl) ?_)
      | (with_reducible refine d_back ?_)
      | ((with_reducible refine k_br ?_); (first | (with_reducible first | refine Br_dec ?_ | refine Br_not ?_ | refine Br_eqF ?_ | refine Br_and ?_ | refine Br_or ?_ | refine Br_neg ?_ | refine Br_band ?_ | refine Br_bor ?_ | refine Br_beq ?_) | (refine Br_t (by first | omega | assumption | rfl) ?_) | (refine Br_f (by first | omega | assumption | decide) ?_) | (with_reducible apply Br_sb <;> intro hbr <;> (first | subst hbr | simp only [hbr] | skip)) | (with_reducible apply Br_s <;> intro hbr)))
      | (with_reducible refine WN_succ ?_)
      | ((first | (with_reducible apply q_eqI) | (with_reducible apply q_eqN)); (first | (simp (disch := omega) only [w64, wu8, wu16, wu32, wu64, tm_nn, td_nn, fd_nn, Int.reduceAdd, Int.reduceSub, Int.reduceMul, Int.reduceDiv, Int.reduceMod, Int.reduceNeg, Int.reduceToNat, Int.toNat_natCast, Int.toNat_zero, Int.zero_add, Int.add_zero, Int.one_mul, Int.reducePow, Nat.mul_one, Nat.zero_add, Nat.add_zero, Nat.zero_mul, Nat.reduceAdd, Nat.reduceMul, Nat.reduceSub, Nat.min_eq_left, IntKind.bits, Nat.sub_zero]; try rfl; done) | rfl))
      | ((first | (with_reducible apply q_eqL) | (with_reducible apply q_eqO)); (first | (simp (disch := omega) only [upd_self, upd_ne, upd_upd, rep, splice, List.take_succ_cons, List.take_zero, List.drop_succ_cons, List.drop_zero, List.cons_append, List.nil_append, List.append_nil, List.length_cons, List.length_nil, List.reduceReplicate, List.flatten_cons, List.flatten_nil, Nat.reduceAdd, Nat.reduceMul, Nat.reduceSub, Nat.zero_add, Nat.add_zero, List.getElem?_cons_zero, List.getElem?_cons_succ]; try rfl; done) | rfl)))
    exact Fin_bt trivial rfl (List.ext_getElem (by omega) fun j h1 h2 => hj j h1 h2 h1)
theorem ifew_c (l : List Acct) (v : List Int) : PCon Try.prog 12 [accs l, ints v] (.bool (decide (l.length ≤ 40 ∧ v.length ≤ 40))) := by
  refine A12p (by simp [A12]) ?_
  simp only [A12, argEnv]
  repeat' (first
    | (with_reducible first | refine W_seq ?_ | refine then_n ?_ | refine W_skip ?_ | refine W_ret ?_ | refine then_r ?_)
    | ((with_reducible refine s_reg ?_); intro K hK)
    | ((with_reducible refine k_nil ?_); (with_reducible apply s_nil hK); (· (repeat (first | exact norm_nil | ((with_reducible apply norm_cons); (· rfl)) | ((with_reducible apply norm_skip); (· rfl))))); clear hK; clear K)
    | ((with_reducible refine k_guard ?_); (first | (refine s_gt rfl ?_) | (refine s_gf1 rfl ?_) | (refine s_gfn rfl ?_) | (refine s_gx1 rfl ?_) | (refine s_gxn rfl ?_) | (refine s_gs rfl ?_)))
    | ((with_reducible refine k_mv ?_); (refine s_mv rfl ?_))
    | ((with_reducible refine k_len ?_); (first | (refine s_len rfl rfl ?_) | ((with_reducible apply s_len); (· rfl); (· exact SlOwn.len (by assumption)))))
    | ((with_reducible refine k_pick ?_); (first | (refine s_pickT rfl rfl ?_) | (refine s_pickF rfl rfl ?_)))
    | ((with_reducible refine k_leq ?_); (refine s_leq rfl rfl ?_))
    | ((with_reducible refine k_br ?_); (first | (with_reducible first | refine Br_dec ?_ | refine Br_not ?_ | refine Br_eqF ?_ | refine Br_and ?_ | refine Br_or ?_ | refine Br_neg ?_ | refine Br_band ?_ | refine Br_bor ?_ | refine Br_beq ?_) | (refine Br_t (by first | omega | assumption | rfl) ?_) | (refine Br_f (by first | omega | assumption | decide) ?_) | (with_reducible apply Br_sb <;> intro hbr <;> (first | subst hbr | simp only [hbr] | skip)) | (with_reducible apply Br_s <;> intro hbr)))
    | (with_reducible refine WN_succ ?_)
    | ((first | (with_reducible apply q_eqI) | (with_reducible apply q_eqN)); (first | (simp (disch := omega) only [w64, wu8, wu16, wu32, wu64, tm_nn, td_nn, fd_nn, Int.reduceAdd, Int.reduceSub, Int.reduceMul, Int.reduceDiv, Int.reduceMod, Int.reduceNeg, Int.reduceToNat, Int.toNat_natCast, Int.toNat_zero, Int.zero_add, Int.add_zero, Int.one_mul, Int.reducePow, Nat.mul_one, Nat.zero_add, Nat.add_zero, Nat.zero_mul, Nat.reduceAdd, Nat.reduceMul, Nat.reduceSub, Nat.min_eq_left, IntKind.bits, Nat.sub_zero]; try rfl; done) | rfl))
    | ((first | (with_reducible apply q_eqL) | (with_reducible apply q_eqO)); (first | (simp (disch := omega) only [upd_self, upd_ne, upd_upd, rep, splice, List.take_succ_cons, List.take_zero, List.drop_succ_cons, List.drop_zero, List.cons_append, List.nil_append, List.append_nil, List.length_cons, List.length_nil, List.reduceReplicate, List.flatten_cons, List.flatten_nil, Nat.reduceAdd, Nat.reduceMul, Nat.reduceSub, Nat.zero_add, Nat.add_zero, List.getElem?_cons_zero, List.getElem?_cons_succ]; try rfl; done) | rfl)))
  all_goals first | exact Fin_bt trivial rfl (by omega) | exact Fin_bf trivial rfl (by omega)
end Go.Proofs.Ytmelmpaiplmjmaa
