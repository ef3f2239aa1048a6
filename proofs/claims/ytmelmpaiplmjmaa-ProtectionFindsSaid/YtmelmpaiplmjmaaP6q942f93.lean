/- Protection: contracts of the reference's functions. -/
import Derived.Test.YtmelmpaiplmjmaaP4qcd13f8
set_option linter.unusedSimpArgs false
set_option linter.unusedVariables false
namespace Go.Proofs.Ytmelmpaiplmjmaa
open Go.AM Classical
set_option maxRecDepth 100000
set_option maxHeartbeats 4000000
theorem rvalid_c (l : List Acct) (hL : l.length ≤ 9223372036854775807) (v : List Int) : PCon Try.prog 32 [accs l, ints v] (.bool (decide (valP l v))) := by
  have c1 := rcheck_c l hL
  refine A32p (by simp [A32]) ?_
  simp only [A32, argEnv]
  by_cases h : chkF l = 0
  · rw [h] at c1
    obtain ⟨hl, _⟩ := chk_ok h
    repeat' (first
      | (with_reducible first | refine W_seq ?_ | refine then_n ?_ | refine W_block ?_ | refine blk_n ?_ | refine blk_r ?_ | refine blk_e ?_ | refine W_skip ?_ | refine W_ret ?_ | refine then_r ?_ | refine W_exit ?_ | refine then_e ?_)
      | (refine blk_j (by decide) ?_)
      | ((with_reducible refine s_reg ?_); intro K hK)
      | ((with_reducible refine k_nil ?_); (with_reducible apply s_nil hK); (· (repeat (first | exact norm_nil | ((with_reducible apply norm_cons); (· rfl)) | ((with_reducible apply norm_skip); (· rfl))))); clear hK; clear K)
      | ((with_reducible refine k_cond ?_); (first | ((with_reducible apply s_condT); (· rfl); (· (repeat (first | exact norm_nil | ((with_reducible apply norm_cons); (· rfl)) | ((with_reducible apply norm_skip); (· rfl)))))) | ((with_reducible apply s_condF); (· rfl); (· (repeat (first | exact norm_nil | ((with_reducible apply norm_cons); (· rfl)) | ((with_reducible apply norm_skip); (· rfl)))))) | ((with_reducible apply s_condS); (· rfl); (· (repeat (first | exact norm_nil | ((with_reducible apply norm_cons); (· rfl)) | ((with_reducible apply norm_skip); (· rfl))))); (· (repeat (first | exact norm_nil | ((with_reducible apply norm_cons); (· rfl)) | ((with_reducible apply norm_skip); (· rfl))))))))
      | ((with_reducible refine k_guard ?_); (first | (refine s_gt rfl ?_) | (refine s_gf1 rfl ?_) | (refine s_gfn rfl ?_) | (refine s_gx1 rfl ?_) | (refine s_gxn rfl ?_) | (refine s_gs rfl ?_)))
      | ((with_reducible refine k_mv ?_); (refine s_mv rfl ?_))
      | ((with_reducible refine k_len ?_); (first | (refine s_len rfl rfl ?_) | ((with_reducible apply s_len); (· rfl); (· exact SlOwn.len (by assumption)))))
      | ((with_reducible refine k_pick ?_); (first | (refine s_pickT rfl rfl ?_) | (refine s_pickF rfl rfl ?_)))
      | ((with_reducible refine k_neq ?_); (first | (refine s_neq rfl rfl ?_) | (refine s_strNe rfl rfl ?_)))
      | ((with_reducible refine k_callF ?_); (first | ((with_reducible apply s_call1); (· rfl)) | ((with_reducible apply s_calln); (· rfl))))
      | ((with_reducible refine k_con ?_); (first | ((with_reducible apply con_val (c1)); (· (repeat (first | exact All2.nil | (apply All2.cons; (· first | exact Rd_int | exact Rd_bool | exact Rd_vs | exact Rd_nil | exact Rd_emp | exact Rd_vp | exact Rd_sl0 upd_self rfl rfl | exact Rd_fn0 | exact Rd_flat rfl | ((apply Rd_sl0); (· (first | exact upd_self | rfl | assumption | (simp (disch := omega) only [upd_self, upd_ne]; first | done | rfl | assumption))); (· first | rfl | exact scal_i | exact scal_b | assumption); (· first | rfl | assumption | (simp; done) | (simp; omega))) | ((apply Rd_so); (· first | assumption | ((repeat' (first | assumption | (with_reducible apply SlOwn.upd) | (simp only [upd_none]; assumption))); done)); (· first | rfl | exact scal_i | exact scal_b | assumption))))))); (· rfl); (· exact fun _ => rfl))))
      | ((with_reducible refine k_br ?_); (first | (with_reducible first | refine Br_dec ?_ | refine Br_not ?_ | refine Br_eqF ?_ | refine Br_and ?_ | refine Br_or ?_ | refine Br_neg ?_ | refine Br_band ?_ | refine Br_bor ?_ | refine Br_beq ?_) | (refine Br_t (by first | omega | assumption | rfl) ?_) | (refine Br_f (by first | omega | assumption | decide) ?_) | (with_reducible apply Br_sb <;> intro hbr <;> (first | subst hbr | simp only [hbr] | skip)) | (with_reducible apply Br_s <;> intro hbr)))
      | (with_reducible refine WN_succ ?_)
      | ((first | (with_reducible apply q_eqI) | (with_reducible apply q_eqN)); (first | (simp (disch := omega) only [w64, wu8, wu16, wu32, wu64, tm_nn, td_nn, fd_nn, Int.reduceAdd, Int.reduceSub, Int.reduceMul, Int.reduceDiv, Int.reduceMod, Int.reduceNeg, Int.reduceToNat, Int.toNat_natCast, Int.toNat_zero, Int.zero_add, Int.add_zero, Int.one_mul, Int.reducePow, Nat.mul_one, Nat.zero_add, Nat.add_zero, Nat.zero_mul, Nat.reduceAdd, Nat.reduceMul, Nat.reduceSub, Nat.min_eq_left, IntKind.bits, Nat.sub_zero]; try rfl; done) | rfl))
      | ((first | (with_reducible apply q_eqL) | (with_reducible apply q_eqO)); (first | (simp (disch := omega) only [upd_self, upd_ne, upd_upd, rep, splice, List.take_succ_cons, List.take_zero, List.drop_succ_cons, List.drop_zero, List.cons_append, List.nil_append, List.append_nil, List.length_cons, List.length_nil, List.reduceReplicate, List.flatten_cons, List.flatten_nil, Nat.reduceAdd, Nat.reduceMul, Nat.reduceSub, Nat.zero_add, Nat.add_zero, List.getElem?_cons_zero, List.getElem?_cons_succ]; try rfl; done) | rfl)))
    all_goals first | exact Fin_bf trivial rfl (by rintro ⟨_, h2, _⟩; omega) | skip
    refine W_for v.length (fun i st => (∀ j (hj : j < v.length), j < i → inR v[j]) ∧ st = ⟨[(1, ints v), (5, .int .i64 i)], fun _ => none⟩) ⟨fun j _ h => by omega, rfl⟩ ?_ ?_
    · rintro i e' h' hi ⟨hj, he⟩
      cases he
      have hg := map_g (k := .i64) hi
      rw [← getD_at hi] at hg
      generalize hx : v[i] = x at hg
      repeat' (first
        | (with_reducible first | refine W_seq ?_ | refine then_n ?_ | refine W_block ?_ | refine blk_n ?_ | refine blk_r ?_ | refine blk_e ?_ | refine W_skip ?_ | refine W_ret ?_ | refine then_r ?_ | refine W_exit ?_ | refine then_e ?_)
        | (refine blk_j (by decide) ?_)
        | ((with_reducible refine s_reg ?_); intro K hK)
        | ((with_reducible refine k_nil ?_); (with_reducible apply s_nil hK); (· (repeat (first | exact norm_nil | ((with_reducible apply norm_cons); (· rfl)) | ((with_reducible apply norm_skip); (· rfl))))); clear hK; clear K)
        | ((with_reducible refine k_cond ?_); (first | ((with_reducible apply s_condT); (· rfl); (· (repeat (first | exact norm_nil | ((with_reducible apply norm_cons); (· rfl)) | ((with_reducible apply norm_skip); (· rfl)))))) | ((with_reducible apply s_condF); (· rfl); (· (repeat (first | exact norm_nil | ((with_reducible apply norm_cons); (· rfl)) | ((with_reducible apply norm_skip); (· rfl)))))) | ((with_reducible apply s_condS); (· rfl); (· (repeat (first | exact norm_nil | ((with_reducible apply norm_cons); (· rfl)) | ((with_reducible apply norm_skip); (· rfl))))); (· (repeat (first | exact norm_nil | ((with_reducible apply norm_cons); (· rfl)) | ((with_reducible apply norm_skip); (· rfl))))))))
        | ((with_reducible refine k_guard ?_); (first | (refine s_gt rfl ?_) | (refine s_gf1 rfl ?_) | (refine s_gfn rfl ?_) | (refine s_gx1 rfl ?_) | (refine s_gxn rfl ?_) | (refine s_gs rfl ?_)))
        | ((with_reducible refine k_mv ?_); (refine s_mv rfl ?_))
        | ((with_reducible refine k_len ?_); (first | (refine s_len rfl rfl ?_) | ((with_reducible apply s_len); (· rfl); (· exact SlOwn.len (by assumption)))))
        | ((with_reducible refine k_pick ?_); (first | (refine s_pickT rfl rfl ?_) | (refine s_pickF rfl rfl ?_)))
        | ((with_reducible refine k_lss ?_); (refine s_lss rfl rfl ?_))
        | ((with_reducible refine k_gtr ?_); (refine s_gtr rfl rfl ?_))
        | ((with_reducible refine k_iaddr ?_); (first | ((with_reducible apply s_iaddrV); (· rfl); (· rfl); (· (first | omega | exact ⟨rfl, by omega⟩ | skip))) | ((with_reducible apply s_iaddrO); (· rfl); (· rfl); (· (first | omega | exact ⟨rfl, by omega⟩ | skip)); (· (first | exact upd_self | rfl | assumption | (simp (disch := omega) only [upd_self, upd_ne]; first | done | rfl | assumption)))) | ((with_reducible apply s_iaddrSO); (· rfl); (· assumption); (· rfl); (· (first | omega | exact ⟨rfl, by omega⟩ | skip)); (· (first | (simp (disch := omega) only [w64, wu8, wu16, wu32, wu64, tm_nn, td_nn, fd_nn, Int.reduceAdd, Int.reduceSub, Int.reduceMul, Int.reduceDiv, Int.reduceMod, Int.reduceNeg, Int.reduceToNat, Int.toNat_natCast, Int.toNat_zero, Int.zero_add, Int.add_zero, Int.one_mul, Int.reducePow, Nat.mul_one, Nat.zero_add, Nat.add_zero, Nat.zero_mul, Nat.reduceAdd, Nat.reduceMul, Nat.reduceSub, Nat.min_eq_left, IntKind.bits, Nat.sub_zero, hg]; try rfl; done) | rfl)); intro ks hks)))
        | ((with_reducible refine k_load ?_); (first | ((with_reducible apply s_loadV); (· rfl)) | ((with_reducible apply s_loadP); (· rfl); (· (first | exact upd_self | rfl | assumption | (simp (disch := omega) only [upd_self, upd_ne]; first | done | rfl | assumption))))))
        | ((with_reducible refine k_add ?_); ((with_reducible apply s_add); (· rfl); (· rfl)))
        | ((with_reducible refine k_br ?_); (first | (with_reducible first | refine Br_dec ?_ | refine Br_not ?_ | refine Br_eqF ?_ | refine Br_and ?_ | refine Br_or ?_ | refine Br_neg ?_ | refine Br_band ?_ | refine Br_bor ?_ | refine Br_beq ?_) | (refine Br_t (by first | omega | assumption | rfl) ?_) | (refine Br_f (by first | omega | assumption | decide) ?_) | (with_reducible apply Br_sb <;> intro hbr <;> (first | subst hbr | simp only [hbr] | skip)) | (with_reducible apply Br_s <;> intro hbr)))
        | (with_reducible refine WN_succ ?_)
        | ((first | (with_reducible apply q_eqI) | (with_reducible apply q_eqN)); (first | (simp (disch := omega) only [w64, wu8, wu16, wu32, wu64, tm_nn, td_nn, fd_nn, Int.reduceAdd, Int.reduceSub, Int.reduceMul, Int.reduceDiv, Int.reduceMod, Int.reduceNeg, Int.reduceToNat, Int.toNat_natCast, Int.toNat_zero, Int.zero_add, Int.add_zero, Int.one_mul, Int.reducePow, Nat.mul_one, Nat.zero_add, Nat.add_zero, Nat.zero_mul, Nat.reduceAdd, Nat.reduceMul, Nat.reduceSub, Nat.min_eq_left, IntKind.bits, Nat.sub_zero, hg]; try rfl; done) | rfl))
        | ((first | (with_reducible apply q_eqL) | (with_reducible apply q_eqO)); (first | (simp (disch := omega) only [upd_self, upd_ne, upd_upd, rep, splice, List.take_succ_cons, List.take_zero, List.drop_succ_cons, List.drop_zero, List.cons_append, List.nil_append, List.append_nil, List.length_cons, List.length_nil, List.reduceReplicate, List.flatten_cons, List.flatten_nil, Nat.reduceAdd, Nat.reduceMul, Nat.reduceSub, Nat.zero_add, Nat.add_zero, List.getElem?_cons_zero, List.getElem?_cons_succ, hg]; try rfl; done) | rfl)))
      all_goals first
        | exact Fin_bf trivial rfl (fun h2 => by have := h2.2.2 _ (List.getElem_mem hi); rw [hx] at this; unfold inR at this; omega)
        | (refine ⟨fun j h2 h3 => ?_, rfl⟩
           rcases Nat.lt_succ_iff_lt_or_eq.1 h3 with h4 | rfl
           · exact hj j h2 h4
           · rw [hx]; unfold inR; omega)
    · rintro e' h' ⟨hj, he⟩
      cases he
      repeat' (first
        | (with_reducible first | refine W_seq ?_ | refine then_n ?_ | refine W_block ?_ | refine blk_n ?_ | refine blk_r ?_ | refine blk_e ?_ | refine W_skip ?_ | refine W_ret ?_ | refine then_r ?_ | refine W_exit ?_ | refine then_e ?_)
        | (refine blk_j (by decide) ?_)
        | ((with_reducible refine s_reg ?_); intro K hK)
        | ((with_reducible refine k_nil ?_); (with_reducible apply s_nil hK); (· (repeat (first | exact norm_nil | ((with_reducible apply norm_cons); (· rfl)) | ((with_reducible apply norm_skip); (· rfl))))); clear hK; clear K)
        | ((with_reducible refine k_cond ?_); (first | ((with_reducible apply s_condT); (· rfl); (· (repeat (first | exact norm_nil | ((with_reducible apply norm_cons); (· rfl)) | ((with_reducible apply norm_skip); (· rfl)))))) | ((with_reducible apply s_condF); (· rfl); (· (repeat (first | exact norm_nil | ((with_reducible apply norm_cons); (· rfl)) | ((with_reducible apply norm_skip); (· rfl)))))) | ((with_reducible apply s_condS); (· rfl); (· (repeat (first | exact norm_nil | ((with_reducible apply norm_cons); (· rfl)) | ((with_reducible apply norm_skip); (· rfl))))); (· (repeat (first | exact norm_nil | ((with_reducible apply norm_cons); (· rfl)) | ((with_reducible apply norm_skip); (· rfl))))))))
        | ((with_reducible refine k_guard ?_); (first | (refine s_gt rfl ?_) | (refine s_gf1 rfl ?_) | (refine s_gfn rfl ?_) | (refine s_gx1 rfl ?_) | (refine s_gxn rfl ?_) | (refine s_gs rfl ?_)))
        | ((with_reducible refine k_mv ?_); (refine s_mv rfl ?_))
        | ((with_reducible refine k_len ?_); (first | (refine s_len rfl rfl ?_) | ((with_reducible apply s_len); (· rfl); (· exact SlOwn.len (by assumption)))))
        | ((with_reducible refine k_lss ?_); (refine s_lss rfl rfl ?_))
        | ((with_reducible refine k_br ?_); (first | (with_reducible first | refine Br_dec ?_ | refine Br_not ?_ | refine Br_eqF ?_ | refine Br_and ?_ | refine Br_or ?_ | refine Br_neg ?_ | refine Br_band ?_ | refine Br_bor ?_ | refine Br_beq ?_) | (refine Br_t (by first | omega | assumption | rfl) ?_) | (refine Br_f (by first | omega | assumption | decide) ?_) | (with_reducible apply Br_sb <;> intro hbr <;> (first | subst hbr | simp only [hbr] | skip)) | (with_reducible apply Br_s <;> intro hbr)))
        | (with_reducible refine WN_succ ?_)
        | ((first | (with_reducible apply q_eqI) | (with_reducible apply q_eqN)); (first | (simp (disch := omega) only [w64, wu8, wu16, wu32, wu64, tm_nn, td_nn, fd_nn, Int.reduceAdd, Int.reduceSub, Int.reduceMul, Int.reduceDiv, Int.reduceMod, Int.reduceNeg, Int.reduceToNat, Int.toNat_natCast, Int.toNat_zero, Int.zero_add, Int.add_zero, Int.one_mul, Int.reducePow, Nat.mul_one, Nat.zero_add, Nat.add_zero, Nat.zero_mul, Nat.reduceAdd, Nat.reduceMul, Nat.reduceSub, Nat.min_eq_left, IntKind.bits, Nat.sub_zero]; try rfl; done) | rfl))
        | ((first | (with_reducible apply q_eqL) | (with_reducible apply q_eqO)); (first | (simp (disch := omega) only [upd_self, upd_ne, upd_upd, rep, splice, List.take_succ_cons, List.take_zero, List.drop_succ_cons, List.drop_zero, List.cons_append, List.nil_append, List.append_nil, List.length_cons, List.length_nil, List.reduceReplicate, List.flatten_cons, List.flatten_nil, Nat.reduceAdd, Nat.reduceMul, Nat.reduceSub, Nat.zero_add, Nat.add_zero, List.getElem?_cons_zero, List.getElem?_cons_succ]; try rfl; done) | rfl)))
      exact Fin_bt trivial rfl ⟨h, by omega, fun x hx => by obtain ⟨j, h2, rfl⟩ := List.getElem_of_mem hx; exact hj j h2 h2⟩
  · repeat' (first
      | (with_reducible first | refine W_seq ?_ | refine then_n ?_ | refine W_block ?_ | refine blk_n ?_ | refine blk_r ?_ | refine blk_e ?_ | refine W_skip ?_ | refine W_ret ?_ | refine then_r ?_ | refine W_exit ?_ | refine then_e ?_)
      | (refine blk_j (by decide) ?_)
      | ((with_reducible refine s_reg ?_); intro K hK)
      | ((with_reducible refine k_nil ?_); (with_reducible apply s_nil hK); (· (repeat (first | exact norm_nil | ((with_reducible apply norm_cons); (· rfl)) | ((with_reducible apply norm_skip); (· rfl))))); clear hK; clear K)
      | ((with_reducible refine k_cond ?_); (first | ((with_reducible apply s_condT); (· rfl); (· (repeat (first | exact norm_nil | ((with_reducible apply norm_cons); (· rfl)) | ((with_reducible apply norm_skip); (· rfl)))))) | ((with_reducible apply s_condF); (· rfl); (· (repeat (first | exact norm_nil | ((with_reducible apply norm_cons); (· rfl)) | ((with_reducible apply norm_skip); (· rfl)))))) | ((with_reducible apply s_condS); (· rfl); (· (repeat (first | exact norm_nil | ((with_reducible apply norm_cons); (· rfl)) | ((with_reducible apply norm_skip); (· rfl))))); (· (repeat (first | exact norm_nil | ((with_reducible apply norm_cons); (· rfl)) | ((with_reducible apply norm_skip); (· rfl))))))))
      | ((with_reducible refine k_guard ?_); (first | (refine s_gt rfl ?_) | (refine s_gf1 rfl ?_) | (refine s_gfn rfl ?_) | (refine s_gx1 rfl ?_) | (refine s_gxn rfl ?_) | (refine s_gs rfl ?_)))
      | ((with_reducible refine k_mv ?_); (refine s_mv rfl ?_))
      | ((with_reducible refine k_len ?_); (first | (refine s_len rfl rfl ?_) | ((with_reducible apply s_len); (· rfl); (· exact SlOwn.len (by assumption)))))
      | ((with_reducible refine k_pick ?_); (first | (refine s_pickT rfl rfl ?_) | (refine s_pickF rfl rfl ?_)))
      | ((with_reducible refine k_neq ?_); (first | (refine s_neq rfl rfl ?_) | (refine s_strNe rfl rfl ?_)))
      | ((with_reducible refine k_callF ?_); (first | ((with_reducible apply s_call1); (· rfl)) | ((with_reducible apply s_calln); (· rfl))))
      | ((with_reducible refine k_con ?_); (first | ((with_reducible apply con_val (c1)); (· (repeat (first | exact All2.nil | (apply All2.cons; (· first | exact Rd_int | exact Rd_bool | exact Rd_vs | exact Rd_nil | exact Rd_emp | exact Rd_vp | exact Rd_sl0 upd_self rfl rfl | exact Rd_fn0 | exact Rd_flat rfl | ((apply Rd_sl0); (· (first | exact upd_self | rfl | assumption | (simp (disch := omega) only [upd_self, upd_ne]; first | done | rfl | assumption))); (· first | rfl | exact scal_i | exact scal_b | assumption); (· first | rfl | assumption | (simp; done) | (simp; omega))) | ((apply Rd_so); (· first | assumption | ((repeat' (first | assumption | (with_reducible apply SlOwn.upd) | (simp only [upd_none]; assumption))); done)); (· first | rfl | exact scal_i | exact scal_b | assumption))))))); (· rfl); (· exact fun _ => rfl))))
      | ((with_reducible refine k_br ?_); (first | (with_reducible first | refine Br_dec ?_ | refine Br_not ?_ | refine Br_eqF ?_ | refine Br_and ?_ | refine Br_or ?_ | refine Br_neg ?_ | refine Br_band ?_ | refine Br_bor ?_ | refine Br_beq ?_) | (refine Br_t (by first | omega | assumption | rfl) ?_) | (refine Br_f (by first | omega | assumption | decide) ?_) | (with_reducible apply Br_sb <;> intro hbr <;> (first | subst hbr | simp only [hbr] | skip)) | (with_reducible apply Br_s <;> intro hbr)))
      | (with_reducible refine WN_succ ?_)
      | ((first | (with_reducible apply q_eqI) | (with_reducible apply q_eqN)); (first | (simp (disch := omega) only [w64, wu8, wu16, wu32, wu64, tm_nn, td_nn, fd_nn, Int.reduceAdd, Int.reduceSub, Int.reduceMul, Int.reduceDiv, Int.reduceMod, Int.reduceNeg, Int.reduceToNat, Int.toNat_natCast, Int.toNat_zero, Int.zero_add, Int.add_zero, Int.one_mul, Int.reducePow, Nat.mul_one, Nat.zero_add, Nat.add_zero, Nat.zero_mul, Nat.reduceAdd, Nat.reduceMul, Nat.reduceSub, Nat.min_eq_left, IntKind.bits, Nat.sub_zero]; try rfl; done) | rfl))
      | ((first | (with_reducible apply q_eqL) | (with_reducible apply q_eqO)); (first | (simp (disch := omega) only [upd_self, upd_ne, upd_upd, rep, splice, List.take_succ_cons, List.take_zero, List.drop_succ_cons, List.drop_zero, List.cons_append, List.nil_append, List.append_nil, List.length_cons, List.length_nil, List.reduceReplicate, List.flatten_cons, List.flatten_nil, Nat.reduceAdd, Nat.reduceMul, Nat.reduceSub, Nat.zero_add, Nat.add_zero, List.getElem?_cons_zero, List.getElem?_cons_succ]; try rfl; done) | rfl)))
    all_goals first | (exfalso; omega) | exact Fin_bf trivial rfl (fun h2 => h h2.1)
theorem ifew_c (l : List Acct) (v : List Int) : PCon Try.prog 12 [accs l, ints v] (.bool (decide (l.length ≤ 40 ∧ v.length ≤ 40))) := by
  refine A12p (by simp [A12]) ?_
  simp only [A12, argEnv]
  repeat' (first
    | (with_reducible first | refine W_seq ?_ | refine then_n ?_ | refine W_skip ?_ | refine W_ret ?_ | refine then_r ?_)
    | ((with_reducible refine s_reg ?_); intro K hK)
    | ((with_reducible refine k_nil ?_); (with_reducible apply s_nil hK); (· (repeat (first | exact norm_nil | ((with_reducible apply norm_cons); (· rfl)) | ((with_reducible apply norm_skip); (· rfl))))); clear hK; clear K)
    | ((with_reducible refine k_guard ?_); (first | (refine s_gt rfl ?_) | (refine s_gf1 rfl ?_) | (refine s_gfn rfl ?_) | (refine s_gx1 rfl ?_) | (refine s_gxn rfl ?_) | (refine s_gs rfl ?_)))
    | ((with_reducible refine k_mv ?_); (refine s_mv rfl ?_))
    | ((with_reducible refine k_len ?_); (first | (refine s_len rfl rfl ?_) | ((with_reducible apply s_len); (· rfl); (· exact SlOwn.len (by assumption)))))
    | ((with_reducible refine k_pick ?_); (first | (refine s_pickT rfl rfl ?_) | (refine s_pickF rfl rfl ?_)))
    | ((with_reducible refine k_leq ?_); (refine s_leq rfl rfl ?_))
    | ((with_reducible refine k_br ?_); (first | (with_reducible first | refine Br_dec ?_ | refine Br_not ?_ | refine Br_eqF ?_ | refine Br_and ?_ | refine Br_or ?_ | refine Br_neg ?_ | refine Br_band ?_ | refine Br_bor ?_ | refine Br_beq ?_) | (refine Br_t (by first | omega | assumption | rfl) ?_) | (refine Br_f (by first | omega | assumption | decide) ?_) | (with_reducible apply Br_sb <;> intro hbr <;> (first | subst hbr | simp only [hbr] | skip)) | (with_reducible apply Br_s <;> intro hbr)))
    | (with_reducible refine WN_succ ?_)
    | ((first | (with_reducible apply q_eqI) | (with_reducible apply q_eqN)); (first | (simp (disch := omega) only [w64, wu8, wu16, wu32, wu64, tm_nn, td_nn, fd_nn, Int.reduceAdd, Int.reduceSub, Int.reduceMul, Int.reduceDiv, Int.reduceMod, Int.reduceNeg, Int.reduceToNat, Int.toNat_natCast, Int.toNat_zero, Int.zero_add, Int.add_zero, Int.one_mul, Int.reducePow, Nat.mul_one, Nat.zero_add, Nat.add_zero, Nat.zero_mul, Nat.reduceAdd, Nat.reduceMul, Nat.reduceSub, Nat.min_eq_left, IntKind.bits, Nat.sub_zero]; try rfl; done) | rfl))
    | ((first | (with_reducible apply q_eqL) | (with_reducible apply q_eqO)); (first | (simp (disch := omega) only [upd_self, upd_ne, upd_upd, rep, splice, List.take_succ_cons, List.take_zero, List.drop_succ_cons, List.drop_zero, List.cons_append, List.nil_append, List.append_nil, List.length_cons, List.length_nil, List.reduceReplicate, List.flatten_cons, List.flatten_nil, Nat.reduceAdd, Nat.reduceMul, Nat.reduceSub, Nat.zero_add, Nat.add_zero, List.getElem?_cons_zero, List.getElem?_cons_succ]; try rfl; done) | rfl)))
  all_goals first | exact Fin_bt trivial rfl (by omega) | exact Fin_bf trivial rfl (by omega)
def inP (l : List Acct) (v : Nat → Int) (c : Nat) (x : Int) : List Int := (List.range l.length).map fun (j : Nat) => insN l v j c + (if (j : Int) ∈ pathG l 8 (c : Int) ∧ x < (j : Int) then v c else 0)
theorem inP_len (l : List Acct) (v : Nat → Int) (c : Nat) (x : Int) : (inP l v c x).length = l.length := by simp [inP]
theorem inP_d {l : List Acct} {v : Nat → Int} {c j : Nat} {x : Int} (h : j < l.length) : (inP l v c x).getD j 0 = insN l v j c + (if (j : Int) ∈ pathG l 8 (c : Int) ∧ x < (j : Int) then v c else 0) := by
  rw [List.getD_eq_getElem?_getD, List.getElem?_eq_getElem (by rw [inP_len]; exact h), Option.getD_some]; simp [inP]
theorem inP_step {l : List Acct} {v : Nat → Int} {c : Nat} {x : Int} (hp : isP l c) (hx : x ∈ pathG l 8 (c : Int)) : (inP l v c x).set x.toNat (insN l v x c + v c) = inP l v c (pa l x.toNat) := by
  have hr := path_range hp hx
  have hpx := pa_lt (chk_ok hp.1).2.1 (a := x) ⟨hr.1, hr.2.1⟩
  apply List.ext_getElem (by simp [inP_len])
  intro j h1 h2
  rw [List.getElem_set]
  simp only [inP, List.getElem_map, List.getElem_range]
  by_cases h : x.toNat = j
  · subst h
    rw [if_pos rfl, Int.toNat_of_nonneg hr.1, if_pos ⟨hx, hpx.2⟩]
  · rw [if_neg h]
    by_cases hj : (j : Int) ∈ pathG l 8 (c : Int) ∧ x < (j : Int)
    · rw [if_pos hj, if_pos ⟨hj.1, by omega⟩]
    · rw [if_neg hj, if_neg]
      rintro ⟨hm, hlt⟩
      have : ¬ x < (j : Int) := fun h => hj ⟨hm, h⟩
      have := pathF_gap hp (x := x) (by rw [pathF_is hp]; exact hx) (y := (j : Int)) (by rw [pathF_is hp]; exact hm) (by omega)
      omega
theorem inP_start {l : List Acct} {v : Nat → Int} {c : Nat} (hp : isP l c) : inP l v c c = (List.range l.length).map fun (j : Nat) => insN l v j c := by
  apply List.ext_getElem (by simp [inP_len])
  intro j h1 h2
  simp only [inP, List.getElem_map, List.getElem_range]
  rw [if_neg, Int.add_zero]
  rintro ⟨hm, hlt⟩
  have := path_range hp hm
  omega
theorem inP_end {l : List Acct} {v : Nat → Int} {c : Nat} : inP l v c (-1) = (List.range l.length).map fun (j : Nat) => insN l v j (c + 1) := by
  apply List.ext_getElem (by simp [inP_len])
  intro j h1 h2
  simp only [inP, List.getElem_map, List.getElem_range]
  rw [insN_s]
  by_cases h : (j : Int) ∈ pathG l 8 (c : Int)
  · rw [if_pos ⟨h, by omega⟩, if_pos h]
  · rw [if_neg (fun h2 => h h2.1), if_neg h]
theorem rinside1_c (l : List Acct) (v : List Int) (h : valP l v) : PCon Try.prog 33 [accs l, ints v] (.ow 1 ((insL l v).map (.int .i64)) l.length) := by
  obtain ⟨hl, ht, _⟩ := chk_ok h.1
  have hvl := h.2.1
  have hal := accs_len l
  refine A33p (by simp [A33]) ?_
  simp only [A33, argEnv]
  repeat' (first
    | (with_reducible first | refine W_seq ?_ | refine then_n ?_ | refine W_block ?_ | refine blk_n ?_ | refine blk_r ?_ | refine blk_e ?_ | refine W_skip ?_ | refine W_ret ?_ | refine then_r ?_ | refine W_exit ?_ | refine then_e ?_)
    | (refine blk_j (by decide) ?_)
    | ((with_reducible refine s_reg ?_); intro K hK)
    | ((with_reducible refine k_nil ?_); (with_reducible apply s_nil hK); (· (repeat (first | exact norm_nil | ((with_reducible apply norm_cons); (· rfl)) | ((with_reducible apply norm_skip); (· rfl))))); clear hK; clear K)
    | ((with_reducible refine k_cond ?_); (first | ((with_reducible apply s_condT); (· rfl); (· (repeat (first | exact norm_nil | ((with_reducible apply norm_cons); (· rfl)) | ((with_reducible apply norm_skip); (· rfl)))))) | ((with_reducible apply s_condF); (· rfl); (· (repeat (first | exact norm_nil | ((with_reducible apply norm_cons); (· rfl)) | ((with_reducible apply norm_skip); (· rfl)))))) | ((with_reducible apply s_condS); (· rfl); (· (repeat (first | exact norm_nil | ((with_reducible apply norm_cons); (· rfl)) | ((with_reducible apply norm_skip); (· rfl))))); (· (repeat (first | exact norm_nil | ((with_reducible apply norm_cons); (· rfl)) | ((with_reducible apply norm_skip); (· rfl))))))))
    | ((with_reducible refine k_guard ?_); (first | (refine s_gt rfl ?_) | (refine s_gf1 rfl ?_) | (refine s_gfn rfl ?_) | (refine s_gx1 rfl ?_) | (refine s_gxn rfl ?_) | (refine s_gs rfl ?_)))
    | ((with_reducible refine k_mv ?_); (refine s_mv rfl ?_))
    | ((with_reducible refine k_len ?_); (first | (refine s_len rfl rfl ?_) | ((with_reducible apply s_len); (· rfl); (· exact SlOwn.len (by assumption)))))
    | ((with_reducible refine k_mkslice (dst := some 10) ?_); ((with_reducible apply s_mkslice); (· rfl); (· rfl); (· (exact ⟨rfl, by decide, by omega, by omega, by (rw [room_i]; omega), by omega⟩)); (· ((first | (simp (disch := omega) only [w64, wu8, wu16, wu32, wu64, tm_nn, td_nn, fd_nn, Int.reduceAdd, Int.reduceSub, Int.reduceMul, Int.reduceDiv, Int.reduceMod, Int.reduceNeg, Int.reduceToNat, Int.toNat_natCast, Int.toNat_zero, Int.zero_add, Int.add_zero, Int.one_mul, Int.reducePow, Nat.mul_one, Nat.zero_add, Nat.add_zero, Nat.zero_mul, Nat.reduceAdd, Nat.reduceMul, Nat.reduceSub, Nat.min_eq_left, IntKind.bits, Nat.sub_zero]; try rfl; done) | rfl))); intro k10 hk10; (try simp only [upd_none] at hk10)))
    | ((with_reducible refine k_dreg ?_); refine s_dregS (pre := A33d9p) rfl rfl rfl ?_; intro K hK)
    | ((with_reducible refine k_dreg ?_); refine s_dreg rfl rfl ?_; intro K hK)
    | (with_reducible refine d_nilS ?_)
    | ((with_reducible refine k_dnil ?_); (with_reducible apply d_nil hK); (· (repeat (first | exact norm_nil | ((with_reducible apply norm_cons); (· rfl)) | ((with_reducible apply norm_skip); (· rfl))))); clear hK; clear K)
    | ((with_reducible refine k_dguard ?_); (first | (refine d_gt rfl ?_) | (refine d_gf rfl ?_) | (refine d_gx rfl ?_) | (refine d_gs rfl ?_)))
    | ((with_reducible refine k_dop ?_); refine d_step (by first | exact Or.inl rfl | exact Or.inr rfl) ?_)
    | (with_reducible refine d_back ?_)
    | ((with_reducible refine k_br ?_); (first | (with_reducible first | refine Br_dec ?_ | refine Br_not ?_ | refine Br_eqF ?_ | refine Br_and ?_ | refine Br_or ?_ | refine Br_neg ?_ | refine Br_band ?_ | refine Br_bor ?_ | refine Br_beq ?_) | (refine Br_t (by first | omega | assumption | rfl) ?_) | (refine Br_f (by first | omega | assumption | decide) ?_) | (with_reducible apply Br_sb <;> intro hbr <;> (first | subst hbr | simp only [hbr] | skip)) | (with_reducible apply Br_s <;> intro hbr)))
    | (with_reducible refine WN_succ ?_)
    | ((first | (with_reducible apply q_eqI) | (with_reducible apply q_eqN)); (first | (simp (disch := omega) only [w64, wu8, wu16, wu32, wu64, tm_nn, td_nn, fd_nn, Int.reduceAdd, Int.reduceSub, Int.reduceMul, Int.reduceDiv, Int.reduceMod, Int.reduceNeg, Int.reduceToNat, Int.toNat_natCast, Int.toNat_zero, Int.zero_add, Int.add_zero, Int.one_mul, Int.reducePow, Nat.mul_one, Nat.zero_add, Nat.add_zero, Nat.zero_mul, Nat.reduceAdd, Nat.reduceMul, Nat.reduceSub, Nat.min_eq_left, IntKind.bits, Nat.sub_zero]; try rfl; done) | rfl))
    | ((first | (with_reducible apply q_eqL) | (with_reducible apply q_eqO)); (first | (simp (disch := omega) only [upd_self, upd_ne, upd_upd, rep, splice, List.take_succ_cons, List.take_zero, List.drop_succ_cons, List.drop_zero, List.cons_append, List.nil_append, List.append_nil, List.length_cons, List.length_nil, List.reduceReplicate, List.flatten_cons, List.flatten_nil, Nat.reduceAdd, Nat.reduceMul, Nat.reduceSub, Nat.zero_add, Nat.add_zero, List.getElem?_cons_zero, List.getElem?_cons_succ]; try rfl; done) | rfl)))
  refine W_for l.length (fun c st => ∃ h', st = ⟨[(0, accs l), (1, ints v), (5, .sl k10 1 0 l.length), (6, .int .i64 c)], h'⟩ ∧ h' k10 = some (((List.range l.length).map fun (j : Nat) => insN l (vF v) j c).map (.int .i64))) ⟨_, rfl, ?_⟩ ?_ ?_
  · rw [upd_self, rep_zero (xs := (List.range l.length).map fun (j : Nat) => insN l (vF v) j 0) (by simp) (by simp [insN])]
  · rintro c e' h' hc ⟨h1, he, hk⟩
    cases he
    have hp := isP_mk h.1 hc
    have hgv : (v.map (D.int .i64))[c]? = some (.int .i64 (vF v c)) := map_g (by omega)
    have hv1 := vF_in h c
    rw [← inP_start hp] at hk
    repeat' (first
      | (with_reducible first | refine W_seq ?_ | refine then_n ?_ | refine W_block ?_ | refine blk_n ?_ | refine blk_r ?_ | refine blk_e ?_ | refine W_skip ?_ | refine W_ret ?_ | refine then_r ?_ | refine W_exit ?_ | refine then_e ?_)
      | (refine blk_j (by decide) ?_)
      | ((with_reducible refine s_reg ?_); intro K hK)
      | ((with_reducible refine k_nil ?_); (with_reducible apply s_nil hK); (· (repeat (first | exact norm_nil | ((with_reducible apply norm_cons); (· rfl)) | ((with_reducible apply norm_skip); (· rfl))))); clear hK; clear K)
      | ((with_reducible refine k_cond ?_); (first | ((with_reducible apply s_condT); (· rfl); (· (repeat (first | exact norm_nil | ((with_reducible apply norm_cons); (· rfl)) | ((with_reducible apply norm_skip); (· rfl)))))) | ((with_reducible apply s_condF); (· rfl); (· (repeat (first | exact norm_nil | ((with_reducible apply norm_cons); (· rfl)) | ((with_reducible apply norm_skip); (· rfl)))))) | ((with_reducible apply s_condS); (· rfl); (· (repeat (first | exact norm_nil | ((with_reducible apply norm_cons); (· rfl)) | ((with_reducible apply norm_skip); (· rfl))))); (· (repeat (first | exact norm_nil | ((with_reducible apply norm_cons); (· rfl)) | ((with_reducible apply norm_skip); (· rfl))))))))
      | ((with_reducible refine k_guard ?_); (first | (refine s_gt rfl ?_) | (refine s_gf1 rfl ?_) | (refine s_gfn rfl ?_) | (refine s_gx1 rfl ?_) | (refine s_gxn rfl ?_) | (refine s_gs rfl ?_)))
      | ((with_reducible refine k_mv ?_); (refine s_mv rfl ?_))
      | ((with_reducible refine k_len ?_); (first | (refine s_len rfl rfl ?_) | ((with_reducible apply s_len); (· rfl); (· exact SlOwn.len (by assumption)))))
      | ((with_reducible refine k_lss ?_); (refine s_lss rfl rfl ?_))
      | ((with_reducible refine k_dreg ?_); refine s_dregS (pre := A33d9p) rfl rfl rfl ?_; intro K hK)
      | ((with_reducible refine k_dreg ?_); refine s_dreg rfl rfl ?_; intro K hK)
      | (with_reducible refine d_nilS ?_)
      | ((with_reducible refine k_dnil ?_); (with_reducible apply d_nil hK); (· (repeat (first | exact norm_nil | ((with_reducible apply norm_cons); (· rfl)) | ((with_reducible apply norm_skip); (· rfl))))); clear hK; clear K)
      | ((with_reducible refine k_dguard ?_); (first | (refine d_gt rfl ?_) | (refine d_gf rfl ?_) | (refine d_gx rfl ?_) | (refine d_gs rfl ?_)))
      | ((with_reducible refine k_dop ?_); refine d_step (by first | exact Or.inl rfl | exact Or.inr rfl) ?_)
      | (with_reducible refine d_back ?_)
      | ((with_reducible refine k_br ?_); (first | (with_reducible first | refine Br_dec ?_ | refine Br_not ?_ | refine Br_eqF ?_ | refine Br_and ?_ | refine Br_or ?_ | refine Br_neg ?_ | refine Br_band ?_ | refine Br_bor ?_ | refine Br_beq ?_) | (refine Br_t (by first | omega | assumption | rfl) ?_) | (refine Br_f (by first | omega | assumption | decide) ?_) | (with_reducible apply Br_sb <;> intro hbr <;> (first | subst hbr | simp only [hbr] | skip)) | (with_reducible apply Br_s <;> intro hbr)))
      | (with_reducible refine WN_succ ?_)
      | ((first | (with_reducible apply q_eqI) | (with_reducible apply q_eqN)); (first | (simp (disch := omega) only [w64, wu8, wu16, wu32, wu64, tm_nn, td_nn, fd_nn, Int.reduceAdd, Int.reduceSub, Int.reduceMul, Int.reduceDiv, Int.reduceMod, Int.reduceNeg, Int.reduceToNat, Int.toNat_natCast, Int.toNat_zero, Int.zero_add, Int.add_zero, Int.one_mul, Int.reducePow, Nat.mul_one, Nat.zero_add, Nat.add_zero, Nat.zero_mul, Nat.reduceAdd, Nat.reduceMul, Nat.reduceSub, Nat.min_eq_left, IntKind.bits, Nat.sub_zero]; try rfl; done) | rfl))
      | ((first | (with_reducible apply q_eqL) | (with_reducible apply q_eqO)); (first | (simp (disch := omega) only [upd_self, upd_ne, upd_upd, rep, splice, List.take_succ_cons, List.take_zero, List.drop_succ_cons, List.drop_zero, List.cons_append, List.nil_append, List.append_nil, List.length_cons, List.length_nil, List.reduceReplicate, List.flatten_cons, List.flatten_nil, Nat.reduceAdd, Nat.reduceMul, Nat.reduceSub, Nat.zero_add, Nat.add_zero, List.getElem?_cons_zero, List.getElem?_cons_succ]; try rfl; done) | rfl)))
    refine W_down (c + 1) (fun m st => ∃ x h', m = (x + 1).toNat ∧ (x = -1 ∨ x ∈ pathG l 8 (c : Int)) ∧ st = ⟨[(0, accs l), (1, ints v), (5, .sl k10 1 0 l.length), (6, .int .i64 c), (7, .int .i64 x)], h'⟩ ∧ h' k10 = some ((inP l (vF v) c x).map (.int .i64))) ⟨c, _, by omega, .inr (path_self hp), rfl, hk⟩ ?_
    rintro m e' h' ⟨x, h2, rfl, hx, he, hk2⟩
    cases he
    rcases hx with rfl | hx
    · rw [inP_end] at hk2
      repeat' (first
        | (with_reducible first | refine W_seq ?_ | refine then_n ?_ | refine W_block ?_ | refine blk_n ?_ | refine blk_r ?_ | refine blk_e ?_ | refine W_skip ?_ | refine W_ret ?_ | refine then_r ?_ | refine W_exit ?_ | refine then_e ?_)
        | (refine blk_j (by decide) ?_)
        | ((with_reducible refine s_reg ?_); intro K hK)
        | ((with_reducible refine k_nil ?_); (with_reducible apply s_nil hK); (· (repeat (first | exact norm_nil | ((with_reducible apply norm_cons); (· rfl)) | ((with_reducible apply norm_skip); (· rfl))))); clear hK; clear K)
        | ((with_reducible refine k_cond ?_); (first | ((with_reducible apply s_condT); (· rfl); (· (repeat (first | exact norm_nil | ((with_reducible apply norm_cons); (· rfl)) | ((with_reducible apply norm_skip); (· rfl)))))) | ((with_reducible apply s_condF); (· rfl); (· (repeat (first | exact norm_nil | ((with_reducible apply norm_cons); (· rfl)) | ((with_reducible apply norm_skip); (· rfl)))))) | ((with_reducible apply s_condS); (· rfl); (· (repeat (first | exact norm_nil | ((with_reducible apply norm_cons); (· rfl)) | ((with_reducible apply norm_skip); (· rfl))))); (· (repeat (first | exact norm_nil | ((with_reducible apply norm_cons); (· rfl)) | ((with_reducible apply norm_skip); (· rfl))))))))
        | ((with_reducible refine k_guard ?_); (first | (refine s_gt rfl ?_) | (refine s_gf1 rfl ?_) | (refine s_gfn rfl ?_) | (refine s_gx1 rfl ?_) | (refine s_gxn rfl ?_) | (refine s_gs rfl ?_)))
        | ((with_reducible refine k_mv ?_); (refine s_mv rfl ?_))
        | ((with_reducible refine k_geq ?_); (refine s_geq rfl rfl ?_))
        | ((with_reducible refine k_add ?_); ((with_reducible apply s_add); (· rfl); (· rfl)))
        | ((with_reducible refine k_dreg ?_); refine s_dregS (pre := A33d9p) rfl rfl rfl ?_; intro K hK)
        | ((with_reducible refine k_dreg ?_); refine s_dreg rfl rfl ?_; intro K hK)
        | (with_reducible refine d_nilS ?_)
        | ((with_reducible refine k_dnil ?_); (with_reducible apply d_nil hK); (· (repeat (first | exact norm_nil | ((with_reducible apply norm_cons); (· rfl)) | ((with_reducible apply norm_skip); (· rfl))))); clear hK; clear K)
        | ((with_reducible refine k_dguard ?_); (first | (refine d_gt rfl ?_) | (refine d_gf rfl ?_) | (refine d_gx rfl ?_) | (refine d_gs rfl ?_)))
        | ((with_reducible refine k_dop ?_); refine d_step (by first | exact Or.inl rfl | exact Or.inr rfl) ?_)
        | (with_reducible refine d_back ?_)
        | ((with_reducible refine k_br ?_); (first | (with_reducible first | refine Br_dec ?_ | refine Br_not ?_ | refine Br_eqF ?_ | refine Br_and ?_ | refine Br_or ?_ | refine Br_neg ?_ | refine Br_band ?_ | refine Br_bor ?_ | refine Br_beq ?_) | (refine Br_t (by first | omega | assumption | rfl) ?_) | (refine Br_f (by first | omega | assumption | decide) ?_) | (with_reducible apply Br_sb <;> intro hbr <;> (first | subst hbr | simp only [hbr] | skip)) | (with_reducible apply Br_s <;> intro hbr)))
        | (with_reducible refine WN_succ ?_)
        | ((first | (with_reducible apply q_eqI) | (with_reducible apply q_eqN)); (first | (simp (disch := omega) only [w64, wu8, wu16, wu32, wu64, tm_nn, td_nn, fd_nn, Int.reduceAdd, Int.reduceSub, Int.reduceMul, Int.reduceDiv, Int.reduceMod, Int.reduceNeg, Int.reduceToNat, Int.toNat_natCast, Int.toNat_zero, Int.zero_add, Int.add_zero, Int.one_mul, Int.reducePow, Nat.mul_one, Nat.zero_add, Nat.add_zero, Nat.zero_mul, Nat.reduceAdd, Nat.reduceMul, Nat.reduceSub, Nat.min_eq_left, IntKind.bits, Nat.sub_zero]; try rfl; done) | rfl))
        | ((first | (with_reducible apply q_eqL) | (with_reducible apply q_eqO)); (first | (simp (disch := omega) only [upd_self, upd_ne, upd_upd, rep, splice, List.take_succ_cons, List.take_zero, List.drop_succ_cons, List.drop_zero, List.cons_append, List.nil_append, List.append_nil, List.length_cons, List.length_nil, List.reduceReplicate, List.flatten_cons, List.flatten_nil, Nat.reduceAdd, Nat.reduceMul, Nat.reduceSub, Nat.zero_add, Nat.add_zero, List.getElem?_cons_zero, List.getElem?_cons_succ]; try rfl; done) | rfl)))
      all_goals first | (exfalso; omega) | exact ⟨_, rfl, hk2⟩
    · have hr := path_range hp hx
      have hxl : x.toNat < l.length := by omega
      have hpx := pa_lt ht (a := x) ⟨hr.1, hr.2.1⟩
      have hup : pa l x.toNat = -1 ∨ pa l x.toNat ∈ pathG l 8 (c : Int) := by
        by_cases h0 : 0 ≤ pa l x.toNat
        · right
          have := pathF_up hp (x := x) (by rw [pathF_is hp]; exact hx) h0
          rwa [pathF_is hp] at this
        · left; omega
      have g0 : (l.flatMap Acct.cells)[x.toNat * 5]? = some (.int .i64 (pa l x.toNat)) := by rw [ac0 hxl, pa_at hxl]
      have hg := map_g (k := .i64) (xs := inP l (vF v) c x) (i := x.toNat) (by rw [inP_len]; exact hxl)
      rw [inP_d hxl, if_neg (by omega), Int.add_zero, Int.toNat_of_nonneg hr.1] at hg
      have hs := map_st (k := .i64) (by rw [inP_len]; exact hxl) (inP_step (v := vF v) hp hx)
      have hlen : ((inP l (vF v) c x).map (D.int .i64)).length = l.length := by rw [List.length_map, inP_len]
      have hb := insN_in (l := l) (vF_in h) x c
      repeat' (first
        | (with_reducible first | refine W_seq ?_ | refine then_n ?_ | refine W_block ?_ | refine blk_n ?_ | refine blk_r ?_ | refine blk_e ?_ | refine W_skip ?_ | refine W_ret ?_ | refine then_r ?_ | refine W_exit ?_ | refine then_e ?_)
        | (refine blk_j (by decide) ?_)
        | ((with_reducible refine s_reg ?_); intro K hK)
        | ((with_reducible refine k_nil ?_); (with_reducible apply s_nil hK); (· (repeat (first | exact norm_nil | ((with_reducible apply norm_cons); (· rfl)) | ((with_reducible apply norm_skip); (· rfl))))); clear hK; clear K)
        | ((with_reducible refine k_cond ?_); (first | ((with_reducible apply s_condT); (· rfl); (· (repeat (first | exact norm_nil | ((with_reducible apply norm_cons); (· rfl)) | ((with_reducible apply norm_skip); (· rfl)))))) | ((with_reducible apply s_condF); (· rfl); (· (repeat (first | exact norm_nil | ((with_reducible apply norm_cons); (· rfl)) | ((with_reducible apply norm_skip); (· rfl)))))) | ((with_reducible apply s_condS); (· rfl); (· (repeat (first | exact norm_nil | ((with_reducible apply norm_cons); (· rfl)) | ((with_reducible apply norm_skip); (· rfl))))); (· (repeat (first | exact norm_nil | ((with_reducible apply norm_cons); (· rfl)) | ((with_reducible apply norm_skip); (· rfl))))))))
        | ((with_reducible refine k_guard ?_); (first | (refine s_gt rfl ?_) | (refine s_gf1 rfl ?_) | (refine s_gfn rfl ?_) | (refine s_gx1 rfl ?_) | (refine s_gxn rfl ?_) | (refine s_gs rfl ?_)))
        | ((with_reducible refine k_mv ?_); (refine s_mv rfl ?_))
        | ((with_reducible refine k_geq ?_); (refine s_geq rfl rfl ?_))
        | ((with_reducible refine k_iaddr ?_); (first | ((with_reducible apply s_iaddrV); (· rfl); (· rfl); (· (first | omega | exact ⟨rfl, by omega⟩ | skip))) | ((with_reducible apply s_iaddrO); (· rfl); (· rfl); (· (first | omega | exact ⟨rfl, by omega⟩ | skip)); (· (first | exact upd_self | rfl | assumption | (simp (disch := omega) only [upd_self, upd_ne]; first | done | rfl | assumption)))) | ((with_reducible apply s_iaddrSO); (· rfl); (· assumption); (· rfl); (· (first | omega | exact ⟨rfl, by omega⟩ | skip)); (· (first | (simp (disch := omega) only [w64, wu8, wu16, wu32, wu64, tm_nn, td_nn, fd_nn, Int.reduceAdd, Int.reduceSub, Int.reduceMul, Int.reduceDiv, Int.reduceMod, Int.reduceNeg, Int.reduceToNat, Int.toNat_natCast, Int.toNat_zero, Int.zero_add, Int.add_zero, Int.one_mul, Int.reducePow, Nat.mul_one, Nat.zero_add, Nat.add_zero, Nat.zero_mul, Nat.reduceAdd, Nat.reduceMul, Nat.reduceSub, Nat.min_eq_left, IntKind.bits, Nat.sub_zero, hgv, g0, hg, hs]; try rfl; done) | rfl)); intro ks hks)))
        | ((with_reducible refine k_load ?_); (first | ((with_reducible apply s_loadV); (· rfl)) | ((with_reducible apply s_loadP); (· rfl); (· (first | exact upd_self | rfl | assumption | (simp (disch := omega) only [upd_self, upd_ne]; first | done | rfl | assumption))))))
        | ((with_reducible refine k_add ?_); ((with_reducible apply s_add); (· rfl); (· rfl)))
        | ((with_reducible refine k_store ?_); ((with_reducible apply s_store0); (· rfl); (· rfl); (· rfl); (· (first | exact upd_self | rfl | assumption | (simp (disch := omega) only [upd_self, upd_ne]; first | done | rfl | assumption))); (· (exact ⟨rfl, by first | exact Nat.le_of_ble_eq_true rfl | omega | (simp [hgv, g0, hg, hs]; omega)⟩)); (· ((first | (simp (disch := omega) only [upd_self, upd_ne, upd_upd, rep, splice, List.take_succ_cons, List.take_zero, List.drop_succ_cons, List.drop_zero, List.cons_append, List.nil_append, List.append_nil, List.length_cons, List.length_nil, List.reduceReplicate, List.flatten_cons, List.flatten_nil, Nat.reduceAdd, Nat.reduceMul, Nat.reduceSub, Nat.zero_add, Nat.add_zero, List.getElem?_cons_zero, List.getElem?_cons_succ, hgv, g0, hg, hs]; try rfl; done) | rfl))); (· (first | exact upd_upd | rfl))))
        | ((with_reducible refine k_faddr ?_); (first | ((with_reducible apply s_faddrV); (· rfl); (· rfl)) | ((with_reducible apply s_faddrP); (· rfl); (· rfl))))
        | ((with_reducible refine k_dreg ?_); refine s_dregS (pre := A33d9p) rfl rfl rfl ?_; intro K hK)
        | ((with_reducible refine k_dreg ?_); refine s_dreg rfl rfl ?_; intro K hK)
        | (with_reducible refine d_nilS ?_)
        | ((with_reducible refine k_dnil ?_); (with_reducible apply d_nil hK); (· (repeat (first | exact norm_nil | ((with_reducible apply norm_cons); (· rfl)) | ((with_reducible apply norm_skip); (· rfl))))); clear hK; clear K)
        | ((with_reducible refine k_dguard ?_); (first | (refine d_gt rfl ?_) | (refine d_gf rfl ?_) | (refine d_gx rfl ?_) | (refine d_gs rfl ?_)))
        | ((with_reducible refine k_dop ?_); refine d_step (by first | exact Or.inl rfl | exact Or.inr rfl) ?_)
        | (with_reducible refine d_back ?_)
        | ((with_reducible refine k_br ?_); (first | (with_reducible first | refine Br_dec ?_ | refine Br_not ?_ | refine Br_eqF ?_ | refine Br_and ?_ | refine Br_or ?_ | refine Br_neg ?_ | refine Br_band ?_ | refine Br_bor ?_ | refine Br_beq ?_) | (refine Br_t (by first | omega | assumption | rfl) ?_) | (refine Br_f (by first | omega | assumption | decide) ?_) | (with_reducible apply Br_sb <;> intro hbr <;> (first | subst hbr | simp only [hbr] | skip)) | (with_reducible apply Br_s <;> intro hbr)))
        | (with_reducible refine WN_succ ?_)
        | ((first | (with_reducible apply q_eqI) | (with_reducible apply q_eqN)); (first | (simp (disch := omega) only [w64, wu8, wu16, wu32, wu64, tm_nn, td_nn, fd_nn, Int.reduceAdd, Int.reduceSub, Int.reduceMul, Int.reduceDiv, Int.reduceMod, Int.reduceNeg, Int.reduceToNat, Int.toNat_natCast, Int.toNat_zero, Int.zero_add, Int.add_zero, Int.one_mul, Int.reducePow, Nat.mul_one, Nat.zero_add, Nat.add_zero, Nat.zero_mul, Nat.reduceAdd, Nat.reduceMul, Nat.reduceSub, Nat.min_eq_left, IntKind.bits, Nat.sub_zero, hgv, g0, hg, hs]; try rfl; done) | rfl))
        | ((first | (with_reducible apply q_eqL) | (with_reducible apply q_eqO)); (first | (simp (disch := omega) only [upd_self, upd_ne, upd_upd, rep, splice, List.take_succ_cons, List.take_zero, List.drop_succ_cons, List.drop_zero, List.cons_append, List.nil_append, List.append_nil, List.length_cons, List.length_nil, List.reduceReplicate, List.flatten_cons, List.flatten_nil, Nat.reduceAdd, Nat.reduceMul, Nat.reduceSub, Nat.zero_add, Nat.add_zero, List.getElem?_cons_zero, List.getElem?_cons_succ, hgv, g0, hg, hs]; try rfl; done) | rfl)))
      all_goals first | (exfalso; omega) | skip
      exact ⟨_, by omega, pa l x.toNat, _, rfl, hup, rfl, upd_self⟩
  · rintro e' h' ⟨h1, he, hk⟩
    cases he
    repeat' (first
      | (with_reducible first | refine W_seq ?_ | refine then_n ?_ | refine W_block ?_ | refine blk_n ?_ | refine blk_r ?_ | refine blk_e ?_ | refine W_skip ?_ | refine W_ret ?_ | refine then_r ?_ | refine W_exit ?_ | refine then_e ?_)
      | (refine blk_j (by decide) ?_)
      | ((with_reducible refine s_reg ?_); intro K hK)
      | ((with_reducible refine k_nil ?_); (with_reducible apply s_nil hK); (· (repeat (first | exact norm_nil | ((with_reducible apply norm_cons); (· rfl)) | ((with_reducible apply norm_skip); (· rfl))))); clear hK; clear K)
      | ((with_reducible refine k_cond ?_); (first | ((with_reducible apply s_condT); (· rfl); (· (repeat (first | exact norm_nil | ((with_reducible apply norm_cons); (· rfl)) | ((with_reducible apply norm_skip); (· rfl)))))) | ((with_reducible apply s_condF); (· rfl); (· (repeat (first | exact norm_nil | ((with_reducible apply norm_cons); (· rfl)) | ((with_reducible apply norm_skip); (· rfl)))))) | ((with_reducible apply s_condS); (· rfl); (· (repeat (first | exact norm_nil | ((with_reducible apply norm_cons); (· rfl)) | ((with_reducible apply norm_skip); (· rfl))))); (· (repeat (first | exact norm_nil | ((with_reducible apply norm_cons); (· rfl)) | ((with_reducible apply norm_skip); (· rfl))))))))
      | ((with_reducible refine k_guard ?_); (first | (refine s_gt rfl ?_) | (refine s_gf1 rfl ?_) | (refine s_gfn rfl ?_) | (refine s_gx1 rfl ?_) | (refine s_gxn rfl ?_) | (refine s_gs rfl ?_)))
      | ((with_reducible refine k_mv ?_); (refine s_mv rfl ?_))
      | ((with_reducible refine k_len ?_); (first | (refine s_len rfl rfl ?_) | ((with_reducible apply s_len); (· rfl); (· exact SlOwn.len (by assumption)))))
      | ((with_reducible refine k_lss ?_); (refine s_lss rfl rfl ?_))
      | ((with_reducible refine k_dreg ?_); refine s_dregS (pre := A33d9p) rfl rfl rfl ?_; intro K hK)
      | ((with_reducible refine k_dreg ?_); refine s_dreg rfl rfl ?_; intro K hK)
      | (with_reducible refine d_nilS ?_)
      | ((with_reducible refine k_dnil ?_); (with_reducible apply d_nil hK); (· (repeat (first | exact norm_nil | ((with_reducible apply norm_cons); (· rfl)) | ((with_reducible apply norm_skip); (· rfl))))); clear hK; clear K)
      | ((with_reducible refine k_dguard ?_); (first | (refine d_gt rfl ?_) | (refine d_gf rfl ?_) | (refine d_gx rfl ?_) | (refine d_gs rfl ?_)))
      | ((with_reducible refine k_dop ?_); refine d_step (by first | exact Or.inl rfl | exact Or.inr rfl) ?_)
      | (with_reducible refine d_back ?_)
      | ((with_reducible refine k_br ?_); (first | (with_reducible first | refine Br_dec ?_ | refine Br_not ?_ | refine Br_eqF ?_ | refine Br_and ?_ | refine Br_or ?_ | refine Br_neg ?_ | refine Br_band ?_ | refine Br_bor ?_ | refine Br_beq ?_) | (refine Br_t (by first | omega | assumption | rfl) ?_) | (refine Br_f (by first | omega | assumption | decide) ?_) | (with_reducible apply Br_sb <;> intro hbr <;> (first | subst hbr | simp only [hbr] | skip)) | (with_reducible apply Br_s <;> intro hbr)))
      | (with_reducible refine WN_succ ?_)
      | ((first | (with_reducible apply q_eqI) | (with_reducible apply q_eqN)); (first | (simp (disch := omega) only [w64, wu8, wu16, wu32, wu64, tm_nn, td_nn, fd_nn, Int.reduceAdd, Int.reduceSub, Int.reduceMul, Int.reduceDiv, Int.reduceMod, Int.reduceNeg, Int.reduceToNat, Int.toNat_natCast, Int.toNat_zero, Int.zero_add, Int.add_zero, Int.one_mul, Int.reducePow, Nat.mul_one, Nat.zero_add, Nat.add_zero, Nat.zero_mul, Nat.reduceAdd, Nat.reduceMul, Nat.reduceSub, Nat.min_eq_left, IntKind.bits, Nat.sub_zero]; try rfl; done) | rfl))
      | ((first | (with_reducible apply q_eqL) | (with_reducible apply q_eqO)); (first | (simp (disch := omega) only [upd_self, upd_ne, upd_upd, rep, splice, List.take_succ_cons, List.take_zero, List.drop_succ_cons, List.drop_zero, List.cons_append, List.nil_append, List.append_nil, List.length_cons, List.length_nil, List.reduceReplicate, List.flatten_cons, List.flatten_nil, Nat.reduceAdd, Nat.reduceMul, Nat.reduceSub, Nat.zero_add, Nat.add_zero, List.getElem?_cons_zero, List.getElem?_cons_succ]; try rfl; done) | rfl)))
    exact Fin_sl trivial rfl hk (by rw [List.length_map, insL_len, Nat.mul_one]) scal_i
theorem rguarded_c (l : List Acct) (hL : l.length ≤ 9223372036854775807) (v : List Int) (a s : Int) (low : Bool) : PCon Try.prog 17 [accs l, ints v, .int .i64 a, .int .i64 s, .bool low] (.bool (decide (grdP l v a s low))) := by
  have c1 := rvalid_c l hL v
  have ci := rinside_c l hL a s
  refine A17p (by simp [A17]) ?_
  simp only [A17, argEnv]
  by_cases hq : askP l v a s ∧ (s = -1 ∨ s ∈ pathG l 8 a)
  · obtain ⟨⟨hv, ha, hs⟩, hin⟩ := hq
    have c2 := rinside1_c l v hv
    obtain ⟨hl, ht, ham, _⟩ := chk_ok hv.1
    have hp : isP l a := ⟨hv.1, ha⟩
    have n1 : ((insL l v).map (D.int .i64)).length = l.length := by rw [List.length_map, insL_len]
    have hal := accs_len l
    rw [decide_eq_true hv] at c1
    rw [decide_eq_true (show insP l a s from ⟨hp, by rw [pathF_is hp]; exact hin⟩)] at ci
    repeat' (first
      | (with_reducible first | refine W_seq ?_ | refine then_n ?_ | refine W_block ?_ | refine blk_n ?_ | refine blk_r ?_ | refine blk_e ?_ | refine W_skip ?_ | refine W_ret ?_ | refine then_r ?_ | refine W_exit ?_ | refine then_e ?_)
      | (refine blk_j (by decide) ?_)
      | ((with_reducible refine s_reg ?_); intro K hK)
      | ((with_reducible refine k_nil ?_); (with_reducible apply s_nil hK); (· (repeat (first | exact norm_nil | ((with_reducible apply norm_cons); (· rfl)) | ((with_reducible apply norm_skip); (· rfl))))); clear hK; clear K)
      | ((with_reducible refine k_cond ?_); (first | ((with_reducible apply s_condT); (· rfl); (· (repeat (first | exact norm_nil | ((with_reducible apply norm_cons); (· rfl)) | ((with_reducible apply norm_skip); (· rfl)))))) | ((with_reducible apply s_condF); (· rfl); (· (repeat (first | exact norm_nil | ((with_reducible apply norm_cons); (· rfl)) | ((with_reducible apply norm_skip); (· rfl)))))) | ((with_reducible apply s_condS); (· rfl); (· (repeat (first | exact norm_nil | ((with_reducible apply norm_cons); (· rfl)) | ((with_reducible apply norm_skip); (· rfl))))); (· (repeat (first | exact norm_nil | ((with_reducible apply norm_cons); (· rfl)) | ((with_reducible apply norm_skip); (· rfl))))))))
      | ((with_reducible refine k_guard ?_); (first | (refine s_gt rfl ?_) | (refine s_gf1 rfl ?_) | (refine s_gfn rfl ?_) | (refine s_gx1 rfl ?_) | (refine s_gxn rfl ?_) | (refine s_gs rfl ?_)))
      | ((with_reducible refine k_mv ?_); (refine s_mv rfl ?_))
      | ((with_reducible refine k_len ?_); (first | (refine s_len rfl rfl ?_) | ((with_reducible apply s_len); (· rfl); (· exact SlOwn.len (by assumption)))))
      | ((with_reducible refine k_pick ?_); (first | (refine s_pickT rfl rfl ?_) | (refine s_pickF rfl rfl ?_)))
      | ((with_reducible refine k_not ?_); (refine s_not rfl (by first | exact Bool.not_true | exact Bool.not_false | rfl) ?_))
      | ((with_reducible refine k_lss ?_); (refine s_lss rfl rfl ?_))
      | ((with_reducible refine k_geq ?_); (refine s_geq rfl rfl ?_))
      | ((with_reducible refine k_callF ?_); (first | ((with_reducible apply s_call1); (· rfl)) | ((with_reducible apply s_calln); (· rfl))))
      | ((with_reducible refine k_con ?_); (first | ((with_reducible apply con_val (c1)); (· (repeat (first | exact All2.nil | (apply All2.cons; (· first | exact Rd_int | exact Rd_bool | exact Rd_vs | exact Rd_nil | exact Rd_emp | exact Rd_vp | exact Rd_sl0 upd_self rfl rfl | exact Rd_fn0 | exact Rd_flat rfl | ((apply Rd_sl0); (· (first | exact upd_self | rfl | assumption | (simp (disch := (first | omega | exact ne_key hkI ‹_› | exact (ne_key hkI ‹_›).symm | exact ne_key1 hkI ‹_› | exact (ne_key1 hkI ‹_›).symm | exact ne_key2 hkI ‹_› | exact (ne_key2 hkI ‹_›).symm | exact ne_key3 hkI ‹_› | exact (ne_key3 hkI ‹_›).symm)) only [upd_self, upd_ne]; first | done | rfl | assumption))); (· first | rfl | exact scal_i | exact scal_b | assumption); (· first | rfl | assumption | (simp; done) | (simp; omega))) | ((apply Rd_so); (· first | assumption | ((repeat' (first | assumption | (with_reducible apply SlOwn.upd) | (simp only [upd_none]; assumption))); done)); (· first | rfl | exact scal_i | exact scal_b | assumption))))))); (· rfl); (· exact fun _ => rfl)) | ((with_reducible apply con_val (ci)); (· (repeat (first | exact All2.nil | (apply All2.cons; (· first | exact Rd_int | exact Rd_bool | exact Rd_vs | exact Rd_nil | exact Rd_emp | exact Rd_vp | exact Rd_sl0 upd_self rfl rfl | exact Rd_fn0 | exact Rd_flat rfl | ((apply Rd_sl0); (· (first | exact upd_self | rfl | assumption | (simp (disch := (first | omega | exact ne_key hkI ‹_› | exact (ne_key hkI ‹_›).symm | exact ne_key1 hkI ‹_› | exact (ne_key1 hkI ‹_›).symm | exact ne_key2 hkI ‹_› | exact (ne_key2 hkI ‹_›).symm | exact ne_key3 hkI ‹_› | exact (ne_key3 hkI ‹_›).symm)) only [upd_self, upd_ne]; first | done | rfl | assumption))); (· first | rfl | exact scal_i | exact scal_b | assumption); (· first | rfl | assumption | (simp; done) | (simp; omega))) | ((apply Rd_so); (· first | assumption | ((repeat' (first | assumption | (with_reducible apply SlOwn.upd) | (simp only [upd_none]; assumption))); done)); (· first | rfl | exact scal_i | exact scal_b | assumption))))))); (· rfl); (· exact fun _ => rfl)) | ((with_reducible apply con_of_pcon (c2)); (· (repeat (first | exact All2.nil | (apply All2.cons; (· first | exact Rd_int | exact Rd_bool | exact Rd_vs | exact Rd_nil | exact Rd_emp | exact Rd_vp | exact Rd_sl0 upd_self rfl rfl | exact Rd_fn0 | exact Rd_flat rfl | ((apply Rd_sl0); (· (first | exact upd_self | rfl | assumption | (simp (disch := (first | omega | exact ne_key hkI ‹_› | exact (ne_key hkI ‹_›).symm | exact ne_key1 hkI ‹_› | exact (ne_key1 hkI ‹_›).symm | exact ne_key2 hkI ‹_› | exact (ne_key2 hkI ‹_›).symm | exact ne_key3 hkI ‹_› | exact (ne_key3 hkI ‹_›).symm)) only [upd_self, upd_ne]; first | done | rfl | assumption))); (· first | rfl | exact scal_i | exact scal_b | assumption); (· first | rfl | assumption | (simp; done) | (simp; omega))) | ((apply Rd_so); (· first | assumption | ((repeat' (first | assumption | (with_reducible apply SlOwn.upd) | (simp only [upd_none]; assumption))); done)); (· first | rfl | exact scal_i | exact scal_b | assumption))))))); intro kI hkI; (try simp only [upd_none] at hkI); simp only [thaw, thawC, List.map, thawH, owOf, owL])))
      | ((with_reducible refine k_dreg ?_); refine s_dreg rfl rfl ?_; intro K hK)
      | (with_reducible refine d_nilS ?_)
      | ((with_reducible refine k_dnil ?_); (with_reducible apply d_nil hK); (· (repeat (first | exact norm_nil | ((with_reducible apply norm_cons); (· rfl)) | ((with_reducible apply norm_skip); (· rfl))))); clear hK; clear K)
      | ((with_reducible refine k_dguard ?_); (first | (refine d_gt rfl ?_) | (refine d_gf rfl ?_) | (refine d_gx rfl ?_) | (refine d_gs rfl ?_)))
      | ((with_reducible refine k_dop ?_); refine d_step (by first | exact Or.inl rfl | exact Or.inr rfl) ?_)
      | (with_reducible refine d_back ?_)
      | ((with_reducible refine k_br ?_); (first | (with_reducible first | refine Br_dec ?_ | refine Br_not ?_ | refine Br_eqF ?_ | refine Br_and ?_ | refine Br_or ?_ | refine Br_neg ?_ | refine Br_band ?_ | refine Br_bor ?_ | refine Br_beq ?_) | (refine Br_t (by first | omega | assumption | rfl) ?_) | (refine Br_f (by first | omega | assumption | decide) ?_) | (with_reducible apply Br_sb <;> intro hbr <;> (first | subst hbr | simp only [hbr] | skip)) | (with_reducible apply Br_s <;> intro hbr)))
      | (with_reducible refine WN_succ ?_)
      | ((first | (with_reducible apply q_eqI) | (with_reducible apply q_eqN)); (first | (simp (disch := omega) only [w64, wu8, wu16, wu32, wu64, tm_nn, td_nn, fd_nn, Int.reduceAdd, Int.reduceSub, Int.reduceMul, Int.reduceDiv, Int.reduceMod, Int.reduceNeg, Int.reduceToNat, Int.toNat_natCast, Int.toNat_zero, Int.zero_add, Int.add_zero, Int.one_mul, Int.reducePow, Nat.mul_one, Nat.zero_add, Nat.add_zero, Nat.zero_mul, Nat.reduceAdd, Nat.reduceMul, Nat.reduceSub, Nat.min_eq_left, IntKind.bits, Nat.sub_zero]; try rfl; done) | rfl))
      | ((first | (with_reducible apply q_eqL) | (with_reducible apply q_eqO)); (first | (simp (disch := omega) only [upd_self, upd_ne, upd_upd, rep, splice, List.take_succ_cons, List.take_zero, List.drop_succ_cons, List.drop_zero, List.cons_append, List.nil_append, List.append_nil, List.length_cons, List.length_nil, List.reduceReplicate, List.flatten_cons, List.flatten_nil, Nat.reduceAdd, Nat.reduceMul, Nat.reduceSub, Nat.zero_add, Nat.add_zero, List.getElem?_cons_zero, List.getElem?_cons_succ]; try rfl; done) | rfl)))
    all_goals first | (exfalso; omega) | skip
    refine W_down (a.toNat) (fun m st => ∃ x, m = x.toNat ∧ x ∈ pathG l 8 a ∧ s ≤ x ∧ (∀ y ∈ pathG l 8 a, x < y → ¬ us l y.toNat - insF l (vF v) y ≤ flr l low y.toNat) ∧
      st = ⟨[(0, accs l), (3, .int .i64 s), (4, .bool low), (11, .sl kI 1 0 l.length), (12, .int .i64 x)], upd (fun _ => none) kI ((insL l v).map (.int .i64))⟩) ⟨a, rfl, path_self hp, by rcases hin with h | h; omega; exact (path_range hp h).2.2, fun y hy h => by have := path_range hp hy; omega, rfl⟩ ?_
    rintro m e' h' ⟨x, rfl, hx, hsx, hno, he⟩
    cases he
    have hxr := path_range hp hx
    by_cases hxx : 0 < x ∧ x ≠ s
    · have hxl : x.toNat < l.length := by omega
      have hpx := ht x.toNat hxl hxl
      unfold okP at hpx
      rw [← pa_at hxl] at hpx
      have hpp : 0 ≤ pa l x.toNat ∧ pa l x.toNat < x := by rcases hpx with h | h <;> omega
      have hup := pathF_up hp (x := x) (by rw [pathF_is hp]; exact hx) hpp.1
      rw [pathF_is hp] at hup
      have hgap : ∀ y ∈ pathG l 8 a, y < x → y ≤ pa l x.toNat := fun y hy h =>
        pathF_gap hp (by rw [pathF_is hp]; exact hx) (by rw [pathF_is hp]; exact hy) h
      have hs2 : s ≤ pa l x.toNat := by
        rcases hin with h | h
        · omega
        · exact hgap s h (by omega)
      have g0 : (l.flatMap Acct.cells)[x.toNat * 5]? = some (.int .i64 (pa l x.toNat)) := by rw [ac0 hxl, pa_at hxl]
      have g1 : (l.flatMap Acct.cells)[x.toNat * 5 + 1]? = some (.int .i64 (us l x.toNat)) := by rw [ac1 hxl, us_at hxl]
      have g2 : (l.flatMap Acct.cells)[x.toNat * 5 + 2]? = some (.int .i64 (mn l x.toNat)) := by rw [ac2 hxl, mn_at hxl]
      have g3 : (l.flatMap Acct.cells)[x.toNat * 5 + 3]? = some (.int .i64 (lw l x.toNat)) := by rw [ac3 hxl, lw_at hxl]
      have gI := insL_g (v := v) hxl
      rw [Int.toNat_of_nonneg hxr.1] at gI
      have hu := us_in ham.1 x.toNat
      have hi := ins_in hv x
      have hyes : us l x.toNat - insF l (vF v) x ≤ flr l low x.toNat → grdP l v a s low := fun h => .inr ⟨x, hx, by omega, by omega, h⟩
      have hnext : ¬ us l x.toNat - insF l (vF v) x ≤ flr l low x.toNat → ∀ y ∈ pathG l 8 a, pa l x.toNat < y → ¬ us l y.toNat - insF l (vF v) y ≤ flr l low y.toNat := fun h y hy h2 => by
        by_cases h3 : x < y
        · exact hno y hy h3
        · by_cases h4 : y = x
          · subst h4; exact h
          · have := hgap y hy (by omega); omega
      unfold flr at hyes hnext
      clear hno hgap hpx
      cases low
      all_goals simp only [Bool.false_eq_true, if_false, if_true] at hyes hnext
      all_goals
        repeat' (first
          | (with_reducible first | refine W_seq ?_ | refine then_n ?_ | refine W_block ?_ | refine blk_n ?_ | refine blk_r ?_ | refine blk_e ?_ | refine W_skip ?_ | refine W_ret ?_ | refine then_r ?_ | refine W_exit ?_ | refine then_e ?_)
          | (refine blk_j (by decide) ?_)
          | ((with_reducible refine s_reg ?_); intro K hK)
          | ((with_reducible refine k_nil ?_); (with_reducible apply s_nil hK); (· (repeat (first | exact norm_nil | ((with_reducible apply norm_cons); (· rfl)) | ((with_reducible apply norm_skip); (· rfl))))); clear hK; clear K)
          | ((with_reducible refine k_cond ?_); (first | ((with_reducible apply s_condT); (· rfl); (· (repeat (first | exact norm_nil | ((with_reducible apply norm_cons); (· rfl)) | ((with_reducible apply norm_skip); (· rfl)))))) | ((with_reducible apply s_condF); (· rfl); (· (repeat (first | exact norm_nil | ((with_reducible apply norm_cons); (· rfl)) | ((with_reducible apply norm_skip); (· rfl)))))) | ((with_reducible apply s_condS); (· rfl); (· (repeat (first | exact norm_nil | ((with_reducible apply norm_cons); (· rfl)) | ((with_reducible apply norm_skip); (· rfl))))); (· (repeat (first | exact norm_nil | ((with_reducible apply norm_cons); (· rfl)) | ((with_reducible apply norm_skip); (· rfl))))))))
          | ((with_reducible refine k_guard ?_); (first | (refine s_gt rfl ?_) | (refine s_gf1 rfl ?_) | (refine s_gfn rfl ?_) | (refine s_gx1 rfl ?_) | (refine s_gxn rfl ?_) | (refine s_gs rfl ?_)))
          | ((with_reducible refine k_mv ?_); (refine s_mv rfl ?_))
          | ((with_reducible refine k_pick ?_); (first | (refine s_pickT rfl rfl ?_) | (refine s_pickF rfl rfl ?_)))
          | ((with_reducible refine k_neq ?_); (first | (refine s_neq rfl rfl ?_) | (refine s_strNe rfl rfl ?_)))
          | ((with_reducible refine k_leq ?_); (refine s_leq rfl rfl ?_))
          | ((with_reducible refine k_gtr ?_); (refine s_gtr rfl rfl ?_))
          | ((with_reducible refine k_iaddr ?_); (first | ((with_reducible apply s_iaddrV); (· rfl); (· rfl); (· (first | omega | exact ⟨rfl, by omega⟩ | skip))) | ((with_reducible apply s_iaddrO); (· rfl); (· rfl); (· (first | omega | exact ⟨rfl, by omega⟩ | skip)); (· (first | exact upd_self | rfl | assumption | (simp (disch := omega) only [upd_self, upd_ne]; first | done | rfl | assumption)))) | ((with_reducible apply s_iaddrSO); (· rfl); (· assumption); (· rfl); (· (first | omega | exact ⟨rfl, by omega⟩ | skip)); (· (first | (simp (disch := omega) only [w64, wu8, wu16, wu32, wu64, tm_nn, td_nn, fd_nn, Int.reduceAdd, Int.reduceSub, Int.reduceMul, Int.reduceDiv, Int.reduceMod, Int.reduceNeg, Int.reduceToNat, Int.toNat_natCast, Int.toNat_zero, Int.zero_add, Int.add_zero, Int.one_mul, Int.reducePow, Nat.mul_one, Nat.zero_add, Nat.add_zero, Nat.zero_mul, Nat.reduceAdd, Nat.reduceMul, Nat.reduceSub, Nat.min_eq_left, IntKind.bits, Nat.sub_zero, g0, g1, g2, g3, gI]; try rfl; done) | rfl)); intro ks hks)))
          | ((with_reducible refine k_load ?_); (first | ((with_reducible apply s_loadV); (· rfl)) | ((with_reducible apply s_loadP); (· rfl); (· (first | exact upd_self | rfl | assumption | (simp (disch := omega) only [upd_self, upd_ne]; first | done | rfl | assumption))))))
          | ((with_reducible refine k_sub ?_); ((with_reducible apply s_sub); (· rfl); (· rfl)))
          | ((with_reducible refine k_faddr ?_); (first | ((with_reducible apply s_faddrV); (· rfl); (· rfl)) | ((with_reducible apply s_faddrP); (· rfl); (· rfl))))
          | ((with_reducible refine k_dreg ?_); refine s_dreg rfl rfl ?_; intro K hK)
          | (with_reducible refine d_nilS ?_)
          | ((with_reducible refine k_dnil ?_); (with_reducible apply d_nil hK); (· (repeat (first | exact norm_nil | ((with_reducible apply norm_cons); (· rfl)) | ((with_reducible apply norm_skip); (· rfl))))); clear hK; clear K)
          | ((with_reducible refine k_dguard ?_); (first | (refine d_gt rfl ?_) | (refine d_gf rfl ?_) | (refine d_gx rfl ?_) | (refine d_gs rfl ?_)))
          | ((with_reducible refine k_dop ?_); refine d_step (by first | exact Or.inl rfl | exact Or.inr rfl) ?_)
          | (with_reducible refine d_back ?_)
          | ((with_reducible refine k_br ?_); (first | (with_reducible first | refine Br_dec ?_ | refine Br_not ?_ | refine Br_eqF ?_ | refine Br_and ?_ | refine Br_or ?_ | refine Br_neg ?_ | refine Br_band ?_ | refine Br_bor ?_ | refine Br_beq ?_) | (refine Br_t (by first | omega | assumption | rfl) ?_) | (refine Br_f (by first | omega | assumption | decide) ?_) | (with_reducible apply Br_sb <;> intro hbr <;> (first | subst hbr | simp only [hbr] | skip)) | (with_reducible apply Br_s <;> intro hbr)))
          | (with_reducible refine WN_succ ?_)
          | ((first | (with_reducible apply q_eqI) | (with_reducible apply q_eqN)); (first | (simp (disch := omega) only [w64, wu8, wu16, wu32, wu64, tm_nn, td_nn, fd_nn, Int.reduceAdd, Int.reduceSub, Int.reduceMul, Int.reduceDiv, Int.reduceMod, Int.reduceNeg, Int.reduceToNat, Int.toNat_natCast, Int.toNat_zero, Int.zero_add, Int.add_zero, Int.one_mul, Int.reducePow, Nat.mul_one, Nat.zero_add, Nat.add_zero, Nat.zero_mul, Nat.reduceAdd, Nat.reduceMul, Nat.reduceSub, Nat.min_eq_left, IntKind.bits, Nat.sub_zero, g0, g1, g2, g3, gI]; try rfl; done) | rfl))
          | ((first | (with_reducible apply q_eqL) | (with_reducible apply q_eqO)); (first | (simp (disch := omega) only [upd_self, upd_ne, upd_upd, rep, splice, List.take_succ_cons, List.take_zero, List.drop_succ_cons, List.drop_zero, List.cons_append, List.nil_append, List.append_nil, List.length_cons, List.length_nil, List.reduceReplicate, List.flatten_cons, List.flatten_nil, Nat.reduceAdd, Nat.reduceMul, Nat.reduceSub, Nat.zero_add, Nat.add_zero, List.getElem?_cons_zero, List.getElem?_cons_succ, g0, g1, g2, g3, gI]; try rfl; done) | rfl)))
      all_goals first | (exfalso; omega) | exact Fin_bt trivial rfl (hyes (by assumption)) | exact ⟨_, by omega, _, rfl, hup, hs2, hnext (by assumption), rfl⟩
    · have hnot : ¬ grdP l v a s low := by
        rintro (h | ⟨y, hy, h0, hys, hf⟩)
        · exact h ⟨⟨hv, ha, hs⟩, hin⟩
        · by_cases h3 : x < y
          · exact hno y hy h3 hf
          · omega
      repeat' (first
        | (with_reducible first | refine W_seq ?_ | refine then_n ?_ | refine W_block ?_ | refine blk_n ?_ | refine blk_r ?_ | refine blk_e ?_ | refine W_skip ?_ | refine W_ret ?_ | refine then_r ?_ | refine W_exit ?_ | refine then_e ?_)
        | (refine blk_j (by decide) ?_)
        | ((with_reducible refine s_reg ?_); intro K hK)
        | ((with_reducible refine k_nil ?_); (with_reducible apply s_nil hK); (· (repeat (first | exact norm_nil | ((with_reducible apply norm_cons); (· rfl)) | ((with_reducible apply norm_skip); (· rfl))))); clear hK; clear K)
        | ((with_reducible refine k_cond ?_); (first | ((with_reducible apply s_condT); (· rfl); (· (repeat (first | exact norm_nil | ((with_reducible apply norm_cons); (· rfl)) | ((with_reducible apply norm_skip); (· rfl)))))) | ((with_reducible apply s_condF); (· rfl); (· (repeat (first | exact norm_nil | ((with_reducible apply norm_cons); (· rfl)) | ((with_reducible apply norm_skip); (· rfl)))))) | ((with_reducible apply s_condS); (· rfl); (· (repeat (first | exact norm_nil | ((with_reducible apply norm_cons); (· rfl)) | ((with_reducible apply norm_skip); (· rfl))))); (· (repeat (first | exact norm_nil | ((with_reducible apply norm_cons); (· rfl)) | ((with_reducible apply norm_skip); (· rfl))))))))
        | ((with_reducible refine k_guard ?_); (first | (refine s_gt rfl ?_) | (refine s_gf1 rfl ?_) | (refine s_gfn rfl ?_) | (refine s_gx1 rfl ?_) | (refine s_gxn rfl ?_) | (refine s_gs rfl ?_)))
        | ((with_reducible refine k_mv ?_); (refine s_mv rfl ?_))
        | ((with_reducible refine k_pick ?_); (first | (refine s_pickT rfl rfl ?_) | (refine s_pickF rfl rfl ?_)))
        | ((with_reducible refine k_neq ?_); (first | (refine s_neq rfl rfl ?_) | (refine s_strNe rfl rfl ?_)))
        | ((with_reducible refine k_gtr ?_); (refine s_gtr rfl rfl ?_))
        | ((with_reducible refine k_dreg ?_); refine s_dreg rfl rfl ?_; intro K hK)
        | (with_reducible refine d_nilS ?_)
        | ((with_reducible refine k_dnil ?_); (with_reducible apply d_nil hK); (· (repeat (first | exact norm_nil | ((with_reducible apply norm_cons); (· rfl)) | ((with_reducible apply norm_skip); (· rfl))))); clear hK; clear K)
        | ((with_reducible refine k_dguard ?_); (first | (refine d_gt rfl ?_) | (refine d_gf rfl ?_) | (refine d_gx rfl ?_) | (refine d_gs rfl ?_)))
        | ((with_reducible refine k_dop ?_); refine d_step (by first | exact Or.inl rfl | exact Or.inr rfl) ?_)
        | (with_reducible refine d_back ?_)
        | ((with_reducible refine k_br ?_); (first | (with_reducible first | refine Br_dec ?_ | refine Br_not ?_ | refine Br_eqF ?_ | refine Br_and ?_ | refine Br_or ?_ | refine Br_neg ?_ | refine Br_band ?_ | refine Br_bor ?_ | refine Br_beq ?_) | (refine Br_t (by first | omega | assumption | rfl) ?_) | (refine Br_f (by first | omega | assumption | decide) ?_) | (with_reducible apply Br_sb <;> intro hbr <;> (first | subst hbr | simp only [hbr] | skip)) | (with_reducible apply Br_s <;> intro hbr)))
        | (with_reducible refine WN_succ ?_)
        | ((first | (with_reducible apply q_eqI) | (with_reducible apply q_eqN)); (first | (simp (disch := omega) only [w64, wu8, wu16, wu32, wu64, tm_nn, td_nn, fd_nn, Int.reduceAdd, Int.reduceSub, Int.reduceMul, Int.reduceDiv, Int.reduceMod, Int.reduceNeg, Int.reduceToNat, Int.toNat_natCast, Int.toNat_zero, Int.zero_add, Int.add_zero, Int.one_mul, Int.reducePow, Nat.mul_one, Nat.zero_add, Nat.add_zero, Nat.zero_mul, Nat.reduceAdd, Nat.reduceMul, Nat.reduceSub, Nat.min_eq_left, IntKind.bits, Nat.sub_zero]; try rfl; done) | rfl))
        | ((first | (with_reducible apply q_eqL) | (with_reducible apply q_eqO)); (first | (simp (disch := omega) only [upd_self, upd_ne, upd_upd, rep, splice, List.take_succ_cons, List.take_zero, List.drop_succ_cons, List.drop_zero, List.cons_append, List.nil_append, List.append_nil, List.length_cons, List.length_nil, List.reduceReplicate, List.flatten_cons, List.flatten_nil, Nat.reduceAdd, Nat.reduceMul, Nat.reduceSub, Nat.zero_add, Nat.add_zero, List.getElem?_cons_zero, List.getElem?_cons_succ]; try rfl; done) | rfl)))
      all_goals first | (exfalso; omega) | exact Fin_bf trivial rfl hnot
  · have hyes : grdP l v a s low := .inl hq
    by_cases hv : valP l v
    · rw [decide_eq_true hv] at c1
      by_cases hi : insP l a s
      · rw [decide_eq_true hi] at ci
        have hi2 := hi.2
        rw [pathF_is hi.1] at hi2
        have : ¬ (-1 ≤ s ∧ s < l.length) := fun h => hq ⟨⟨hv, hi.1.2, h⟩, hi2⟩
        repeat' (first
          | (with_reducible first | refine W_seq ?_ | refine then_n ?_ | refine W_block ?_ | refine blk_n ?_ | refine blk_r ?_ | refine blk_e ?_ | refine W_skip ?_ | refine W_ret ?_ | refine then_r ?_ | refine W_exit ?_ | refine then_e ?_)
          | (refine blk_j (by decide) ?_)
          | ((with_reducible refine s_reg ?_); intro K hK)
          | ((with_reducible refine k_nil ?_); (with_reducible apply s_nil hK); (· (repeat (first | exact norm_nil | ((with_reducible apply norm_cons); (· rfl)) | ((with_reducible apply norm_skip); (· rfl))))); clear hK; clear K)
          | ((with_reducible refine k_cond ?_); (first | ((with_reducible apply s_condT); (· rfl); (· (repeat (first | exact norm_nil | ((with_reducible apply norm_cons); (· rfl)) | ((with_reducible apply norm_skip); (· rfl)))))) | ((with_reducible apply s_condF); (· rfl); (· (repeat (first | exact norm_nil | ((with_reducible apply norm_cons); (· rfl)) | ((with_reducible apply norm_skip); (· rfl)))))) | ((with_reducible apply s_condS); (· rfl); (· (repeat (first | exact norm_nil | ((with_reducible apply norm_cons); (· rfl)) | ((with_reducible apply norm_skip); (· rfl))))); (· (repeat (first | exact norm_nil | ((with_reducible apply norm_cons); (· rfl)) | ((with_reducible apply norm_skip); (· rfl))))))))
          | ((with_reducible refine k_guard ?_); (first | (refine s_gt rfl ?_) | (refine s_gf1 rfl ?_) | (refine s_gfn rfl ?_) | (refine s_gx1 rfl ?_) | (refine s_gxn rfl ?_) | (refine s_gs rfl ?_)))
          | ((with_reducible refine k_mv ?_); (refine s_mv rfl ?_))
          | ((with_reducible refine k_len ?_); (first | (refine s_len rfl rfl ?_) | ((with_reducible apply s_len); (· rfl); (· exact SlOwn.len (by assumption)))))
          | ((with_reducible refine k_pick ?_); (first | (refine s_pickT rfl rfl ?_) | (refine s_pickF rfl rfl ?_)))
          | ((with_reducible refine k_not ?_); (refine s_not rfl (by first | exact Bool.not_true | exact Bool.not_false | rfl) ?_))
          | ((with_reducible refine k_lss ?_); (refine s_lss rfl rfl ?_))
          | ((with_reducible refine k_geq ?_); (refine s_geq rfl rfl ?_))
          | ((with_reducible refine k_callF ?_); (first | ((with_reducible apply s_call1); (· rfl)) | ((with_reducible apply s_calln); (· rfl))))
          | ((with_reducible refine k_con ?_); (first | ((with_reducible apply con_val (c1)); (· (repeat (first | exact All2.nil | (apply All2.cons; (· first | exact Rd_int | exact Rd_bool | exact Rd_vs | exact Rd_nil | exact Rd_emp | exact Rd_vp | exact Rd_sl0 upd_self rfl rfl | exact Rd_fn0 | exact Rd_flat rfl | ((apply Rd_sl0); (· (first | exact upd_self | rfl | assumption | (simp (disch := omega) only [upd_self, upd_ne]; first | done | rfl | assumption))); (· first | rfl | exact scal_i | exact scal_b | assumption); (· first | rfl | assumption | (simp; done) | (simp; omega))) | ((apply Rd_so); (· first | assumption | ((repeat' (first | assumption | (with_reducible apply SlOwn.upd) | (simp only [upd_none]; assumption))); done)); (· first | rfl | exact scal_i | exact scal_b | assumption))))))); (· rfl); (· exact fun _ => rfl)) | ((with_reducible apply con_val (ci)); (· (repeat (first | exact All2.nil | (apply All2.cons; (· first | exact Rd_int | exact Rd_bool | exact Rd_vs | exact Rd_nil | exact Rd_emp | exact Rd_vp | exact Rd_sl0 upd_self rfl rfl | exact Rd_fn0 | exact Rd_flat rfl | ((apply Rd_sl0); (· (first | exact upd_self | rfl | assumption | (simp (disch := omega) only [upd_self, upd_ne]; first | done | rfl | assumption))); (· first | rfl | exact scal_i | exact scal_b | assumption); (· first | rfl | assumption | (simp; done) | (simp; omega))) | ((apply Rd_so); (· first | assumption | ((repeat' (first | assumption | (with_reducible apply SlOwn.upd) | (simp only [upd_none]; assumption))); done)); (· first | rfl | exact scal_i | exact scal_b | assumption))))))); (· rfl); (· exact fun _ => rfl))))
          | ((with_reducible refine k_dreg ?_); refine s_dreg rfl rfl ?_; intro K hK)
          | (with_reducible refine d_nilS ?_)
          | ((with_reducible refine k_dnil ?_); (with_reducible apply d_nil hK); (· (repeat (first | exact norm_nil | ((with_reducible apply norm_cons); (· rfl)) | ((with_reducible apply norm_skip); (· rfl))))); clear hK; clear K)
          | ((with_reducible refine k_dguard ?_); (first | (refine d_gt rfl ?_) | (refine d_gf rfl ?_) | (refine d_gx rfl ?_) | (refine d_gs rfl ?_)))
          | ((with_reducible refine k_dop ?_); refine d_step (by first | exact Or.inl rfl | exact Or.inr rfl) ?_)
          | (with_reducible refine d_back ?_)
          | ((with_reducible refine k_br ?_); (first | (with_reducible first | refine Br_dec ?_ | refine Br_not ?_ | refine Br_eqF ?_ | refine Br_and ?_ | refine Br_or ?_ | refine Br_neg ?_ | refine Br_band ?_ | refine Br_bor ?_ | refine Br_beq ?_) | (refine Br_t (by first | omega | assumption | rfl) ?_) | (refine Br_f (by first | omega | assumption | decide) ?_) | (with_reducible apply Br_sb <;> intro hbr <;> (first | subst hbr | simp only [hbr] | skip)) | (with_reducible apply Br_s <;> intro hbr)))
          | (with_reducible refine WN_succ ?_)
          | ((first | (with_reducible apply q_eqI) | (with_reducible apply q_eqN)); (first | (simp (disch := omega) only [w64, wu8, wu16, wu32, wu64, tm_nn, td_nn, fd_nn, Int.reduceAdd, Int.reduceSub, Int.reduceMul, Int.reduceDiv, Int.reduceMod, Int.reduceNeg, Int.reduceToNat, Int.toNat_natCast, Int.toNat_zero, Int.zero_add, Int.add_zero, Int.one_mul, Int.reducePow, Nat.mul_one, Nat.zero_add, Nat.add_zero, Nat.zero_mul, Nat.reduceAdd, Nat.reduceMul, Nat.reduceSub, Nat.min_eq_left, IntKind.bits, Nat.sub_zero]; try rfl; done) | rfl))
          | ((first | (with_reducible apply q_eqL) | (with_reducible apply q_eqO)); (first | (simp (disch := omega) only [upd_self, upd_ne, upd_upd, rep, splice, List.take_succ_cons, List.take_zero, List.drop_succ_cons, List.drop_zero, List.cons_append, List.nil_append, List.append_nil, List.length_cons, List.length_nil, List.reduceReplicate, List.flatten_cons, List.flatten_nil, Nat.reduceAdd, Nat.reduceMul, Nat.reduceSub, Nat.zero_add, Nat.add_zero, List.getElem?_cons_zero, List.getElem?_cons_succ]; try rfl; done) | rfl)))
        all_goals first | exact Fin_bt trivial rfl hyes | (exfalso; omega)
      · rw [decide_eq_false hi] at ci
        repeat' (first
          | (with_reducible first | refine W_seq ?_ | refine then_n ?_ | refine W_block ?_ | refine blk_n ?_ | refine blk_r ?_ | refine blk_e ?_ | refine W_skip ?_ | refine W_ret ?_ | refine then_r ?_ | refine W_exit ?_ | refine then_e ?_)
          | (refine blk_j (by decide) ?_)
          | ((with_reducible refine s_reg ?_); intro K hK)
          | ((with_reducible refine k_nil ?_); (with_reducible apply s_nil hK); (· (repeat (first | exact norm_nil | ((with_reducible apply norm_cons); (· rfl)) | ((with_reducible apply norm_skip); (· rfl))))); clear hK; clear K)
          | ((with_reducible refine k_cond ?_); (first | ((with_reducible apply s_condT); (· rfl); (· (repeat (first | exact norm_nil | ((with_reducible apply norm_cons); (· rfl)) | ((with_reducible apply norm_skip); (· rfl)))))) | ((with_reducible apply s_condF); (· rfl); (· (repeat (first | exact norm_nil | ((with_reducible apply norm_cons); (· rfl)) | ((with_reducible apply norm_skip); (· rfl)))))) | ((with_reducible apply s_condS); (· rfl); (· (repeat (first | exact norm_nil | ((with_reducible apply norm_cons); (· rfl)) | ((with_reducible apply norm_skip); (· rfl))))); (· (repeat (first | exact norm_nil | ((with_reducible apply norm_cons); (· rfl)) | ((with_reducible apply norm_skip); (· rfl))))))))
          | ((with_reducible refine k_guard ?_); (first | (refine s_gt rfl ?_) | (refine s_gf1 rfl ?_) | (refine s_gfn rfl ?_) | (refine s_gx1 rfl ?_) | (refine s_gxn rfl ?_) | (refine s_gs rfl ?_)))
          | ((with_reducible refine k_mv ?_); (refine s_mv rfl ?_))
          | ((with_reducible refine k_len ?_); (first | (refine s_len rfl rfl ?_) | ((with_reducible apply s_len); (· rfl); (· exact SlOwn.len (by assumption)))))
          | ((with_reducible refine k_pick ?_); (first | (refine s_pickT rfl rfl ?_) | (refine s_pickF rfl rfl ?_)))
          | ((with_reducible refine k_not ?_); (refine s_not rfl (by first | exact Bool.not_true | exact Bool.not_false | rfl) ?_))
          | ((with_reducible refine k_lss ?_); (refine s_lss rfl rfl ?_))
          | ((with_reducible refine k_geq ?_); (refine s_geq rfl rfl ?_))
          | ((with_reducible refine k_callF ?_); (first | ((with_reducible apply s_call1); (· rfl)) | ((with_reducible apply s_calln); (· rfl))))
          | ((with_reducible refine k_con ?_); (first | ((with_reducible apply con_val (c1)); (· (repeat (first | exact All2.nil | (apply All2.cons; (· first | exact Rd_int | exact Rd_bool | exact Rd_vs | exact Rd_nil | exact Rd_emp | exact Rd_vp | exact Rd_sl0 upd_self rfl rfl | exact Rd_fn0 | exact Rd_flat rfl | ((apply Rd_sl0); (· (first | exact upd_self | rfl | assumption | (simp (disch := omega) only [upd_self, upd_ne]; first | done | rfl | assumption))); (· first | rfl | exact scal_i | exact scal_b | assumption); (· first | rfl | assumption | (simp; done) | (simp; omega))) | ((apply Rd_so); (· first | assumption | ((repeat' (first | assumption | (with_reducible apply SlOwn.upd) | (simp only [upd_none]; assumption))); done)); (· first | rfl | exact scal_i | exact scal_b | assumption))))))); (· rfl); (· exact fun _ => rfl)) | ((with_reducible apply con_val (ci)); (· (repeat (first | exact All2.nil | (apply All2.cons; (· first | exact Rd_int | exact Rd_bool | exact Rd_vs | exact Rd_nil | exact Rd_emp | exact Rd_vp | exact Rd_sl0 upd_self rfl rfl | exact Rd_fn0 | exact Rd_flat rfl | ((apply Rd_sl0); (· (first | exact upd_self | rfl | assumption | (simp (disch := omega) only [upd_self, upd_ne]; first | done | rfl | assumption))); (· first | rfl | exact scal_i | exact scal_b | assumption); (· first | rfl | assumption | (simp; done) | (simp; omega))) | ((apply Rd_so); (· first | assumption | ((repeat' (first | assumption | (with_reducible apply SlOwn.upd) | (simp only [upd_none]; assumption))); done)); (· first | rfl | exact scal_i | exact scal_b | assumption))))))); (· rfl); (· exact fun _ => rfl))))
          | ((with_reducible refine k_dreg ?_); refine s_dreg rfl rfl ?_; intro K hK)
          | (with_reducible refine d_nilS ?_)
          | ((with_reducible refine k_dnil ?_); (with_reducible apply d_nil hK); (· (repeat (first | exact norm_nil | ((with_reducible apply norm_cons); (· rfl)) | ((with_reducible apply norm_skip); (· rfl))))); clear hK; clear K)
          | ((with_reducible refine k_dguard ?_); (first | (refine d_gt rfl ?_) | (refine d_gf rfl ?_) | (refine d_gx rfl ?_) | (refine d_gs rfl ?_)))
          | ((with_reducible refine k_dop ?_); refine d_step (by first | exact Or.inl rfl | exact Or.inr rfl) ?_)
          | (with_reducible refine d_back ?_)
          | ((with_reducible refine k_br ?_); (first | (with_reducible first | refine Br_dec ?_ | refine Br_not ?_ | refine Br_eqF ?_ | refine Br_and ?_ | refine Br_or ?_ | refine Br_neg ?_ | refine Br_band ?_ | refine Br_bor ?_ | refine Br_beq ?_) | (refine Br_t (by first | omega | assumption | rfl) ?_) | (refine Br_f (by first | omega | assumption | decide) ?_) | (with_reducible apply Br_sb <;> intro hbr <;> (first | subst hbr | simp only [hbr] | skip)) | (with_reducible apply Br_s <;> intro hbr)))
          | (with_reducible refine WN_succ ?_)
          | ((first | (with_reducible apply q_eqI) | (with_reducible apply q_eqN)); (first | (simp (disch := omega) only [w64, wu8, wu16, wu32, wu64, tm_nn, td_nn, fd_nn, Int.reduceAdd, Int.reduceSub, Int.reduceMul, Int.reduceDiv, Int.reduceMod, Int.reduceNeg, Int.reduceToNat, Int.toNat_natCast, Int.toNat_zero, Int.zero_add, Int.add_zero, Int.one_mul, Int.reducePow, Nat.mul_one, Nat.zero_add, Nat.add_zero, Nat.zero_mul, Nat.reduceAdd, Nat.reduceMul, Nat.reduceSub, Nat.min_eq_left, IntKind.bits, Nat.sub_zero]; try rfl; done) | rfl))
          | ((first | (with_reducible apply q_eqL) | (with_reducible apply q_eqO)); (first | (simp (disch := omega) only [upd_self, upd_ne, upd_upd, rep, splice, List.take_succ_cons, List.take_zero, List.drop_succ_cons, List.drop_zero, List.cons_append, List.nil_append, List.append_nil, List.length_cons, List.length_nil, List.reduceReplicate, List.flatten_cons, List.flatten_nil, Nat.reduceAdd, Nat.reduceMul, Nat.reduceSub, Nat.zero_add, Nat.add_zero, List.getElem?_cons_zero, List.getElem?_cons_succ]; try rfl; done) | rfl)))
        all_goals first | exact Fin_bt trivial rfl hyes | (exfalso; omega)
    · rw [decide_eq_false hv] at c1
      repeat' (first
        | (with_reducible first | refine W_seq ?_ | refine then_n ?_ | refine W_block ?_ | refine blk_n ?_ | refine blk_r ?_ | refine blk_e ?_ | refine W_skip ?_ | refine W_ret ?_ | refine then_r ?_ | refine W_exit ?_ | refine then_e ?_)
        | (refine blk_j (by decide) ?_)
        | ((with_reducible refine s_reg ?_); intro K hK)
        | ((with_reducible refine k_nil ?_); (with_reducible apply s_nil hK); (· (repeat (first | exact norm_nil | ((with_reducible apply norm_cons); (· rfl)) | ((with_reducible apply norm_skip); (· rfl))))); clear hK; clear K)
        | ((with_reducible refine k_cond ?_); (first | ((with_reducible apply s_condT); (· rfl); (· (repeat (first | exact norm_nil | ((with_reducible apply norm_cons); (· rfl)) | ((with_reducible apply norm_skip); (· rfl)))))) | ((with_reducible apply s_condF); (· rfl); (· (repeat (first | exact norm_nil | ((with_reducible apply norm_cons); (· rfl)) | ((with_reducible apply norm_skip); (· rfl)))))) | ((with_reducible apply s_condS); (· rfl); (· (repeat (first | exact norm_nil | ((with_reducible apply norm_cons); (· rfl)) | ((with_reducible apply norm_skip); (· rfl))))); (· (repeat (first | exact norm_nil | ((with_reducible apply norm_cons); (· rfl)) | ((with_reducible apply norm_skip); (· rfl))))))))
        | ((with_reducible refine k_guard ?_); (first | (refine s_gt rfl ?_) | (refine s_gf1 rfl ?_) | (refine s_gfn rfl ?_) | (refine s_gx1 rfl ?_) | (refine s_gxn rfl ?_) | (refine s_gs rfl ?_)))
        | ((with_reducible refine k_mv ?_); (refine s_mv rfl ?_))
        | ((with_reducible refine k_len ?_); (first | (refine s_len rfl rfl ?_) | ((with_reducible apply s_len); (· rfl); (· exact SlOwn.len (by assumption)))))
        | ((with_reducible refine k_pick ?_); (first | (refine s_pickT rfl rfl ?_) | (refine s_pickF rfl rfl ?_)))
        | ((with_reducible refine k_not ?_); (refine s_not rfl (by first | exact Bool.not_true | exact Bool.not_false | rfl) ?_))
        | ((with_reducible refine k_lss ?_); (refine s_lss rfl rfl ?_))
        | ((with_reducible refine k_geq ?_); (refine s_geq rfl rfl ?_))
        | ((with_reducible refine k_callF ?_); (first | ((with_reducible apply s_call1); (· rfl)) | ((with_reducible apply s_calln); (· rfl))))
        | ((with_reducible refine k_con ?_); (first | ((with_reducible apply con_val (c1)); (· (repeat (first | exact All2.nil | (apply All2.cons; (· first | exact Rd_int | exact Rd_bool | exact Rd_vs | exact Rd_nil | exact Rd_emp | exact Rd_vp | exact Rd_sl0 upd_self rfl rfl | exact Rd_fn0 | exact Rd_flat rfl | ((apply Rd_sl0); (· (first | exact upd_self | rfl | assumption | (simp (disch := omega) only [upd_self, upd_ne]; first | done | rfl | assumption))); (· first | rfl | exact scal_i | exact scal_b | assumption); (· first | rfl | assumption | (simp; done) | (simp; omega))) | ((apply Rd_so); (· first | assumption | ((repeat' (first | assumption | (with_reducible apply SlOwn.upd) | (simp only [upd_none]; assumption))); done)); (· first | rfl | exact scal_i | exact scal_b | assumption))))))); (· rfl); (· exact fun _ => rfl))))
        | ((with_reducible refine k_dreg ?_); refine s_dreg rfl rfl ?_; intro K hK)
        | (with_reducible refine d_nilS ?_)
        | ((with_reducible refine k_dnil ?_); (with_reducible apply d_nil hK); (· (repeat (first | exact norm_nil | ((with_reducible apply norm_cons); (· rfl)) | ((with_reducible apply norm_skip); (· rfl))))); clear hK; clear K)
        | ((with_reducible refine k_dguard ?_); (first | (refine d_gt rfl ?_) | (refine d_gf rfl ?_) | (refine d_gx rfl ?_) | (refine d_gs rfl ?_)))
        | ((with_reducible refine k_dop ?_); refine d_step (by first | exact Or.inl rfl | exact Or.inr rfl) ?_)
        | (with_reducible refine d_back ?_)
        | ((with_reducible refine k_br ?_); (first | (with_reducible first | refine Br_dec ?_ | refine Br_not ?_ | refine Br_eqF ?_ | refine Br_and ?_ | refine Br_or ?_ | refine Br_neg ?_ | refine Br_band ?_ | refine Br_bor ?_ | refine Br_beq ?_) | (refine Br_t (by first | omega | assumption | rfl) ?_) | (refine Br_f (by first | omega | assumption | decide) ?_) | (with_reducible apply Br_sb <;> intro hbr <;> (first | subst hbr | simp only [hbr] | skip)) | (with_reducible apply Br_s <;> intro hbr)))
        | (with_reducible refine WN_succ ?_)
        | ((first | (with_reducible apply q_eqI) | (with_reducible apply q_eqN)); (first | (simp (disch := omega) only [w64, wu8, wu16, wu32, wu64, tm_nn, td_nn, fd_nn, Int.reduceAdd, Int.reduceSub, Int.reduceMul, Int.reduceDiv, Int.reduceMod, Int.reduceNeg, Int.reduceToNat, Int.toNat_natCast, Int.toNat_zero, Int.zero_add, Int.add_zero, Int.one_mul, Int.reducePow, Nat.mul_one, Nat.zero_add, Nat.add_zero, Nat.zero_mul, Nat.reduceAdd, Nat.reduceMul, Nat.reduceSub, Nat.min_eq_left, IntKind.bits, Nat.sub_zero]; try rfl; done) | rfl))
        | ((first | (with_reducible apply q_eqL) | (with_reducible apply q_eqO)); (first | (simp (disch := omega) only [upd_self, upd_ne, upd_upd, rep, splice, List.take_succ_cons, List.take_zero, List.drop_succ_cons, List.drop_zero, List.cons_append, List.nil_append, List.append_nil, List.length_cons, List.length_nil, List.reduceReplicate, List.flatten_cons, List.flatten_nil, Nat.reduceAdd, Nat.reduceMul, Nat.reduceSub, Nat.zero_add, Nat.add_zero, List.getElem?_cons_zero, List.getElem?_cons_succ]; try rfl; done) | rfl)))
      all_goals first | exact Fin_bt trivial rfl hyes | (exfalso; omega)
end Go.Proofs.Ytmelmpaiplmjmaa
