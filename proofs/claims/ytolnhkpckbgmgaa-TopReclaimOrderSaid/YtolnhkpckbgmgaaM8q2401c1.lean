import Derived.Test.YtolnhkpckbgmgaaP3qc2dac3
import Derived.Test.YtolnhkpckbgmgaaAmZ3q994adf
import Derived.Test.YtolnhkpckbgmgaaA1q98e3b5
import Derived.Test.YtolnhkpckbgmgaaV3q565351
import Derived.Maps.AppendAt
section
/- min -/
/- Protection: contracts of the program's functions, second part. -/
set_option linter.unusedSimpArgs false
set_option linter.unusedVariables false
namespace Go.Proofs.Ytolnhkpckbgmgaa
open Go.AM Classical
set_option maxRecDepth 100000
set_option maxHeartbeats 4000000
theorem open_c (l : List Acct) (hL : l.length ≤ 9223372036854775807) (v : List Int) (s : Int) : PCon Try.prog 13 [accs l, ints v, .int .i64 s] (.int .i64 (opnF l v s)) := by
  have c1 := valid_c l hL v
  refine A13p (by simp [A13]) ?_
  simp only [A13, argEnv]
  unfold opnF
  by_cases h : valP l v
  · obtain ⟨hl, ht, ha, _⟩ := chk_ok h.1
    have hvl := h.2.1
    rw [decide_eq_true h] at c1
    rw [if_pos h]
    repeat' (first | (with_reducible first | refine W_seq ?_ | refine then_n ?_ | refine W_block ?_ | refine blk_n ?_ | refine blk_r ?_ | refine blk_e ?_ | refine W_skip ?_ | refine W_ret ?_ | refine then_r ?_ | refine W_exit ?_ | refine then_e ?_) | ((with_reducible refine s_reg ?_); intro K hK) | ((with_reducible refine k_nil ?_); (with_reducible apply s_nil hK); (· exact nmX); clear hK; clear K) | ((with_reducible refine k_cond ?_); (first | ((with_reducible apply s_condT); (· rfl); (· exact nmX)) | ((with_reducible apply s_condF); (· rfl); (· exact nmX)) | ((with_reducible apply s_condS); (· rfl); (· exact nmX); (· exact nmX)))) | ((with_reducible refine k_mv ?_); (refine s_mv rfl ?_)) | ((with_reducible refine k_len ?_); (first | (refine s_len rfl rfl ?_) | ((with_reducible apply s_len); (· rfl); (· exact SlOwn.len (by assumption))))) | ((with_reducible refine k_not ?_); (refine s_not rfl (by first | exact Bool.not_true | exact Bool.not_false | rfl) ?_)) | ((with_reducible refine k_callF ?_); (first | ((with_reducible apply s_call1); (· rfl)) | ((with_reducible apply s_calln); (· rfl)))) | ((with_reducible refine k_con ?_); (first | ((with_reducible apply con_val (c1)); (· (exact agX)); (· rfl); (· exact fun _ => rfl)))))
    refine W_for l.length (fun i st => (∀ j, j < i → ¬ openP l v s j) ∧ st = ⟨[(0, accs l), (1, ints v), (2, .int .i64 s), (13, .int .i64 l.length), (14, .int .i64 i)], fun _ => none⟩) ⟨fun j h => by omega, rfl⟩ ?_ ?_
    · rintro i e' h' hi ⟨hj, he⟩
      cases he
      have co := Own_c l hL i
      rw [show ownF l i = us l i - kids l i by rw [ownF, if_pos (isP_mk h.1 hi), Int.toNat_natCast]] at co
      have cg := guarded_c l hL v i s false
      have hgv : (v.map (D.int .i64))[i]? = some (.int .i64 (vF v i)) := map_g (by omega)
      have hat : openP l v s i → firstI (fun a => decide (openP l v s a)) (List.range l.length) = i := fun ho => firstI_at (by simpa using hi) (by simpa using ho) (fun j hj2 => by simpa using hj j hj2)
      by_cases hg : grdP l v i s false
      · rw [decide_eq_true hg] at cg
        have hno : ¬ openP l v s i := fun h => h.2 hg
        repeat' (first | (with_reducible first | refine W_seq ?_ | refine then_n ?_ | refine W_block ?_ | refine blk_n ?_ | refine blk_r ?_ | refine blk_e ?_ | refine W_skip ?_ | refine W_ret ?_ | refine then_r ?_ | refine W_exit ?_ | refine then_e ?_) | ((with_reducible refine s_reg ?_); intro K hK) | ((with_reducible refine k_nil ?_); (with_reducible apply s_nil hK); (· exact nmX); clear hK; clear K) | ((with_reducible refine k_cond ?_); (first | ((with_reducible apply s_condT); (· rfl); (· exact nmX)) | ((with_reducible apply s_condF); (· rfl); (· exact nmX)) | ((with_reducible apply s_condS); (· rfl); (· exact nmX); (· exact nmX)))) | ((with_reducible refine k_mv ?_); (refine s_mv rfl ?_)) | ((with_reducible refine k_pick ?_); (first | (refine s_pickT rfl rfl ?_) | (refine s_pickF rfl rfl ?_))) | ((with_reducible refine k_not ?_); (refine s_not rfl (by first | exact Bool.not_true | exact Bool.not_false | rfl) ?_)) | ((with_reducible refine k_lss ?_); (refine s_lss rfl rfl ?_)) | ((with_reducible refine k_gtr ?_); (refine s_gtr rfl rfl ?_)) | ((with_reducible refine k_iaddr ?_); (first | ((with_reducible apply s_iaddrV); (· rfl); (· rfl); (· (first | omega | exact ⟨rfl, by omega⟩ | skip))) | ((with_reducible apply s_iaddrO); (· rfl); (· rfl); (· (first | omega | exact ⟨rfl, by omega⟩ | skip)); (· (exact hpX))) | ((with_reducible apply s_iaddrSO); (· rfl); (· assumption); (· rfl); (· (first | omega | exact ⟨rfl, by omega⟩ | skip)); (· (first | (simp (disch := omega) only [w64, wu8, wu16, wu32, wu64, tm_nn, td_nn, fd_nn, Int.reduceAdd, Int.reduceSub, Int.reduceMul, Int.reduceDiv, Int.reduceMod, Int.reduceNeg, Int.reduceToNat, Int.toNat_natCast, Int.toNat_zero, Int.zero_add, Int.add_zero, Int.one_mul, Int.reducePow, Nat.mul_one, Nat.zero_add, Nat.add_zero, Nat.zero_mul, Nat.reduceAdd, Nat.reduceMul, Nat.reduceSub, Nat.min_eq_left, IntKind.bits, Nat.sub_zero, hgv]; try rfl; done) | rfl)); intro ks hks))) | ((with_reducible refine k_load ?_); (first | ((with_reducible apply s_loadV); (· rfl)) | ((with_reducible apply s_loadP); (· rfl); (· (exact hpX))))) | ((with_reducible refine k_add ?_); ((with_reducible apply s_add); (· rfl); (· rfl))) | ((with_reducible refine k_dreg ?_); refine s_dreg rfl rfl ?_; intro K hK) | ((with_reducible refine k_dnil ?_); (with_reducible apply d_nil hK); (· exact nmX); clear hK; clear K) | ((with_reducible refine k_dguard ?_); (first | (refine d_gt rfl ?_) | (refine d_gf rfl ?_) | (refine d_gx rfl ?_) | (refine d_gs rfl ?_))) | ((with_reducible refine k_dcall ?_); (first | ((with_reducible apply d_call); (· rfl); (· exact co); (· (repeat (first | exact All2.nil | (apply All2.cons; (· first | ((apply Rd_sl0); (· exact hpX); (· first | rfl | exact scal_i | exact scal_b | assumption); (· first | rfl | assumption | (simp [hgv]; done) | (simp [hgv]; omega))) | exact rdX))))); simp only [unow, unowC, List.map]) | ((with_reducible apply d_call); (· rfl); (· exact cg); (· (repeat (first | exact All2.nil | (apply All2.cons; (· first | ((apply Rd_sl0); (· exact hpX); (· first | rfl | exact scal_i | exact scal_b | assumption); (· first | rfl | assumption | (simp [hgv]; done) | (simp [hgv]; omega))) | exact rdX))))); simp only [unow, unowC, List.map]))) | ((with_reducible refine k_dop ?_); refine d_step (by first | exact Or.inl rfl | exact Or.inr rfl) ?_) | (with_reducible refine d_back ?_) | ((with_reducible refine k_br ?_); (first | (with_reducible first | refine Br_dec ?_ | refine Br_not ?_ | refine Br_eqF ?_ | refine Br_and ?_ | refine Br_or ?_ | refine Br_neg ?_ | refine Br_band ?_ | refine Br_bor ?_ | refine Br_beq ?_) | (refine Br_t (by first | with_reducible rfl | omega | assumption | rfl) ?_) | (refine Br_f (by first | omega | assumption | decide) ?_) | (with_reducible apply Br_sb <;> intro hbr <;> (first | subst hbr | simp only [hbr] | skip)) | (with_reducible apply Br_s <;> intro hbr))) | ((first | (with_reducible apply q_eqI) | (with_reducible apply q_eqN)); (first | (simp (disch := omega) only [w64, wu8, wu16, wu32, wu64, tm_nn, td_nn, fd_nn, Int.reduceAdd, Int.reduceSub, Int.reduceMul, Int.reduceDiv, Int.reduceMod, Int.reduceNeg, Int.reduceToNat, Int.toNat_natCast, Int.toNat_zero, Int.zero_add, Int.add_zero, Int.one_mul, Int.reducePow, Nat.mul_one, Nat.zero_add, Nat.add_zero, Nat.zero_mul, Nat.reduceAdd, Nat.reduceMul, Nat.reduceSub, Nat.min_eq_left, IntKind.bits, Nat.sub_zero, hgv]; try rfl; done) | rfl)) | ((first | (with_reducible apply q_eqL) | (with_reducible apply q_eqO)); (first | (simp (disch := omega) only [upd_self, upd_ne, upd_upd, rep, splice, List.take_succ_cons, List.take_zero, List.drop_succ_cons, List.drop_zero, List.cons_append, List.nil_append, List.append_nil, List.length_cons, List.length_nil, List.reduceReplicate, List.flatten_cons, List.flatten_nil, Nat.reduceAdd, Nat.reduceMul, Nat.reduceSub, Nat.zero_add, Nat.add_zero, List.getElem?_cons_zero, List.getElem?_cons_succ, hgv]; try rfl; done) | rfl)))
        all_goals exact ⟨fun j hj2 => by rcases Nat.lt_succ_iff_lt_or_eq.1 hj2 with h4 | rfl; exact hj j h4; exact hno, rfl⟩
      · rw [decide_eq_false hg] at cg
        repeat' (first | (with_reducible first | refine W_seq ?_ | refine then_n ?_ | refine W_block ?_ | refine blk_n ?_ | refine blk_r ?_ | refine blk_e ?_ | refine W_skip ?_ | refine W_ret ?_ | refine then_r ?_ | refine W_exit ?_ | refine then_e ?_) | ((with_reducible refine s_reg ?_); intro K hK) | ((with_reducible refine k_nil ?_); (with_reducible apply s_nil hK); (· exact nmX); clear hK; clear K) | ((with_reducible refine k_cond ?_); (first | ((with_reducible apply s_condT); (· rfl); (· exact nmX)) | ((with_reducible apply s_condF); (· rfl); (· exact nmX)) | ((with_reducible apply s_condS); (· rfl); (· exact nmX); (· exact nmX)))) | ((with_reducible refine k_mv ?_); (refine s_mv rfl ?_)) | ((with_reducible refine k_pick ?_); (first | (refine s_pickT rfl rfl ?_) | (refine s_pickF rfl rfl ?_))) | ((with_reducible refine k_not ?_); (refine s_not rfl (by first | exact Bool.not_true | exact Bool.not_false | rfl) ?_)) | ((with_reducible refine k_lss ?_); (refine s_lss rfl rfl ?_)) | ((with_reducible refine k_gtr ?_); (refine s_gtr rfl rfl ?_)) | ((with_reducible refine k_iaddr ?_); (first | ((with_reducible apply s_iaddrV); (· rfl); (· rfl); (· (first | omega | exact ⟨rfl, by omega⟩ | skip))) | ((with_reducible apply s_iaddrO); (· rfl); (· rfl); (· (first | omega | exact ⟨rfl, by omega⟩ | skip)); (· (exact hpX))) | ((with_reducible apply s_iaddrSO); (· rfl); (· assumption); (· rfl); (· (first | omega | exact ⟨rfl, by omega⟩ | skip)); (· (first | (simp (disch := omega) only [w64, wu8, wu16, wu32, wu64, tm_nn, td_nn, fd_nn, Int.reduceAdd, Int.reduceSub, Int.reduceMul, Int.reduceDiv, Int.reduceMod, Int.reduceNeg, Int.reduceToNat, Int.toNat_natCast, Int.toNat_zero, Int.zero_add, Int.add_zero, Int.one_mul, Int.reducePow, Nat.mul_one, Nat.zero_add, Nat.add_zero, Nat.zero_mul, Nat.reduceAdd, Nat.reduceMul, Nat.reduceSub, Nat.min_eq_left, IntKind.bits, Nat.sub_zero, hgv]; try rfl; done) | rfl)); intro ks hks))) | ((with_reducible refine k_load ?_); (first | ((with_reducible apply s_loadV); (· rfl)) | ((with_reducible apply s_loadP); (· rfl); (· (exact hpX))))) | ((with_reducible refine k_add ?_); ((with_reducible apply s_add); (· rfl); (· rfl))) | ((with_reducible refine k_dreg ?_); refine s_dreg rfl rfl ?_; intro K hK) | ((with_reducible refine k_dnil ?_); (with_reducible apply d_nil hK); (· exact nmX); clear hK; clear K) | ((with_reducible refine k_dguard ?_); (first | (refine d_gt rfl ?_) | (refine d_gf rfl ?_) | (refine d_gx rfl ?_) | (refine d_gs rfl ?_))) | ((with_reducible refine k_dcall ?_); (first | ((with_reducible apply d_call); (· rfl); (· exact co); (· (repeat (first | exact All2.nil | (apply All2.cons; (· first | ((apply Rd_sl0); (· exact hpX); (· first | rfl | exact scal_i | exact scal_b | assumption); (· first | rfl | assumption | (simp [hgv]; done) | (simp [hgv]; omega))) | exact rdX))))); simp only [unow, unowC, List.map]) | ((with_reducible apply d_call); (· rfl); (· exact cg); (· (repeat (first | exact All2.nil | (apply All2.cons; (· first | ((apply Rd_sl0); (· exact hpX); (· first | rfl | exact scal_i | exact scal_b | assumption); (· first | rfl | assumption | (simp [hgv]; done) | (simp [hgv]; omega))) | exact rdX))))); simp only [unow, unowC, List.map]))) | ((with_reducible refine k_dop ?_); refine d_step (by first | exact Or.inl rfl | exact Or.inr rfl) ?_) | (with_reducible refine d_back ?_) | ((with_reducible refine k_br ?_); (first | (with_reducible first | refine Br_dec ?_ | refine Br_not ?_ | refine Br_eqF ?_ | refine Br_and ?_ | refine Br_or ?_ | refine Br_neg ?_ | refine Br_band ?_ | refine Br_bor ?_ | refine Br_beq ?_) | (refine Br_t (by first | with_reducible rfl | omega | assumption | rfl) ?_) | (refine Br_f (by first | omega | assumption | decide) ?_) | (with_reducible apply Br_sb <;> intro hbr <;> (first | subst hbr | simp only [hbr] | skip)) | (with_reducible apply Br_s <;> intro hbr))) | ((first | (with_reducible apply q_eqI) | (with_reducible apply q_eqN)); (first | (simp (disch := omega) only [w64, wu8, wu16, wu32, wu64, tm_nn, td_nn, fd_nn, Int.reduceAdd, Int.reduceSub, Int.reduceMul, Int.reduceDiv, Int.reduceMod, Int.reduceNeg, Int.reduceToNat, Int.toNat_natCast, Int.toNat_zero, Int.zero_add, Int.add_zero, Int.one_mul, Int.reducePow, Nat.mul_one, Nat.zero_add, Nat.add_zero, Nat.zero_mul, Nat.reduceAdd, Nat.reduceMul, Nat.reduceSub, Nat.min_eq_left, IntKind.bits, Nat.sub_zero, hgv]; try rfl; done) | rfl)) | ((first | (with_reducible apply q_eqL) | (with_reducible apply q_eqO)); (first | (simp (disch := omega) only [upd_self, upd_ne, upd_upd, rep, splice, List.take_succ_cons, List.take_zero, List.drop_succ_cons, List.drop_zero, List.cons_append, List.nil_append, List.append_nil, List.length_cons, List.length_nil, List.reduceReplicate, List.flatten_cons, List.flatten_nil, Nat.reduceAdd, Nat.reduceMul, Nat.reduceSub, Nat.zero_add, Nat.add_zero, List.getElem?_cons_zero, List.getElem?_cons_succ, hgv]; try rfl; done) | rfl)))
        · rw [hat ⟨by assumption, hg⟩]
          exact Fin_flat trivial rfl rfl
        · exact ⟨fun j hj2 => by rcases Nat.lt_succ_iff_lt_or_eq.1 hj2 with h4 | rfl; exact hj j h4; exact fun h5 => absurd h5.1 (by assumption), rfl⟩
    · rintro e' h' ⟨hj, he⟩
      cases he
      have hno : firstI (fun a => decide (openP l v s a)) (List.range l.length) = -1 := firstI_no (fun j hj2 => by simpa using hj j (by simpa using hj2))
      rw [hno]
      repeat' (first | (with_reducible first | refine W_seq ?_ | refine then_n ?_ | refine W_block ?_ | refine blk_n ?_ | refine blk_r ?_ | refine blk_e ?_ | refine W_skip ?_ | refine W_ret ?_ | refine then_r ?_ | refine W_exit ?_ | refine then_e ?_) | ((with_reducible refine s_reg ?_); intro K hK) | ((with_reducible refine k_nil ?_); (with_reducible apply s_nil hK); (· exact nmX); clear hK; clear K) | ((with_reducible refine k_cond ?_); (first | ((with_reducible apply s_condT); (· rfl); (· exact nmX)) | ((with_reducible apply s_condF); (· rfl); (· exact nmX)) | ((with_reducible apply s_condS); (· rfl); (· exact nmX); (· exact nmX)))) | ((with_reducible refine k_mv ?_); (refine s_mv rfl ?_)) | ((with_reducible refine k_lss ?_); (refine s_lss rfl rfl ?_)) | ((with_reducible refine k_br ?_); (first | (with_reducible first | refine Br_dec ?_ | refine Br_not ?_ | refine Br_eqF ?_ | refine Br_and ?_ | refine Br_or ?_ | refine Br_neg ?_ | refine Br_band ?_ | refine Br_bor ?_ | refine Br_beq ?_) | (refine Br_t (by first | with_reducible rfl | omega | assumption | rfl) ?_) | (refine Br_f (by first | omega | assumption | decide) ?_) | (with_reducible apply Br_sb <;> intro hbr <;> (first | subst hbr | simp only [hbr] | skip)) | (with_reducible apply Br_s <;> intro hbr))))
      exact Fin_flat trivial rfl rfl
  · rw [decide_eq_false h] at c1
    rw [if_neg h]
    repeat' (first | (with_reducible first | refine W_seq ?_ | refine then_n ?_ | refine W_block ?_ | refine blk_n ?_ | refine blk_r ?_ | refine blk_e ?_ | refine W_skip ?_ | refine W_ret ?_ | refine then_r ?_ | refine W_exit ?_ | refine then_e ?_) | ((with_reducible refine s_reg ?_); intro K hK) | ((with_reducible refine k_nil ?_); (with_reducible apply s_nil hK); (· exact nmX); clear hK; clear K) | ((with_reducible refine k_cond ?_); (first | ((with_reducible apply s_condT); (· rfl); (· exact nmX)) | ((with_reducible apply s_condF); (· rfl); (· exact nmX)) | ((with_reducible apply s_condS); (· rfl); (· exact nmX); (· exact nmX)))) | ((with_reducible refine k_mv ?_); (refine s_mv rfl ?_)) | ((with_reducible refine k_not ?_); (refine s_not rfl (by first | exact Bool.not_true | exact Bool.not_false | rfl) ?_)) | ((with_reducible refine k_callF ?_); (first | ((with_reducible apply s_call1); (· rfl)) | ((with_reducible apply s_calln); (· rfl)))) | ((with_reducible refine k_con ?_); (first | ((with_reducible apply con_val (c1)); (· (exact agX)); (· rfl); (· exact fun _ => rfl)))))
    exact Fin_flat trivial rfl rfl
theorem eff1_c (l : List Acct) (i : Nat) (hi : i < l.length) : PCon Try.prog 24 [.int .i64 i, .vp [accs l] 0] (.int .i64 (wt l i)) := by
  have hal := accs_len l
  refine A24p (by simp [A24]) ?_
  simp only [A24, argEnv]
  have g1 : (l.flatMap Acct.cells)[i * 5 + 1]? = some (.int .i64 (us l i)) := by rw [ac1 hi, us_at hi]
  have g2 : (l.flatMap Acct.cells)[i * 5 + 2]? = some (.int .i64 (mn l i)) := by rw [ac2 hi, mn_at hi]
  repeat' (first | (with_reducible first | refine W_seq ?_ | refine then_n ?_ | refine W_skip ?_ | refine W_ret ?_ | refine then_r ?_) | ((with_reducible refine s_reg ?_); intro K hK) | ((with_reducible refine k_nil ?_); (with_reducible apply s_nil hK); (· exact nmX); clear hK; clear K) | ((with_reducible refine k_mv ?_); (refine s_mv rfl ?_)) | ((with_reducible refine k_iaddr ?_); (first | ((with_reducible apply s_iaddrV); (· rfl); (· rfl); (· (first | omega | exact ⟨rfl, by omega⟩ | skip))) | ((with_reducible apply s_iaddrO); (· rfl); (· rfl); (· (first | omega | exact ⟨rfl, by omega⟩ | skip)); (· (exact hpX))) | ((with_reducible apply s_iaddrSO); (· rfl); (· assumption); (· rfl); (· (first | omega | exact ⟨rfl, by omega⟩ | skip)); (· (first | (simp (disch := omega) only [w64, wu8, wu16, wu32, wu64, tm_nn, td_nn, fd_nn, Int.reduceAdd, Int.reduceSub, Int.reduceMul, Int.reduceDiv, Int.reduceMod, Int.reduceNeg, Int.reduceToNat, Int.toNat_natCast, Int.toNat_zero, Int.zero_add, Int.add_zero, Int.one_mul, Int.reducePow, Nat.mul_one, Nat.zero_add, Nat.add_zero, Nat.zero_mul, Nat.reduceAdd, Nat.reduceMul, Nat.reduceSub, Nat.min_eq_left, IntKind.bits, Nat.sub_zero, g1, g2]; try rfl; done) | rfl)); intro ks hks))) | ((with_reducible refine k_load ?_); (first | ((with_reducible apply s_loadV); (· rfl)) | ((with_reducible apply s_loadP); (· rfl); (· (exact hpX))))) | ((with_reducible refine k_faddr ?_); (first | ((with_reducible apply s_faddrV); (· rfl); (· rfl)) | ((with_reducible apply s_faddrP); (· rfl); (· rfl)))) | ((with_reducible refine k_mima ?_); ((with_reducible apply s_mima); (· rfl); (· rfl))) | ((with_reducible refine k_dreg ?_); refine s_dreg rfl rfl ?_; intro K hK) | ((with_reducible refine k_dnil ?_); (with_reducible apply d_nil hK); (· exact nmX); clear hK; clear K) | ((with_reducible refine k_dop ?_); refine d_step (by first | exact Or.inl rfl | exact Or.inr rfl) ?_) | (with_reducible refine d_back ?_) | ((first | (with_reducible apply q_eqI) | (with_reducible apply q_eqN)); (first | (simp (disch := omega) only [w64, wu8, wu16, wu32, wu64, tm_nn, td_nn, fd_nn, Int.reduceAdd, Int.reduceSub, Int.reduceMul, Int.reduceDiv, Int.reduceMod, Int.reduceNeg, Int.reduceToNat, Int.toNat_natCast, Int.toNat_zero, Int.zero_add, Int.add_zero, Int.one_mul, Int.reducePow, Nat.mul_one, Nat.zero_add, Nat.add_zero, Nat.zero_mul, Nat.reduceAdd, Nat.reduceMul, Nat.reduceSub, Nat.min_eq_left, IntKind.bits, Nat.sub_zero, g1, g2]; try rfl; done) | rfl)) | ((first | (with_reducible apply q_eqL) | (with_reducible apply q_eqO)); (first | (simp (disch := omega) only [upd_self, upd_ne, upd_upd, rep, splice, List.take_succ_cons, List.take_zero, List.drop_succ_cons, List.drop_zero, List.cons_append, List.nil_append, List.append_nil, List.length_cons, List.length_nil, List.reduceReplicate, List.flatten_cons, List.flatten_nil, Nat.reduceAdd, Nat.reduceMul, Nat.reduceSub, Nat.zero_add, Nat.add_zero, List.getElem?_cons_zero, List.getElem?_cons_succ, g1, g2]; try rfl; done) | rfl)))
  show AM.Fin _ _ _ ⟨[(3, .int .i64 (wt l i))], _⟩
  exact Fin_flat trivial rfl rfl
noncomputable def effF (l : List Acct) : List Int × Int := if chkF l = 0 then (effL l, 0) else ([], chkF l)
def effR (r : List Int × Int) : D := .tup [.ow 1 (r.1.map (.int .i64)) r.1.length, .int .i64 r.2]
def effTo (l : List Acct) (i : Nat) : List Int := (List.range l.length).map fun j => if j < i then eff l j else 0
theorem effTo_len (l : List Acct) (i : Nat) : (effTo l i).length = l.length := by simp [effTo]
theorem effTo_d {l : List Acct} {i j : Nat} (h : j < l.length) : (effTo l i).getD j 0 = if j < i then eff l j else 0 := by
  rw [List.getD_eq_getElem?_getD, List.getElem?_eq_getElem (by rw [effTo_len]; exact h), Option.getD_some]; simp [effTo]
theorem effTo_step {l : List Acct} {i : Nat} (hi : i < l.length) : (effTo l i).set i (eff l i) = effTo l (i + 1) := by
  apply List.ext_getElem (by simp [effTo_len])
  intro j h1 h2
  rw [List.getElem_set]
  simp only [effTo, List.getElem_map, List.getElem_range]
  by_cases h : i = j
  · subst h; simp
  · rw [if_neg h]
    by_cases h3 : j < i
    · rw [if_pos h3, if_pos (by omega)]
    · rw [if_neg h3, if_neg (by omega)]
theorem effTo_end (l : List Acct) : effTo l l.length = effL l := by
  apply List.ext_getElem (by simp [effTo, effL])
  intro j h1 h2
  rw [effTo_len] at h1
  simp only [effTo, effL, List.getElem_map, List.getElem_range]
  rw [if_pos h1]
theorem effTo_zero (l : List Acct) : effTo l 0 = List.replicate l.length 0 := by
  apply List.ext_getElem (by simp [effTo])
  intro j h1 h2
  simp [effTo]
theorem upTo_dn (l : List Acct) (f : Nat → Int) (m : Nat) : downTo l (fun _ => 0) f m = (List.range l.length).map fun (j : Nat) => kT l f j l.length - kT l f j m := by
  unfold downTo; congr 1; funext j; simp
theorem dn_d {l : List Acct} {f : Nat → Int} {m j : Nat} (h : j < l.length) : (downTo l (fun _ => 0) f m).getD j 0 = kT l f j l.length - kT l f j m := by
  rw [downTo_d h, ite_self, Int.zero_add]
theorem dn_step {l : List Acct} {f : Nat → Int} {m p : Nat} (hm : 0 < m) (hp : pa l m = p) (hpl : p < l.length) : (downTo l (fun _ => 0) f (m + 1)).set p (kT l f p l.length - kT l f p (m + 1) + f m) = downTo l (fun _ => 0) f m := by
  rw [upTo_dn, upTo_dn]
  apply List.ext_getElem (by simp)
  intro j h1 h2
  rw [List.getElem_set]
  simp only [List.getElem_map, List.getElem_range]
  by_cases h : p = j
  · subst h; rw [if_pos rfl, kT_s, if_pos ⟨hm, hp⟩]; omega
  · rw [if_neg h, kT_s, if_neg (by omega)]; omega
theorem effective_c (l : List Acct) (hL : l.length ≤ 9223372036854775807) : PCon Try.prog 11 [accs l] (effR (effF l)) := by
  have c1 := check_c l hL
  refine A11p (by simp [A11]) ?_
  simp only [A11, argEnv]
  unfold effF
  by_cases h : chkF l = 0
  · rw [h] at c1
    rw [if_pos h]
    obtain ⟨hl, ht, ha, _⟩ := chk_ok h
    have hal := accs_len l
    have z1 : (l.flatMap Acct.cells)[1]? = some (.int .i64 (us l 0)) := by have := ac1 hl.1; rwa [← us_at hl.1, Nat.zero_mul, Nat.zero_add] at this
    repeat' (first | (with_reducible first | refine W_seq ?_ | refine then_n ?_ | refine W_block ?_ | refine blk_n ?_ | refine blk_r ?_ | refine blk_e ?_ | refine W_skip ?_ | refine W_ret ?_ | refine then_r ?_ | refine W_exit ?_ | refine then_e ?_) | ((with_reducible refine s_reg ?_); intro K hK) | ((with_reducible refine k_nil ?_); (with_reducible apply s_nil hK); (· exact nmX); clear hK; clear K) | ((with_reducible refine k_cond ?_); (first | ((with_reducible apply s_condT); (· rfl); (· exact nmX)) | ((with_reducible apply s_condF); (· rfl); (· exact nmX)) | ((with_reducible apply s_condS); (· rfl); (· exact nmX); (· exact nmX)))) | ((with_reducible refine k_mv ?_); (refine s_mv rfl ?_)) | ((with_reducible refine k_len ?_); (first | (refine s_len rfl rfl ?_) | ((with_reducible apply s_len); (· rfl); (· exact SlOwn.len (by assumption))))) | ((with_reducible refine k_neq ?_); (first | (refine s_neq rfl rfl ?_) | (refine s_strNe rfl rfl ?_))) | ((with_reducible refine k_load ?_); (first | ((with_reducible apply s_loadV); (· rfl)) | ((with_reducible apply s_loadP); (· rfl); (· (exact hpX))))) | ((with_reducible refine k_sub ?_); ((with_reducible apply s_sub); (· rfl); (· rfl))) | ((with_reducible refine k_mkslice (dst := some 20) ?_); ((with_reducible apply s_mkslice); (· rfl); (· rfl); (· (exact ⟨rfl, by decide, by omega, by omega, by (rw [room_i]; omega), by omega⟩)); (· ((first | exact nuI | exact nuN))); intro k20 hk20; (try simp only [upd_none] at hk20))) | ((with_reducible refine k_box (dst := some 1) ?_); ((with_reducible apply s_box); (· rfl); (· rfl); intro k1 hk1; (try simp only [upd_none] at hk1))) | ((with_reducible refine k_mkfn ?_); ((with_reducible apply s_mkfn); (· rfl); (· rfl))) | ((with_reducible refine k_callF ?_); (first | ((with_reducible apply s_call1); (· rfl)) | ((with_reducible apply s_calln); (· rfl)))) | ((with_reducible refine k_con ?_); (first | ((with_reducible apply con_val (c1)); (· (exact agX)); (· rfl); (· exact fun _ => rfl)))) | ((with_reducible refine k_br ?_); (first | (with_reducible first | refine Br_dec ?_ | refine Br_not ?_ | refine Br_eqF ?_ | refine Br_and ?_ | refine Br_or ?_ | refine Br_neg ?_ | refine Br_band ?_ | refine Br_bor ?_ | refine Br_beq ?_) | (refine Br_t (by first | with_reducible rfl | omega | assumption | rfl) ?_) | (refine Br_f (by first | omega | assumption | decide) ?_) | (with_reducible apply Br_sb <;> intro hbr <;> (first | subst hbr | simp only [hbr] | skip)) | (with_reducible apply Br_s <;> intro hbr))) | ((first | (with_reducible apply q_eqI) | (with_reducible apply q_eqN)); (first | exact nuI | exact nuN)) | ((first | (with_reducible apply q_eqL) | (with_reducible apply q_eqO)); (first | exact liL | exact liO)))
    rw [show (l.length : Int) - 1 = ((l.length - 1 : Nat) : Int) by omega]
    refine W_down (l.length - 1) (fun m st => ∃ h', m + 1 ≤ l.length ∧ st = ⟨[(1, .pt k1 0), (5, .fn 24 [] [.pt k1 0]), (6, .sl k20 1 0 l.length), (7, .int .i64 m)], h'⟩ ∧ h' k1 = some [accs l] ∧ h' k20 = some ((downTo l (fun _ => 0) (wt l) (m + 1)).map (.int .i64))) ⟨_, by omega, rfl, by rw [upd_ne (fun h => hk20.1 h.symm), upd_self], ?_⟩ ?_
    · rw [upd_self, show l.length - 1 + 1 = l.length by omega, downTo_end, rep_zero (xs := List.replicate l.length 0) (by simp) (by simp)]
    · rintro m e' h' ⟨h1, hm, he, hk1, hk2⟩
      cases he
      have hne : k1 ≠ k20 := fun h => hk20.1 h.symm
      cases m with
      | zero =>
        have hlen : ((downTo l (fun _ => 0) (wt l) (0 + 1)).map (D.int .i64)).length = l.length := by rw [List.length_map, downTo_len]
        have e0 : rep l.length [D.int .i64 0] = (effTo l 0).map (.int .i64) := rep_zero (effTo_len l 0) (by rw [effTo_zero]; simp)
        have n0 : ((effTo l 0).map (D.int .i64)).length = l.length := by rw [List.length_map, effTo_len]
        have hs := map_st (k := .i64) (by rw [effTo_len]; exact hl.1) (effTo_step hl.1)
        rw [eff_zero, Nat.zero_add, List.take_zero, List.nil_append] at hs
        repeat' (first | (with_reducible first | refine W_seq ?_ | refine then_n ?_ | refine W_block ?_ | refine blk_n ?_ | refine blk_r ?_ | refine blk_e ?_ | refine W_skip ?_ | refine W_ret ?_ | refine then_r ?_ | refine W_exit ?_ | refine then_e ?_) | ((with_reducible refine s_reg ?_); intro K hK) | ((with_reducible refine k_nil ?_); (with_reducible apply s_nil hK); (· exact nmX); clear hK; clear K) | ((with_reducible refine k_cond ?_); (first | ((with_reducible apply s_condT); (· rfl); (· exact nmX)) | ((with_reducible apply s_condF); (· rfl); (· exact nmX)) | ((with_reducible apply s_condS); (· rfl); (· exact nmX); (· exact nmX)))) | ((with_reducible refine k_mv ?_); (refine s_mv rfl ?_)) | ((with_reducible refine k_len ?_); (first | (refine s_len rfl rfl ?_) | ((with_reducible apply s_len); (· rfl); (· exact SlOwn.len (by assumption))))) | ((with_reducible refine k_gtr ?_); (refine s_gtr rfl rfl ?_)) | ((with_reducible refine k_load ?_); (first | ((with_reducible apply s_loadV); (· rfl)) | ((with_reducible apply s_loadP); (· rfl); (· (exact hpX))))) | ((with_reducible refine k_mkslice (dst := some 43) ?_); ((with_reducible apply s_mkslice); (· rfl); (· rfl); (· (exact ⟨rfl, by decide, by omega, by omega, by (rw [room_i]; omega), by omega⟩)); (· ((first | (simp (disch := omega) only [w64, wu8, wu16, wu32, wu64, tm_nn, td_nn, fd_nn, Int.reduceAdd, Int.reduceSub, Int.reduceMul, Int.reduceDiv, Int.reduceMod, Int.reduceNeg, Int.reduceToNat, Int.toNat_natCast, Int.toNat_zero, Int.zero_add, Int.add_zero, Int.one_mul, Int.reducePow, Nat.mul_one, Nat.zero_add, Nat.add_zero, Nat.zero_mul, Nat.reduceAdd, Nat.reduceMul, Nat.reduceSub, Nat.min_eq_left, IntKind.bits, Nat.sub_zero, z1, e0]; try rfl; done) | rfl))); intro k43 hk43; (try simp only [upd_none] at hk43))) | ((with_reducible refine k_br ?_); (first | (with_reducible first | refine Br_dec ?_ | refine Br_not ?_ | refine Br_eqF ?_ | refine Br_and ?_ | refine Br_or ?_ | refine Br_neg ?_ | refine Br_band ?_ | refine Br_bor ?_ | refine Br_beq ?_) | (refine Br_t (by first | with_reducible rfl | omega | assumption | rfl) ?_) | (refine Br_f (by first | omega | assumption | decide) ?_) | (with_reducible apply Br_sb <;> intro hbr <;> (first | subst hbr | simp only [hbr] | skip)) | (with_reducible apply Br_s <;> intro hbr))) | ((first | (with_reducible apply q_eqL) | (with_reducible apply q_eqO)); (first | (simp (disch := omega) only [upd_self, upd_ne, upd_upd, rep, splice, List.take_succ_cons, List.take_zero, List.drop_succ_cons, List.drop_zero, List.cons_append, List.nil_append, List.append_nil, List.length_cons, List.length_nil, List.reduceReplicate, List.flatten_cons, List.flatten_nil, Nat.reduceAdd, Nat.reduceMul, Nat.reduceSub, Nat.zero_add, Nat.add_zero, List.getElem?_cons_zero, List.getElem?_cons_succ, z1, e0]; try rfl; done) | rfl)))
        rw [e0]
        repeat' (first | (with_reducible first | refine W_seq ?_ | refine then_n ?_ | refine W_block ?_ | refine blk_n ?_ | refine blk_r ?_ | refine blk_e ?_ | refine W_skip ?_ | refine W_ret ?_ | refine then_r ?_ | refine W_exit ?_ | refine then_e ?_) | ((with_reducible refine s_reg ?_); intro K hK) | ((with_reducible refine k_nil ?_); (with_reducible apply s_nil hK); (· exact nmX); clear hK; clear K) | ((with_reducible refine k_mv ?_); (refine s_mv rfl ?_)) | ((with_reducible refine k_iaddr ?_); (first | ((with_reducible apply s_iaddrV); (· rfl); (· rfl); (· (first | omega | exact ⟨rfl, by omega⟩ | skip))) | ((with_reducible apply s_iaddrO); (· rfl); (· rfl); (· (first | omega | exact ⟨rfl, by omega⟩ | skip)); (· (exact hpX))) | ((with_reducible apply s_iaddrSO); (· rfl); (· assumption); (· rfl); (· (first | omega | exact ⟨rfl, by omega⟩ | skip)); (· (first | (simp (disch := omega) only [w64, wu8, wu16, wu32, wu64, tm_nn, td_nn, fd_nn, Int.reduceAdd, Int.reduceSub, Int.reduceMul, Int.reduceDiv, Int.reduceMod, Int.reduceNeg, Int.reduceToNat, Int.toNat_natCast, Int.toNat_zero, Int.zero_add, Int.add_zero, Int.one_mul, Int.reducePow, Nat.mul_one, Nat.zero_add, Nat.add_zero, Nat.zero_mul, Nat.reduceAdd, Nat.reduceMul, Nat.reduceSub, Nat.min_eq_left, IntKind.bits, Nat.sub_zero, z1, hs]; try rfl; done) | rfl)); intro ks hks))) | ((with_reducible refine k_load ?_); (first | ((with_reducible apply s_loadV); (· rfl)) | ((with_reducible apply s_loadP); (· rfl); (· (exact hpX))))) | ((with_reducible refine k_store ?_); ((with_reducible apply s_store0); (· rfl); (· rfl); (· rfl); (· (exact hpX)); (· (exact ⟨rfl, by first | exact Nat.le_of_ble_eq_true rfl | omega | (simp [z1, hs]; omega)⟩)); (· ((first | (simp (disch := omega) only [upd_self, upd_ne, upd_upd, rep, splice, List.take_succ_cons, List.take_zero, List.drop_succ_cons, List.drop_zero, List.cons_append, List.nil_append, List.append_nil, List.length_cons, List.length_nil, List.reduceReplicate, List.flatten_cons, List.flatten_nil, Nat.reduceAdd, Nat.reduceMul, Nat.reduceSub, Nat.zero_add, Nat.add_zero, List.getElem?_cons_zero, List.getElem?_cons_succ, z1, hs]; try rfl; done) | rfl))); (· (first | exact upd_upd | rfl)))) | ((with_reducible refine k_faddr ?_); (first | ((with_reducible apply s_faddrV); (· rfl); (· rfl)) | ((with_reducible apply s_faddrP); (· rfl); (· rfl)))) | ((first | (with_reducible apply q_eqI) | (with_reducible apply q_eqN)); (first | (simp (disch := omega) only [w64, wu8, wu16, wu32, wu64, tm_nn, td_nn, fd_nn, Int.reduceAdd, Int.reduceSub, Int.reduceMul, Int.reduceDiv, Int.reduceMod, Int.reduceNeg, Int.reduceToNat, Int.toNat_natCast, Int.toNat_zero, Int.zero_add, Int.add_zero, Int.one_mul, Int.reducePow, Nat.mul_one, Nat.zero_add, Nat.add_zero, Nat.zero_mul, Nat.reduceAdd, Nat.reduceMul, Nat.reduceSub, Nat.min_eq_left, IntKind.bits, Nat.sub_zero, z1, hs]; try rfl; done) | rfl)) | ((first | (with_reducible apply q_eqL) | (with_reducible apply q_eqO)); (first | (simp (disch := omega) only [upd_self, upd_ne, upd_upd, rep, splice, List.take_succ_cons, List.take_zero, List.drop_succ_cons, List.drop_zero, List.cons_append, List.nil_append, List.append_nil, List.length_cons, List.length_nil, List.reduceReplicate, List.flatten_cons, List.flatten_nil, Nat.reduceAdd, Nat.reduceMul, Nat.reduceSub, Nat.zero_add, Nat.add_zero, List.getElem?_cons_zero, List.getElem?_cons_succ, z1, hs]; try rfl; done) | rfl)))
        refine W_for (l.length - 1) (fun i st => ∃ h', st = ⟨[(1, .pt k1 0), (5, .fn 24 [] [.pt k1 0]), (6, .sl k20 1 0 l.length), (8, .sl k43 1 0 l.length), (9, .int .i64 ((i + 1 : Nat) : Int))], h'⟩ ∧ h' k1 = some [accs l] ∧ h' k20 = some ((downTo l (fun _ => 0) (wt l) (0 + 1)).map (.int .i64)) ∧ h' k43 = some ((effTo l (i + 1)).map (.int .i64))) ⟨_, rfl, ?_, ?_, ?_⟩ ?_ ?_
        · rw [upd_ne (ne_key hk43 hk1)]; exact hk1
        · rw [upd_ne (ne_key hk43 hk2)]; exact hk2
        · rw [upd_self, ← hs]
        · have n20 : k20 ≠ k43 := ne_key hk43 hk2
          have n1 : k1 ≠ k43 := ne_key hk43 hk1
          clear hk1 hk2 hs hk43 hk20
          rintro i e' h' hi ⟨h1, he, hk1, hk2, hk3⟩
          cases he
          have hnl : i + 1 < l.length := by omega
          have hp := ht (i + 1) hnl hnl
          unfold okP at hp
          rw [← pa_at hnl] at hp
          have hpp : 0 ≤ pa l (i + 1) ∧ pa l (i + 1) < (i : Int) + 1 := by rcases hp with h | h <;> omega
          have g0 : (l.flatMap Acct.cells)[(i + 1) * 5]? = some (.int .i64 (pa l (i + 1))) := by rw [ac0 hnl, pa_at hnl]
          have ce := eff1_c l (i + 1) hnl
          have g2 := map_g (k := .i64) (xs := downTo l (fun _ => 0) (wt l) (0 + 1)) (i := (pa l (i + 1)).toNat) (by rw [downTo_len]; omega)
          rw [dn_d (by omega), kT_zero ht (j := (pa l (i + 1)).toNat) (n := 0 + 1) (by omega) (by omega), Int.sub_zero, Int.toNat_of_nonneg hpp.1] at g2
          have g3 := map_g (k := .i64) (xs := effTo l (i + 1)) (i := (pa l (i + 1)).toNat) (by rw [effTo_len]; omega)
          rw [effTo_d (by omega), if_pos (by omega)] at g3
          have hst := effTo_step hnl
          rw [eff_rec ht hl.2 hnl (by omega)] at hst
          have hef := eff_in h (pa l (i + 1)).toNat (by omega)
          have hup := us_in ha.1 (pa l (i + 1)).toNat
          have hw := wt_in ha.1 (i + 1)
          have hb2 := kT_in (l := l) (f := wt l) (b := 1048576) (wt_in ha.1) (pa l (i + 1)) l.length
          have m1 : ((downTo l (fun _ => 0) (wt l) (0 + 1)).map (D.int .i64)).length = l.length := by rw [List.length_map, downTo_len]
          have m2 : ((effTo l (i + 1)).map (D.int .i64)).length = l.length := by rw [List.length_map, effTo_len]
          have s1 := map_st (k := .i64) (xs := effTo l (i + 1)) (i := i + 1) (v := wt l (i + 1)) (by rw [effTo_len]; omega) rfl
          have m3 : (((effTo l (i + 1)).set (i + 1) (wt l (i + 1))).map (D.int .i64)).length = l.length := by rw [List.length_map, List.length_set, effTo_len]
          have g4 := map_g (k := .i64) (xs := (effTo l (i + 1)).set (i + 1) (wt l (i + 1))) (i := i + 1) (by rw [List.length_set, effTo_len]; exact hnl)
          rw [List.getD_eq_getElem?_getD, List.getElem?_set_self (by rw [effTo_len]; exact hnl), Option.getD_some] at g4
          generalize eff l (pa l (i + 1)).toNat = g at *
          generalize kT l (wt l) (pa l (i + 1)) l.length = t at *
          have hmg : 0 ≤ wt l (i + 1) * g ∧ wt l (i + 1) * g ≤ 1048576 * 1048576 := ⟨Int.mul_nonneg hw.1 hef.1, Int.mul_le_mul hw.2 (by omega) hef.1 (by omega)⟩
          by_cases hgt : g < t
          · rw [if_pos hgt] at hst
            have s2 := map_st (k := .i64) (xs := (effTo l (i + 1)).set (i + 1) (wt l (i + 1))) (i := i + 1) (v := wt l (i + 1) * g / t) (by rw [List.length_set, effTo_len]; exact hnl) rfl
            rw [List.set_set, hst] at s2
            have hdv : 0 ≤ wt l (i + 1) * g / t ∧ wt l (i + 1) * g / t ≤ 1048576 * 1048576 := ⟨Int.ediv_nonneg hmg.1 (by omega), Int.le_trans (Int.ediv_le_self _ hmg.1) hmg.2⟩
            repeat' (first | (with_reducible first | refine W_seq ?_ | refine then_n ?_ | refine W_block ?_ | refine blk_n ?_ | refine blk_r ?_ | refine blk_e ?_ | refine W_skip ?_ | refine W_ret ?_ | refine then_r ?_ | refine W_exit ?_ | refine then_e ?_) | ((with_reducible refine s_reg ?_); intro K hK) | ((with_reducible refine k_nil ?_); (with_reducible apply s_nil hK); (· exact nmX); clear hK; clear K) | ((with_reducible refine k_cond ?_); (first | ((with_reducible apply s_condT); (· rfl); (· exact nmX)) | ((with_reducible apply s_condF); (· rfl); (· exact nmX)) | ((with_reducible apply s_condS); (· rfl); (· exact nmX); (· exact nmX)))) | ((with_reducible refine k_mv ?_); (refine s_mv rfl ?_)) | ((with_reducible refine k_len ?_); (first | (refine s_len rfl rfl ?_) | ((with_reducible apply s_len); (· rfl); (· exact SlOwn.len (by assumption))))) | ((with_reducible refine k_lss ?_); (refine s_lss rfl rfl ?_)) | ((with_reducible refine k_gtr ?_); (refine s_gtr rfl rfl ?_)) | ((with_reducible refine k_iaddr ?_); (first | ((with_reducible apply s_iaddrV); (· rfl); (· rfl); (· (first | omega | exact ⟨rfl, by omega⟩ | skip))) | ((with_reducible apply s_iaddrO); (· rfl); (· rfl); (· (first | omega | exact ⟨rfl, by omega⟩ | skip)); (· (exact hpX))) | ((with_reducible apply s_iaddrSO); (· rfl); (· assumption); (· rfl); (· (first | omega | exact ⟨rfl, by omega⟩ | skip)); (· (first | (simp (disch := omega) only [w64, wu8, wu16, wu32, wu64, tm_nn, td_nn, fd_nn, Int.reduceAdd, Int.reduceSub, Int.reduceMul, Int.reduceDiv, Int.reduceMod, Int.reduceNeg, Int.reduceToNat, Int.toNat_natCast, Int.toNat_zero, Int.zero_add, Int.add_zero, Int.one_mul, Int.reducePow, Nat.mul_one, Nat.zero_add, Nat.add_zero, Nat.zero_mul, Nat.reduceAdd, Nat.reduceMul, Nat.reduceSub, Nat.min_eq_left, IntKind.bits, Nat.sub_zero, g0, g2, g3, s1, g4, s2]; try rfl; done) | rfl)); intro ks hks))) | ((with_reducible refine k_load ?_); (first | ((with_reducible apply s_loadV); (· rfl)) | ((with_reducible apply s_loadP); (· rfl); (· (exact hpX))))) | ((with_reducible refine k_add ?_); ((with_reducible apply s_add); (· rfl); (· rfl))) | ((with_reducible refine k_mul ?_); ((with_reducible apply s_mul); (· rfl); (· rfl))) | ((with_reducible refine k_quo ?_); ((with_reducible apply s_quo); (· rfl); (· rfl); (· omega))) | ((with_reducible refine k_store ?_); ((with_reducible apply s_store0); (· rfl); (· rfl); (· rfl); (· (exact hpX)); (· (exact ⟨rfl, by first | exact Nat.le_of_ble_eq_true rfl | omega | (simp [g0, g2, g3, s1, g4, s2]; omega)⟩)); (· ((first | (simp (disch := omega) only [upd_self, upd_ne, upd_upd, rep, splice, List.take_succ_cons, List.take_zero, List.drop_succ_cons, List.drop_zero, List.cons_append, List.nil_append, List.append_nil, List.length_cons, List.length_nil, List.reduceReplicate, List.flatten_cons, List.flatten_nil, Nat.reduceAdd, Nat.reduceMul, Nat.reduceSub, Nat.zero_add, Nat.add_zero, List.getElem?_cons_zero, List.getElem?_cons_succ, g0, g2, g3, s1, g4, s2]; try rfl; done) | rfl))); (· (first | exact upd_upd | rfl)))) | ((with_reducible refine k_faddr ?_); (first | ((with_reducible apply s_faddrV); (· rfl); (· rfl)) | ((with_reducible apply s_faddrP); (· rfl); (· rfl)))) | ((with_reducible refine k_callT ?_); ((with_reducible apply s_callt); (· rfl); (· rfl); (· rfl))) | ((with_reducible refine k_con ?_); (first | ((with_reducible apply con_val (ce)); (· (repeat (first | exact All2.nil | (apply All2.cons; (· first | ((apply Rd_fnR); (· (repeat (first | exact All2.nil | (apply All2.cons; (· first | ((apply Rd_ptR); (· exact hpX); (· exact agX); (· (first | simp | (intro h; cases h) | skip))) | exact rdX))))); (· (repeat (first | exact All2.nil | (apply All2.cons; (· first | ((apply Rd_ptR); (· exact hpX); (· exact agX); (· (first | simp | (intro h; cases h) | skip))) | exact rdX)))))) | ((apply Rd_ptR); (· exact hpX); (· exact agX); (· (first | simp | (intro h; cases h) | skip))) | exact rdX))))); (· rfl); (· exact fun _ => rfl)))) | ((with_reducible refine k_dreg ?_); refine s_dreg rfl rfl ?_; intro K hK) | ((with_reducible refine k_dnil ?_); (with_reducible apply d_nil hK); (· exact nmX); clear hK; clear K) | ((with_reducible refine k_dop ?_); refine d_step (by first | exact Or.inl rfl | exact Or.inr rfl) ?_) | (with_reducible refine d_back ?_) | ((with_reducible refine k_br ?_); (first | (with_reducible first | refine Br_dec ?_ | refine Br_not ?_ | refine Br_eqF ?_ | refine Br_and ?_ | refine Br_or ?_ | refine Br_neg ?_ | refine Br_band ?_ | refine Br_bor ?_ | refine Br_beq ?_) | (refine Br_t (by first | with_reducible rfl | omega | assumption | rfl) ?_) | (refine Br_f (by first | omega | assumption | decide) ?_) | (with_reducible apply Br_sb <;> intro hbr <;> (first | subst hbr | simp only [hbr] | skip)) | (with_reducible apply Br_s <;> intro hbr))) | ((first | (with_reducible apply q_eqI) | (with_reducible apply q_eqN)); (first | (simp (disch := omega) only [w64, wu8, wu16, wu32, wu64, tm_nn, td_nn, fd_nn, Int.reduceAdd, Int.reduceSub, Int.reduceMul, Int.reduceDiv, Int.reduceMod, Int.reduceNeg, Int.reduceToNat, Int.toNat_natCast, Int.toNat_zero, Int.zero_add, Int.add_zero, Int.one_mul, Int.reducePow, Nat.mul_one, Nat.zero_add, Nat.add_zero, Nat.zero_mul, Nat.reduceAdd, Nat.reduceMul, Nat.reduceSub, Nat.min_eq_left, IntKind.bits, Nat.sub_zero, g0, g2, g3, s1, g4, s2]; try rfl; done) | rfl)) | ((first | (with_reducible apply q_eqL) | (with_reducible apply q_eqO)); (first | (simp (disch := omega) only [upd_self, upd_ne, upd_upd, rep, splice, List.take_succ_cons, List.take_zero, List.drop_succ_cons, List.drop_zero, List.cons_append, List.nil_append, List.append_nil, List.length_cons, List.length_nil, List.reduceReplicate, List.flatten_cons, List.flatten_nil, Nat.reduceAdd, Nat.reduceMul, Nat.reduceSub, Nat.zero_add, Nat.add_zero, List.getElem?_cons_zero, List.getElem?_cons_succ, g0, g2, g3, s1, g4, s2]; try rfl; done) | rfl)))
            all_goals first | (exfalso; omega) | skip
            exact ⟨_, rfl, by rw [upd_ne n1]; exact hk1, by rw [upd_ne n20]; exact hk2, upd_self⟩
          · rw [if_neg hgt] at hst
            rw [hst] at s1 m3
            repeat' (first | (with_reducible first | refine W_seq ?_ | refine then_n ?_ | refine W_block ?_ | refine blk_n ?_ | refine blk_r ?_ | refine blk_e ?_ | refine W_skip ?_ | refine W_ret ?_ | refine then_r ?_ | refine W_exit ?_ | refine then_e ?_) | ((with_reducible refine s_reg ?_); intro K hK) | ((with_reducible refine k_nil ?_); (with_reducible apply s_nil hK); (· exact nmX); clear hK; clear K) | ((with_reducible refine k_cond ?_); (first | ((with_reducible apply s_condT); (· rfl); (· exact nmX)) | ((with_reducible apply s_condF); (· rfl); (· exact nmX)) | ((with_reducible apply s_condS); (· rfl); (· exact nmX); (· exact nmX)))) | ((with_reducible refine k_mv ?_); (refine s_mv rfl ?_)) | ((with_reducible refine k_len ?_); (first | (refine s_len rfl rfl ?_) | ((with_reducible apply s_len); (· rfl); (· exact SlOwn.len (by assumption))))) | ((with_reducible refine k_lss ?_); (refine s_lss rfl rfl ?_)) | ((with_reducible refine k_gtr ?_); (refine s_gtr rfl rfl ?_)) | ((with_reducible refine k_iaddr ?_); (first | ((with_reducible apply s_iaddrV); (· rfl); (· rfl); (· (first | omega | exact ⟨rfl, by omega⟩ | skip))) | ((with_reducible apply s_iaddrO); (· rfl); (· rfl); (· (first | omega | exact ⟨rfl, by omega⟩ | skip)); (· (exact hpX))) | ((with_reducible apply s_iaddrSO); (· rfl); (· assumption); (· rfl); (· (first | omega | exact ⟨rfl, by omega⟩ | skip)); (· (first | (simp (disch := omega) only [w64, wu8, wu16, wu32, wu64, tm_nn, td_nn, fd_nn, Int.reduceAdd, Int.reduceSub, Int.reduceMul, Int.reduceDiv, Int.reduceMod, Int.reduceNeg, Int.reduceToNat, Int.toNat_natCast, Int.toNat_zero, Int.zero_add, Int.add_zero, Int.one_mul, Int.reducePow, Nat.mul_one, Nat.zero_add, Nat.add_zero, Nat.zero_mul, Nat.reduceAdd, Nat.reduceMul, Nat.reduceSub, Nat.min_eq_left, IntKind.bits, Nat.sub_zero, g0, g2, g3, s1]; try rfl; done) | rfl)); intro ks hks))) | ((with_reducible refine k_load ?_); (first | ((with_reducible apply s_loadV); (· rfl)) | ((with_reducible apply s_loadP); (· rfl); (· (exact hpX))))) | ((with_reducible refine k_add ?_); ((with_reducible apply s_add); (· rfl); (· rfl))) | ((with_reducible refine k_store ?_); ((with_reducible apply s_store0); (· rfl); (· rfl); (· rfl); (· (exact hpX)); (· (exact ⟨rfl, by first | exact Nat.le_of_ble_eq_true rfl | omega | (simp [g0, g2, g3, s1]; omega)⟩)); (· ((first | (simp (disch := omega) only [upd_self, upd_ne, upd_upd, rep, splice, List.take_succ_cons, List.take_zero, List.drop_succ_cons, List.drop_zero, List.cons_append, List.nil_append, List.append_nil, List.length_cons, List.length_nil, List.reduceReplicate, List.flatten_cons, List.flatten_nil, Nat.reduceAdd, Nat.reduceMul, Nat.reduceSub, Nat.zero_add, Nat.add_zero, List.getElem?_cons_zero, List.getElem?_cons_succ, g0, g2, g3, s1]; try rfl; done) | rfl))); (· (first | exact upd_upd | rfl)))) | ((with_reducible refine k_faddr ?_); (first | ((with_reducible apply s_faddrV); (· rfl); (· rfl)) | ((with_reducible apply s_faddrP); (· rfl); (· rfl)))) | ((with_reducible refine k_callT ?_); ((with_reducible apply s_callt); (· rfl); (· rfl); (· rfl))) | ((with_reducible refine k_con ?_); (first | ((with_reducible apply con_val (ce)); (· (repeat (first | exact All2.nil | (apply All2.cons; (· first | ((apply Rd_fnR); (· (repeat (first | exact All2.nil | (apply All2.cons; (· first | ((apply Rd_ptR); (· exact hpX); (· exact agX); (· (first | simp | (intro h; cases h) | skip))) | exact rdX))))); (· (repeat (first | exact All2.nil | (apply All2.cons; (· first | ((apply Rd_ptR); (· exact hpX); (· exact agX); (· (first | simp | (intro h; cases h) | skip))) | exact rdX)))))) | ((apply Rd_ptR); (· exact hpX); (· exact agX); (· (first | simp | (intro h; cases h) | skip))) | exact rdX))))); (· rfl); (· exact fun _ => rfl)))) | ((with_reducible refine k_dreg ?_); refine s_dreg rfl rfl ?_; intro K hK) | ((with_reducible refine k_dnil ?_); (with_reducible apply d_nil hK); (· exact nmX); clear hK; clear K) | ((with_reducible refine k_dop ?_); refine d_step (by first | exact Or.inl rfl | exact Or.inr rfl) ?_) | (with_reducible refine d_back ?_) | ((with_reducible refine k_br ?_); (first | (with_reducible first | refine Br_dec ?_ | refine Br_not ?_ | refine Br_eqF ?_ | refine Br_and ?_ | refine Br_or ?_ | refine Br_neg ?_ | refine Br_band ?_ | refine Br_bor ?_ | refine Br_beq ?_) | (refine Br_t (by first | with_reducible rfl | omega | assumption | rfl) ?_) | (refine Br_f (by first | omega | assumption | decide) ?_) | (with_reducible apply Br_sb <;> intro hbr <;> (first | subst hbr | simp only [hbr] | skip)) | (with_reducible apply Br_s <;> intro hbr))) | ((first | (with_reducible apply q_eqI) | (with_reducible apply q_eqN)); (first | (simp (disch := omega) only [w64, wu8, wu16, wu32, wu64, tm_nn, td_nn, fd_nn, Int.reduceAdd, Int.reduceSub, Int.reduceMul, Int.reduceDiv, Int.reduceMod, Int.reduceNeg, Int.reduceToNat, Int.toNat_natCast, Int.toNat_zero, Int.zero_add, Int.add_zero, Int.one_mul, Int.reducePow, Nat.mul_one, Nat.zero_add, Nat.add_zero, Nat.zero_mul, Nat.reduceAdd, Nat.reduceMul, Nat.reduceSub, Nat.min_eq_left, IntKind.bits, Nat.sub_zero, g0, g2, g3, s1]; try rfl; done) | rfl)) | ((first | (with_reducible apply q_eqL) | (with_reducible apply q_eqO)); (first | (simp (disch := omega) only [upd_self, upd_ne, upd_upd, rep, splice, List.take_succ_cons, List.take_zero, List.drop_succ_cons, List.drop_zero, List.cons_append, List.nil_append, List.append_nil, List.length_cons, List.length_nil, List.reduceReplicate, List.flatten_cons, List.flatten_nil, Nat.reduceAdd, Nat.reduceMul, Nat.reduceSub, Nat.zero_add, Nat.add_zero, List.getElem?_cons_zero, List.getElem?_cons_succ, g0, g2, g3, s1]; try rfl; done) | rfl)))
            all_goals first | (exfalso; omega) | skip
            exact ⟨_, rfl, by rw [upd_ne n1]; exact hk1, by rw [upd_ne n20]; exact hk2, upd_self⟩
        · rintro e' h' ⟨h1, he, hk1, hk2, hk3⟩
          cases he
          rw [show l.length - 1 + 1 = l.length by omega] at hk3 ⊢
          repeat' (first | (with_reducible first | refine W_seq ?_ | refine then_n ?_ | refine W_block ?_ | refine blk_n ?_ | refine blk_r ?_ | refine blk_e ?_ | refine W_skip ?_ | refine W_ret ?_ | refine then_r ?_ | refine W_exit ?_ | refine then_e ?_) | ((with_reducible refine s_reg ?_); intro K hK) | ((with_reducible refine k_nil ?_); (with_reducible apply s_nil hK); (· exact nmX); clear hK; clear K) | ((with_reducible refine k_cond ?_); (first | ((with_reducible apply s_condT); (· rfl); (· exact nmX)) | ((with_reducible apply s_condF); (· rfl); (· exact nmX)) | ((with_reducible apply s_condS); (· rfl); (· exact nmX); (· exact nmX)))) | ((with_reducible refine k_mv ?_); (refine s_mv rfl ?_)) | ((with_reducible refine k_len ?_); (first | (refine s_len rfl rfl ?_) | ((with_reducible apply s_len); (· rfl); (· exact SlOwn.len (by assumption))))) | ((with_reducible refine k_lss ?_); (refine s_lss rfl rfl ?_)) | ((with_reducible refine k_load ?_); (first | ((with_reducible apply s_loadV); (· rfl)) | ((with_reducible apply s_loadP); (· rfl); (· (exact hpX))))) | ((with_reducible refine k_br ?_); (first | (with_reducible first | refine Br_dec ?_ | refine Br_not ?_ | refine Br_eqF ?_ | refine Br_and ?_ | refine Br_or ?_ | refine Br_neg ?_ | refine Br_band ?_ | refine Br_bor ?_ | refine Br_beq ?_) | (refine Br_t (by first | with_reducible rfl | omega | assumption | rfl) ?_) | (refine Br_f (by first | omega | assumption | decide) ?_) | (with_reducible apply Br_sb <;> intro hbr <;> (first | subst hbr | simp only [hbr] | skip)) | (with_reducible apply Br_s <;> intro hbr))) | ((first | (with_reducible apply q_eqL) | (with_reducible apply q_eqO)); (first | exact liL | exact liO)))
          rw [effTo_end] at hk3
          have hee : (effL l).length = l.length := by simp [effL]
          have he1 : ((effL l).map (D.int .i64)).length = l.length * 1 := by rw [List.length_map, hee, Nat.mul_one]
          simp only [effR, hee]
          refine Fin_own trivial rfl hk3 ?_ (Nat.le_of_ble_eq_true rfl)
          exact All2.cons (exc_o hk3 he1 scal_i) (All2.cons (exc_v rfl rfl) All2.nil)
      | succ n =>
        have hnl : n + 1 < l.length := by omega
        have hp := ht (n + 1) hnl hnl
        unfold okP at hp
        rw [← pa_at hnl] at hp
        have hpp : 0 ≤ pa l (n + 1) ∧ pa l (n + 1) < (n : Int) + 1 := by rcases hp with h | h <;> omega
        have g0 : (l.flatMap Acct.cells)[(n + 1) * 5]? = some (.int .i64 (pa l (n + 1))) := by rw [ac0 hnl, pa_at hnl]
        have ce := eff1_c l (n + 1) hnl
        have hD := downTo_d (l := l) (v := fun _ => 0) (g := wt l) (m := n + 1 + 1) (j := (pa l (n + 1)).toNat) (by omega)
        have hg := map_g (k := .i64) (xs := downTo l (fun _ => 0) (wt l) (n + 1 + 1)) (i := (pa l (n + 1)).toNat) (by rw [downTo_len]; omega)
        rw [hD, if_neg (by omega), Int.zero_add] at hg
        have hs := map_st (k := .i64) (by rw [downTo_len]; omega) (dn_step (l := l) (f := wt l) (m := n + 1) (p := (pa l (n + 1)).toNat) (by omega) (by omega) (by omega))
        have hb := kT_in (l := l) (f := wt l) (b := 1048576) (wt_in ha.1) ((pa l (n + 1)).toNat : Int) (n + 1 + 1)
        have hb2 := kT_in (l := l) (f := wt l) (b := 1048576) (wt_in ha.1) ((pa l (n + 1)).toNat : Int) l.length
        have hm := wt_in ha.1 (n + 1)
        have hlen : ((downTo l (fun _ => 0) (wt l) (n + 1 + 1)).map (D.int .i64)).length = l.length := by rw [List.length_map, downTo_len]
        repeat' (first | (with_reducible first | refine W_seq ?_ | refine then_n ?_ | refine W_block ?_ | refine blk_n ?_ | refine blk_r ?_ | refine blk_e ?_ | refine W_skip ?_ | refine W_ret ?_ | refine then_r ?_ | refine W_exit ?_ | refine then_e ?_) | ((with_reducible refine s_reg ?_); intro K hK) | ((with_reducible refine k_nil ?_); (with_reducible apply s_nil hK); (· exact nmX); clear hK; clear K) | ((with_reducible refine k_cond ?_); (first | ((with_reducible apply s_condT); (· rfl); (· exact nmX)) | ((with_reducible apply s_condF); (· rfl); (· exact nmX)) | ((with_reducible apply s_condS); (· rfl); (· exact nmX); (· exact nmX)))) | ((with_reducible refine k_mv ?_); (refine s_mv rfl ?_)) | ((with_reducible refine k_gtr ?_); (refine s_gtr rfl rfl ?_)) | ((with_reducible refine k_iaddr ?_); (first | ((with_reducible apply s_iaddrV); (· rfl); (· rfl); (· (first | omega | exact ⟨rfl, by omega⟩ | skip))) | ((with_reducible apply s_iaddrO); (· rfl); (· rfl); (· (first | omega | exact ⟨rfl, by omega⟩ | skip)); (· (exact hpX))) | ((with_reducible apply s_iaddrSO); (· rfl); (· assumption); (· rfl); (· (first | omega | exact ⟨rfl, by omega⟩ | skip)); (· (first | (simp (disch := omega) only [w64, wu8, wu16, wu32, wu64, tm_nn, td_nn, fd_nn, Int.reduceAdd, Int.reduceSub, Int.reduceMul, Int.reduceDiv, Int.reduceMod, Int.reduceNeg, Int.reduceToNat, Int.toNat_natCast, Int.toNat_zero, Int.zero_add, Int.add_zero, Int.one_mul, Int.reducePow, Nat.mul_one, Nat.zero_add, Nat.add_zero, Nat.zero_mul, Nat.reduceAdd, Nat.reduceMul, Nat.reduceSub, Nat.min_eq_left, IntKind.bits, Nat.sub_zero, g0, hg, hs]; try rfl; done) | rfl)); intro ks hks))) | ((with_reducible refine k_load ?_); (first | ((with_reducible apply s_loadV); (· rfl)) | ((with_reducible apply s_loadP); (· rfl); (· (exact hpX))))) | ((with_reducible refine k_add ?_); ((with_reducible apply s_add); (· rfl); (· rfl))) | ((with_reducible refine k_sub ?_); ((with_reducible apply s_sub); (· rfl); (· rfl))) | ((with_reducible refine k_store ?_); ((with_reducible apply s_store0); (· rfl); (· rfl); (· rfl); (· (exact hpX)); (· (exact ⟨rfl, by first | exact Nat.le_of_ble_eq_true rfl | omega | (simp [g0, hg, hs]; omega)⟩)); (· ((first | (simp (disch := omega) only [upd_self, upd_ne, upd_upd, rep, splice, List.take_succ_cons, List.take_zero, List.drop_succ_cons, List.drop_zero, List.cons_append, List.nil_append, List.append_nil, List.length_cons, List.length_nil, List.reduceReplicate, List.flatten_cons, List.flatten_nil, Nat.reduceAdd, Nat.reduceMul, Nat.reduceSub, Nat.zero_add, Nat.add_zero, List.getElem?_cons_zero, List.getElem?_cons_succ, g0, hg, hs]; try rfl; done) | rfl))); (· (first | exact upd_upd | rfl)))) | ((with_reducible refine k_faddr ?_); (first | ((with_reducible apply s_faddrV); (· rfl); (· rfl)) | ((with_reducible apply s_faddrP); (· rfl); (· rfl)))) | ((with_reducible refine k_dreg ?_); refine s_dregS (pre := A11d10p) rfl rfl rfl ?_; intro K hK) | (with_reducible refine d_nilS ?_) | ((with_reducible refine k_dcallt ?_); (first | ((with_reducible apply d_callt); (· rfl); (· rfl); (· rfl); (· exact ce); (· (repeat (first | exact All2.nil | (apply All2.cons; (· first | ((apply Rd_fnR); (· (repeat (first | exact All2.nil | (apply All2.cons; (· first | ((apply Rd_ptR); (· exact hpX); (· exact agX); (· (first | simp | (intro h; cases h) | skip))) | exact rdX))))); (· (repeat (first | exact All2.nil | (apply All2.cons; (· first | ((apply Rd_ptR); (· exact hpX); (· exact agX); (· (first | simp | (intro h; cases h) | skip))) | exact rdX)))))) | ((apply Rd_ptR); (· exact hpX); (· exact agX); (· (first | simp | (intro h; cases h) | skip))) | exact rdX))))); simp only [unow, unowC, List.map]))) | ((with_reducible refine k_dop ?_); refine d_step (by first | exact Or.inl rfl | exact Or.inr rfl) ?_) | (with_reducible refine d_back ?_) | ((with_reducible refine k_br ?_); (first | (with_reducible first | refine Br_dec ?_ | refine Br_not ?_ | refine Br_eqF ?_ | refine Br_and ?_ | refine Br_or ?_ | refine Br_neg ?_ | refine Br_band ?_ | refine Br_bor ?_ | refine Br_beq ?_) | (refine Br_t (by first | with_reducible rfl | omega | assumption | rfl) ?_) | (refine Br_f (by first | omega | assumption | decide) ?_) | (with_reducible apply Br_sb <;> intro hbr <;> (first | subst hbr | simp only [hbr] | skip)) | (with_reducible apply Br_s <;> intro hbr))) | ((first | (with_reducible apply q_eqI) | (with_reducible apply q_eqN)); (first | (simp (disch := omega) only [w64, wu8, wu16, wu32, wu64, tm_nn, td_nn, fd_nn, Int.reduceAdd, Int.reduceSub, Int.reduceMul, Int.reduceDiv, Int.reduceMod, Int.reduceNeg, Int.reduceToNat, Int.toNat_natCast, Int.toNat_zero, Int.zero_add, Int.add_zero, Int.one_mul, Int.reducePow, Nat.mul_one, Nat.zero_add, Nat.add_zero, Nat.zero_mul, Nat.reduceAdd, Nat.reduceMul, Nat.reduceSub, Nat.min_eq_left, IntKind.bits, Nat.sub_zero, g0, hg, hs]; try rfl; done) | rfl)) | ((first | (with_reducible apply q_eqL) | (with_reducible apply q_eqO)); (first | (simp (disch := omega) only [upd_self, upd_ne, upd_upd, rep, splice, List.take_succ_cons, List.take_zero, List.drop_succ_cons, List.drop_zero, List.cons_append, List.nil_append, List.append_nil, List.length_cons, List.length_nil, List.reduceReplicate, List.flatten_cons, List.flatten_nil, Nat.reduceAdd, Nat.reduceMul, Nat.reduceSub, Nat.zero_add, Nat.add_zero, List.getElem?_cons_zero, List.getElem?_cons_succ, g0, hg, hs]; try rfl; done) | rfl)))
        exact ⟨n, by omega, _, by omega, by rw [show ((n + 1 : Nat) : Int) - 1 = n by omega], by rw [upd_ne hne]; exact hk1, upd_self⟩
  · rw [if_neg h]
    simp only [effR]
    repeat' (first | (with_reducible first | refine W_seq ?_ | refine then_n ?_ | refine W_block ?_ | refine blk_n ?_ | refine blk_r ?_ | refine blk_e ?_ | refine W_skip ?_ | refine W_ret ?_ | refine then_r ?_ | refine W_exit ?_ | refine then_e ?_) | ((with_reducible refine s_reg ?_); intro K hK) | ((with_reducible refine k_nil ?_); (with_reducible apply s_nil hK); (· exact nmX); clear hK; clear K) | ((with_reducible refine k_cond ?_); (first | ((with_reducible apply s_condT); (· rfl); (· exact nmX)) | ((with_reducible apply s_condF); (· rfl); (· exact nmX)) | ((with_reducible apply s_condS); (· rfl); (· exact nmX); (· exact nmX)))) | ((with_reducible refine k_mv ?_); (refine s_mv rfl ?_)) | ((with_reducible refine k_neq ?_); (first | (refine s_neq rfl rfl ?_) | (refine s_strNe rfl rfl ?_))) | ((with_reducible refine k_load ?_); (first | ((with_reducible apply s_loadV); (· rfl)) | ((with_reducible apply s_loadP); (· rfl); (· (exact hpX))))) | ((with_reducible refine k_box (dst := some 1) ?_); ((with_reducible apply s_box); (· rfl); (· rfl); intro k1 hk1; (try simp only [upd_none] at hk1))) | ((with_reducible refine k_callF ?_); (first | ((with_reducible apply s_call1); (· rfl)) | ((with_reducible apply s_calln); (· rfl)))) | ((with_reducible refine k_con ?_); (first | ((with_reducible apply con_val (c1)); (· (exact agX)); (· rfl); (· exact fun _ => rfl)))) | ((with_reducible refine k_br ?_); (first | (with_reducible first | refine Br_dec ?_ | refine Br_not ?_ | refine Br_eqF ?_ | refine Br_and ?_ | refine Br_or ?_ | refine Br_neg ?_ | refine Br_band ?_ | refine Br_bor ?_ | refine Br_beq ?_) | (refine Br_t (by first | with_reducible rfl | omega | assumption | rfl) ?_) | (refine Br_f (by first | omega | assumption | decide) ?_) | (with_reducible apply Br_sb <;> intro hbr <;> (first | subst hbr | simp only [hbr] | skip)) | (with_reducible apply Br_s <;> intro hbr))) | ((first | (with_reducible apply q_eqL) | (with_reducible apply q_eqO)); (first | exact liL | exact liO)))
    all_goals first | (exfalso; omega) | (first | exact Fin_flat trivial rfl rfl | (refine Fin_tup trivial rfl ?_ (Nat.le_of_ble_eq_true rfl); (repeat (first | exact All2.nil | (apply All2.cons; (· first | exact exc_n | exact exc_e | exact exc_v rfl rfl | exact exc_o upd_self rfl rfl)))); done) | (refine Fin_own trivial rfl upd_self ?_ (Nat.le_of_ble_eq_true rfl); (repeat (first | exact All2.nil | (apply All2.cons; (· first | exact exc_n | exact exc_e | exact exc_v rfl rfl | exact exc_o upd_self rfl rfl)))); done) | exact Fin_nil trivial rfl | exact Fin_sl trivial rfl upd_self rfl rfl)
end Go.Proofs.Ytolnhkpckbgmgaa
end
section
/- Protection: contracts of the reference's functions. -/
set_option linter.unusedSimpArgs false
set_option linter.unusedVariables false
namespace Go.Proofs.Ytolnhkpckbgmgaa
open Go.AM Classical
set_option maxRecDepth 100000
set_option maxHeartbeats 4000000
end Go.Proofs.Ytolnhkpckbgmgaa
end
section
/- Protection: contracts of the reference's functions, second part. -/
set_option linter.unusedSimpArgs false
set_option linter.unusedVariables false
namespace Go.Proofs.Ytolnhkpckbgmgaa
open Go.AM Classical
set_option maxRecDepth 100000
set_option maxHeartbeats 4000000
end Go.Proofs.Ytolnhkpckbgmgaa
end
section
/- Accounts: lists of accounts as arguments. -/
set_option linter.unusedSimpArgs false
set_option linter.unusedVariables false
namespace Go.Proofs.Ytolnhkpckbgmgaa
open Go.AM Classical
set_option maxRecDepth 100000
set_option maxHeartbeats 4000000
end Go.Proofs.Ytolnhkpckbgmgaa
end
section
/- min -/
/- Reclaim plans: pages; the checks; what is leaving. -/
set_option linter.unusedSimpArgs false
set_option linter.unusedVariables false
namespace Go.Proofs.Ytolnhkpckbgmgaa
open Go.AM Classical
set_option maxRecDepth 100000
set_option maxHeartbeats 4000000
structure Pg where
  frame : Int
  account : Int
  age : Int
  reason : Int
  owner : Int
  normal : Bool
  leaving : Bool
def Pg.cells (p : Pg) : List D := [.int .i64 p.frame, .int .i64 p.account, .int .i64 p.age, .int .i64 p.reason, .int .i64 p.owner, .bool p.normal, .bool p.leaving]
theorem Pg.cells_len (p : Pg) : p.cells.length = 7 := rfl
abbrev pgs (p : List Pg) : D := .vs 7 (p.flatMap Pg.cells) p.length
theorem pgs_len (p : List Pg) : (p.flatMap Pg.cells).length = p.length * 7 := fm_len Pg.cells_len p
theorem pgs_scal (p : List Pg) : (p.flatMap Pg.cells).all scal = true := fm_scal (fun _ => rfl) p
theorem pgr {p : List Pg} {i : Nat} (h : i < p.length) : ((p.flatMap Pg.cells).drop (i * 7)).take 7 = [.int .i64 p[i].frame, .int .i64 p[i].account, .int .i64 p[i].age, .int .i64 p[i].reason, .int .i64 p[i].owner, .bool p[i].normal, .bool p[i].leaving] := fm_row Pg.cells_len h
theorem pg0 {p : List Pg} {i : Nat} (h : i < p.length) : (p.flatMap Pg.cells)[i * 7]? = some (.int .i64 p[i].frame) := fm_cell (j := 0) Pg.cells_len h (by omega)
theorem pg2 {p : List Pg} {i : Nat} (h : i < p.length) : (p.flatMap Pg.cells)[i * 7 + 2]? = some (.int .i64 p[i].age) := fm_cell (j := 2) Pg.cells_len h (by omega)
theorem pg6 {p : List Pg} {i : Nat} (h : i < p.length) : (p.flatMap Pg.cells)[i * 7 + 6]? = some (.bool p[i].leaving) := fm_cell (j := 6) Pg.cells_len h (by omega)
def prevF (p : List Pg) (i : Nat) : Int := if i = 0 then -1 else (if h : i - 1 < p.length then p[i - 1].frame else 0)
theorem prevF_succ {p : List Pg} {i : Nat} (h : i < p.length) : prevF p (i + 1) = p[i].frame := by
  unfold prevF; rw [if_neg (by omega), dif_pos (by omega)]; rfl
def pgE (n prev : Int) (q : Pg) : Int :=
  if q.frame < 0 ∨ 256 ≤ q.frame ∨ q.account < -1 ∨ n ≤ q.account then 2 else if q.frame ≤ prev then 10 else if q.reason < 0 ∨ 10 < q.reason ∨ q.age < -1 ∨ q.owner < -1 then 1 else if q.reason = 0 ∧ q.leaving = false ∧ q.age = -1 then 3 else 0
def errA (l : List Acct) (p : List Pg) (i : Nat) : Int := if h : i < p.length then pgE l.length (prevF p i) p[i] else 0
def fE (f : Nat → Int) : Nat → Int
  | 0 => 0
  | n + 1 => if fE f n = 0 then f n else fE f n
theorem fE_zero {f : Nat → Int} : ∀ {n}, fE f n = 0 ↔ ∀ i, i < n → f i = 0
  | 0 => by simp [fE]
  | n + 1 => by
    unfold fE
    constructor
    · intro h i hi
      split at h
      · rename_i h0
        rcases Nat.lt_succ_iff_lt_or_eq.1 hi with h1 | rfl
        · exact fE_zero.1 h0 i h1
        · exact h
      · contradiction
    · intro h
      rw [if_pos (fE_zero.2 fun i hi => h i (by omega))]
      exact h n (by omega)
theorem fE_stop {f : Nat → Int} {i e : Nat} : ∀ {n}, i < n → (∀ j, j < i → f j = 0) → f i = e → e ≠ 0 → fE f n = e
  | 0, h, _, _, _ => by omega
  | n + 1, h, hj, hf, he => by
    unfold fE
    rcases Nat.lt_succ_iff_lt_or_eq.1 h with h1 | rfl
    · rw [fE_stop h1 hj hf he, if_neg (by omega)]
    · rw [if_pos (fE_zero.2 hj), hf]
noncomputable def pchk (p : List Pg) (l : List Acct) : Int := if chkF l = 0 then fE (errA l p) p.length else chkF l
theorem pcheck_c (p : List Pg) (l : List Acct) (hL : l.length ≤ 9223372036854775807) (hP : p.length ≤ 1000000) : PCon Try.prog 31 [pgs p, accs l] (.int .i64 (pchk p l)) := by
  have c1 := check_c l hL
  refine A31p (by simp [A31]) ?_
  simp only [A31, argEnv]
  unfold pchk
  by_cases h : chkF l = 0
  · rw [h] at c1
    rw [if_pos h]
    have hpl := pgs_len p
    repeat' (first | (with_reducible first | refine W_seq ?_ | refine then_n ?_ | refine W_block ?_ | refine blk_n ?_ | refine blk_r ?_ | refine blk_e ?_ | refine W_skip ?_ | refine W_ret ?_ | refine then_r ?_ | refine W_exit ?_ | refine then_e ?_) | ((with_reducible refine s_reg ?_); intro K hK) | ((with_reducible refine k_nil ?_); (with_reducible apply s_nil hK); (· exact nmX); clear hK; clear K) | ((with_reducible refine k_cond ?_); (first | ((with_reducible apply s_condT); (· rfl); (· exact nmX)) | ((with_reducible apply s_condF); (· rfl); (· exact nmX)) | ((with_reducible apply s_condS); (· rfl); (· exact nmX); (· exact nmX)))) | ((with_reducible refine k_mv ?_); (refine s_mv rfl ?_)) | ((with_reducible refine k_len ?_); (first | (refine s_len rfl rfl ?_) | ((with_reducible apply s_len); (· rfl); (· exact SlOwn.len (by assumption))))) | ((with_reducible refine k_neq ?_); (first | (refine s_neq rfl rfl ?_) | (refine s_strNe rfl rfl ?_))) | ((with_reducible refine k_callF ?_); (first | ((with_reducible apply s_call1); (· rfl)) | ((with_reducible apply s_calln); (· rfl)))) | ((with_reducible refine k_con ?_); (first | ((with_reducible apply con_val (c1)); (· (exact agX)); (· rfl); (· exact fun _ => rfl)))) | ((with_reducible refine k_br ?_); (first | (with_reducible first | refine Br_dec ?_ | refine Br_not ?_ | refine Br_eqF ?_ | refine Br_and ?_ | refine Br_or ?_ | refine Br_neg ?_ | refine Br_band ?_ | refine Br_bor ?_ | refine Br_beq ?_) | (refine Br_t (by first | with_reducible rfl | omega | assumption | rfl) ?_) | (refine Br_f (by first | omega | assumption | decide) ?_) | (with_reducible apply Br_sb <;> intro hbr <;> (first | subst hbr | simp only [hbr] | skip)) | (with_reducible apply Br_s <;> intro hbr))))
    refine W_for p.length (fun i st => ∃ h', (∀ j, j < i → errA l p j = 0) ∧ st = ⟨[(1, accs l), (6, .int .i64 (prevF p i)), (14, pgs p), (15, .int .i64 p.length), (16, .int .i64 i)], h'⟩) ⟨_, fun j h => by omega, rfl⟩ ?_ ?_
    · rintro i e' h' hi ⟨h1, hj, he⟩
      cases he
      have hrow := pgr hi
      have hstop : ∀ e : Nat, errA l p i = e → e ≠ 0 → fE (errA l p) p.length = e := fun e h2 h3 => fE_stop hi hj h2 h3
      have hnext : errA l p i = 0 → ∀ j, j < i + 1 → errA l p j = 0 := fun h2 j h3 => by
        rcases Nat.lt_succ_iff_lt_or_eq.1 h3 with h4 | rfl
        · exact hj j h4
        · exact h2
      rw [prevF_succ hi]
      have hea : errA l p i = pgE l.length (prevF p i) p[i] := dif_pos hi
      rw [hea] at hstop hnext
      clear hea hj
      generalize p[i] = q at *
      generalize prevF p i = pv at *
      obtain ⟨fr, ac, ag, re, ow, nm, lv⟩ := q
      simp only [pgE] at hstop hnext
      cases lv
      all_goals
        repeat' (first | (with_reducible first | refine W_seq ?_ | refine then_n ?_ | refine W_block ?_ | refine blk_n ?_ | refine blk_r ?_ | refine blk_e ?_ | refine W_skip ?_ | refine W_ret ?_ | refine then_r ?_ | refine W_exit ?_ | refine then_e ?_) | ((with_reducible refine s_reg ?_); intro K hK) | ((with_reducible refine k_nil ?_); (with_reducible apply s_nil hK); (· exact nmX); clear hK; clear K) | ((with_reducible refine k_cond ?_); (first | ((with_reducible apply s_condT); (· rfl); (· exact nmX)) | ((with_reducible apply s_condF); (· rfl); (· exact nmX)) | ((with_reducible apply s_condS); (· rfl); (· exact nmX); (· exact nmX)))) | ((with_reducible refine k_guard ?_); (first | (refine s_gt rfl ?_) | (refine s_gf1 rfl ?_) | (refine s_gfn rfl ?_) | (refine s_gx1 rfl ?_) | (refine s_gxn rfl ?_) | (refine s_gs rfl ?_))) | ((with_reducible refine k_mv ?_); (refine s_mv rfl ?_)) | ((with_reducible refine k_len ?_); (first | (refine s_len rfl rfl ?_) | ((with_reducible apply s_len); (· rfl); (· exact SlOwn.len (by assumption))))) | ((with_reducible refine k_pick ?_); (first | (refine s_pickT rfl rfl ?_) | (refine s_pickF rfl rfl ?_))) | ((with_reducible refine k_not ?_); (refine s_not rfl (by first | exact Bool.not_true | exact Bool.not_false | rfl) ?_)) | ((with_reducible refine k_eql ?_); (first | (refine s_eql rfl rfl ?_) | (refine s_strEq rfl rfl ?_))) | ((with_reducible refine k_lss ?_); (refine s_lss rfl rfl ?_)) | ((with_reducible refine k_leq ?_); (refine s_leq rfl rfl ?_)) | ((with_reducible refine k_gtr ?_); (refine s_gtr rfl rfl ?_)) | ((with_reducible refine k_geq ?_); (refine s_geq rfl rfl ?_)) | ((with_reducible refine k_iaddr ?_); (first | ((with_reducible apply s_iaddrV); (· rfl); (· rfl); (· (first | omega | exact ⟨rfl, by omega⟩ | skip))) | ((with_reducible apply s_iaddrO); (· rfl); (· rfl); (· (first | omega | exact ⟨rfl, by omega⟩ | skip)); (· (exact hpX))) | ((with_reducible apply s_iaddrSO); (· rfl); (· assumption); (· rfl); (· (first | omega | exact ⟨rfl, by omega⟩ | skip)); (· (first | (simp (disch := omega) only [w64, wu8, wu16, wu32, wu64, tm_nn, td_nn, fd_nn, Int.reduceAdd, Int.reduceSub, Int.reduceMul, Int.reduceDiv, Int.reduceMod, Int.reduceNeg, Int.reduceToNat, Int.toNat_natCast, Int.toNat_zero, Int.zero_add, Int.add_zero, Int.one_mul, Int.reducePow, Nat.mul_one, Nat.zero_add, Nat.add_zero, Nat.zero_mul, Nat.reduceAdd, Nat.reduceMul, Nat.reduceSub, Nat.min_eq_left, IntKind.bits, Nat.sub_zero, hrow]; try rfl; done) | rfl)); intro ks hks))) | ((with_reducible refine k_load ?_); (first | ((with_reducible apply s_loadV); (· rfl)) | ((with_reducible apply s_loadP); (· rfl); (· (exact hpX))))) | ((with_reducible refine k_loadA ?_); (first | ((with_reducible apply s_loadAV); (· rfl); (· (first | exact Nat.le_of_ble_eq_true rfl | decide | omega | (simp; done) | (simp; omega) | skip))) | ((with_reducible apply s_loadAP); (· rfl); (· (exact hpX)); (· (first | exact Nat.le_of_ble_eq_true rfl | decide | omega | (simp; done) | (simp; omega) | skip))))) | ((with_reducible refine k_add ?_); ((with_reducible apply s_add); (· rfl); (· rfl))) | ((with_reducible refine k_store ?_); ((with_reducible apply s_store0); (· rfl); (· rfl); (· rfl); (· (exact hpX)); (· (exact ⟨rfl, by first | exact Nat.le_of_ble_eq_true rfl | omega | (simp [hrow]; omega)⟩)); (· ((first | (simp (disch := omega) only [upd_self, upd_ne, upd_upd, rep, splice, List.take_succ_cons, List.take_zero, List.drop_succ_cons, List.drop_zero, List.cons_append, List.nil_append, List.append_nil, List.length_cons, List.length_nil, List.reduceReplicate, List.flatten_cons, List.flatten_nil, Nat.reduceAdd, Nat.reduceMul, Nat.reduceSub, Nat.zero_add, Nat.add_zero, List.getElem?_cons_zero, List.getElem?_cons_succ, hrow]; try rfl; done) | rfl))); (· (first | exact upd_upd | rfl)))) | ((with_reducible refine k_faddr ?_); (first | ((with_reducible apply s_faddrV); (· rfl); (· rfl)) | ((with_reducible apply s_faddrP); (· rfl); (· rfl)))) | ((with_reducible refine k_alloc (dst := some 8) ?_); ((with_reducible apply s_alloc); intro k8 hk8; (try simp only [upd_none] at hk8))) | ((with_reducible refine k_br ?_); (first | (with_reducible first | refine Br_dec ?_ | refine Br_not ?_ | refine Br_eqF ?_ | refine Br_and ?_ | refine Br_or ?_ | refine Br_neg ?_ | refine Br_band ?_ | refine Br_bor ?_ | refine Br_beq ?_) | (refine Br_t (by first | with_reducible rfl | omega | assumption | rfl) ?_) | (refine Br_f (by first | omega | assumption | decide) ?_) | (with_reducible apply Br_sb <;> intro hbr <;> (first | subst hbr | simp only [hbr] | skip)) | (with_reducible apply Br_s <;> intro hbr))) | ((first | (with_reducible apply q_eqI) | (with_reducible apply q_eqN)); (first | (simp (disch := omega) only [w64, wu8, wu16, wu32, wu64, tm_nn, td_nn, fd_nn, Int.reduceAdd, Int.reduceSub, Int.reduceMul, Int.reduceDiv, Int.reduceMod, Int.reduceNeg, Int.reduceToNat, Int.toNat_natCast, Int.toNat_zero, Int.zero_add, Int.add_zero, Int.one_mul, Int.reducePow, Nat.mul_one, Nat.zero_add, Nat.add_zero, Nat.zero_mul, Nat.reduceAdd, Nat.reduceMul, Nat.reduceSub, Nat.min_eq_left, IntKind.bits, Nat.sub_zero, hrow]; try rfl; done) | rfl)) | ((first | (with_reducible apply q_eqL) | (with_reducible apply q_eqO)); (first | (simp (disch := omega) only [upd_self, upd_ne, upd_upd, rep, splice, List.take_succ_cons, List.take_zero, List.drop_succ_cons, List.drop_zero, List.cons_append, List.nil_append, List.append_nil, List.length_cons, List.length_nil, List.reduceReplicate, List.flatten_cons, List.flatten_nil, Nat.reduceAdd, Nat.reduceMul, Nat.reduceSub, Nat.zero_add, Nat.add_zero, List.getElem?_cons_zero, List.getElem?_cons_succ, hrow]; try rfl; done) | rfl)))
      all_goals first
        | (rw [hstop 2 (by rw [if_pos (by omega)]; rfl) (by omega)]; exact Fin_flat trivial rfl rfl)
        | (rw [hstop 10 (by rw [if_neg (by omega), if_pos (by omega)]; rfl) (by omega)]; exact Fin_flat trivial rfl rfl)
        | (rw [hstop 1 (by rw [if_neg (by omega), if_neg (by omega), if_pos (by omega)]; rfl) (by omega)]; exact Fin_flat trivial rfl rfl)
        | (rw [hstop 3 (by rw [if_neg (by omega), if_neg (by omega), if_neg (by omega), if_pos ⟨by omega, rfl, by omega⟩]; rfl) (by omega)]; exact Fin_flat trivial rfl rfl)
        | exact ⟨_, hnext (by rw [if_neg (by omega), if_neg (by omega), if_neg (by omega), if_neg (by rintro ⟨h1, h2, h3⟩; first | omega | cases h2)]), rfl⟩
    · rintro e' h' ⟨h1, hj, he⟩
      cases he
      rw [fE_zero.2 hj]
      repeat' (first | (with_reducible first | refine W_seq ?_ | refine then_n ?_ | refine W_block ?_ | refine blk_n ?_ | refine blk_r ?_ | refine blk_e ?_ | refine W_skip ?_ | refine W_ret ?_ | refine then_r ?_ | refine W_exit ?_ | refine then_e ?_) | ((with_reducible refine s_reg ?_); intro K hK) | ((with_reducible refine k_nil ?_); (with_reducible apply s_nil hK); (· exact nmX); clear hK; clear K) | ((with_reducible refine k_cond ?_); (first | ((with_reducible apply s_condT); (· rfl); (· exact nmX)) | ((with_reducible apply s_condF); (· rfl); (· exact nmX)) | ((with_reducible apply s_condS); (· rfl); (· exact nmX); (· exact nmX)))) | ((with_reducible refine k_mv ?_); (refine s_mv rfl ?_)) | ((with_reducible refine k_lss ?_); (refine s_lss rfl rfl ?_)) | ((with_reducible refine k_br ?_); (first | (with_reducible first | refine Br_dec ?_ | refine Br_not ?_ | refine Br_eqF ?_ | refine Br_and ?_ | refine Br_or ?_ | refine Br_neg ?_ | refine Br_band ?_ | refine Br_bor ?_ | refine Br_beq ?_) | (refine Br_t (by first | with_reducible rfl | omega | assumption | rfl) ?_) | (refine Br_f (by first | omega | assumption | decide) ?_) | (with_reducible apply Br_sb <;> intro hbr <;> (first | subst hbr | simp only [hbr] | skip)) | (with_reducible apply Br_s <;> intro hbr))))
      exact Fin_flat trivial rfl rfl
  · rw [if_neg h]
    repeat' (first | (with_reducible first | refine W_seq ?_ | refine then_n ?_ | refine W_block ?_ | refine blk_n ?_ | refine blk_r ?_ | refine blk_e ?_ | refine W_skip ?_ | refine W_ret ?_ | refine then_r ?_ | refine W_exit ?_ | refine then_e ?_) | ((with_reducible refine s_reg ?_); intro K hK) | ((with_reducible refine k_nil ?_); (with_reducible apply s_nil hK); (· exact nmX); clear hK; clear K) | ((with_reducible refine k_cond ?_); (first | ((with_reducible apply s_condT); (· rfl); (· exact nmX)) | ((with_reducible apply s_condF); (· rfl); (· exact nmX)) | ((with_reducible apply s_condS); (· rfl); (· exact nmX); (· exact nmX)))) | ((with_reducible refine k_mv ?_); (refine s_mv rfl ?_)) | ((with_reducible refine k_neq ?_); (first | (refine s_neq rfl rfl ?_) | (refine s_strNe rfl rfl ?_))) | ((with_reducible refine k_callF ?_); (first | ((with_reducible apply s_call1); (· rfl)) | ((with_reducible apply s_calln); (· rfl)))) | ((with_reducible refine k_con ?_); (first | ((with_reducible apply con_val (c1)); (· (exact agX)); (· rfl); (· exact fun _ => rfl)))) | ((with_reducible refine k_br ?_); (first | (with_reducible first | refine Br_dec ?_ | refine Br_not ?_ | refine Br_eqF ?_ | refine Br_and ?_ | refine Br_or ?_ | refine Br_neg ?_ | refine Br_band ?_ | refine Br_bor ?_ | refine Br_beq ?_) | (refine Br_t (by first | with_reducible rfl | omega | assumption | rfl) ?_) | (refine Br_f (by first | omega | assumption | decide) ?_) | (with_reducible apply Br_sb <;> intro hbr <;> (first | subst hbr | simp only [hbr] | skip)) | (with_reducible apply Br_s <;> intro hbr))))
    all_goals first | (exfalso; omega) | exact Fin_flat trivial rfl rfl
end Go.Proofs.Ytolnhkpckbgmgaa
end
section
/- Reclaim plans: what is leaving; reasons. -/
set_option linter.unusedSimpArgs false
set_option linter.unusedVariables false
namespace Go.Proofs.Ytolnhkpckbgmgaa
open Go.AM Classical
set_option maxRecDepth 100000
set_option maxHeartbeats 4000000
def isLv (q : Pg) (a : Int) : Int := if q.leaving = true ∧ q.account = a then 1 else 0
theorem isLv_in (q : Pg) (a : Int) : 0 ≤ isLv q a ∧ isLv q a ≤ 1 := by unfold isLv; split <;> omega
def cntA (p : List Pg) (a : Int) : Nat → Int
  | 0 => 0
  | m + 1 => cntA p a m + (if h : m < p.length then isLv p[m] a else 0)
theorem cntA_s {p : List Pg} {a : Int} {m : Nat} (h : m < p.length) : cntA p a (m + 1) = cntA p a m + isLv p[m] a := by rw [cntA, dif_pos h]
theorem cntA_in (p : List Pg) (a : Int) : ∀ m, 0 ≤ cntA p a m ∧ cntA p a m ≤ m
  | 0 => by simp [cntA]
  | m + 1 => by
    have := cntA_in p a m
    unfold cntA
    split
    · have := isLv_in p[m] a; omega
    · omega
def lvT (n : Nat) (p : List Pg) (m : Nat) : List Int := (List.range n).map fun (a : Nat) => cntA p a m
def lvL (l : List Acct) (p : List Pg) : List Int := lvT l.length p p.length
theorem lvT_len (n : Nat) (p : List Pg) (m : Nat) : (lvT n p m).length = n := by simp [lvT]
theorem lvL_len (l : List Acct) (p : List Pg) : (lvL l p).length = l.length := lvT_len _ _ _
theorem lvT_at {n : Nat} {p : List Pg} {m j : Nat} (h : j < (lvT n p m).length) : (lvT n p m)[j] = cntA p j m := by simp [lvT]
theorem lvT_g {n : Nat} {p : List Pg} {m j : Nat} (h : j < n) : ((lvT n p m).map (D.int .i64))[j]? = some (.int .i64 (cntA p j m)) := by
  rw [List.getElem?_map, List.getElem?_eq_getElem (by rw [lvT_len]; exact h), lvT_at]; rfl
theorem lvT_zero (n : Nat) (p : List Pg) : ∀ x ∈ lvT n p 0, x = 0 := by simp [lvT, cntA]
theorem lvT_yes {n : Nat} {p : List Pg} {m : Nat} (h : m < p.length) (hl : p[m].leaving = true) (ha : 0 ≤ p[m].account) : (lvT n p m).set p[m].account.toNat (cntA p p[m].account m + 1) = lvT n p (m + 1) := by
  apply List.ext_getElem (by simp [lvT_len])
  intro j h1 h2
  rw [List.getElem_set, lvT_at h2, cntA_s h]
  by_cases hj : p[m].account.toNat = j
  · subst hj
    rw [if_pos rfl, Int.toNat_of_nonneg ha, isLv, if_pos ⟨hl, rfl⟩]
  · rw [if_neg hj, lvT_at (by simpa using h1), isLv, if_neg (by rintro ⟨_, h3⟩; omega), Int.add_zero]
theorem lvT_no {n : Nat} {p : List Pg} {m : Nat} (h : m < p.length) (hl : ¬ (p[m].leaving = true ∧ 0 ≤ p[m].account)) : lvT n p m = lvT n p (m + 1) := by
  apply List.ext_getElem (by simp [lvT_len])
  intro j h1 h2
  rw [lvT_at h1, lvT_at h2, cntA_s h, isLv, if_neg (by rintro ⟨h3, h4⟩; exact hl ⟨h3, by omega⟩), Int.add_zero]
theorem errA_ok {l : List Acct} {p : List Pg} (h : pchk p l = 0) : chkF l = 0 ∧ ∀ i (hi : i < p.length), (0 ≤ p[i].frame ∧ p[i].frame < 256) ∧ (-1 ≤ p[i].account ∧ p[i].account < l.length) ∧ (0 ≤ p[i].reason ∧ p[i].reason ≤ 10) ∧ -1 ≤ p[i].age ∧ prevF p i < p[i].frame ∧ ¬ (p[i].reason = 0 ∧ p[i].leaving = false ∧ p[i].age = -1) := by
  unfold pchk at h
  split at h
  · rename_i hc
    refine ⟨hc, fun i hi => ?_⟩
    have h1 := fE_zero.1 h i hi
    unfold errA at h1
    rw [dif_pos hi] at h1
    unfold pgE at h1
    split at h1
    · omega
    · split at h1
      · omega
      · split at h1
        · omega
        · split at h1
          · omega
          · refine ⟨by omega, by omega, by omega, by omega, by omega, by assumption⟩
  · contradiction
theorem val_lv {l : List Acct} {p : List Pg} (h : chkF l = 0) (hP : p.length ≤ 1000000) : valP l (lvL l p) := by
  refine ⟨h, lvL_len _ _, fun x hx => ?_⟩
  obtain ⟨j, hj, rfl⟩ := List.getElem_of_mem hx
  have h1 : (lvL l p)[j] = cntA p j p.length := lvT_at (n := l.length) hj
  rw [h1]
  have := cntA_in p j p.length
  unfold inR
  omega
def quP (p : List Pg) (l : List Acct) (s : Int) : Prop := pchk p l = 0 ∧ -1 ≤ s ∧ s < l.length
def outP (l : List Acct) (s : Int) (q : Pg) : Prop := 0 ≤ s ∧ (q.account < 0 ∨ ¬ insP l q.account s)
def gdP (l : List Acct) (v : List Int) (s : Int) (low : Bool) (q : Pg) : Prop := 0 ≤ q.account ∧ grdP l v q.account s low
noncomputable def rsn (l : List Acct) (v : List Int) (s : Int) (kn : Bool) (q : Pg) : Int :=
  if outP l s q then 13 else if kn = true ∧ q.normal = false then 12 else if q.leaving = true then 8 else if q.reason ≠ 0 ∧ q.reason ≠ 8 then q.reason else if gdP l v s false q then 11 else q.reason
end Go.Proofs.Ytolnhkpckbgmgaa
end
section
/- min -/
/- Reclaim plans: the program's questions. -/
set_option linter.unusedSimpArgs false
set_option linter.unusedVariables false
namespace Go.Proofs.Ytolnhkpckbgmgaa
open Go.AM Classical
set_option maxRecDepth 100000
set_option maxHeartbeats 4000000
def bl (f : Nat → Bool) (n : Nat) : List Bool := (List.range n).map f
theorem bl_len (f : Nat → Bool) (n : Nat) : (bl f n).length = n := by simp [bl]
theorem bl_g {f : Nat → Bool} {n i : Nat} (h : i < n) : ((bl f n).map D.bool)[i]? = some (.bool (f i)) := by
  rw [List.getElem?_map, List.getElem?_eq_getElem (by rw [bl_len]; exact h)]; simp [bl]
theorem bl_s (f : Nat → Bool) (n : Nat) : bl f (n + 1) = bl f n ++ [f n] := by simp [bl, List.range_succ]
noncomputable def inB (l : List Acct) (s : Int) (a : Nat) : Bool := decide (insP l a s)
noncomputable def gdB (l : List Acct) (v : List Int) (s : Int) (low : Bool) (a : Nat) : Bool := decide (grdP l v a s low)
abbrev blD (f : Nat → Bool) (n : Nat) : D := .vs 1 ((bl f n).map .bool) n
noncomputable def qC (p : List Pg) (l : List Acct) (s : Int) (kn : Bool) : List D := [pgs p, .int .i64 s, .bool kn, blD (inB l s) l.length, blD (gdB l (lvL l p) s false) l.length, blD (gdB l (lvL l p) s true) l.length]
noncomputable def qV (p : List Pg) (l : List Acct) (s : Int) (kn : Bool) : D := .vp (qC p l s kn) 0
def inQ (l : List Acct) (q : Pg) : Prop := q.account < l.length
theorem qoutside_c (q : Pg) (p : List Pg) (l : List Acct) (s : Int) (kn : Bool) (hq : inQ l q) : PCon Try.prog 33 [qV p l s kn, .agg q.cells] (.bool (decide (outP l s q))) := by
  refine A33p (by simp [A33]) ?_
  simp only [A33, argEnv, qV, qC]
  have hz : outP l s q ↔ (0 ≤ s ∧ (q.account < 0 ∨ ¬ insP l q.account s)) := Iff.rfl
  generalize outP l s q = Z at *
  unfold inQ at hq
  obtain ⟨fr, ac, ag, re, ow, nm, lv⟩ := q
  dsimp only [Pg.cells] at hq hz ⊢
  by_cases h0 : 0 ≤ ac
  · have hg := bl_g (f := inB l s) (n := l.length) (i := ac.toNat) (by omega)
    unfold inB at hg
    rw [Int.toNat_of_nonneg h0] at hg
    have hbn : ((bl (fun a => decide (insP l (a : Int) s)) l.length).map D.bool).length = l.length := by rw [List.length_map, bl_len]
    unfold inB
    by_cases hI : insP l ac s
    · rw [decide_eq_true hI] at hg
      repeat' (first | (with_reducible first | refine W_seq ?_ | refine then_n ?_ | refine W_skip ?_ | refine W_ret ?_ | refine then_r ?_) | ((with_reducible refine s_reg ?_); intro K hK) | ((with_reducible refine k_nil ?_); (with_reducible apply s_nil hK); (· exact nmX); clear hK; clear K) | ((with_reducible refine k_mv ?_); (refine s_mv rfl ?_)) | ((with_reducible refine k_pick ?_); (first | (refine s_pickT rfl rfl ?_) | (refine s_pickF rfl rfl ?_))) | ((with_reducible refine k_not ?_); (refine s_not rfl (by first | exact Bool.not_true | exact Bool.not_false | rfl) ?_)) | ((with_reducible refine k_lss ?_); (refine s_lss rfl rfl ?_)) | ((with_reducible refine k_geq ?_); (refine s_geq rfl rfl ?_)) | ((with_reducible refine k_iaddr ?_); (first | ((with_reducible apply s_iaddrV); (· rfl); (· rfl); (· (first | omega | exact ⟨rfl, by omega⟩ | skip))) | ((with_reducible apply s_iaddrO); (· rfl); (· rfl); (· (first | omega | exact ⟨rfl, by omega⟩ | skip)); (· (exact hpX))) | ((with_reducible apply s_iaddrSO); (· rfl); (· assumption); (· rfl); (· (first | omega | exact ⟨rfl, by omega⟩ | skip)); (· (first | (simp (disch := omega) only [w64, wu8, wu16, wu32, wu64, tm_nn, td_nn, fd_nn, Int.reduceAdd, Int.reduceSub, Int.reduceMul, Int.reduceDiv, Int.reduceMod, Int.reduceNeg, Int.reduceToNat, Int.toNat_natCast, Int.toNat_zero, Int.zero_add, Int.add_zero, Int.one_mul, Int.reducePow, Nat.mul_one, Nat.zero_add, Nat.add_zero, Nat.zero_mul, Nat.reduceAdd, Nat.reduceMul, Nat.reduceSub, Nat.min_eq_left, IntKind.bits, Nat.sub_zero, hg]; try rfl; done) | rfl)); intro ks hks))) | ((with_reducible refine k_load ?_); (first | ((with_reducible apply s_loadV); (· rfl)) | ((with_reducible apply s_loadP); (· rfl); (· (exact hpX))))) | ((with_reducible refine k_faddr ?_); (first | ((with_reducible apply s_faddrV); (· rfl); (· rfl)) | ((with_reducible apply s_faddrP); (· rfl); (· rfl)))) | ((with_reducible refine k_box (dst := some 3) ?_); ((with_reducible apply s_box); (· rfl); (· rfl); intro k3 hk3; (try simp only [upd_none] at hk3))) | ((with_reducible refine k_nilck ?_); (first | ((with_reducible apply s_nilckV); (· rfl)) | ((with_reducible apply s_nilckP); (· rfl)) | ((with_reducible apply s_nilckF); (· rfl)))) | ((with_reducible refine k_dreg ?_); refine s_dreg rfl rfl ?_; intro K hK) | ((with_reducible refine k_dnil ?_); (with_reducible apply d_nil hK); (· exact nmX); clear hK; clear K) | ((with_reducible refine k_dguard ?_); (first | (refine d_gt rfl ?_) | (refine d_gf rfl ?_) | (refine d_gx rfl ?_) | (refine d_gs rfl ?_))) | ((with_reducible refine k_dop ?_); refine d_step (by first | exact Or.inl rfl | exact Or.inr rfl) ?_) | (with_reducible refine d_back ?_) | ((with_reducible refine k_br ?_); (first | (with_reducible first | refine Br_dec ?_ | refine Br_not ?_ | refine Br_eqF ?_ | refine Br_and ?_ | refine Br_or ?_ | refine Br_neg ?_ | refine Br_band ?_ | refine Br_bor ?_ | refine Br_beq ?_) | (refine Br_t (by first | with_reducible rfl | omega | assumption | rfl) ?_) | (refine Br_f (by first | omega | assumption | decide) ?_) | (with_reducible apply Br_sb <;> intro hbr <;> (first | subst hbr | simp only [hbr] | skip)) | (with_reducible apply Br_s <;> intro hbr))) | ((first | (with_reducible apply q_eqI) | (with_reducible apply q_eqN)); (first | (simp (disch := omega) only [w64, wu8, wu16, wu32, wu64, tm_nn, td_nn, fd_nn, Int.reduceAdd, Int.reduceSub, Int.reduceMul, Int.reduceDiv, Int.reduceMod, Int.reduceNeg, Int.reduceToNat, Int.toNat_natCast, Int.toNat_zero, Int.zero_add, Int.add_zero, Int.one_mul, Int.reducePow, Nat.mul_one, Nat.zero_add, Nat.add_zero, Nat.zero_mul, Nat.reduceAdd, Nat.reduceMul, Nat.reduceSub, Nat.min_eq_left, IntKind.bits, Nat.sub_zero, hg]; try rfl; done) | rfl)) | ((first | (with_reducible apply q_eqL) | (with_reducible apply q_eqO)); (first | (simp (disch := omega) only [upd_self, upd_ne, upd_upd, rep, splice, List.take_succ_cons, List.take_zero, List.drop_succ_cons, List.drop_zero, List.cons_append, List.nil_append, List.append_nil, List.length_cons, List.length_nil, List.reduceReplicate, List.flatten_cons, List.flatten_nil, Nat.reduceAdd, Nat.reduceMul, Nat.reduceSub, Nat.zero_add, Nat.add_zero, List.getElem?_cons_zero, List.getElem?_cons_succ, hg]; try rfl; done) | rfl)))
      all_goals first | (exfalso; omega) | exact Fin_bf trivial rfl (fun h => by have := hz.1 h; omega) | exact Fin_bf trivial rfl (fun h => (hz.1 h).2.elim (fun h => by omega) (fun h => h hI))
    · rw [decide_eq_false hI] at hg
      repeat' (first | (with_reducible first | refine W_seq ?_ | refine then_n ?_ | refine W_skip ?_ | refine W_ret ?_ | refine then_r ?_) | ((with_reducible refine s_reg ?_); intro K hK) | ((with_reducible refine k_nil ?_); (with_reducible apply s_nil hK); (· exact nmX); clear hK; clear K) | ((with_reducible refine k_mv ?_); (refine s_mv rfl ?_)) | ((with_reducible refine k_pick ?_); (first | (refine s_pickT rfl rfl ?_) | (refine s_pickF rfl rfl ?_))) | ((with_reducible refine k_not ?_); (refine s_not rfl (by first | exact Bool.not_true | exact Bool.not_false | rfl) ?_)) | ((with_reducible refine k_lss ?_); (refine s_lss rfl rfl ?_)) | ((with_reducible refine k_geq ?_); (refine s_geq rfl rfl ?_)) | ((with_reducible refine k_iaddr ?_); (first | ((with_reducible apply s_iaddrV); (· rfl); (· rfl); (· (first | omega | exact ⟨rfl, by omega⟩ | skip))) | ((with_reducible apply s_iaddrO); (· rfl); (· rfl); (· (first | omega | exact ⟨rfl, by omega⟩ | skip)); (· (exact hpX))) | ((with_reducible apply s_iaddrSO); (· rfl); (· assumption); (· rfl); (· (first | omega | exact ⟨rfl, by omega⟩ | skip)); (· (first | (simp (disch := omega) only [w64, wu8, wu16, wu32, wu64, tm_nn, td_nn, fd_nn, Int.reduceAdd, Int.reduceSub, Int.reduceMul, Int.reduceDiv, Int.reduceMod, Int.reduceNeg, Int.reduceToNat, Int.toNat_natCast, Int.toNat_zero, Int.zero_add, Int.add_zero, Int.one_mul, Int.reducePow, Nat.mul_one, Nat.zero_add, Nat.add_zero, Nat.zero_mul, Nat.reduceAdd, Nat.reduceMul, Nat.reduceSub, Nat.min_eq_left, IntKind.bits, Nat.sub_zero, hg]; try rfl; done) | rfl)); intro ks hks))) | ((with_reducible refine k_load ?_); (first | ((with_reducible apply s_loadV); (· rfl)) | ((with_reducible apply s_loadP); (· rfl); (· (exact hpX))))) | ((with_reducible refine k_faddr ?_); (first | ((with_reducible apply s_faddrV); (· rfl); (· rfl)) | ((with_reducible apply s_faddrP); (· rfl); (· rfl)))) | ((with_reducible refine k_box (dst := some 3) ?_); ((with_reducible apply s_box); (· rfl); (· rfl); intro k3 hk3; (try simp only [upd_none] at hk3))) | ((with_reducible refine k_nilck ?_); (first | ((with_reducible apply s_nilckV); (· rfl)) | ((with_reducible apply s_nilckP); (· rfl)) | ((with_reducible apply s_nilckF); (· rfl)))) | ((with_reducible refine k_dreg ?_); refine s_dreg rfl rfl ?_; intro K hK) | ((with_reducible refine k_dnil ?_); (with_reducible apply d_nil hK); (· exact nmX); clear hK; clear K) | ((with_reducible refine k_dguard ?_); (first | (refine d_gt rfl ?_) | (refine d_gf rfl ?_) | (refine d_gx rfl ?_) | (refine d_gs rfl ?_))) | ((with_reducible refine k_dop ?_); refine d_step (by first | exact Or.inl rfl | exact Or.inr rfl) ?_) | (with_reducible refine d_back ?_) | ((with_reducible refine k_br ?_); (first | (with_reducible first | refine Br_dec ?_ | refine Br_not ?_ | refine Br_eqF ?_ | refine Br_and ?_ | refine Br_or ?_ | refine Br_neg ?_ | refine Br_band ?_ | refine Br_bor ?_ | refine Br_beq ?_) | (refine Br_t (by first | with_reducible rfl | omega | assumption | rfl) ?_) | (refine Br_f (by first | omega | assumption | decide) ?_) | (with_reducible apply Br_sb <;> intro hbr <;> (first | subst hbr | simp only [hbr] | skip)) | (with_reducible apply Br_s <;> intro hbr))) | ((first | (with_reducible apply q_eqI) | (with_reducible apply q_eqN)); (first | (simp (disch := omega) only [w64, wu8, wu16, wu32, wu64, tm_nn, td_nn, fd_nn, Int.reduceAdd, Int.reduceSub, Int.reduceMul, Int.reduceDiv, Int.reduceMod, Int.reduceNeg, Int.reduceToNat, Int.toNat_natCast, Int.toNat_zero, Int.zero_add, Int.add_zero, Int.one_mul, Int.reducePow, Nat.mul_one, Nat.zero_add, Nat.add_zero, Nat.zero_mul, Nat.reduceAdd, Nat.reduceMul, Nat.reduceSub, Nat.min_eq_left, IntKind.bits, Nat.sub_zero, hg]; try rfl; done) | rfl)) | ((first | (with_reducible apply q_eqL) | (with_reducible apply q_eqO)); (first | (simp (disch := omega) only [upd_self, upd_ne, upd_upd, rep, splice, List.take_succ_cons, List.take_zero, List.drop_succ_cons, List.drop_zero, List.cons_append, List.nil_append, List.append_nil, List.length_cons, List.length_nil, List.reduceReplicate, List.flatten_cons, List.flatten_nil, Nat.reduceAdd, Nat.reduceMul, Nat.reduceSub, Nat.zero_add, Nat.add_zero, List.getElem?_cons_zero, List.getElem?_cons_succ, hg]; try rfl; done) | rfl)))
      all_goals first | (exfalso; omega) | exact Fin_bt trivial rfl (hz.2 ⟨by omega, .inr hI⟩) | exact Fin_bf trivial rfl (fun h => by have := hz.1 h; omega)
  · repeat' (first | (with_reducible first | refine W_seq ?_ | refine then_n ?_ | refine W_skip ?_ | refine W_ret ?_ | refine then_r ?_) | ((with_reducible refine s_reg ?_); intro K hK) | ((with_reducible refine k_nil ?_); (with_reducible apply s_nil hK); (· exact nmX); clear hK; clear K) | ((with_reducible refine k_mv ?_); (refine s_mv rfl ?_)) | ((with_reducible refine k_pick ?_); (first | (refine s_pickT rfl rfl ?_) | (refine s_pickF rfl rfl ?_))) | ((with_reducible refine k_lss ?_); (refine s_lss rfl rfl ?_)) | ((with_reducible refine k_geq ?_); (refine s_geq rfl rfl ?_)) | ((with_reducible refine k_load ?_); (first | ((with_reducible apply s_loadV); (· rfl)) | ((with_reducible apply s_loadP); (· rfl); (· (exact hpX))))) | ((with_reducible refine k_faddr ?_); (first | ((with_reducible apply s_faddrV); (· rfl); (· rfl)) | ((with_reducible apply s_faddrP); (· rfl); (· rfl)))) | ((with_reducible refine k_box (dst := some 3) ?_); ((with_reducible apply s_box); (· rfl); (· rfl); intro k3 hk3; (try simp only [upd_none] at hk3))) | ((with_reducible refine k_nilck ?_); (first | ((with_reducible apply s_nilckV); (· rfl)) | ((with_reducible apply s_nilckP); (· rfl)) | ((with_reducible apply s_nilckF); (· rfl)))) | ((with_reducible refine k_dreg ?_); refine s_dreg rfl rfl ?_; intro K hK) | ((with_reducible refine k_dnil ?_); (with_reducible apply d_nil hK); (· exact nmX); clear hK; clear K) | ((with_reducible refine k_dguard ?_); (first | (refine d_gt rfl ?_) | (refine d_gf rfl ?_) | (refine d_gx rfl ?_) | (refine d_gs rfl ?_))) | ((with_reducible refine k_dop ?_); refine d_step (by first | exact Or.inl rfl | exact Or.inr rfl) ?_) | (with_reducible refine d_back ?_) | ((with_reducible refine k_br ?_); (first | (with_reducible first | refine Br_dec ?_ | refine Br_not ?_ | refine Br_eqF ?_ | refine Br_and ?_ | refine Br_or ?_ | refine Br_neg ?_ | refine Br_band ?_ | refine Br_bor ?_ | refine Br_beq ?_) | (refine Br_t (by first | with_reducible rfl | omega | assumption | rfl) ?_) | (refine Br_f (by first | omega | assumption | decide) ?_) | (with_reducible apply Br_sb <;> intro hbr <;> (first | subst hbr | simp only [hbr] | skip)) | (with_reducible apply Br_s <;> intro hbr))) | ((first | (with_reducible apply q_eqL) | (with_reducible apply q_eqO)); (first | exact liL | exact liO)))
    all_goals first | (exfalso; omega) | exact Fin_bt trivial rfl (hz.2 ⟨by omega, .inl (by omega)⟩) | exact Fin_bf trivial rfl (fun h => by have := hz.1 h; omega)
theorem qguarded_c (q : Pg) (p : List Pg) (l : List Acct) (s : Int) (kn : Bool) (hq : inQ l q) : PCon Try.prog 34 [qV p l s kn, .agg q.cells] (.bool (decide (gdP l (lvL l p) s false q))) := by
  refine A34p (by simp [A34]) ?_
  simp only [A34, argEnv, qV, qC]
  have hz : gdP l (lvL l p) s false q ↔ (0 ≤ q.account ∧ grdP l (lvL l p) q.account s false) := Iff.rfl
  generalize gdP l (lvL l p) s false q = Z at *
  unfold inQ at hq
  obtain ⟨fr, ac, ag, re, ow, nm, lv⟩ := q
  dsimp only [Pg.cells] at hq hz ⊢
  by_cases h0 : 0 ≤ ac
  · have hg := bl_g (f := gdB l (lvL l p) s false) (n := l.length) (i := ac.toNat) (by omega)
    rw [show gdB l (lvL l p) s false ac.toNat = decide (grdP l (lvL l p) ac s false) by unfold gdB; rw [Int.toNat_of_nonneg h0]] at hg
    by_cases hI : grdP l (lvL l p) ac s false
    · rw [decide_eq_true hI] at hg
      repeat' (first | (with_reducible first | refine W_seq ?_ | refine then_n ?_ | refine W_skip ?_ | refine W_ret ?_ | refine then_r ?_) | ((with_reducible refine s_reg ?_); intro K hK) | ((with_reducible refine k_nil ?_); (with_reducible apply s_nil hK); (· exact nmX); clear hK; clear K) | ((with_reducible refine k_mv ?_); (refine s_mv rfl ?_)) | ((with_reducible refine k_pick ?_); (first | (refine s_pickT rfl rfl ?_) | (refine s_pickF rfl rfl ?_))) | ((with_reducible refine k_geq ?_); (refine s_geq rfl rfl ?_)) | ((with_reducible refine k_iaddr ?_); (first | ((with_reducible apply s_iaddrV); (· rfl); (· rfl); (· (first | omega | exact ⟨rfl, by omega⟩ | skip))) | ((with_reducible apply s_iaddrO); (· rfl); (· rfl); (· (first | omega | exact ⟨rfl, by omega⟩ | skip)); (· (exact hpX))) | ((with_reducible apply s_iaddrSO); (· rfl); (· assumption); (· rfl); (· (first | omega | exact ⟨rfl, by omega⟩ | skip)); (· (first | (simp (disch := omega) only [w64, wu8, wu16, wu32, wu64, tm_nn, td_nn, fd_nn, Int.reduceAdd, Int.reduceSub, Int.reduceMul, Int.reduceDiv, Int.reduceMod, Int.reduceNeg, Int.reduceToNat, Int.toNat_natCast, Int.toNat_zero, Int.zero_add, Int.add_zero, Int.one_mul, Int.reducePow, Nat.mul_one, Nat.zero_add, Nat.add_zero, Nat.zero_mul, Nat.reduceAdd, Nat.reduceMul, Nat.reduceSub, Nat.min_eq_left, IntKind.bits, Nat.sub_zero, hg]; try rfl; done) | rfl)); intro ks hks))) | ((with_reducible refine k_load ?_); (first | ((with_reducible apply s_loadV); (· rfl)) | ((with_reducible apply s_loadP); (· rfl); (· (exact hpX))))) | ((with_reducible refine k_faddr ?_); (first | ((with_reducible apply s_faddrV); (· rfl); (· rfl)) | ((with_reducible apply s_faddrP); (· rfl); (· rfl)))) | ((with_reducible refine k_box (dst := some 3) ?_); ((with_reducible apply s_box); (· rfl); (· rfl); intro k3 hk3; (try simp only [upd_none] at hk3))) | ((with_reducible refine k_nilck ?_); (first | ((with_reducible apply s_nilckV); (· rfl)) | ((with_reducible apply s_nilckP); (· rfl)) | ((with_reducible apply s_nilckF); (· rfl)))) | ((with_reducible refine k_dreg ?_); refine s_dreg rfl rfl ?_; intro K hK) | ((with_reducible refine k_dnil ?_); (with_reducible apply d_nil hK); (· exact nmX); clear hK; clear K) | ((with_reducible refine k_dguard ?_); (first | (refine d_gt rfl ?_) | (refine d_gf rfl ?_) | (refine d_gx rfl ?_) | (refine d_gs rfl ?_))) | ((with_reducible refine k_dop ?_); refine d_step (by first | exact Or.inl rfl | exact Or.inr rfl) ?_) | (with_reducible refine d_back ?_) | ((with_reducible refine k_br ?_); (first | (with_reducible first | refine Br_dec ?_ | refine Br_not ?_ | refine Br_eqF ?_ | refine Br_and ?_ | refine Br_or ?_ | refine Br_neg ?_ | refine Br_band ?_ | refine Br_bor ?_ | refine Br_beq ?_) | (refine Br_t (by first | with_reducible rfl | omega | assumption | rfl) ?_) | (refine Br_f (by first | omega | assumption | decide) ?_) | (with_reducible apply Br_sb <;> intro hbr <;> (first | subst hbr | simp only [hbr] | skip)) | (with_reducible apply Br_s <;> intro hbr))) | ((first | (with_reducible apply q_eqI) | (with_reducible apply q_eqN)); (first | (simp (disch := omega) only [w64, wu8, wu16, wu32, wu64, tm_nn, td_nn, fd_nn, Int.reduceAdd, Int.reduceSub, Int.reduceMul, Int.reduceDiv, Int.reduceMod, Int.reduceNeg, Int.reduceToNat, Int.toNat_natCast, Int.toNat_zero, Int.zero_add, Int.add_zero, Int.one_mul, Int.reducePow, Nat.mul_one, Nat.zero_add, Nat.add_zero, Nat.zero_mul, Nat.reduceAdd, Nat.reduceMul, Nat.reduceSub, Nat.min_eq_left, IntKind.bits, Nat.sub_zero, hg]; try rfl; done) | rfl)) | ((first | (with_reducible apply q_eqL) | (with_reducible apply q_eqO)); (first | (simp (disch := omega) only [upd_self, upd_ne, upd_upd, rep, splice, List.take_succ_cons, List.take_zero, List.drop_succ_cons, List.drop_zero, List.cons_append, List.nil_append, List.append_nil, List.length_cons, List.length_nil, List.reduceReplicate, List.flatten_cons, List.flatten_nil, Nat.reduceAdd, Nat.reduceMul, Nat.reduceSub, Nat.zero_add, Nat.add_zero, List.getElem?_cons_zero, List.getElem?_cons_succ, hg]; try rfl; done) | rfl)))
      all_goals first | (exfalso; omega) | exact Fin_bt trivial rfl (hz.2 ⟨h0, hI⟩)
    · rw [decide_eq_false hI] at hg
      repeat' (first | (with_reducible first | refine W_seq ?_ | refine then_n ?_ | refine W_skip ?_ | refine W_ret ?_ | refine then_r ?_) | ((with_reducible refine s_reg ?_); intro K hK) | ((with_reducible refine k_nil ?_); (with_reducible apply s_nil hK); (· exact nmX); clear hK; clear K) | ((with_reducible refine k_mv ?_); (refine s_mv rfl ?_)) | ((with_reducible refine k_pick ?_); (first | (refine s_pickT rfl rfl ?_) | (refine s_pickF rfl rfl ?_))) | ((with_reducible refine k_geq ?_); (refine s_geq rfl rfl ?_)) | ((with_reducible refine k_iaddr ?_); (first | ((with_reducible apply s_iaddrV); (· rfl); (· rfl); (· (first | omega | exact ⟨rfl, by omega⟩ | skip))) | ((with_reducible apply s_iaddrO); (· rfl); (· rfl); (· (first | omega | exact ⟨rfl, by omega⟩ | skip)); (· (exact hpX))) | ((with_reducible apply s_iaddrSO); (· rfl); (· assumption); (· rfl); (· (first | omega | exact ⟨rfl, by omega⟩ | skip)); (· (first | (simp (disch := omega) only [w64, wu8, wu16, wu32, wu64, tm_nn, td_nn, fd_nn, Int.reduceAdd, Int.reduceSub, Int.reduceMul, Int.reduceDiv, Int.reduceMod, Int.reduceNeg, Int.reduceToNat, Int.toNat_natCast, Int.toNat_zero, Int.zero_add, Int.add_zero, Int.one_mul, Int.reducePow, Nat.mul_one, Nat.zero_add, Nat.add_zero, Nat.zero_mul, Nat.reduceAdd, Nat.reduceMul, Nat.reduceSub, Nat.min_eq_left, IntKind.bits, Nat.sub_zero, hg]; try rfl; done) | rfl)); intro ks hks))) | ((with_reducible refine k_load ?_); (first | ((with_reducible apply s_loadV); (· rfl)) | ((with_reducible apply s_loadP); (· rfl); (· (exact hpX))))) | ((with_reducible refine k_faddr ?_); (first | ((with_reducible apply s_faddrV); (· rfl); (· rfl)) | ((with_reducible apply s_faddrP); (· rfl); (· rfl)))) | ((with_reducible refine k_box (dst := some 3) ?_); ((with_reducible apply s_box); (· rfl); (· rfl); intro k3 hk3; (try simp only [upd_none] at hk3))) | ((with_reducible refine k_nilck ?_); (first | ((with_reducible apply s_nilckV); (· rfl)) | ((with_reducible apply s_nilckP); (· rfl)) | ((with_reducible apply s_nilckF); (· rfl)))) | ((with_reducible refine k_dreg ?_); refine s_dreg rfl rfl ?_; intro K hK) | ((with_reducible refine k_dnil ?_); (with_reducible apply d_nil hK); (· exact nmX); clear hK; clear K) | ((with_reducible refine k_dguard ?_); (first | (refine d_gt rfl ?_) | (refine d_gf rfl ?_) | (refine d_gx rfl ?_) | (refine d_gs rfl ?_))) | ((with_reducible refine k_dop ?_); refine d_step (by first | exact Or.inl rfl | exact Or.inr rfl) ?_) | (with_reducible refine d_back ?_) | ((with_reducible refine k_br ?_); (first | (with_reducible first | refine Br_dec ?_ | refine Br_not ?_ | refine Br_eqF ?_ | refine Br_and ?_ | refine Br_or ?_ | refine Br_neg ?_ | refine Br_band ?_ | refine Br_bor ?_ | refine Br_beq ?_) | (refine Br_t (by first | with_reducible rfl | omega | assumption | rfl) ?_) | (refine Br_f (by first | omega | assumption | decide) ?_) | (with_reducible apply Br_sb <;> intro hbr <;> (first | subst hbr | simp only [hbr] | skip)) | (with_reducible apply Br_s <;> intro hbr))) | ((first | (with_reducible apply q_eqI) | (with_reducible apply q_eqN)); (first | (simp (disch := omega) only [w64, wu8, wu16, wu32, wu64, tm_nn, td_nn, fd_nn, Int.reduceAdd, Int.reduceSub, Int.reduceMul, Int.reduceDiv, Int.reduceMod, Int.reduceNeg, Int.reduceToNat, Int.toNat_natCast, Int.toNat_zero, Int.zero_add, Int.add_zero, Int.one_mul, Int.reducePow, Nat.mul_one, Nat.zero_add, Nat.add_zero, Nat.zero_mul, Nat.reduceAdd, Nat.reduceMul, Nat.reduceSub, Nat.min_eq_left, IntKind.bits, Nat.sub_zero, hg]; try rfl; done) | rfl)) | ((first | (with_reducible apply q_eqL) | (with_reducible apply q_eqO)); (first | (simp (disch := omega) only [upd_self, upd_ne, upd_upd, rep, splice, List.take_succ_cons, List.take_zero, List.drop_succ_cons, List.drop_zero, List.cons_append, List.nil_append, List.append_nil, List.length_cons, List.length_nil, List.reduceReplicate, List.flatten_cons, List.flatten_nil, Nat.reduceAdd, Nat.reduceMul, Nat.reduceSub, Nat.zero_add, Nat.add_zero, List.getElem?_cons_zero, List.getElem?_cons_succ, hg]; try rfl; done) | rfl)))
      all_goals first | (exfalso; omega) | exact Fin_bf trivial rfl (fun h => hI (hz.1 h).2)
  · repeat' (first | (with_reducible first | refine W_seq ?_ | refine then_n ?_ | refine W_skip ?_ | refine W_ret ?_ | refine then_r ?_) | ((with_reducible refine s_reg ?_); intro K hK) | ((with_reducible refine k_nil ?_); (with_reducible apply s_nil hK); (· exact nmX); clear hK; clear K) | ((with_reducible refine k_mv ?_); (refine s_mv rfl ?_)) | ((with_reducible refine k_pick ?_); (first | (refine s_pickT rfl rfl ?_) | (refine s_pickF rfl rfl ?_))) | ((with_reducible refine k_geq ?_); (refine s_geq rfl rfl ?_)) | ((with_reducible refine k_load ?_); (first | ((with_reducible apply s_loadV); (· rfl)) | ((with_reducible apply s_loadP); (· rfl); (· (exact hpX))))) | ((with_reducible refine k_faddr ?_); (first | ((with_reducible apply s_faddrV); (· rfl); (· rfl)) | ((with_reducible apply s_faddrP); (· rfl); (· rfl)))) | ((with_reducible refine k_box (dst := some 3) ?_); ((with_reducible apply s_box); (· rfl); (· rfl); intro k3 hk3; (try simp only [upd_none] at hk3))) | ((with_reducible refine k_dreg ?_); refine s_dreg rfl rfl ?_; intro K hK) | ((with_reducible refine k_dnil ?_); (with_reducible apply d_nil hK); (· exact nmX); clear hK; clear K) | ((with_reducible refine k_dguard ?_); (first | (refine d_gt rfl ?_) | (refine d_gf rfl ?_) | (refine d_gx rfl ?_) | (refine d_gs rfl ?_))) | ((with_reducible refine k_dop ?_); refine d_step (by first | exact Or.inl rfl | exact Or.inr rfl) ?_) | (with_reducible refine d_back ?_) | ((with_reducible refine k_br ?_); (first | (with_reducible first | refine Br_dec ?_ | refine Br_not ?_ | refine Br_eqF ?_ | refine Br_and ?_ | refine Br_or ?_ | refine Br_neg ?_ | refine Br_band ?_ | refine Br_bor ?_ | refine Br_beq ?_) | (refine Br_t (by first | with_reducible rfl | omega | assumption | rfl) ?_) | (refine Br_f (by first | omega | assumption | decide) ?_) | (with_reducible apply Br_sb <;> intro hbr <;> (first | subst hbr | simp only [hbr] | skip)) | (with_reducible apply Br_s <;> intro hbr))) | ((first | (with_reducible apply q_eqL) | (with_reducible apply q_eqO)); (first | exact liL | exact liO)))
    all_goals first | (exfalso; omega) | exact Fin_bf trivial rfl (fun h => h0 (hz.1 h).1)
theorem qreason_c (q : Pg) (p : List Pg) (l : List Acct) (s : Int) (kn : Bool) (hq : inQ l q) : PCon Try.prog 21 [qV p l s kn, .agg q.cells] (.int .i64 (rsn l (lvL l p) s kn q)) := by
  have c1 := qoutside_c q p l s kn hq
  have c2 := qguarded_c q p l s kn hq
  refine A21p (by simp [A21]) ?_
  simp only [A21, argEnv]
  unfold rsn
  generalize outP l s q = O at *
  generalize gdP l (lvL l p) s false q = G at *
  obtain ⟨fr, ac, ag, re, ow, nm, lv⟩ := q
  dsimp only [Pg.cells, qV, qC] at c1 c2 ⊢
  cases kn <;> cases nm <;> cases lv
  all_goals
    repeat' (first | (with_reducible first | refine W_seq ?_ | refine then_n ?_ | refine W_block ?_ | refine blk_n ?_ | refine blk_r ?_ | refine blk_e ?_ | refine W_skip ?_ | refine W_ret ?_ | refine then_r ?_) | ((with_reducible refine s_reg ?_); intro K hK) | ((with_reducible refine k_nil ?_); (with_reducible apply s_nil hK); (· exact nmX); clear hK; clear K) | ((with_reducible refine k_cond ?_); (first | ((with_reducible apply s_condT); (· rfl); (· exact nmX)) | ((with_reducible apply s_condF); (· rfl); (· exact nmX)) | ((with_reducible apply s_condS); (· rfl); (· exact nmX); (· exact nmX)))) | ((with_reducible refine k_guard ?_); (first | (refine s_gt rfl ?_) | (refine s_gf1 rfl ?_) | (refine s_gfn rfl ?_) | (refine s_gx1 rfl ?_) | (refine s_gxn rfl ?_) | (refine s_gs rfl ?_))) | ((with_reducible refine k_mv ?_); (refine s_mv rfl ?_)) | ((with_reducible refine k_pick ?_); (first | (refine s_pickT rfl rfl ?_) | (refine s_pickF rfl rfl ?_))) | ((with_reducible refine k_not ?_); (refine s_not rfl (by first | exact Bool.not_true | exact Bool.not_false | rfl) ?_)) | ((with_reducible refine k_neq ?_); (first | (refine s_neq rfl rfl ?_) | (refine s_strNe rfl rfl ?_))) | ((with_reducible refine k_load ?_); (first | ((with_reducible apply s_loadV); (· rfl)) | ((with_reducible apply s_loadP); (· rfl); (· (exact hpX))))) | ((with_reducible refine k_loadA ?_); (first | ((with_reducible apply s_loadAV); (· rfl); (· (first | exact Nat.le_of_ble_eq_true rfl | decide | omega | (simp; done) | (simp; omega) | skip))) | ((with_reducible apply s_loadAP); (· rfl); (· (exact hpX)); (· (first | exact Nat.le_of_ble_eq_true rfl | decide | omega | (simp; done) | (simp; omega) | skip))))) | ((with_reducible refine k_faddr ?_); (first | ((with_reducible apply s_faddrV); (· rfl); (· rfl)) | ((with_reducible apply s_faddrP); (· rfl); (· rfl)))) | ((with_reducible refine k_box (dst := some 3) ?_); ((with_reducible apply s_box); (· rfl); (· rfl); intro k3 hk3; (try simp only [upd_none] at hk3))) | ((with_reducible refine k_nilck ?_); (first | ((with_reducible apply s_nilckV); (· rfl)) | ((with_reducible apply s_nilckP); (· rfl)) | ((with_reducible apply s_nilckF); (· rfl)))) | ((with_reducible refine k_callF ?_); (first | ((with_reducible apply s_call1); (· rfl)) | ((with_reducible apply s_calln); (· rfl)))) | ((with_reducible refine k_con ?_); (first | ((with_reducible apply con_valB (c1)); (· (exact agX))) | ((with_reducible apply con_valB (c2)); (· (exact agX))))) | ((with_reducible refine k_br ?_); (first | (with_reducible first | refine Br_dec ?_ | refine Br_not ?_ | refine Br_eqF ?_ | refine Br_and ?_ | refine Br_or ?_ | refine Br_neg ?_ | refine Br_band ?_ | refine Br_bor ?_ | refine Br_beq ?_) | (refine Br_t (by first | with_reducible rfl | omega | assumption | rfl) ?_) | (refine Br_f (by first | omega | assumption | decide) ?_) | (with_reducible apply Br_sb <;> intro hbr <;> (first | subst hbr | simp only [hbr] | skip)) | (with_reducible apply Br_s <;> intro hbr))) | ((first | (with_reducible apply q_eqL) | (with_reducible apply q_eqO)); (first | exact liL | exact liO)))
  all_goals (simp only [Bool.false_eq_true, reduceCtorEq, false_and, and_false, true_and, and_true, and_self, if_true, if_false])
  all_goals first
    | (rw [if_pos (by assumption)]; exact Fin_flat trivial rfl rfl)
    | (rw [if_neg (by assumption)]; exact Fin_flat trivial rfl rfl)
    | (rw [if_neg (by assumption), if_pos (by omega)]; exact Fin_flat trivial rfl rfl)
    | (rw [if_neg (by assumption), if_neg (by omega), if_pos (by assumption)]; exact Fin_flat trivial rfl rfl)
    | (rw [if_neg (by assumption), if_neg (by omega), if_neg (by assumption)]; exact Fin_flat trivial rfl rfl)
end Go.Proofs.Ytolnhkpckbgmgaa
end
section
/- min -/
/- Reclaim plans: asking. -/
set_option linter.unusedSimpArgs false
set_option linter.unusedVariables false
namespace Go.Proofs.Ytolnhkpckbgmgaa
open Go.AM Classical
set_option maxRecDepth 100000
set_option maxHeartbeats 4000000
noncomputable def askE (p : List Pg) (l : List Acct) (s : Int) : Int := if pchk p l = 0 then (if -1 ≤ s ∧ s < l.length then 0 else 2) else pchk p l
theorem askE_ok {p : List Pg} {l : List Acct} {s : Int} : askE p l s = 0 ↔ quP p l s := by
  unfold askE quP
  by_cases h : pchk p l = 0
  · rw [if_pos h]
    by_cases h2 : -1 ≤ s ∧ s < l.length
    · rw [if_pos h2]; exact ⟨fun _ => ⟨h, h2⟩, fun _ => rfl⟩
    · rw [if_neg h2]; exact ⟨fun h => by omega, fun h => absurd h.2 h2⟩
  · rw [if_neg h]; exact ⟨fun h1 => absurd h1 h, fun h1 => absurd h1.1 h⟩
def QIn (h : Heap) (k : Nat) (p : List Pg) (l : List Acct) (s : Int) (kn : Bool) (i : Nat) : Prop :=
  ∃ d1 d2 d3, h k = some [pgs p, .int .i64 s, .bool kn, d1, d2, d3] ∧ SlOwn h d1 1 ((bl (inB l s) i).map .bool) i ∧ SlOwn h d2 1 ((bl (gdB l (lvL l p) s false) i).map .bool) i ∧ SlOwn h d3 1 ((bl (gdB l (lvL l p) s true) i).map .bool) i ∧
    Fr d1 k ∧ Fr d2 k ∧ Fr d3 k ∧ Dis d1 d2 ∧ Dis d1 d3 ∧ Dis d2 d3
theorem QIn.rd {h : Heap} {k : Nat} {p : List Pg} {l : List Acct} {s : Int} {kn : Bool} (hq : QIn h k p l s kn l.length) : Rd h (.pt k 0) (qV p l s kn) := by
  obtain ⟨d1, d2, d3, hk, h1, h2, h3, _⟩ := hq
  refine Rd_ptR hk ?_ (by simp [qC])
  exact All2.cons Rd_vs (All2.cons Rd_int (All2.cons Rd_bool (All2.cons (Rd_so h1 scal_b) (All2.cons (Rd_so h2 scal_b) (All2.cons (Rd_so h3 scal_b) All2.nil)))))
theorem QIn.upd {h : Heap} {k j : Nat} {p : List Pg} {l : List Acct} {s : Int} {kn : Bool} {i : Nat} {c : List D} (hq : QIn h k p l s kn i) (hj : h j = none) : QIn (upd h j c) k p l s kn i := by
  obtain ⟨d1, d2, d3, hk, h1, h2, h3, r⟩ := hq
  exact ⟨d1, d2, d3, by rw [upd_ne (ne_key hj hk)]; exact hk, h1.upd hj, h2.upd hj, h3.upd hj, r⟩
theorem own_keep {h ha : Heap} {kb kq n : Nat} {c0 cq cells : List D} {d d0 : D} (ho : SlOwn h d 1 cells n) (hb : h kb = none) (hdis : Dis d0 d) (hoth : ∀ j c, upd h kb c0 j = some c → (∀ sz off n, d0 ≠ .sl j sz off n) → ha j = some c) (hf : Fr d kq) : SlOwn (upd ha kq cq) d 1 cells n :=
  ((ho.upd hb).oth hdis hoth).upd' hf
theorem key_keep {h ha : Heap} {kb kq k : Nat} {c0 cq c : List D} {d0 : D} (hk : h k = some c) (hb : h kb = none) (hoth : ∀ j c, upd h kb c0 j = some c → (∀ sz off n, d0 ≠ .sl j sz off n) → ha j = some c) (hf : Fr d0 k) (hne : k ≠ kq) : upd ha kq cq k = some c := by
  rw [upd_ne hne]
  exact hoth k c (by rw [upd_ne (ne_key hb hk)]; exact hk) hf
theorem own_new {f : Nat → Bool} {ha : Heap} {ka kq n : Nat} {cq : List D} (hk : ha ka = some ((bl f n).map .bool ++ [.bool (f n)])) (hne : ka ≠ kq) : SlOwn (upd ha kq cq) (.sl ka 1 0 (n + 1)) 1 ((bl f (n + 1)).map .bool) (n + 1) := by
  refine SlOwn.sl ?_ (by rw [List.length_map, bl_len, Nat.mul_one])
  rw [upd_ne hne, hk, bl_s, List.map_append]; rfl
theorem ask_c (p : List Pg) (l : List Acct) (hL : l.length ≤ 9223372036854775807) (hP : p.length ≤ 1000000) (s : Int) (kn : Bool) {Q : D → Heap → Prop}
    (h0 : askE p l s ≠ 0 → ∀ h', Q (.tup [.nilp, .int .i64 (askE p l s)]) h') (h1 : quP p l s → ∀ k h', QIn h' k p l s kn l.length → Q (.tup [.pt k 0, .int .i64 0]) h') :
    Con Try.prog 20 [pgs p, accs l, .int .i64 s, .bool kn] (fun _ => none) Q := by
  have c1 := pcheck_c p l hL hP
  refine con_of_W mixed Try.func20 A20k A20c (by simp [A20]) ?_
  simp only [A20, argEnv]
  by_cases h : pchk p l = 0
  · by_cases hs : -1 ≤ s ∧ s < l.length
    · have hqu : quP p l s := ⟨h, hs⟩
      have hQ := h1 hqu
      clear h0 h1
      rw [h] at c1
      obtain ⟨hch, hok⟩ := errA_ok h
      have hl := (chk_ok hch).1
      have hpl := pgs_len p
      repeat' (first | (with_reducible first | refine W_seq ?_ | refine then_n ?_ | refine W_block ?_ | refine blk_n ?_ | refine blk_r ?_ | refine blk_e ?_ | refine W_skip ?_ | refine W_ret ?_ | refine then_r ?_ | refine W_exit ?_ | refine then_e ?_) | ((with_reducible refine s_reg ?_); intro K hK) | ((with_reducible refine k_nil ?_); (with_reducible apply s_nil hK); (· exact nmX); clear hK; clear K) | ((with_reducible refine k_cond ?_); (first | ((with_reducible apply s_condT); (· rfl); (· exact nmX)) | ((with_reducible apply s_condF); (· rfl); (· exact nmX)) | ((with_reducible apply s_condS); (· rfl); (· exact nmX); (· exact nmX)))) | ((with_reducible refine k_guard ?_); (first | (refine s_gt rfl ?_) | (refine s_gf1 rfl ?_) | (refine s_gfn rfl ?_) | (refine s_gx1 rfl ?_) | (refine s_gxn rfl ?_) | (refine s_gs rfl ?_))) | ((with_reducible refine k_mv ?_); (refine s_mv rfl ?_)) | ((with_reducible refine k_len ?_); (first | (refine s_len rfl rfl ?_) | ((with_reducible apply s_len); (· rfl); (· exact SlOwn.len (by assumption))))) | ((with_reducible refine k_pick ?_); (first | (refine s_pickT rfl rfl ?_) | (refine s_pickF rfl rfl ?_))) | ((with_reducible refine k_neq ?_); (first | (refine s_neq rfl rfl ?_) | (refine s_strNe rfl rfl ?_))) | ((with_reducible refine k_lss ?_); (refine s_lss rfl rfl ?_)) | ((with_reducible refine k_geq ?_); (refine s_geq rfl rfl ?_)) | ((with_reducible refine k_mkslice (dst := some 32) ?_); ((with_reducible apply s_mkslice); (· rfl); (· rfl); (· (exact ⟨rfl, by decide, by omega, by omega, by (rw [room_i]; omega), by omega⟩)); (· ((first | exact nuI | exact nuN))); intro k32 hk32; (try simp only [upd_none] at hk32))) | ((with_reducible refine k_callF ?_); (first | ((with_reducible apply s_call1); (· rfl)) | ((with_reducible apply s_calln); (· rfl)))) | ((with_reducible refine k_con ?_); (first | ((with_reducible apply con_val (c1)); (· (exact agX)); (· rfl); (· exact fun _ => rfl)))) | ((with_reducible refine k_br ?_); (first | (with_reducible first | refine Br_dec ?_ | refine Br_not ?_ | refine Br_eqF ?_ | refine Br_and ?_ | refine Br_or ?_ | refine Br_neg ?_ | refine Br_band ?_ | refine Br_bor ?_ | refine Br_beq ?_) | (refine Br_t (by first | with_reducible rfl | omega | assumption | rfl) ?_) | (refine Br_f (by first | omega | assumption | decide) ?_) | (with_reducible apply Br_sb <;> intro hbr <;> (first | subst hbr | simp only [hbr] | skip)) | (with_reducible apply Br_s <;> intro hbr))))
      all_goals first | (exfalso; omega) | skip
      refine W_for p.length (fun i st => ∃ h', st = ⟨[(0, pgs p), (1, accs l), (2, .int .i64 s), (3, .bool kn), (11, .sl k32 1 0 l.length), (33, pgs p), (34, .int .i64 p.length), (35, .int .i64 i)], h'⟩ ∧ h' k32 = some ((lvT l.length p i).map (.int .i64))) ⟨_, rfl, by rw [upd_self, rep_zero (lvT_len _ _ _) (lvT_zero _ _)]⟩ ?_ ?_
      · rintro i e' h' hi ⟨h2, he, hk⟩
        cases he
        have ho := hok i hi
        have hrow := pgr hi
        have hy := lvT_yes (n := l.length) hi
        have hn := lvT_no (n := l.length) hi
        have hlen : ((lvT l.length p i).map (D.int .i64)).length = l.length := by rw [List.length_map, lvT_len]
        have hg : 0 ≤ p[i].account → ((lvT l.length p i).map (D.int .i64))[p[i].account.toNat]? = some (.int .i64 (cntA p p[i].account i)) := fun h0 => by
          rw [lvT_g (n := l.length) (by omega), Int.toNat_of_nonneg h0]
        have hs : p[i].leaving = true → 0 ≤ p[i].account → List.take p[i].account.toNat ((lvT l.length p i).map (D.int .i64)) ++ [D.int .i64 (cntA p p[i].account i + 1)] ++ List.drop (p[i].account.toNat + 1) ((lvT l.length p i).map (D.int .i64)) = (lvT l.length p (i + 1)).map (.int .i64) := fun h1 h2 => map_st (by rw [lvT_len]; omega) (hy h1 h2)
        have hb := cntA_in p p[i].account i
        clear hy hok
        generalize p[i] = q at *
        obtain ⟨fr, ac, ag, re, ow, nm, lv⟩ := q
        dsimp only at ho hrow hn hg hs hb
        cases lv
        · have hst := hn (by simp)
          rw [hst] at hk
          repeat' (first | (with_reducible first | refine W_seq ?_ | refine then_n ?_ | refine W_block ?_ | refine blk_n ?_ | refine blk_r ?_ | refine blk_e ?_ | refine W_skip ?_ | refine W_ret ?_ | refine then_r ?_ | refine W_exit ?_ | refine then_e ?_) | ((with_reducible refine s_reg ?_); intro K hK) | ((with_reducible refine k_nil ?_); (with_reducible apply s_nil hK); (· exact nmX); clear hK; clear K) | ((with_reducible refine k_cond ?_); (first | ((with_reducible apply s_condT); (· rfl); (· exact nmX)) | ((with_reducible apply s_condF); (· rfl); (· exact nmX)) | ((with_reducible apply s_condS); (· rfl); (· exact nmX); (· exact nmX)))) | ((with_reducible refine k_guard ?_); (first | (refine s_gt rfl ?_) | (refine s_gf1 rfl ?_) | (refine s_gfn rfl ?_) | (refine s_gx1 rfl ?_) | (refine s_gxn rfl ?_) | (refine s_gs rfl ?_))) | ((with_reducible refine k_mv ?_); (refine s_mv rfl ?_)) | ((with_reducible refine k_pick ?_); (first | (refine s_pickT rfl rfl ?_) | (refine s_pickF rfl rfl ?_))) | ((with_reducible refine k_lss ?_); (refine s_lss rfl rfl ?_)) | ((with_reducible refine k_iaddr ?_); (first | ((with_reducible apply s_iaddrV); (· rfl); (· rfl); (· (first | omega | exact ⟨rfl, by omega⟩ | skip))) | ((with_reducible apply s_iaddrO); (· rfl); (· rfl); (· (first | omega | exact ⟨rfl, by omega⟩ | skip)); (· (exact hpX))) | ((with_reducible apply s_iaddrSO); (· rfl); (· assumption); (· rfl); (· (first | omega | exact ⟨rfl, by omega⟩ | skip)); (· (first | (simp (disch := omega) only [w64, wu8, wu16, wu32, wu64, tm_nn, td_nn, fd_nn, Int.reduceAdd, Int.reduceSub, Int.reduceMul, Int.reduceDiv, Int.reduceMod, Int.reduceNeg, Int.reduceToNat, Int.toNat_natCast, Int.toNat_zero, Int.zero_add, Int.add_zero, Int.one_mul, Int.reducePow, Nat.mul_one, Nat.zero_add, Nat.add_zero, Nat.zero_mul, Nat.reduceAdd, Nat.reduceMul, Nat.reduceSub, Nat.min_eq_left, IntKind.bits, Nat.sub_zero, hrow]; try rfl; done) | rfl)); intro ks hks))) | ((with_reducible refine k_load ?_); (first | ((with_reducible apply s_loadV); (· rfl)) | ((with_reducible apply s_loadP); (· rfl); (· (exact hpX))))) | ((with_reducible refine k_loadA ?_); (first | ((with_reducible apply s_loadAV); (· rfl); (· (first | exact Nat.le_of_ble_eq_true rfl | decide | omega | (simp; done) | (simp; omega) | skip))) | ((with_reducible apply s_loadAP); (· rfl); (· (exact hpX)); (· (first | exact Nat.le_of_ble_eq_true rfl | decide | omega | (simp; done) | (simp; omega) | skip))))) | ((with_reducible refine k_add ?_); ((with_reducible apply s_add); (· rfl); (· rfl))) | ((with_reducible refine k_store ?_); ((with_reducible apply s_store0); (· rfl); (· rfl); (· rfl); (· (exact hpX)); (· (exact ⟨rfl, by first | exact Nat.le_of_ble_eq_true rfl | omega | (simp [hrow]; omega)⟩)); (· ((first | (simp (disch := omega) only [upd_self, upd_ne, upd_upd, rep, splice, List.take_succ_cons, List.take_zero, List.drop_succ_cons, List.drop_zero, List.cons_append, List.nil_append, List.append_nil, List.length_cons, List.length_nil, List.reduceReplicate, List.flatten_cons, List.flatten_nil, Nat.reduceAdd, Nat.reduceMul, Nat.reduceSub, Nat.zero_add, Nat.add_zero, List.getElem?_cons_zero, List.getElem?_cons_succ, hrow]; try rfl; done) | rfl))); (· (first | exact upd_upd | rfl)))) | ((with_reducible refine k_faddr ?_); (first | ((with_reducible apply s_faddrV); (· rfl); (· rfl)) | ((with_reducible apply s_faddrP); (· rfl); (· rfl)))) | ((with_reducible refine k_alloc (dst := some 13) ?_); ((with_reducible apply s_alloc); intro k13 hk13; (try simp only [upd_none] at hk13))) | ((with_reducible refine k_br ?_); (first | (with_reducible first | refine Br_dec ?_ | refine Br_not ?_ | refine Br_eqF ?_ | refine Br_and ?_ | refine Br_or ?_ | refine Br_neg ?_ | refine Br_band ?_ | refine Br_bor ?_ | refine Br_beq ?_) | (refine Br_t (by first | with_reducible rfl | omega | assumption | rfl) ?_) | (refine Br_f (by first | omega | assumption | decide) ?_) | (with_reducible apply Br_sb <;> intro hbr <;> (first | subst hbr | simp only [hbr] | skip)) | (with_reducible apply Br_s <;> intro hbr))) | ((first | (with_reducible apply q_eqI) | (with_reducible apply q_eqN)); (first | (simp (disch := omega) only [w64, wu8, wu16, wu32, wu64, tm_nn, td_nn, fd_nn, Int.reduceAdd, Int.reduceSub, Int.reduceMul, Int.reduceDiv, Int.reduceMod, Int.reduceNeg, Int.reduceToNat, Int.toNat_natCast, Int.toNat_zero, Int.zero_add, Int.add_zero, Int.one_mul, Int.reducePow, Nat.mul_one, Nat.zero_add, Nat.add_zero, Nat.zero_mul, Nat.reduceAdd, Nat.reduceMul, Nat.reduceSub, Nat.min_eq_left, IntKind.bits, Nat.sub_zero, hrow]; try rfl; done) | rfl)) | ((first | (with_reducible apply q_eqL) | (with_reducible apply q_eqO)); (first | (simp (disch := omega) only [upd_self, upd_ne, upd_upd, rep, splice, List.take_succ_cons, List.take_zero, List.drop_succ_cons, List.drop_zero, List.cons_append, List.nil_append, List.append_nil, List.length_cons, List.length_nil, List.reduceReplicate, List.flatten_cons, List.flatten_nil, Nat.reduceAdd, Nat.reduceMul, Nat.reduceSub, Nat.zero_add, Nat.add_zero, List.getElem?_cons_zero, List.getElem?_cons_succ, hrow]; try rfl; done) | rfl)))
          exact ⟨_, rfl, by rw [upd_ne (ne_key hk13 hk)]; exact hk⟩
        · by_cases h0 : 0 ≤ ac
          · have hg := hg h0
            have hs := hs rfl h0
            generalize cntA p ac i = T at *
            repeat' (first | (with_reducible first | refine W_seq ?_ | refine then_n ?_ | refine W_block ?_ | refine blk_n ?_ | refine blk_r ?_ | refine blk_e ?_ | refine W_skip ?_ | refine W_ret ?_ | refine then_r ?_ | refine W_exit ?_ | refine then_e ?_) | ((with_reducible refine s_reg ?_); intro K hK) | ((with_reducible refine k_nil ?_); (with_reducible apply s_nil hK); (· exact nmX); clear hK; clear K) | ((with_reducible refine k_cond ?_); (first | ((with_reducible apply s_condT); (· rfl); (· exact nmX)) | ((with_reducible apply s_condF); (· rfl); (· exact nmX)) | ((with_reducible apply s_condS); (· rfl); (· exact nmX); (· exact nmX)))) | ((with_reducible refine k_guard ?_); (first | (refine s_gt rfl ?_) | (refine s_gf1 rfl ?_) | (refine s_gfn rfl ?_) | (refine s_gx1 rfl ?_) | (refine s_gxn rfl ?_) | (refine s_gs rfl ?_))) | ((with_reducible refine k_mv ?_); (refine s_mv rfl ?_)) | ((with_reducible refine k_pick ?_); (first | (refine s_pickT rfl rfl ?_) | (refine s_pickF rfl rfl ?_))) | ((with_reducible refine k_lss ?_); (refine s_lss rfl rfl ?_)) | ((with_reducible refine k_geq ?_); (refine s_geq rfl rfl ?_)) | ((with_reducible refine k_iaddr ?_); (first | ((with_reducible apply s_iaddrV); (· rfl); (· rfl); (· (first | omega | exact ⟨rfl, by omega⟩ | skip))) | ((with_reducible apply s_iaddrO); (· rfl); (· rfl); (· (first | omega | exact ⟨rfl, by omega⟩ | skip)); (· (exact hpX))) | ((with_reducible apply s_iaddrSO); (· rfl); (· assumption); (· rfl); (· (first | omega | exact ⟨rfl, by omega⟩ | skip)); (· (first | (simp (disch := omega) only [w64, wu8, wu16, wu32, wu64, tm_nn, td_nn, fd_nn, Int.reduceAdd, Int.reduceSub, Int.reduceMul, Int.reduceDiv, Int.reduceMod, Int.reduceNeg, Int.reduceToNat, Int.toNat_natCast, Int.toNat_zero, Int.zero_add, Int.add_zero, Int.one_mul, Int.reducePow, Nat.mul_one, Nat.zero_add, Nat.add_zero, Nat.zero_mul, Nat.reduceAdd, Nat.reduceMul, Nat.reduceSub, Nat.min_eq_left, IntKind.bits, Nat.sub_zero, hrow, hg, hs]; try rfl; done) | rfl)); intro ks hks))) | ((with_reducible refine k_load ?_); (first | ((with_reducible apply s_loadV); (· rfl)) | ((with_reducible apply s_loadP); (· rfl); (· (exact hpX))))) | ((with_reducible refine k_loadA ?_); (first | ((with_reducible apply s_loadAV); (· rfl); (· (first | exact Nat.le_of_ble_eq_true rfl | decide | omega | (simp; done) | (simp; omega) | skip))) | ((with_reducible apply s_loadAP); (· rfl); (· (exact hpX)); (· (first | exact Nat.le_of_ble_eq_true rfl | decide | omega | (simp; done) | (simp; omega) | skip))))) | ((with_reducible refine k_add ?_); ((with_reducible apply s_add); (· rfl); (· rfl))) | ((with_reducible refine k_store ?_); ((with_reducible apply s_store0); (· rfl); (· rfl); (· rfl); (· (exact hpX)); (· (exact ⟨rfl, by first | exact Nat.le_of_ble_eq_true rfl | omega | (simp [hrow, hg, hs]; omega)⟩)); (· ((first | (simp (disch := omega) only [upd_self, upd_ne, upd_upd, rep, splice, List.take_succ_cons, List.take_zero, List.drop_succ_cons, List.drop_zero, List.cons_append, List.nil_append, List.append_nil, List.length_cons, List.length_nil, List.reduceReplicate, List.flatten_cons, List.flatten_nil, Nat.reduceAdd, Nat.reduceMul, Nat.reduceSub, Nat.zero_add, Nat.add_zero, List.getElem?_cons_zero, List.getElem?_cons_succ, hrow, hg, hs]; try rfl; done) | rfl))); (· (first | exact upd_upd | rfl)))) | ((with_reducible refine k_faddr ?_); (first | ((with_reducible apply s_faddrV); (· rfl); (· rfl)) | ((with_reducible apply s_faddrP); (· rfl); (· rfl)))) | ((with_reducible refine k_alloc (dst := some 13) ?_); ((with_reducible apply s_alloc); intro k13 hk13; (try simp only [upd_none] at hk13))) | ((with_reducible refine k_br ?_); (first | (with_reducible first | refine Br_dec ?_ | refine Br_not ?_ | refine Br_eqF ?_ | refine Br_and ?_ | refine Br_or ?_ | refine Br_neg ?_ | refine Br_band ?_ | refine Br_bor ?_ | refine Br_beq ?_) | (refine Br_t (by first | with_reducible rfl | omega | assumption | rfl) ?_) | (refine Br_f (by first | omega | assumption | decide) ?_) | (with_reducible apply Br_sb <;> intro hbr <;> (first | subst hbr | simp only [hbr] | skip)) | (with_reducible apply Br_s <;> intro hbr))) | ((first | (with_reducible apply q_eqI) | (with_reducible apply q_eqN)); (first | (simp (disch := omega) only [w64, wu8, wu16, wu32, wu64, tm_nn, td_nn, fd_nn, Int.reduceAdd, Int.reduceSub, Int.reduceMul, Int.reduceDiv, Int.reduceMod, Int.reduceNeg, Int.reduceToNat, Int.toNat_natCast, Int.toNat_zero, Int.zero_add, Int.add_zero, Int.one_mul, Int.reducePow, Nat.mul_one, Nat.zero_add, Nat.add_zero, Nat.zero_mul, Nat.reduceAdd, Nat.reduceMul, Nat.reduceSub, Nat.min_eq_left, IntKind.bits, Nat.sub_zero, hrow, hg, hs]; try rfl; done) | rfl)) | ((first | (with_reducible apply q_eqL) | (with_reducible apply q_eqO)); (first | (simp (disch := omega) only [upd_self, upd_ne, upd_upd, rep, splice, List.take_succ_cons, List.take_zero, List.drop_succ_cons, List.drop_zero, List.cons_append, List.nil_append, List.append_nil, List.length_cons, List.length_nil, List.reduceReplicate, List.flatten_cons, List.flatten_nil, Nat.reduceAdd, Nat.reduceMul, Nat.reduceSub, Nat.zero_add, Nat.add_zero, List.getElem?_cons_zero, List.getElem?_cons_succ, hrow, hg, hs]; try rfl; done) | rfl)))
            all_goals first | (exfalso; omega) | skip
            exact ⟨_, rfl, upd_self⟩
          · have hst := hn (by simpa using h0)
            rw [hst] at hk
            repeat' (first | (with_reducible first | refine W_seq ?_ | refine then_n ?_ | refine W_block ?_ | refine blk_n ?_ | refine blk_r ?_ | refine blk_e ?_ | refine W_skip ?_ | refine W_ret ?_ | refine then_r ?_ | refine W_exit ?_ | refine then_e ?_) | ((with_reducible refine s_reg ?_); intro K hK) | ((with_reducible refine k_nil ?_); (with_reducible apply s_nil hK); (· exact nmX); clear hK; clear K) | ((with_reducible refine k_cond ?_); (first | ((with_reducible apply s_condT); (· rfl); (· exact nmX)) | ((with_reducible apply s_condF); (· rfl); (· exact nmX)) | ((with_reducible apply s_condS); (· rfl); (· exact nmX); (· exact nmX)))) | ((with_reducible refine k_guard ?_); (first | (refine s_gt rfl ?_) | (refine s_gf1 rfl ?_) | (refine s_gfn rfl ?_) | (refine s_gx1 rfl ?_) | (refine s_gxn rfl ?_) | (refine s_gs rfl ?_))) | ((with_reducible refine k_mv ?_); (refine s_mv rfl ?_)) | ((with_reducible refine k_pick ?_); (first | (refine s_pickT rfl rfl ?_) | (refine s_pickF rfl rfl ?_))) | ((with_reducible refine k_lss ?_); (refine s_lss rfl rfl ?_)) | ((with_reducible refine k_geq ?_); (refine s_geq rfl rfl ?_)) | ((with_reducible refine k_iaddr ?_); (first | ((with_reducible apply s_iaddrV); (· rfl); (· rfl); (· (first | omega | exact ⟨rfl, by omega⟩ | skip))) | ((with_reducible apply s_iaddrO); (· rfl); (· rfl); (· (first | omega | exact ⟨rfl, by omega⟩ | skip)); (· (exact hpX))) | ((with_reducible apply s_iaddrSO); (· rfl); (· assumption); (· rfl); (· (first | omega | exact ⟨rfl, by omega⟩ | skip)); (· (first | (simp (disch := omega) only [w64, wu8, wu16, wu32, wu64, tm_nn, td_nn, fd_nn, Int.reduceAdd, Int.reduceSub, Int.reduceMul, Int.reduceDiv, Int.reduceMod, Int.reduceNeg, Int.reduceToNat, Int.toNat_natCast, Int.toNat_zero, Int.zero_add, Int.add_zero, Int.one_mul, Int.reducePow, Nat.mul_one, Nat.zero_add, Nat.add_zero, Nat.zero_mul, Nat.reduceAdd, Nat.reduceMul, Nat.reduceSub, Nat.min_eq_left, IntKind.bits, Nat.sub_zero, hrow]; try rfl; done) | rfl)); intro ks hks))) | ((with_reducible refine k_load ?_); (first | ((with_reducible apply s_loadV); (· rfl)) | ((with_reducible apply s_loadP); (· rfl); (· (exact hpX))))) | ((with_reducible refine k_loadA ?_); (first | ((with_reducible apply s_loadAV); (· rfl); (· (first | exact Nat.le_of_ble_eq_true rfl | decide | omega | (simp; done) | (simp; omega) | skip))) | ((with_reducible apply s_loadAP); (· rfl); (· (exact hpX)); (· (first | exact Nat.le_of_ble_eq_true rfl | decide | omega | (simp; done) | (simp; omega) | skip))))) | ((with_reducible refine k_add ?_); ((with_reducible apply s_add); (· rfl); (· rfl))) | ((with_reducible refine k_store ?_); ((with_reducible apply s_store0); (· rfl); (· rfl); (· rfl); (· (exact hpX)); (· (exact ⟨rfl, by first | exact Nat.le_of_ble_eq_true rfl | omega | (simp [hrow]; omega)⟩)); (· ((first | (simp (disch := omega) only [upd_self, upd_ne, upd_upd, rep, splice, List.take_succ_cons, List.take_zero, List.drop_succ_cons, List.drop_zero, List.cons_append, List.nil_append, List.append_nil, List.length_cons, List.length_nil, List.reduceReplicate, List.flatten_cons, List.flatten_nil, Nat.reduceAdd, Nat.reduceMul, Nat.reduceSub, Nat.zero_add, Nat.add_zero, List.getElem?_cons_zero, List.getElem?_cons_succ, hrow]; try rfl; done) | rfl))); (· (first | exact upd_upd | rfl)))) | ((with_reducible refine k_faddr ?_); (first | ((with_reducible apply s_faddrV); (· rfl); (· rfl)) | ((with_reducible apply s_faddrP); (· rfl); (· rfl)))) | ((with_reducible refine k_alloc (dst := some 13) ?_); ((with_reducible apply s_alloc); intro k13 hk13; (try simp only [upd_none] at hk13))) | ((with_reducible refine k_br ?_); (first | (with_reducible first | refine Br_dec ?_ | refine Br_not ?_ | refine Br_eqF ?_ | refine Br_and ?_ | refine Br_or ?_ | refine Br_neg ?_ | refine Br_band ?_ | refine Br_bor ?_ | refine Br_beq ?_) | (refine Br_t (by first | with_reducible rfl | omega | assumption | rfl) ?_) | (refine Br_f (by first | omega | assumption | decide) ?_) | (with_reducible apply Br_sb <;> intro hbr <;> (first | subst hbr | simp only [hbr] | skip)) | (with_reducible apply Br_s <;> intro hbr))) | ((first | (with_reducible apply q_eqI) | (with_reducible apply q_eqN)); (first | (simp (disch := omega) only [w64, wu8, wu16, wu32, wu64, tm_nn, td_nn, fd_nn, Int.reduceAdd, Int.reduceSub, Int.reduceMul, Int.reduceDiv, Int.reduceMod, Int.reduceNeg, Int.reduceToNat, Int.toNat_natCast, Int.toNat_zero, Int.zero_add, Int.add_zero, Int.one_mul, Int.reducePow, Nat.mul_one, Nat.zero_add, Nat.add_zero, Nat.zero_mul, Nat.reduceAdd, Nat.reduceMul, Nat.reduceSub, Nat.min_eq_left, IntKind.bits, Nat.sub_zero, hrow]; try rfl; done) | rfl)) | ((first | (with_reducible apply q_eqL) | (with_reducible apply q_eqO)); (first | (simp (disch := omega) only [upd_self, upd_ne, upd_upd, rep, splice, List.take_succ_cons, List.take_zero, List.drop_succ_cons, List.drop_zero, List.cons_append, List.nil_append, List.append_nil, List.length_cons, List.length_nil, List.reduceReplicate, List.flatten_cons, List.flatten_nil, Nat.reduceAdd, Nat.reduceMul, Nat.reduceSub, Nat.zero_add, Nat.add_zero, List.getElem?_cons_zero, List.getElem?_cons_succ, hrow]; try rfl; done) | rfl)))
            all_goals first | (exfalso; omega) | skip
            exact ⟨_, rfl, by rw [upd_ne (ne_key hk13 hk)]; exact hk⟩
      · rintro e' h' ⟨h2, he, hk⟩
        cases he
        have hlv : lvT l.length p p.length = lvL l p := rfl
        rw [hlv] at hk
        have hlen : ((lvL l p).map (D.int .i64)).length = l.length * 1 := by rw [List.length_map, lvL_len, Nat.mul_one]
        repeat' (first | (with_reducible first | refine W_seq ?_ | refine then_n ?_ | refine W_block ?_ | refine blk_n ?_ | refine blk_r ?_ | refine blk_e ?_ | refine W_skip ?_ | refine W_ret ?_ | refine then_r ?_ | refine W_exit ?_ | refine then_e ?_) | ((with_reducible refine s_reg ?_); intro K hK) | ((with_reducible refine k_nil ?_); (with_reducible apply s_nil hK); (· exact nmX); clear hK; clear K) | ((with_reducible refine k_cond ?_); (first | ((with_reducible apply s_condT); (· rfl); (· exact nmX)) | ((with_reducible apply s_condF); (· rfl); (· exact nmX)) | ((with_reducible apply s_condS); (· rfl); (· exact nmX); (· exact nmX)))) | ((with_reducible refine k_mv ?_); (refine s_mv rfl ?_)) | ((with_reducible refine k_len ?_); (first | (refine s_len rfl rfl ?_) | ((with_reducible apply s_len); (· rfl); (· exact SlOwn.len (by assumption))))) | ((with_reducible refine k_lss ?_); (refine s_lss rfl rfl ?_)) | ((with_reducible refine k_box (dst := some 58) ?_); ((with_reducible apply s_box); (· rfl); (· rfl); intro k58 hk58; (try simp only [upd_none] at hk58))) | ((with_reducible refine k_build ?_); ((with_reducible apply s_build); (· rfl); (· rfl))) | ((with_reducible refine k_br ?_); (first | (with_reducible first | refine Br_dec ?_ | refine Br_not ?_ | refine Br_eqF ?_ | refine Br_and ?_ | refine Br_or ?_ | refine Br_neg ?_ | refine Br_band ?_ | refine Br_bor ?_ | refine Br_beq ?_) | (refine Br_t (by first | with_reducible rfl | omega | assumption | rfl) ?_) | (refine Br_f (by first | omega | assumption | decide) ?_) | (with_reducible apply Br_sb <;> intro hbr <;> (first | subst hbr | simp only [hbr] | skip)) | (with_reducible apply Br_s <;> intro hbr))))
        refine W_for l.length (fun i st => ∃ h' d1 d2 d3, st = ⟨[(1, accs l), (2, .int .i64 s), (11, .sl k32 1 0 l.length), (14, .pt k58 0), (60, .int .i64 l.length), (61, .int .i64 i)], h'⟩ ∧ h' k32 = some ((lvL l p).map (.int .i64)) ∧
            h' k58 = some [pgs p, .int .i64 s, .bool kn, d1, d2, d3] ∧ SlOwn h' d1 1 ((bl (inB l s) i).map .bool) i ∧ SlOwn h' d2 1 ((bl (gdB l (lvL l p) s false) i).map .bool) i ∧ SlOwn h' d3 1 ((bl (gdB l (lvL l p) s true) i).map .bool) i ∧
            (Fr d1 k58 ∧ Fr d2 k58 ∧ Fr d3 k58) ∧ (Dis d1 d2 ∧ Dis d1 d3 ∧ Dis d2 d3) ∧ (Fr d1 k32 ∧ Fr d2 k32 ∧ Fr d3 k32)) ⟨_, .nil, .nil, .nil, rfl, by rw [upd_ne (ne_key hk58 hk)]; exact hk, by rw [upd_self]; rfl, SlOwn.nil, SlOwn.nil, SlOwn.nil, ⟨Fr.nil, Fr.nil, Fr.nil⟩, ⟨fun _ => .inl Fr.nil, fun _ => .inl Fr.nil, fun _ => .inl Fr.nil⟩, ⟨Fr.nil, Fr.nil, Fr.nil⟩⟩ ?_ ?_
        · have hne : k32 ≠ k58 := ne_key hk58 hk
          clear hk hk58
          rintro i e' h' hi ⟨h2, d1, d2, d3, he, hk, hq, s1, s2, s3, ⟨f1, f2, f3⟩, ⟨x12, x13, x23⟩, ⟨g1, g2, g3⟩⟩
          cases he
          have ci := inside_c l hL i s
          have cg := guarded_c l hL (lvL l p) i s false
          have cl := guarded_c l hL (lvL l p) i s true
          simp only [ints, lvL_len] at cg cl
          have hi64 : i < 8 := by omega
          repeat' (first | (with_reducible first | refine W_seq ?_ | refine then_n ?_ | refine W_block ?_ | refine blk_n ?_ | refine blk_r ?_ | refine blk_e ?_ | refine W_skip ?_ | refine W_ret ?_ | refine then_r ?_ | refine W_exit ?_ | refine then_e ?_) | ((with_reducible refine s_reg ?_); intro K hK) | ((with_reducible refine k_nil ?_); (with_reducible apply s_nil hK); (· exact nmX); clear hK; clear K) | ((with_reducible refine k_cond ?_); (first | ((with_reducible apply s_condT); (· rfl); (· exact nmX)) | ((with_reducible apply s_condF); (· rfl); (· exact nmX)) | ((with_reducible apply s_condS); (· rfl); (· exact nmX); (· exact nmX)))) | ((with_reducible refine k_mv ?_); (refine s_mv rfl ?_)) | ((with_reducible refine k_lss ?_); (refine s_lss rfl rfl ?_)) | ((with_reducible refine k_load ?_); (first | ((with_reducible apply s_loadV); (· rfl)) | ((with_reducible apply s_loadP); (· rfl); (· (exact hpX))))) | ((with_reducible refine k_faddr ?_); (first | ((with_reducible apply s_faddrV); (· rfl); (· rfl)) | ((with_reducible apply s_faddrP); (· rfl); (· rfl)))) | ((with_reducible refine k_buildS (dst := some 73) ?_); ((with_reducible apply s_buildS); (· rfl); (· (exact ⟨rfl, by decide⟩)); (· (first | (simp only [fillB, rep, splice, List.reduceReplicate, List.flatten_cons, List.flatten_nil, List.cons_append, List.nil_append, List.append_nil, List.length_cons, List.length_nil, Nat.reduceAdd, Nat.reduceMul, Nat.reduceLeDiff, Nat.reduceEqDiff, eq_self, Nat.le_refl, Nat.zero_add, and_self, and_true, true_and, if_true, List.take_zero, List.take_succ_cons, List.drop_zero, List.drop_succ_cons, List.drop_nil, List.take_nil]; rfl) | rfl)); intro k73 hk73; (try simp only [upd_none] at hk73))) | ((with_reducible refine k_nilck ?_); (first | ((with_reducible apply s_nilckV); (· rfl)) | ((with_reducible apply s_nilckP); (· rfl)) | ((with_reducible apply s_nilckF); (· rfl)))) | ((with_reducible refine k_append (dst := some 74) ?_); ((with_reducible apply s_app2); (· rfl); (· rfl); (· first | assumption | exact SlOwn.nil | exact SlOwn.emp | ((repeat' (first | assumption | (with_reducible apply SlOwn.upd) | (simp only [upd_none]; assumption))); done)); (· rfl); (· first | exact srcD_sl upd_self rfl | (exact srcD_vs (by first | assumption | simp)) | ((apply srcD_sl); (· (exact hpX)); (· rfl))); (· exact ⟨by first | rfl | assumption | simp, by decide, by decide⟩); (· first | (rw [room_n]; omega) | skip); intro ka74 ha74 hn74 hk74 hoth74)) | ((with_reducible refine k_dreg ?_); refine W_dregM (pre := A20d21a) (suf := A20d21b) rfl rfl rfl rfl ?_; intro K hK) | (with_reducible refine d_nilS ?_) | ((with_reducible refine k_dcall ?_); (first | ((with_reducible apply d_call); (· rfl); (· exact ci); (· (exact agX)); simp only [unow, unowC, List.map]))) | ((with_reducible refine k_dop ?_); refine d_step (by first | exact Or.inl rfl | exact Or.inr rfl) ?_) | (with_reducible refine d_back ?_) | ((with_reducible refine k_br ?_); (first | (with_reducible first | refine Br_dec ?_ | refine Br_not ?_ | refine Br_eqF ?_ | refine Br_and ?_ | refine Br_or ?_ | refine Br_neg ?_ | refine Br_band ?_ | refine Br_bor ?_ | refine Br_beq ?_) | (refine Br_t (by first | with_reducible rfl | omega | assumption | rfl) ?_) | (refine Br_f (by first | omega | assumption | decide) ?_) | (with_reducible apply Br_sb <;> intro hbr <;> (first | subst hbr | simp only [hbr] | skip)) | (with_reducible apply Br_s <;> intro hbr))) | ((first | (with_reducible apply q_eqL) | (with_reducible apply q_eqO)); (first | exact liL | exact liO)))
          have hq58 : upd h' k73 [D.bool (decide (insP l (i : Int) s))] k58 = some [pgs p, .int .i64 s, .bool kn, d1, d2, d3] := by rw [upd_ne (ne_key hk73 hq)]; exact hq
          have n74 : ka74 ≠ k58 := fun h => by rw [h, hq58] at hn74; cases hn74
          have n74b : ka74 ≠ k32 := fun h => by rw [h, upd_ne (ne_key hk73 hk), hk] at hn74; cases hn74
          have hq74 := hoth74 k58 _ hq58 f1
          have hk' := key_keep (cq := [pgs p, .int .i64 s, .bool kn, .sl ka74 1 0 (i + 1), d2, d3]) hk hk73 hoth74 g1 hne
          have s1' := own_new (f := inB l s) (cq := [pgs p, .int .i64 s, .bool kn, .sl ka74 1 0 (i + 1), d2, d3]) hk74 n74
          have s2' := own_keep (cq := [pgs p, .int .i64 s, .bool kn, .sl ka74 1 0 (i + 1), d2, d3]) s2 hk73 x12 hoth74 f2
          have s3' := own_keep (cq := [pgs p, .int .i64 s, .bool kn, .sl ka74 1 0 (i + 1), d2, d3]) s3 hk73 x13 hoth74 f3
          have x12' : Dis d2 (.sl ka74 1 0 (i + 1)) := (s2.upd hk73).dis hn74
          have x13' : Dis d3 (.sl ka74 1 0 (i + 1)) := (s3.upd hk73).dis hn74
          have hq' : upd ha74 k58 [pgs p, .int .i64 s, .bool kn, .sl ka74 1 0 (i + 1), d2, d3] k58 = some [pgs p, .int .i64 s, .bool kn, .sl ka74 1 0 (i + 1), d2, d3] := upd_self
          have fa : Fr (.sl ka74 1 0 (i + 1)) k58 := Fr.sl n74
          have ga : Fr (.sl ka74 1 0 (i + 1)) k32 := Fr.sl n74b
          clear hk s1 s2 s3 hq hq58 hk74 hk73 x12 x13 f1 g1 ci
          repeat' (first | (with_reducible first | refine W_seq ?_ | refine then_n ?_ | refine W_block ?_ | refine blk_n ?_ | refine blk_r ?_ | refine blk_e ?_ | refine W_skip ?_ | refine W_ret ?_ | refine then_r ?_ | refine W_exit ?_ | refine then_e ?_) | ((with_reducible refine k_nil ?_); (with_reducible apply s_nil hK); (· exact nmX); clear hK; clear K) | ((with_reducible refine k_mv ?_); (refine s_mv rfl ?_)) | ((with_reducible refine k_load ?_); (first | ((with_reducible apply s_loadV); (· rfl)) | ((with_reducible apply s_loadP); (· rfl); (· (exact hpX))))) | ((with_reducible refine k_store ?_); ((with_reducible apply s_store0); (· rfl); (· rfl); (· rfl); (· (exact hpX)); (· (exact ⟨rfl, by first | exact Nat.le_of_ble_eq_true rfl | omega | (simp; omega)⟩)); (· ((first | exact liL | exact liO))); (· (first | exact upd_upd | rfl)))) | ((with_reducible refine k_faddr ?_); (first | ((with_reducible apply s_faddrV); (· rfl); (· rfl)) | ((with_reducible apply s_faddrP); (· rfl); (· rfl)))) | ((with_reducible refine k_nilck ?_); (first | ((with_reducible apply s_nilckV); (· rfl)) | ((with_reducible apply s_nilckP); (· rfl)) | ((with_reducible apply s_nilckF); (· rfl)))) | ((with_reducible refine k_dreg ?_); refine W_dregM (pre := A20d22a) (suf := A20d22b) rfl rfl rfl rfl ?_; intro K hK) | ((with_reducible refine k_dop ?_); refine d_step (by first | exact Or.inl rfl | exact Or.inr rfl) ?_) | (with_reducible refine d_back ?_) | ((first | (with_reducible apply q_eqL) | (with_reducible apply q_eqO)); (first | exact liL | exact liO)))
          clear hoth74 hn74 hq74
          generalize upd ha74 k58 [pgs p, .int .i64 s, .bool kn, .sl ka74 1 0 (i + 1), d2, d3] = H1 at *
          clear n74 n74b
          generalize D.sl ka74 1 0 (i + 1) = e1 at *
          repeat' (first | ((with_reducible refine k_faddr ?_); (first | ((with_reducible apply s_faddrV); (· rfl); (· rfl)) | ((with_reducible apply s_faddrP); (· rfl); (· rfl)))) | ((with_reducible refine k_buildS (dst := some 87) ?_); ((with_reducible apply s_buildS); (· rfl); (· (exact ⟨rfl, by decide⟩)); (· (first | (simp only [fillB, rep, splice, List.reduceReplicate, List.flatten_cons, List.flatten_nil, List.cons_append, List.nil_append, List.append_nil, List.length_cons, List.length_nil, Nat.reduceAdd, Nat.reduceMul, Nat.reduceLeDiff, Nat.reduceEqDiff, eq_self, Nat.le_refl, Nat.zero_add, and_self, and_true, true_and, if_true, List.take_zero, List.take_succ_cons, List.drop_zero, List.drop_succ_cons, List.drop_nil, List.take_nil]; rfl) | rfl)); intro k87 hk87; (try simp only [upd_none] at hk87))) | ((with_reducible refine k_nilck ?_); (first | ((with_reducible apply s_nilckV); (· rfl)) | ((with_reducible apply s_nilckP); (· rfl)) | ((with_reducible apply s_nilckF); (· rfl)))) | ((with_reducible refine k_append (dst := some 88) ?_); ((with_reducible apply s_app2); (· rfl); (· rfl); (· first | assumption | exact SlOwn.nil | exact SlOwn.emp | ((repeat' (first | assumption | (with_reducible apply SlOwn.upd) | (simp only [upd_none]; assumption))); done)); (· rfl); (· first | exact srcD_sl upd_self rfl | (exact srcD_vs (by first | assumption | simp)) | ((apply srcD_sl); (· (exact hpX)); (· rfl))); (· exact ⟨by first | rfl | assumption | simp, by decide, by decide⟩); (· first | (rw [room_n]; omega) | skip); intro ka88 ha88 hn88 hk88 hoth88)) | (with_reducible refine d_nilS ?_) | ((with_reducible refine k_dcall ?_); (first | ((with_reducible apply d_call); (· rfl); (· exact cg); (· (exact agX)); simp only [unow, unowC, List.map]))))
          have hq58 : upd H1 k87 [D.bool (decide (grdP l (lvL l p) (i : Int) s false))] k58 = some [pgs p, .int .i64 s, .bool kn, e1, d2, d3] := by rw [upd_ne (ne_key hk87 hq')]; exact hq'
          have n88 : ka88 ≠ k58 := fun h => by rw [h, hq58] at hn88; cases hn88
          have n88b : ka88 ≠ k32 := fun h => by rw [h, upd_ne (ne_key hk87 hk'), hk'] at hn88; cases hn88
          have hq88 := hoth88 k58 _ hq58 f2
          have hk2 := key_keep (cq := [pgs p, .int .i64 s, .bool kn, e1, .sl ka88 1 0 (i + 1), d3]) hk' hk87 hoth88 g2 hne
          have t1 := own_keep (cq := [pgs p, .int .i64 s, .bool kn, e1, .sl ka88 1 0 (i + 1), d3]) s1' hk87 x12' hoth88 fa
          have t2 := own_new (f := gdB l (lvL l p) s false) (cq := [pgs p, .int .i64 s, .bool kn, e1, .sl ka88 1 0 (i + 1), d3]) hk88 n88
          have t3 := own_keep (cq := [pgs p, .int .i64 s, .bool kn, e1, .sl ka88 1 0 (i + 1), d3]) s3' hk87 x23 hoth88 f3
          have y12 : Dis e1 (.sl ka88 1 0 (i + 1)) := (s1'.upd hk87).dis hn88
          have y23 : Dis d3 (.sl ka88 1 0 (i + 1)) := (s3'.upd hk87).dis hn88
          have hq2 : upd ha88 k58 [pgs p, .int .i64 s, .bool kn, e1, .sl ka88 1 0 (i + 1), d3] k58 = some [pgs p, .int .i64 s, .bool kn, e1, .sl ka88 1 0 (i + 1), d3] := upd_self
          have fb : Fr (.sl ka88 1 0 (i + 1)) k58 := Fr.sl n88
          have gb : Fr (.sl ka88 1 0 (i + 1)) k32 := Fr.sl n88b
          clear hk' s1' s2' s3' hq' hq58 hk88 hk87 x12' x23 f2 g2 cg
          repeat' (first | (with_reducible first | refine W_seq ?_ | refine then_n ?_ | refine W_block ?_ | refine blk_n ?_ | refine blk_r ?_ | refine blk_e ?_ | refine W_skip ?_ | refine W_ret ?_ | refine then_r ?_ | refine W_exit ?_ | refine then_e ?_) | ((with_reducible refine k_nil ?_); (with_reducible apply s_nil hK); (· exact nmX); clear hK; clear K) | ((with_reducible refine k_mv ?_); (refine s_mv rfl ?_)) | ((with_reducible refine k_load ?_); (first | ((with_reducible apply s_loadV); (· rfl)) | ((with_reducible apply s_loadP); (· rfl); (· (exact hpX))))) | ((with_reducible refine k_store ?_); ((with_reducible apply s_store0); (· rfl); (· rfl); (· rfl); (· (exact hpX)); (· (exact ⟨rfl, by first | exact Nat.le_of_ble_eq_true rfl | omega | (simp; omega)⟩)); (· ((first | exact liL | exact liO))); (· (first | exact upd_upd | rfl)))) | ((with_reducible refine k_faddr ?_); (first | ((with_reducible apply s_faddrV); (· rfl); (· rfl)) | ((with_reducible apply s_faddrP); (· rfl); (· rfl)))) | ((with_reducible refine k_nilck ?_); (first | ((with_reducible apply s_nilckV); (· rfl)) | ((with_reducible apply s_nilckP); (· rfl)) | ((with_reducible apply s_nilckF); (· rfl)))) | ((with_reducible refine k_dreg ?_); refine W_dregM (pre := A20d23a) (suf := A20d23b) rfl rfl rfl rfl ?_; intro K hK) | ((with_reducible refine k_dop ?_); refine d_step (by first | exact Or.inl rfl | exact Or.inr rfl) ?_) | (with_reducible refine d_back ?_) | ((first | (with_reducible apply q_eqL) | (with_reducible apply q_eqO)); (first | exact liL | exact liO)))
          clear hoth88 hn88 hq88
          generalize upd ha88 k58 [pgs p, .int .i64 s, .bool kn, e1, .sl ka88 1 0 (i + 1), d3] = H2 at *
          clear n88 n88b
          generalize D.sl ka88 1 0 (i + 1) = e2 at *
          repeat' (first | ((with_reducible refine k_faddr ?_); (first | ((with_reducible apply s_faddrV); (· rfl); (· rfl)) | ((with_reducible apply s_faddrP); (· rfl); (· rfl)))) | ((with_reducible refine k_buildS (dst := some 101) ?_); ((with_reducible apply s_buildS); (· rfl); (· (exact ⟨rfl, by decide⟩)); (· (first | (simp only [fillB, rep, splice, List.reduceReplicate, List.flatten_cons, List.flatten_nil, List.cons_append, List.nil_append, List.append_nil, List.length_cons, List.length_nil, Nat.reduceAdd, Nat.reduceMul, Nat.reduceLeDiff, Nat.reduceEqDiff, eq_self, Nat.le_refl, Nat.zero_add, and_self, and_true, true_and, if_true, List.take_zero, List.take_succ_cons, List.drop_zero, List.drop_succ_cons, List.drop_nil, List.take_nil]; rfl) | rfl)); intro k101 hk101; (try simp only [upd_none] at hk101))) | ((with_reducible refine k_nilck ?_); (first | ((with_reducible apply s_nilckV); (· rfl)) | ((with_reducible apply s_nilckP); (· rfl)) | ((with_reducible apply s_nilckF); (· rfl)))) | ((with_reducible refine k_append (dst := some 102) ?_); ((with_reducible apply s_app2); (· rfl); (· rfl); (· first | assumption | exact SlOwn.nil | exact SlOwn.emp | ((repeat' (first | assumption | (with_reducible apply SlOwn.upd) | (simp only [upd_none]; assumption))); done)); (· rfl); (· first | exact srcD_sl upd_self rfl | (exact srcD_vs (by first | assumption | simp)) | ((apply srcD_sl); (· (exact hpX)); (· rfl))); (· exact ⟨by first | rfl | assumption | simp, by decide, by decide⟩); (· first | (rw [room_n]; omega) | skip); intro ka102 ha102 hn102 hk102 hoth102)) | (with_reducible refine d_nilS ?_) | ((with_reducible refine k_dcall ?_); (first | ((with_reducible apply d_call); (· rfl); (· exact cl); (· (exact agX)); simp only [unow, unowC, List.map]))))
          have hq58 : upd H2 k101 [D.bool (decide (grdP l (lvL l p) (i : Int) s true))] k58 = some [pgs p, .int .i64 s, .bool kn, e1, e2, d3] := by rw [upd_ne (ne_key hk101 hq2)]; exact hq2
          have n102 : ka102 ≠ k58 := fun h => by rw [h, hq58] at hn102; cases hn102
          have n102b : ka102 ≠ k32 := fun h => by rw [h, upd_ne (ne_key hk101 hk2), hk2] at hn102; cases hn102
          have hq102 := hoth102 k58 _ hq58 f3
          have hk3 := key_keep (cq := [pgs p, .int .i64 s, .bool kn, e1, e2, .sl ka102 1 0 (i + 1)]) hk2 hk101 hoth102 g3 hne
          have u1 := own_keep (cq := [pgs p, .int .i64 s, .bool kn, e1, e2, .sl ka102 1 0 (i + 1)]) t1 hk101 x13' hoth102 fa
          have u2 := own_keep (cq := [pgs p, .int .i64 s, .bool kn, e1, e2, .sl ka102 1 0 (i + 1)]) t2 hk101 y23 hoth102 fb
          have u3 := own_new (f := gdB l (lvL l p) s true) (cq := [pgs p, .int .i64 s, .bool kn, e1, e2, .sl ka102 1 0 (i + 1)]) hk102 n102
          have z13 : Dis e1 (.sl ka102 1 0 (i + 1)) := (t1.upd hk101).dis hn102
          have z23 : Dis e2 (.sl ka102 1 0 (i + 1)) := (t2.upd hk101).dis hn102
          have hq3 : upd ha102 k58 [pgs p, .int .i64 s, .bool kn, e1, e2, .sl ka102 1 0 (i + 1)] k58 = some [pgs p, .int .i64 s, .bool kn, e1, e2, .sl ka102 1 0 (i + 1)] := upd_self
          clear hk2 t1 t2 t3 hq2 hq58 hk102 hk101
          repeat' (first | (with_reducible first | refine W_seq ?_ | refine then_n ?_ | refine W_block ?_ | refine blk_n ?_ | refine blk_r ?_ | refine blk_e ?_ | refine W_skip ?_ | refine W_ret ?_ | refine then_r ?_ | refine W_exit ?_ | refine then_e ?_) | ((with_reducible refine s_reg ?_); intro K hK) | ((with_reducible refine k_nil ?_); (with_reducible apply s_nil hK); (· exact nmX); clear hK; clear K) | ((with_reducible refine k_mv ?_); (refine s_mv rfl ?_)) | ((with_reducible refine k_add ?_); ((with_reducible apply s_add); (· rfl); (· rfl))) | ((with_reducible refine k_store ?_); ((with_reducible apply s_store0); (· rfl); (· rfl); (· rfl); (· (exact hpX)); (· (exact ⟨rfl, by first | exact Nat.le_of_ble_eq_true rfl | omega | (simp; omega)⟩)); (· ((first | exact liL | exact liO))); (· (first | exact upd_upd | rfl)))) | ((first | (with_reducible apply q_eqI) | (with_reducible apply q_eqN)); (first | exact nuI | exact nuN)))
          exact ⟨_, e1, e2, .sl ka102 1 0 (i + 1), rfl, hk3, hq3, u1, u2, u3, ⟨fa, fb, Fr.sl n102⟩, ⟨y12, z13, z23⟩, ⟨ga, gb, Fr.sl n102b⟩⟩
        · rintro e' h' ⟨h2, d1, d2, d3, he, hk, hq, s1, s2, s3, ⟨f1, f2, f3⟩, ⟨x12, x13, x23⟩, ⟨g1, g2, g3⟩⟩
          cases he
          repeat' (first | (with_reducible first | refine W_seq ?_ | refine then_n ?_ | refine W_block ?_ | refine blk_n ?_ | refine blk_r ?_ | refine blk_e ?_ | refine W_skip ?_ | refine W_ret ?_ | refine then_r ?_ | refine W_exit ?_ | refine then_e ?_) | ((with_reducible refine s_reg ?_); intro K hK) | ((with_reducible refine k_nil ?_); (with_reducible apply s_nil hK); (· exact nmX); clear hK; clear K) | ((with_reducible refine k_cond ?_); (first | ((with_reducible apply s_condT); (· rfl); (· exact nmX)) | ((with_reducible apply s_condF); (· rfl); (· exact nmX)) | ((with_reducible apply s_condS); (· rfl); (· exact nmX); (· exact nmX)))) | ((with_reducible refine k_mv ?_); (refine s_mv rfl ?_)) | ((with_reducible refine k_lss ?_); (refine s_lss rfl rfl ?_)) | ((with_reducible refine k_br ?_); (first | (with_reducible first | refine Br_dec ?_ | refine Br_not ?_ | refine Br_eqF ?_ | refine Br_and ?_ | refine Br_or ?_ | refine Br_neg ?_ | refine Br_band ?_ | refine Br_bor ?_ | refine Br_beq ?_) | (refine Br_t (by first | with_reducible rfl | omega | assumption | rfl) ?_) | (refine Br_f (by first | omega | assumption | decide) ?_) | (with_reducible apply Br_sb <;> intro hbr <;> (first | subst hbr | simp only [hbr] | skip)) | (with_reducible apply Br_s <;> intro hbr))))
          exact ⟨trivial, _, rfl, hQ _ _ ⟨d1, d2, d3, hq, s1, s2, s3, f1, f2, f3, x12, x13, x23⟩⟩
    · have hE : askE p l s = 2 := by unfold askE; rw [if_pos h, if_neg hs]
      have h0 := h0 (by omega)
      rw [hE] at h0
      rw [h] at c1
      repeat' (first | (with_reducible first | refine W_seq ?_ | refine then_n ?_ | refine W_block ?_ | refine blk_n ?_ | refine blk_r ?_ | refine blk_e ?_ | refine W_skip ?_ | refine W_ret ?_ | refine then_r ?_ | refine W_exit ?_ | refine then_e ?_) | ((with_reducible refine s_reg ?_); intro K hK) | ((with_reducible refine k_nil ?_); (with_reducible apply s_nil hK); (· exact nmX); clear hK; clear K) | ((with_reducible refine k_cond ?_); (first | ((with_reducible apply s_condT); (· rfl); (· exact nmX)) | ((with_reducible apply s_condF); (· rfl); (· exact nmX)) | ((with_reducible apply s_condS); (· rfl); (· exact nmX); (· exact nmX)))) | ((with_reducible refine k_guard ?_); (first | (refine s_gt rfl ?_) | (refine s_gf1 rfl ?_) | (refine s_gfn rfl ?_) | (refine s_gx1 rfl ?_) | (refine s_gxn rfl ?_) | (refine s_gs rfl ?_))) | ((with_reducible refine k_mv ?_); (refine s_mv rfl ?_)) | ((with_reducible refine k_len ?_); (first | (refine s_len rfl rfl ?_) | ((with_reducible apply s_len); (· rfl); (· exact SlOwn.len (by assumption))))) | ((with_reducible refine k_pick ?_); (first | (refine s_pickT rfl rfl ?_) | (refine s_pickF rfl rfl ?_))) | ((with_reducible refine k_neq ?_); (first | (refine s_neq rfl rfl ?_) | (refine s_strNe rfl rfl ?_))) | ((with_reducible refine k_lss ?_); (refine s_lss rfl rfl ?_)) | ((with_reducible refine k_geq ?_); (refine s_geq rfl rfl ?_)) | ((with_reducible refine k_callF ?_); (first | ((with_reducible apply s_call1); (· rfl)) | ((with_reducible apply s_calln); (· rfl)))) | ((with_reducible refine k_con ?_); (first | ((with_reducible apply con_val (c1)); (· (exact agX)); (· rfl); (· exact fun _ => rfl)))) | ((with_reducible refine k_br ?_); (first | (with_reducible first | refine Br_dec ?_ | refine Br_not ?_ | refine Br_eqF ?_ | refine Br_and ?_ | refine Br_or ?_ | refine Br_neg ?_ | refine Br_band ?_ | refine Br_bor ?_ | refine Br_beq ?_) | (refine Br_t (by first | with_reducible rfl | omega | assumption | rfl) ?_) | (refine Br_f (by first | omega | assumption | decide) ?_) | (with_reducible apply Br_sb <;> intro hbr <;> (first | subst hbr | simp only [hbr] | skip)) | (with_reducible apply Br_s <;> intro hbr))))
      all_goals first | (exfalso; omega) | exact ⟨trivial, _, rfl, h0 _⟩
  · have hE : askE p l s = pchk p l := by unfold askE; rw [if_neg h]
    have h0 := h0 (by omega)
    rw [hE] at h0
    clear h1
    generalize pchk p l = e at *
    repeat' (first | (with_reducible first | refine W_seq ?_ | refine then_n ?_ | refine W_block ?_ | refine blk_n ?_ | refine blk_r ?_ | refine blk_e ?_ | refine W_skip ?_ | refine W_ret ?_ | refine then_r ?_ | refine W_exit ?_ | refine then_e ?_) | ((with_reducible refine s_reg ?_); intro K hK) | ((with_reducible refine k_nil ?_); (with_reducible apply s_nil hK); (· exact nmX); clear hK; clear K) | ((with_reducible refine k_cond ?_); (first | ((with_reducible apply s_condT); (· rfl); (· exact nmX)) | ((with_reducible apply s_condF); (· rfl); (· exact nmX)) | ((with_reducible apply s_condS); (· rfl); (· exact nmX); (· exact nmX)))) | ((with_reducible refine k_mv ?_); (refine s_mv rfl ?_)) | ((with_reducible refine k_neq ?_); (first | (refine s_neq rfl rfl ?_) | (refine s_strNe rfl rfl ?_))) | ((with_reducible refine k_callF ?_); (first | ((with_reducible apply s_call1); (· rfl)) | ((with_reducible apply s_calln); (· rfl)))) | ((with_reducible refine k_con ?_); (first | ((with_reducible apply con_val (c1)); (· (exact agX)); (· rfl); (· exact fun _ => rfl)))) | ((with_reducible refine k_br ?_); (first | (with_reducible first | refine Br_dec ?_ | refine Br_not ?_ | refine Br_eqF ?_ | refine Br_and ?_ | refine Br_or ?_ | refine Br_neg ?_ | refine Br_band ?_ | refine Br_bor ?_ | refine Br_beq ?_) | (refine Br_t (by first | with_reducible rfl | omega | assumption | rfl) ?_) | (refine Br_f (by first | omega | assumption | decide) ?_) | (with_reducible apply Br_sb <;> intro hbr <;> (first | subst hbr | simp only [hbr] | skip)) | (with_reducible apply Br_s <;> intro hbr))))
    all_goals first | (exfalso; omega) | exact ⟨trivial, _, rfl, h0 _⟩
end Go.Proofs.Ytolnhkpckbgmgaa
end
section
/- Reclaim plans: the program's answers. -/
set_option linter.unusedSimpArgs false
set_option linter.unusedVariables false
namespace Go.Proofs.Ytolnhkpckbgmgaa
open Go.AM Classical
set_option maxRecDepth 100000
set_option maxHeartbeats 4000000
theorem ask_no {p : List Pg} {l : List Acct} (hL : l.length ≤ 9223372036854775807) (hP : p.length ≤ 1000000) {s : Int} {kn : Bool} {Q : D → Heap → Prop} (hn : ¬ quP p l s) (h0 : ∀ h', Q (.tup [.nilp, .int .i64 (askE p l s)]) h') :
    Con Try.prog 20 [pgs p, accs l, .int .i64 s, .bool kn] (fun _ => none) Q := ask_c p l hL hP s kn (fun _ => h0) (fun h => absurd h hn)
theorem ask_yes {p : List Pg} {l : List Acct} (hL : l.length ≤ 9223372036854775807) (hP : p.length ≤ 1000000) {s : Int} {kn : Bool} {Q : D → Heap → Prop} (hq : quP p l s) (h1 : ∀ k h', QIn h' k p l s kn l.length → Q (.tup [.pt k 0, .int .i64 0]) h') :
    Con Try.prog 20 [pgs p, accs l, .int .i64 s, .bool kn] (fun _ => none) Q := ask_c p l hL hP s kn (fun h => absurd (askE_ok.2 hq) h) (fun _ => h1)
theorem qu_in {p : List Pg} {l : List Acct} {s : Int} (h : quP p l s) {i : Nat} (hi : i < p.length) : inQ l p[i] := ((errA_ok h.1).2 i hi).2.1.2
theorem qu_no {p : List Pg} {l : List Acct} {s : Int} (h : ¬ quP p l s) : askE p l s ≠ 0 := fun h2 => h (askE_ok.1 h2)
def cG (f : Pg → Int) (p : List Pg) : Nat → Int
  | 0 => 0
  | m + 1 => cG f p m + (if h : m < p.length then f p[m] else 0)
theorem QIn.two {h : Heap} {k j : Nat} {p : List Pg} {l : List Acct} {s : Int} {kn : Bool} {c : List D} (hq : QIn h k p l s kn l.length) (hj : h j = none) : Rd (AM.upd h j c) (.pt k 0) (qV p l s kn) := QIn.rd (hq.upd hj)
end Go.Proofs.Ytolnhkpckbgmgaa
end
section
/- min -/
/- Reclaim plans: the program's answers, second part. -/
set_option linter.unusedSimpArgs false
set_option linter.unusedVariables false
namespace Go.Proofs.Ytolnhkpckbgmgaa
open Go.AM Classical
set_option maxRecDepth 100000
set_option maxHeartbeats 4000000
def agA (p : List Pg) (k : Int) : Int := if h : k.toNat < p.length then p[k.toNat].age else 0
noncomputable def nxS (l : List Acct) (v : List Int) (s : Int) (kn : Bool) (p : List Pg) : Nat → Int × Int
  | 0 => (-1, -1)
  | i + 1 => if h : i < p.length then
      (if rsn l v s kn p[i] = 0 then
        (if ¬ gdP l v s true p[i] ∧ ((nxS l v s kn p i).1 < 0 ∨ p[i].age < agA p (nxS l v s kn p i).1) then (i : Int) else (nxS l v s kn p i).1,
         if (nxS l v s kn p i).2 < 0 ∨ p[i].age < agA p (nxS l v s kn p i).2 then (i : Int) else (nxS l v s kn p i).2)
       else nxS l v s kn p i) else nxS l v s kn p i
theorem nxS_in (l : List Acct) (v : List Int) (s : Int) (kn : Bool) (p : List Pg) : ∀ i, (-1 ≤ (nxS l v s kn p i).1 ∧ (nxS l v s kn p i).1 < i) ∧ (-1 ≤ (nxS l v s kn p i).2 ∧ (nxS l v s kn p i).2 < i) ∧ (0 ≤ (nxS l v s kn p i).1 → 0 ≤ (nxS l v s kn p i).2)
  | 0 => by simp [nxS]
  | i + 1 => by
    have ih := nxS_in l v s kn p i
    unfold nxS
    generalize nxS l v s kn p i = b at *
    obtain ⟨b, c⟩ := b
    dsimp only at ih ⊢
    split
    · split
      · refine ⟨?_, ?_, ?_⟩
        · dsimp only; split <;> omega
        · dsimp only; split <;> omega
        · dsimp only
          split <;> split <;> omega
      · dsimp only; omega
    · dsimp only; omega
noncomputable def nxtV (b : Int × Int) : Int := if 0 ≤ b.1 then b.1 else b.2
noncomputable def nxtF (p : List Pg) (l : List Acct) (s : Int) (kn : Bool) : Int := if quP p l s then nxtV (nxS l (lvL l p) s kn p p.length) else -1
theorem agA_at {p : List Pg} {k : Int} (h : k.toNat < p.length) : (p.flatMap Pg.cells)[k.toNat * 7 + 2]? = some (.int .i64 (agA p k)) := by rw [pg2 h, agA, dif_pos h]
theorem Next_c (p : List Pg) (l : List Acct) (hL : l.length ≤ 9223372036854775807) (hP : p.length ≤ 1000000) (s : Int) (kn : Bool) : PCon Try.prog 9 [pgs p, accs l, .int .i64 s, .bool kn] (.int .i64 (nxtF p l s kn)) := by
  refine A9p (by simp [A9]) ?_
  simp only [A9, argEnv]
  have hpl := pgs_len p
  unfold nxtF
  by_cases hq : quP p l s
  · rw [if_pos hq]
    have hl := (chk_ok (errA_ok hq.1).1).1
    repeat' (first | (with_reducible first | refine W_seq ?_ | refine then_n ?_ | refine W_block ?_ | refine blk_n ?_ | refine blk_r ?_ | refine blk_e ?_ | refine W_skip ?_ | refine W_ret ?_ | refine then_r ?_ | refine W_exit ?_ | refine then_e ?_) | ((with_reducible refine s_reg ?_); intro K hK) | ((with_reducible refine k_nil ?_); (with_reducible apply s_nil hK); (· exact nmX); clear hK; clear K) | ((with_reducible refine k_cond ?_); (first | ((with_reducible apply s_condT); (· rfl); (· exact nmX)) | ((with_reducible apply s_condF); (· rfl); (· exact nmX)) | ((with_reducible apply s_condS); (· rfl); (· exact nmX); (· exact nmX)))) | ((with_reducible refine k_mv ?_); (refine s_mv rfl ?_)) | ((with_reducible refine k_extract ?_); (refine s_extract rfl rfl ?_)) | ((with_reducible refine k_len ?_); (first | (refine s_len rfl rfl ?_) | ((with_reducible apply s_len); (· rfl); (· exact SlOwn.len (by assumption))))) | ((with_reducible refine k_neq ?_); (first | (refine s_neq rfl rfl ?_) | (refine s_strNe rfl rfl ?_))) | ((with_reducible refine k_callF ?_); (first | ((with_reducible apply s_call1); (· rfl)) | ((with_reducible apply s_calln); (· rfl)))) | ((with_reducible refine k_con ?_); (first | (refine ask_yes hL hP hq ?_; intro kq hQ hqi; (try dsimp only)))) | ((with_reducible refine k_br ?_); (first | (with_reducible first | refine Br_dec ?_ | refine Br_not ?_ | refine Br_eqF ?_ | refine Br_and ?_ | refine Br_or ?_ | refine Br_neg ?_ | refine Br_band ?_ | refine Br_bor ?_ | refine Br_beq ?_) | (refine Br_t (by first | with_reducible rfl | omega | assumption | rfl) ?_) | (refine Br_f (by first | omega | assumption | decide) ?_) | (with_reducible apply Br_sb <;> intro hbr <;> (first | subst hbr | simp only [hbr] | skip)) | (with_reducible apply Br_s <;> intro hbr))))
    refine W_for p.length (fun i st => ∃ h' b c, (b, c) = nxS l (lvL l p) s kn p i ∧ st = ⟨[(0, pgs p), (9, .pt kq 0), (11, .int .i64 (nxtV (b, c))), (12, .bool (decide (0 ≤ b))), (26, pgs p), (27, .int .i64 p.length), (28, .int .i64 i)], h'⟩ ∧ QIn h' kq p l s kn l.length) ⟨_, -1, -1, rfl, rfl, hqi⟩ ?_ ?_
    · clear hqi
      rintro i e' h' hi ⟨h1, b, c, hbc, he, hqi⟩
      cases he
      have hrow := pgr hi
      have hin := qu_in hq hi
      have c1 := qreason_c p[i] p l s kn hin
      have hni := nxS_in l (lvL l p) s kn p i
      have hga := agA_at (p := p) (k := b)
      have hgc := agA_at (p := p) (k := c)
      have hst : nxS l (lvL l p) s kn p (i + 1) = (if rsn l (lvL l p) s kn p[i] = 0 then
        (if ¬ gdP l (lvL l p) s true p[i] ∧ (b < 0 ∨ p[i].age < agA p b) then (i : Int) else b, if c < 0 ∨ p[i].age < agA p c then (i : Int) else c) else (b, c)) := by
        rw [nxS, dif_pos hi, ← hbc]
      rw [← hbc] at hni
      dsimp only at hni
      have hgd : gdP l (lvL l p) s true p[i] ↔ (0 ≤ p[i].account ∧ grdP l (lvL l p) p[i].account s true) := Iff.rfl
      obtain ⟨d1, d2, d3, hkq, s1, s2, s3, fq⟩ := id hqi
      obtain ⟨k3, rfl, hk3⟩ := s3.pos (by omega)
      have hg3 : 0 ≤ p[i].account → ((bl (gdB l (lvL l p) s true) l.length).map D.bool)[p[i].account.toNat]? = some (.bool (decide (grdP l (lvL l p) p[i].account s true))) := fun h0 => by
        rw [bl_g (by unfold inQ at hin; omega), gdB, Int.toNat_of_nonneg h0]
      have hb3 : ((bl (gdB l (lvL l p) s true) l.length).map D.bool).length = l.length := by rw [List.length_map, bl_len]
      unfold inQ at hin
      clear fq s1 s2 s3
      rw [hst]
      clear hst hbc
      generalize rsn l (lvL l p) s kn p[i] = r at *
      generalize gdP l (lvL l p) s true p[i] = G at *
      generalize bl (gdB l (lvL l p) s true) l.length = B at *
      generalize p[i] = q at *
      obtain ⟨fr, ac, ag, re, ow, nm, lv⟩ := q
      dsimp only [Pg.cells] at c1 hrow hin hgd hg3 ⊢
      by_cases hr : r = 0
      · subst hr
        rw [if_pos rfl]
        have hG3 : (G ∧ 0 ≤ ac ∧ (B.map D.bool)[ac.toNat]? = some (.bool true)) ∨ (¬ G ∧ 0 ≤ ac ∧ (B.map D.bool)[ac.toNat]? = some (.bool false)) ∨ (¬ G ∧ ac < 0 ∧ (B.map D.bool)[B.length]? = none) := by
          by_cases h0 : 0 ≤ ac
          · by_cases h2 : grdP l (lvL l p) ac s true
            · exact .inl ⟨hgd.2 ⟨h0, h2⟩, h0, by rw [hg3 h0, decide_eq_true h2]⟩
            · exact .inr (.inl ⟨fun h => h2 (hgd.1 h).2, h0, by rw [hg3 h0, decide_eq_false h2]⟩)
          · exact .inr (.inr ⟨fun h => h0 (hgd.1 h).1, by omega, by simp⟩)
        clear hgd hg3
        have hbc : (0 ≤ b ∧ nxtV (b, c) = b ∧ decide (0 ≤ b) = true ∧ (p.flatMap Pg.cells)[b.toNat * 7 + 2]? = some (.int .i64 (agA p b)) ∧ 0 ≤ c) ∨ (b < 0 ∧ nxtV (b, c) = c ∧ decide (0 ≤ b) = false ∧ (p.flatMap Pg.cells)[c.toNat * 7 + 2]? = some (.int .i64 (agA p c)) ∧ 0 ≤ c) ∨
            (b < 0 ∧ nxtV (b, c) = c ∧ decide (0 ≤ b) = false ∧ c + 0 = c ∧ c < 0) := by
          by_cases h0 : 0 ≤ b
          · exact .inl ⟨h0, if_pos h0, decide_eq_true h0, hga (by omega), by omega⟩
          · by_cases h2 : 0 ≤ c
            · exact .inr (.inl ⟨by omega, if_neg h0, decide_eq_false h0, hgc (by omega), h2⟩)
            · exact .inr (.inr ⟨by omega, if_neg h0, decide_eq_false h0, by omega, by omega⟩)
        clear hga hgc
        generalize agA p b = ab at *
        generalize agA p c = ac2 at *
        have fin : ∀ (h2 : Heap) (X : Int) (Y : Bool), QIn h2 kq p l s kn l.length → X = nxtV (if ¬ G ∧ (b < 0 ∨ ag < ab) then (i : Int) else b, if c < 0 ∨ ag < ac2 then (i : Int) else c) → Y = decide (0 ≤ if ¬ G ∧ (b < 0 ∨ ag < ab) then (i : Int) else b) →
            ∃ h' b1 c1, (b1, c1) = (if ¬ G ∧ (b < 0 ∨ ag < ab) then (i : Int) else b, if c < 0 ∨ ag < ac2 then (i : Int) else c) ∧
              (⟨[(0, pgs p), (9, .pt kq 0), (11, .int .i64 X), (12, .bool Y), (26, pgs p), (27, .int .i64 p.length), (28, .int .i64 (i + 1))], h2⟩ : St) = ⟨[(0, pgs p), (9, .pt kq 0), (11, .int .i64 (nxtV (b1, c1))), (12, .bool (decide (0 ≤ b1))), (26, pgs p), (27, .int .i64 p.length), (28, .int .i64 ((i + 1 : Nat) : Int))], h'⟩ ∧ QIn h' kq p l s kn l.length :=
          fun h2 X Y hq2 hX hY => by subst hX; subst hY; exact ⟨h2, _, _, rfl, rfl, hq2⟩
        rcases hG3 with ⟨hG, hac, hgB⟩ | ⟨hG, hac, hgB⟩ | ⟨hG, hac, hgB⟩ <;> rcases hbc with ⟨hb, e1, e2, ha, hc⟩ | ⟨hb, e1, e2, ha, hc⟩ | ⟨hb, e1, e2, ha, hc⟩
        all_goals rw [e1, e2]
        all_goals clear e1 e2
        all_goals
          repeat' (first | (with_reducible first | refine W_seq ?_ | refine then_n ?_ | refine W_block ?_ | refine blk_n ?_ | refine blk_r ?_ | refine blk_e ?_ | refine W_skip ?_ | refine W_ret ?_ | refine then_r ?_ | refine W_exit ?_ | refine then_e ?_) | ((with_reducible refine s_reg ?_); intro K hK) | ((with_reducible refine k_nil ?_); (with_reducible apply s_nil hK); (· exact nmX); clear hK; clear K) | ((with_reducible refine k_cond ?_); (first | ((with_reducible apply s_condT); (· rfl); (· exact nmX)) | ((with_reducible apply s_condF); (· rfl); (· exact nmX)) | ((with_reducible apply s_condS); (· rfl); (· exact nmX); (· exact nmX)))) | ((with_reducible refine k_mv ?_); (refine s_mv rfl ?_)) | ((with_reducible refine k_pick ?_); (first | (refine s_pickT rfl rfl ?_) | (refine s_pickF rfl rfl ?_))) | ((with_reducible refine k_not ?_); (refine s_not rfl (by first | exact Bool.not_true | exact Bool.not_false | rfl) ?_)) | ((with_reducible refine k_neq ?_); (first | (refine s_neq rfl rfl ?_) | (refine s_strNe rfl rfl ?_))) | ((with_reducible refine k_lss ?_); (refine s_lss rfl rfl ?_)) | ((with_reducible refine k_iaddr ?_); (first | ((with_reducible apply s_iaddrV); (· rfl); (· rfl); (· (first | omega | exact ⟨rfl, by omega⟩ | skip))) | ((with_reducible apply s_iaddrO); (· rfl); (· rfl); (· (first | omega | exact ⟨rfl, by omega⟩ | skip)); (· (exact hpX))) | ((with_reducible apply s_iaddrSO); (· rfl); (· assumption); (· rfl); (· (first | omega | exact ⟨rfl, by omega⟩ | skip)); (· (first | (simp (disch := omega) only [w64, wu8, wu16, wu32, wu64, tm_nn, td_nn, fd_nn, Int.reduceAdd, Int.reduceSub, Int.reduceMul, Int.reduceDiv, Int.reduceMod, Int.reduceNeg, Int.reduceToNat, Int.toNat_natCast, Int.toNat_zero, Int.zero_add, Int.add_zero, Int.one_mul, Int.reducePow, Nat.mul_one, Nat.zero_add, Nat.add_zero, Nat.zero_mul, Nat.reduceAdd, Nat.reduceMul, Nat.reduceSub, Nat.min_eq_left, IntKind.bits, Nat.sub_zero, hrow, hgB, ha]; try rfl; done) | rfl)); intro ks hks))) | ((with_reducible refine k_load ?_); (first | ((with_reducible apply s_loadV); (· rfl)) | ((with_reducible apply s_loadP); (· rfl); (· (exact hpX))))) | ((with_reducible refine k_loadA ?_); (first | ((with_reducible apply s_loadAV); (· rfl); (· (first | exact Nat.le_of_ble_eq_true rfl | decide | omega | (simp; done) | (simp; omega) | skip))) | ((with_reducible apply s_loadAP); (· rfl); (· (exact hpX)); (· (first | exact Nat.le_of_ble_eq_true rfl | decide | omega | (simp; done) | (simp; omega) | skip))))) | ((with_reducible refine k_add ?_); ((with_reducible apply s_add); (· rfl); (· rfl))) | ((with_reducible refine k_store ?_); ((with_reducible apply s_store0); (· rfl); (· rfl); (· rfl); (· (exact hpX)); (· (exact ⟨rfl, by first | exact Nat.le_of_ble_eq_true rfl | omega | (simp [hrow, hgB, ha]; omega)⟩)); (· ((first | (simp (disch := omega) only [upd_self, upd_ne, upd_upd, rep, splice, List.take_succ_cons, List.take_zero, List.drop_succ_cons, List.drop_zero, List.cons_append, List.nil_append, List.append_nil, List.length_cons, List.length_nil, List.reduceReplicate, List.flatten_cons, List.flatten_nil, Nat.reduceAdd, Nat.reduceMul, Nat.reduceSub, Nat.zero_add, Nat.add_zero, List.getElem?_cons_zero, List.getElem?_cons_succ, hrow, hgB, ha]; try rfl; done) | rfl))); (· (first | exact upd_upd | rfl)))) | ((with_reducible refine k_faddr ?_); (first | ((with_reducible apply s_faddrV); (· rfl); (· rfl)) | ((with_reducible apply s_faddrP); (· rfl); (· rfl)))) | ((with_reducible refine k_eqB ?_); (first | (refine s_eqBt rfl rfl ?_) | (refine s_eqBf rfl rfl ?_))) | ((with_reducible refine k_alloc (dst := some 14) ?_); ((with_reducible apply s_alloc); intro k14 hk14; (try simp only [upd_none] at hk14))) | ((with_reducible refine k_nilck ?_); (first | ((with_reducible apply s_nilckV); (· rfl)) | ((with_reducible apply s_nilckP); (· rfl)) | ((with_reducible apply s_nilckF); (· rfl)))) | ((with_reducible refine k_callF ?_); (first | ((with_reducible apply s_call1); (· rfl)) | ((with_reducible apply s_calln); (· rfl)))) | ((with_reducible refine k_con ?_); (first | ((with_reducible apply con_val (c1)); (· (repeat (first | exact All2.nil | (apply All2.cons; (· first | exact QIn.two hqi hk14 | exact rdX))))); (· rfl); (· exact fun _ => rfl)))) | ((with_reducible refine k_dreg ?_); refine s_dreg rfl rfl ?_; intro K hK) | ((with_reducible refine k_dnil ?_); (with_reducible apply d_nil hK); (· exact nmX); clear hK; clear K) | ((with_reducible refine k_dguard ?_); (first | (refine d_gt rfl ?_) | (refine d_gf rfl ?_) | (refine d_gx rfl ?_) | (refine d_gs rfl ?_))) | ((with_reducible refine k_dop ?_); refine d_step (by first | exact Or.inl rfl | exact Or.inr rfl) ?_) | (with_reducible refine d_back ?_) | ((with_reducible refine k_br ?_); (first | (with_reducible first | refine Br_dec ?_ | refine Br_not ?_ | refine Br_eqF ?_ | refine Br_and ?_ | refine Br_or ?_ | refine Br_neg ?_ | refine Br_band ?_ | refine Br_bor ?_ | refine Br_beq ?_) | (refine Br_t (by first | with_reducible rfl | omega | assumption | rfl) ?_) | (refine Br_f (by first | omega | assumption | decide) ?_) | (with_reducible apply Br_sb <;> intro hbr <;> (first | subst hbr | simp only [hbr] | skip)) | (with_reducible apply Br_s <;> intro hbr))) | ((first | (with_reducible apply q_eqI) | (with_reducible apply q_eqN)); (first | (simp (disch := omega) only [w64, wu8, wu16, wu32, wu64, tm_nn, td_nn, fd_nn, Int.reduceAdd, Int.reduceSub, Int.reduceMul, Int.reduceDiv, Int.reduceMod, Int.reduceNeg, Int.reduceToNat, Int.toNat_natCast, Int.toNat_zero, Int.zero_add, Int.add_zero, Int.one_mul, Int.reducePow, Nat.mul_one, Nat.zero_add, Nat.add_zero, Nat.zero_mul, Nat.reduceAdd, Nat.reduceMul, Nat.reduceSub, Nat.min_eq_left, IntKind.bits, Nat.sub_zero, hrow, hgB, ha]; try rfl; done) | rfl)) | ((first | (with_reducible apply q_eqL) | (with_reducible apply q_eqO)); (first | (simp (disch := omega) only [upd_self, upd_ne, upd_upd, rep, splice, List.take_succ_cons, List.take_zero, List.drop_succ_cons, List.drop_zero, List.cons_append, List.nil_append, List.append_nil, List.length_cons, List.length_nil, List.reduceReplicate, List.flatten_cons, List.flatten_nil, Nat.reduceAdd, Nat.reduceMul, Nat.reduceSub, Nat.zero_add, Nat.add_zero, List.getElem?_cons_zero, List.getElem?_cons_succ, hrow, hgB, ha]; try rfl; done) | rfl)))
        all_goals first | (exfalso; omega) | skip
        all_goals refine fin _ _ _ (hqi.upd hk14) ?_ ?_
        all_goals clear fin c1 hrow hgB hkq hqi hk14 hk3
        all_goals simp only [hG, not_true_eq_false, false_and, if_false, not_false_eq_true, true_and]
        all_goals first
          | (symm; exact decide_eq_true (by (repeat' split) <;> omega))
          | (symm; exact decide_eq_false (by (repeat' split) <;> omega))
          | (unfold nxtV
             dsimp only
             (repeat' split) <;> first | rfl | omega)
      · rw [if_neg hr]
        repeat' (first | (with_reducible first | refine W_seq ?_ | refine then_n ?_ | refine W_block ?_ | refine blk_n ?_ | refine blk_r ?_ | refine blk_e ?_ | refine W_skip ?_ | refine W_ret ?_ | refine then_r ?_ | refine W_exit ?_ | refine then_e ?_) | ((with_reducible refine s_reg ?_); intro K hK) | ((with_reducible refine k_nil ?_); (with_reducible apply s_nil hK); (· exact nmX); clear hK; clear K) | ((with_reducible refine k_cond ?_); (first | ((with_reducible apply s_condT); (· rfl); (· exact nmX)) | ((with_reducible apply s_condF); (· rfl); (· exact nmX)) | ((with_reducible apply s_condS); (· rfl); (· exact nmX); (· exact nmX)))) | ((with_reducible refine k_mv ?_); (refine s_mv rfl ?_)) | ((with_reducible refine k_neq ?_); (first | (refine s_neq rfl rfl ?_) | (refine s_strNe rfl rfl ?_))) | ((with_reducible refine k_lss ?_); (refine s_lss rfl rfl ?_)) | ((with_reducible refine k_iaddr ?_); (first | ((with_reducible apply s_iaddrV); (· rfl); (· rfl); (· (first | omega | exact ⟨rfl, by omega⟩ | skip))) | ((with_reducible apply s_iaddrO); (· rfl); (· rfl); (· (first | omega | exact ⟨rfl, by omega⟩ | skip)); (· (exact hpX))) | ((with_reducible apply s_iaddrSO); (· rfl); (· assumption); (· rfl); (· (first | omega | exact ⟨rfl, by omega⟩ | skip)); (· (first | (simp (disch := omega) only [w64, wu8, wu16, wu32, wu64, tm_nn, td_nn, fd_nn, Int.reduceAdd, Int.reduceSub, Int.reduceMul, Int.reduceDiv, Int.reduceMod, Int.reduceNeg, Int.reduceToNat, Int.toNat_natCast, Int.toNat_zero, Int.zero_add, Int.add_zero, Int.one_mul, Int.reducePow, Nat.mul_one, Nat.zero_add, Nat.add_zero, Nat.zero_mul, Nat.reduceAdd, Nat.reduceMul, Nat.reduceSub, Nat.min_eq_left, IntKind.bits, Nat.sub_zero, hrow]; try rfl; done) | rfl)); intro ks hks))) | ((with_reducible refine k_loadA ?_); (first | ((with_reducible apply s_loadAV); (· rfl); (· (first | exact Nat.le_of_ble_eq_true rfl | decide | omega | (simp; done) | (simp; omega) | skip))) | ((with_reducible apply s_loadAP); (· rfl); (· (exact hpX)); (· (first | exact Nat.le_of_ble_eq_true rfl | decide | omega | (simp; done) | (simp; omega) | skip))))) | ((with_reducible refine k_add ?_); ((with_reducible apply s_add); (· rfl); (· rfl))) | ((with_reducible refine k_store ?_); ((with_reducible apply s_store0); (· rfl); (· rfl); (· rfl); (· (exact hpX)); (· (exact ⟨rfl, by first | exact Nat.le_of_ble_eq_true rfl | omega | (simp [hrow]; omega)⟩)); (· ((first | (simp (disch := omega) only [upd_self, upd_ne, upd_upd, rep, splice, List.take_succ_cons, List.take_zero, List.drop_succ_cons, List.drop_zero, List.cons_append, List.nil_append, List.append_nil, List.length_cons, List.length_nil, List.reduceReplicate, List.flatten_cons, List.flatten_nil, Nat.reduceAdd, Nat.reduceMul, Nat.reduceSub, Nat.zero_add, Nat.add_zero, List.getElem?_cons_zero, List.getElem?_cons_succ, hrow]; try rfl; done) | rfl))); (· (first | exact upd_upd | rfl)))) | ((with_reducible refine k_alloc (dst := some 14) ?_); ((with_reducible apply s_alloc); intro k14 hk14; (try simp only [upd_none] at hk14))) | ((with_reducible refine k_callF ?_); (first | ((with_reducible apply s_call1); (· rfl)) | ((with_reducible apply s_calln); (· rfl)))) | ((with_reducible refine k_con ?_); (first | ((with_reducible apply con_val (c1)); (· (repeat (first | exact All2.nil | (apply All2.cons; (· first | exact QIn.two hqi hk14 | exact rdX))))); (· rfl); (· exact fun _ => rfl)))) | ((with_reducible refine k_br ?_); (first | (with_reducible first | refine Br_dec ?_ | refine Br_not ?_ | refine Br_eqF ?_ | refine Br_and ?_ | refine Br_or ?_ | refine Br_neg ?_ | refine Br_band ?_ | refine Br_bor ?_ | refine Br_beq ?_) | (refine Br_t (by first | with_reducible rfl | omega | assumption | rfl) ?_) | (refine Br_f (by first | omega | assumption | decide) ?_) | (with_reducible apply Br_sb <;> intro hbr <;> (first | subst hbr | simp only [hbr] | skip)) | (with_reducible apply Br_s <;> intro hbr))) | ((first | (with_reducible apply q_eqI) | (with_reducible apply q_eqN)); (first | (simp (disch := omega) only [w64, wu8, wu16, wu32, wu64, tm_nn, td_nn, fd_nn, Int.reduceAdd, Int.reduceSub, Int.reduceMul, Int.reduceDiv, Int.reduceMod, Int.reduceNeg, Int.reduceToNat, Int.toNat_natCast, Int.toNat_zero, Int.zero_add, Int.add_zero, Int.one_mul, Int.reducePow, Nat.mul_one, Nat.zero_add, Nat.add_zero, Nat.zero_mul, Nat.reduceAdd, Nat.reduceMul, Nat.reduceSub, Nat.min_eq_left, IntKind.bits, Nat.sub_zero, hrow]; try rfl; done) | rfl)) | ((first | (with_reducible apply q_eqL) | (with_reducible apply q_eqO)); (first | (simp (disch := omega) only [upd_self, upd_ne, upd_upd, rep, splice, List.take_succ_cons, List.take_zero, List.drop_succ_cons, List.drop_zero, List.cons_append, List.nil_append, List.append_nil, List.length_cons, List.length_nil, List.reduceReplicate, List.flatten_cons, List.flatten_nil, Nat.reduceAdd, Nat.reduceMul, Nat.reduceSub, Nat.zero_add, Nat.add_zero, List.getElem?_cons_zero, List.getElem?_cons_succ, hrow]; try rfl; done) | rfl)))
        exact ⟨_, b, c, rfl, rfl, hqi.upd hk14⟩
    · rintro e' h' ⟨h1, b, c, hbc, he, hqi⟩
      cases he
      rw [← hbc]
      repeat' (first | (with_reducible first | refine W_seq ?_ | refine then_n ?_ | refine W_block ?_ | refine blk_n ?_ | refine blk_r ?_ | refine blk_e ?_ | refine W_skip ?_ | refine W_ret ?_ | refine then_r ?_ | refine W_exit ?_ | refine then_e ?_) | ((with_reducible refine s_reg ?_); intro K hK) | ((with_reducible refine k_nil ?_); (with_reducible apply s_nil hK); (· exact nmX); clear hK; clear K) | ((with_reducible refine k_cond ?_); (first | ((with_reducible apply s_condT); (· rfl); (· exact nmX)) | ((with_reducible apply s_condF); (· rfl); (· exact nmX)) | ((with_reducible apply s_condS); (· rfl); (· exact nmX); (· exact nmX)))) | ((with_reducible refine k_mv ?_); (refine s_mv rfl ?_)) | ((with_reducible refine k_lss ?_); (refine s_lss rfl rfl ?_)) | ((with_reducible refine k_br ?_); (first | (with_reducible first | refine Br_dec ?_ | refine Br_not ?_ | refine Br_eqF ?_ | refine Br_and ?_ | refine Br_or ?_ | refine Br_neg ?_ | refine Br_band ?_ | refine Br_bor ?_ | refine Br_beq ?_) | (refine Br_t (by first | with_reducible rfl | omega | assumption | rfl) ?_) | (refine Br_f (by first | omega | assumption | decide) ?_) | (with_reducible apply Br_sb <;> intro hbr <;> (first | subst hbr | simp only [hbr] | skip)) | (with_reducible apply Br_s <;> intro hbr))))
      exact Fin_flat trivial rfl rfl
  · rw [if_neg hq]
    have he := qu_no hq
    repeat' (first | (with_reducible first | refine W_seq ?_ | refine then_n ?_ | refine W_block ?_ | refine blk_n ?_ | refine blk_r ?_ | refine blk_e ?_ | refine W_skip ?_ | refine W_ret ?_ | refine then_r ?_ | refine W_exit ?_ | refine then_e ?_) | ((with_reducible refine s_reg ?_); intro K hK) | ((with_reducible refine k_nil ?_); (with_reducible apply s_nil hK); (· exact nmX); clear hK; clear K) | ((with_reducible refine k_cond ?_); (first | ((with_reducible apply s_condT); (· rfl); (· exact nmX)) | ((with_reducible apply s_condF); (· rfl); (· exact nmX)) | ((with_reducible apply s_condS); (· rfl); (· exact nmX); (· exact nmX)))) | ((with_reducible refine k_mv ?_); (refine s_mv rfl ?_)) | ((with_reducible refine k_extract ?_); (refine s_extract rfl rfl ?_)) | ((with_reducible refine k_neq ?_); (first | (refine s_neq rfl rfl ?_) | (refine s_strNe rfl rfl ?_))) | ((with_reducible refine k_callF ?_); (first | ((with_reducible apply s_call1); (· rfl)) | ((with_reducible apply s_calln); (· rfl)))) | ((with_reducible refine k_con ?_); (first | (refine ask_no hL hP hq ?_; intro hQ; (try dsimp only)))) | ((with_reducible refine k_br ?_); (first | (with_reducible first | refine Br_dec ?_ | refine Br_not ?_ | refine Br_eqF ?_ | refine Br_and ?_ | refine Br_or ?_ | refine Br_neg ?_ | refine Br_band ?_ | refine Br_bor ?_ | refine Br_beq ?_) | (refine Br_t (by first | with_reducible rfl | omega | assumption | rfl) ?_) | (refine Br_f (by first | omega | assumption | decide) ?_) | (with_reducible apply Br_sb <;> intro hbr <;> (first | subst hbr | simp only [hbr] | skip)) | (with_reducible apply Br_s <;> intro hbr))))
    all_goals first | (exfalso; omega) | exact Fin_flat trivial rfl rfl
end Go.Proofs.Ytolnhkpckbgmgaa
end
section
/- Reclaim order: the pages, and which is next. -/
set_option linter.unusedSimpArgs false
set_option linter.unusedVariables false
namespace Go.Proofs.Ytolnhkpckbgmgaa
open Go.AM Classical
/-! ### Pages -/
def idxTo (o : List Int) (f : Int) : Nat → Int
  | 0 => -1
  | i + 1 => if o[i]?.getD 0 = f then (i : Int) else idxTo o f i
theorem idxTo_at {o : List Int} (hn : o.Nodup) {i : Nat} (hi : i < o.length) : ∀ {n : Nat}, i < n → n ≤ o.length → idxTo o o[i] n = i
  | 0, h, _ => by omega
  | n + 1, h, hl => by
    rw [idxTo, List.getElem?_eq_getElem (show n < o.length by omega), Option.getD_some]
    by_cases e : n = i
    · subst e; rw [if_pos rfl]
    · rw [if_neg, idxTo_at hn hi (by omega) (by omega)]
      intro h1
      exact (List.pairwise_iff_getElem.1 hn) i n hi (by omega) (by omega) h1.symm
def pgO (f a : Int) : Pg := ⟨f, 0, a, 0, -1, true, false⟩
noncomputable def pgTo (o : List Int) : Nat → List Pg
  | 0 => []
  | f + 1 => if ((f : Nat) : Int) ∈ o then pgTo o f ++ [pgO f (idxTo o f o.length)] else pgTo o f
theorem pgTo_mem {o : List Int} : ∀ {n : Nat} {q : Pg}, q ∈ pgTo o n → ∃ f : Nat, f < n ∧ (f : Int) ∈ o ∧ q = pgO f (idxTo o f o.length)
  | 0, q, h => by cases h
  | n + 1, q, h => by
    rw [pgTo] at h
    split at h
    · rename_i hm
      rcases List.mem_append.1 h with h | h
      · obtain ⟨f, h1, h2, h3⟩ := pgTo_mem h
        exact ⟨f, by omega, h2, h3⟩
      · rw [List.mem_singleton.1 h]; exact ⟨n, by omega, hm, rfl⟩
    · obtain ⟨f, h1, h2, h3⟩ := pgTo_mem h
      exact ⟨f, by omega, h2, h3⟩
theorem pgTo_has {o : List Int} : ∀ {n f : Nat}, f < n → (f : Int) ∈ o → pgO f (idxTo o f o.length) ∈ pgTo o n
  | 0, f, h, _ => by omega
  | n + 1, f, h, hm => by
    rw [pgTo]
    rcases Nat.lt_succ_iff_lt_or_eq.1 h with h1 | rfl
    · have := pgTo_has h1 hm
      split
      · exact List.mem_append_left _ this
      · exact this
    · rw [if_pos hm]; simp
theorem pgTo_len {o : List Int} : ∀ (n : Nat), (pgTo o n).length ≤ n
  | 0 => by simp [pgTo]
  | n + 1 => by
    have := pgTo_len (o := o) n
    rw [pgTo]
    split <;> simp <;> omega
theorem pgTo_asc {o : List Int} : ∀ (n : Nat), ∀ i (h : i < (pgTo o n).length), prevF (pgTo o n) i < (pgTo o n)[i].frame
  | 0, i, h => by simp [pgTo] at h
  | n + 1, i, h => by
    have ih := pgTo_asc (o := o) n
    have hm : ∀ q ∈ pgTo o n, -1 < q.frame ∧ q.frame < n := fun q hq => by
      obtain ⟨f, h1, _, rfl⟩ := pgTo_mem hq
      simp [pgO]; omega
    by_cases hin : ((n : Nat) : Int) ∈ o
    · have e : pgTo o (n + 1) = pgTo o n ++ [pgO n (idxTo o n o.length)] := by rw [pgTo, if_pos hin]
      have key : ∀ (P : List Pg) (x : Pg), (∀ i (h : i < P.length), prevF P i < P[i].frame) → (∀ q ∈ P, -1 < q.frame ∧ q.frame < x.frame) → -1 < x.frame → ∀ i (h : i < (P ++ [x]).length), prevF (P ++ [x]) i < (P ++ [x])[i].frame := by
        intro P x h1 h2 h3 i h
        have hl : i ≤ P.length := by simp at h; omega
        have hp : prevF (P ++ [x]) i = prevF P i ∨ i = P.length := by
          rcases Nat.lt_or_eq_of_le hl with h4 | h4
          · left
            unfold prevF
            by_cases h0 : i = 0
            · rw [if_pos h0, if_pos h0]
            · rw [if_neg h0, if_neg h0, dif_pos (by simp; omega), dif_pos (by omega), List.getElem_append_left (by omega)]
          · exact .inr h4
        rcases Nat.lt_or_eq_of_le hl with h4 | h4
        · rcases hp with h5 | h5
          · rw [h5, List.getElem_append_left h4]; exact h1 i h4
          · omega
        · subst h4
          rw [List.getElem_append_right (Nat.le_refl _)]
          simp only [Nat.sub_self, List.getElem_cons_zero]
          unfold prevF
          by_cases h0 : P.length = 0
          · rw [if_pos h0]; exact h3
          · rw [if_neg h0, dif_pos (by simp; omega), List.getElem_append_left (by omega)]
            exact (h2 _ (List.getElem_mem _)).2
      have := key (pgTo o n) (pgO n (idxTo o n o.length)) ih (fun q hq => ⟨(hm q hq).1, (hm q hq).2⟩) (by simp [pgO]; omega)
      simp only [e]
      exact this i (by rw [← e]; exact h)
    · have e : pgTo o (n + 1) = pgTo o n := by rw [pgTo, if_neg hin]
      simp only [e]
      exact ih i (by rw [← e]; exact h)
/-! ### Leaving, one after the other -/
noncomputable def lvO (o : List Int) (P : List Pg) (i : Nat) : List Pg := P.map fun q => if q.frame ∈ o.take i then { q with leaving := true } else q
theorem lvO_len (o : List Int) (P : List Pg) (i : Nat) : (lvO o P i).length = P.length := by simp [lvO]
theorem lvO_at {o : List Int} {P : List Pg} {i k : Nat} (h : k < (lvO o P i).length) : (lvO o P i)[k] = if (P[k]'(by rwa [lvO_len] at h)).frame ∈ o.take i then { (P[k]'(by rwa [lvO_len] at h)) with leaving := true } else (P[k]'(by rwa [lvO_len] at h)) := by
  simp [lvO]
theorem lvO_zero (o : List Int) (P : List Pg) : lvO o P 0 = P := by
  simp [lvO]
abbrev L1 (n : Int) : List Acct := [⟨-1, n, 0, 0, n⟩]
theorem chk_one {n : Int} (h0 : 0 ≤ n) (h1 : n ≤ 1000) : chkF (L1 n) = 0 := by
  have one : ∀ i, i < (L1 n).length → i = 0 := fun i h => by simp at h; omega
  refine chk_mk (by simp) ?_ ⟨?_, fun _ => ⟨rfl, rfl⟩⟩ ?_ ?_
  · intro i _ h; obtain rfl := one i h; exact .inl ⟨rfl, rfl⟩
  · intro i _ h; obtain rfl := one i h; simp [okA, inR]; omega
  · intro a h; simp at h; subst h; exact Int.le_refl _
  · intro i h
    obtain rfl := one i h
    simp [kids, kidsTo, us]; omega
theorem rsn_one {n : Int} (h0 : 0 ≤ n) (h1 : n ≤ 1000) {p : List Pg} (hP : p.length ≤ 1000) {q : Pg} (ha : q.account = 0) (hr : q.reason = 0) : rsn (L1 n) (lvL (L1 n) p) (-1) false q = (if q.leaving = true then 8 else 0) ∧ ∀ low, ¬ gdP (L1 n) (lvL (L1 n) p) (-1) low q := by
  have hc := chk_one h0 h1
  have hv := val_lv (p := p) hc (by omega)
  have hg : ∀ low, ¬ gdP (L1 n) (lvL (L1 n) p) (-1) low q := by
    rintro low ⟨_, h | ⟨x, hx, hx0, _⟩⟩
    · exact h ⟨⟨hv, by rw [ha]; simp, by simp⟩, .inl rfl⟩
    · rw [ha] at hx
      have : pathG (L1 n) 8 0 = [0] := by simp [pathG, pa]
      rw [this] at hx
      simp at hx
      omega
  refine ⟨?_, hg⟩
  unfold rsn
  rw [if_neg (by rintro ⟨h, _⟩; omega), if_neg (by simp)]
  split
  · rfl
  · rw [if_neg (by rw [hr]; simp), if_neg (hg false), hr]
theorem nx_good {l : List Acct} {v : List Int} {p : List Pg} (hr : ∀ i (h : i < p.length), rsn l v (-1) false p[i] = (if p[i].leaving = true then 8 else 0) ∧ ¬ gdP l v (-1) true p[i]) : ∀ i, i ≤ p.length → ∃ m : Int, nxS l v (-1) false p i = (m, m) ∧
    ((m = -1 ∧ ∀ j (h : j < p.length), j < i → p[j].leaving = true) ∨ (∃ k : Nat, m = k ∧ k < i ∧ ∃ h : k < p.length, p[k].leaving = false ∧ ∀ j (h : j < p.length), j < i → p[j].leaving = false → p[k].age ≤ p[j].age))
  | 0, _ => ⟨-1, rfl, .inl ⟨rfl, fun j _ h => by omega⟩⟩
  | i + 1, hi => by
    obtain ⟨m, e, hm⟩ := nx_good hr i (by omega)
    have hip : i < p.length := by omega
    obtain ⟨r1, r2⟩ := hr i hip
    unfold nxS
    rw [dif_pos hip, r1]
    by_cases hl : p[i].leaving = true
    · rw [if_pos hl, if_neg (by omega), e]
      refine ⟨m, rfl, ?_⟩
      rcases hm with ⟨h1, h2⟩ | ⟨k, h1, h2, h3, h4, h5⟩
      · refine .inl ⟨h1, fun j hj hji => ?_⟩
        rcases Nat.lt_succ_iff_lt_or_eq.1 hji with h | rfl
        · exact h2 j hj h
        · exact hl
      · refine .inr ⟨k, h1, by omega, h3, h4, fun j hj hji hjl => ?_⟩
        rcases Nat.lt_succ_iff_lt_or_eq.1 hji with h | rfl
        · exact h5 j hj h hjl
        · rw [hl] at hjl; cases hjl
    · have hl' : p[i].leaving = false := by simpa using hl
      rw [if_neg hl, if_pos rfl, e]
      dsimp only
      rcases hm with ⟨h1, h2⟩ | ⟨k, h1, h2, h3, h4, h5⟩
      · subst h1
        refine ⟨(i : Int), by rw [if_pos ⟨r2, .inl (by omega)⟩, if_pos (.inl (by omega))], .inr ⟨i, rfl, by omega, hip, hl', fun j hj hji hjl => ?_⟩⟩
        rcases Nat.lt_succ_iff_lt_or_eq.1 hji with h | rfl
        · rw [h2 j hj h] at hjl; cases hjl
        · exact Int.le_refl _
      · subst h1
        have hag : agA p (k : Int) = p[k].age := by unfold agA; rw [dif_pos (by simpa using h3)]; rfl
        rw [hag]
        by_cases hlt : p[i].age < p[k].age
        · refine ⟨(i : Int), by rw [if_pos ⟨r2, .inr hlt⟩, if_pos (.inr hlt)], .inr ⟨i, rfl, by omega, hip, hl', fun j hj hji hjl => ?_⟩⟩
          rcases Nat.lt_succ_iff_lt_or_eq.1 hji with h | rfl
          · have := h5 j hj h hjl; omega
          · exact Int.le_refl _
        · refine ⟨(k : Int), by rw [if_neg (by rintro ⟨_, h | h⟩ <;> omega), if_neg (by rintro (h | h) <;> omega)], .inr ⟨k, rfl, by omega, h3, h4, fun j hj hji hjl => ?_⟩⟩
          rcases Nat.lt_succ_iff_lt_or_eq.1 hji with h | rfl
          · exact h5 j hj h hjl
          · omega
/-! ### The law -/
theorem nodup_at {o : List Int} (hn : o.Nodup) {i j : Nat} (hi : i < o.length) (hj : j < o.length) (h : o[i] = o[j]) : i = j := by
  rcases Nat.lt_trichotomy i j with h1 | h1 | h1
  · exact absurd h ((List.pairwise_iff_getElem.1 hn) i j hi hj h1)
  · exact h1
  · exact absurd h.symm ((List.pairwise_iff_getElem.1 hn) j i hj hi h1)
theorem mem_take {o : List Int} {x : Int} {i : Nat} : x ∈ o.take i ↔ ∃ j, ∃ h : j < o.length, j < i ∧ o[j] = x := by
  constructor
  · intro h
    obtain ⟨j, hj, rfl⟩ := List.getElem_of_mem h
    simp at hj
    exact ⟨j, by omega, by omega, by simp⟩
  · rintro ⟨j, h, hi, rfl⟩
    exact List.mem_of_getElem? (i := j) (by rw [List.getElem?_take, if_pos hi, List.getElem?_eq_getElem h])
theorem lvO_qu {o : List Int} (hf : ∀ x ∈ o, okFr x) (hn : o.Nodup) {n : Int} (h0 : 0 ≤ n) (h1 : n ≤ 1000) (i : Nat) : quP (lvO o (pgTo o 256) i) (L1 n) (-1) := by
  refine ⟨?_, by simp, by simp⟩
  rw [pchk, if_pos (chk_one h0 h1)]
  refine fE_zero.2 fun k hk => ?_
  unfold errA
  rw [dif_pos hk]
  have hk' : k < (pgTo o 256).length := by rwa [lvO_len] at hk
  obtain ⟨f, hf1, hf2, hq⟩ := pgTo_mem (List.getElem_mem hk')
  have hfr : ((lvO o (pgTo o 256) i)[k]).frame = ((pgTo o 256)[k]).frame := by
    rw [lvO_at hk]; split <;> rfl
  have hpv : prevF (lvO o (pgTo o 256) i) k = prevF (pgTo o 256) k := by
    unfold prevF
    by_cases hk0 : k = 0
    · rw [if_pos hk0, if_pos hk0]
    · rw [if_neg hk0, if_neg hk0, dif_pos (by omega), dif_pos (by omega), lvO_at]
      split <;> rfl
  have hasc := pgTo_asc 256 k hk'
  have hac : ((lvO o (pgTo o 256) i)[k]).account = 0 ∧ ((lvO o (pgTo o 256) i)[k]).reason = 0 ∧ ((lvO o (pgTo o 256) i)[k]).owner = -1 ∧ ((lvO o (pgTo o 256) i)[k]).age = ((pgTo o 256)[k]).age := by
    rw [lvO_at hk, hq]
    split <;> simp [pgO]
  obtain ⟨j, hj, hje⟩ := List.getElem_of_mem hf2
  have hage : ((pgTo o 256)[k]).age = j := by
    rw [hq]; simp only [pgO]; rw [← hje]; exact idxTo_at hn hj hj (Nat.le_refl _)
  have hfk : ((pgTo o 256)[k]).frame = f := by rw [hq]; rfl
  unfold pgE
  rw [hpv, hfr, hac.1, hac.2.1, hac.2.2.1, hac.2.2.2, hage, hfk]
  rw [hfk] at hasc
  rw [if_neg (by simp; omega), if_neg (by omega), if_neg (by omega), if_neg (by omega)]
theorem lvO_next {o : List Int} (hf : ∀ x ∈ o, okFr x) (hn : o.Nodup) {n : Int} (h0 : 0 ≤ n) (h1 : n ≤ 1000) (i : Nat) :
    (∀ h : i < o.length, ∃ k : Nat, nxtF (lvO o (pgTo o 256) i) (L1 n) (-1) false = k ∧ ∃ hk : k < (pgTo o 256).length, (pgTo o 256)[k].frame = o[i] ∧ o[i] ∉ o.take i) ∧
    (o.length ≤ i → nxtF (lvO o (pgTo o 256) i) (L1 n) (-1) false = -1) := by
  have hq := lvO_qu hf hn h0 h1 i
  have hpl := pgTo_len (o := o) 256
  have hll := lvO_len o (pgTo o 256) i
  have hrs : ∀ k (h : k < (lvO o (pgTo o 256) i).length), rsn (L1 n) (lvL (L1 n) (lvO o (pgTo o 256) i)) (-1) false (lvO o (pgTo o 256) i)[k] = (if ((lvO o (pgTo o 256) i)[k]).leaving = true then 8 else 0) ∧ ¬ gdP (L1 n) (lvL (L1 n) (lvO o (pgTo o 256) i)) (-1) true (lvO o (pgTo o 256) i)[k] := by
    intro k hk
    have hk' : k < (pgTo o 256).length := by rwa [lvO_len] at hk
    obtain ⟨f, hf1, hf2, hqk⟩ := pgTo_mem (List.getElem_mem hk')
    have ha : ((lvO o (pgTo o 256) i)[k]).account = 0 ∧ ((lvO o (pgTo o 256) i)[k]).reason = 0 := by
      rw [lvO_at hk, hqk]
      split <;> simp [pgO]
    obtain ⟨r1, r2⟩ := rsn_one h0 h1 (p := lvO o (pgTo o 256) i) (by omega) ha.1 ha.2
    exact ⟨r1, r2 true⟩
  -- what leaves, and the ages
  have hlv : ∀ k (h : k < (lvO o (pgTo o 256) i).length) (h' : k < (pgTo o 256).length), (((lvO o (pgTo o 256) i)[k]).leaving = true ↔ (pgTo o 256)[k].frame ∈ o.take i) ∧ ((lvO o (pgTo o 256) i)[k]).age = (pgTo o 256)[k].age ∧ ∃ j, ∃ hj : j < o.length, (pgTo o 256)[k].frame = o[j] ∧ (pgTo o 256)[k].age = j := by
    intro k hk hk'
    obtain ⟨f, hf1, hf2, hqk⟩ := pgTo_mem (List.getElem_mem hk')
    obtain ⟨j, hj, hje⟩ := List.getElem_of_mem hf2
    refine ⟨?_, ?_, j, hj, ?_, ?_⟩
    · rw [lvO_at hk]
      split
      · rename_i h; exact ⟨fun _ => h, fun _ => rfl⟩
      · rename_i h
        constructor
        · intro h2; rw [hqk] at h2; cases h2
        · exact fun h2 => absurd h2 h
    · rw [lvO_at hk]; split <;> rfl
    · rw [hqk]; exact hje.symm
    · rw [hqk]; simp only [pgO]; rw [← hje]; exact idxTo_at hn hj hj (Nat.le_refl _)
  obtain ⟨m, e, hm⟩ := nx_good hrs _ (Nat.le_refl _)
  have hnx : nxtF (lvO o (pgTo o 256) i) (L1 n) (-1) false = m := by
    rw [nxtF, if_pos hq, e, nxtV]
    dsimp only
    split <;> rfl
  constructor
  · intro hi
    have hni : o[i] ∉ o.take i := by
      intro h
      obtain ⟨j, hj, hji, hje⟩ := mem_take.1 h
      have := nodup_at hn hj hi hje
      omega
    have hin : o[i] ∈ o := List.getElem_mem hi
    obtain ⟨hf0, hf256⟩ := hf _ hin
    have hmem := pgTo_has (o := o) (n := 256) (f := o[i].toNat) (by omega) (by rw [Int.toNat_of_nonneg hf0]; exact hin)
    rw [Int.toNat_of_nonneg hf0] at hmem
    obtain ⟨c, hc, hce⟩ := List.getElem_of_mem hmem
    have hcl : c < (lvO o (pgTo o 256) i).length := by rw [hll]; exact hc
    obtain ⟨c1, c2, j, hj, c3, c4⟩ := hlv c hcl hc
    have hcf : (pgTo o 256)[c].frame = o[i] := by rw [hce]; rfl
    have hji : j = i := nodup_at hn hj hi (by rw [← c3, hcf])
    subst hji
    have hcn : ((lvO o (pgTo o 256) j)[c]).leaving = false := by
      rw [← Bool.not_eq_true, c1, hcf]; exact hni
    rcases hm with ⟨h2, h3⟩ | ⟨k, h2, h3, h4, h5, h6⟩
    · rw [h3 c hcl hcl] at hcn; cases hcn
    · have hk' : k < (pgTo o 256).length := by rwa [hll] at h4
      obtain ⟨k1, k2, jj, hjj, k3, k4⟩ := hlv k h4 hk'
      have hle := h6 c hcl hcl hcn
      rw [k2, c2, k4, c4] at hle
      have hnk : (pgTo o 256)[k].frame ∉ o.take j := by
        rw [← k1, h5]; simp
      have hjj2 : jj = j := by
        rcases Nat.lt_or_ge jj j with h | h
        · exact absurd (mem_take.2 ⟨jj, hjj, h, k3.symm⟩) hnk
        · omega
      subst hjj2
      exact ⟨k, by rw [hnx, h2], hk', k3, hni⟩
  · intro hi
    rw [hnx]
    rcases hm with ⟨h2, _⟩ | ⟨k, h2, h3, h4, h5, h6⟩
    · exact h2
    · exfalso
      have hk' : k < (pgTo o 256).length := by rwa [hll] at h4
      obtain ⟨k1, k2, jj, hjj, k3, k4⟩ := hlv k h4 hk'
      have : (pgTo o 256)[k].frame ∈ o.take i := mem_take.2 ⟨jj, hjj, by omega, k3.symm⟩
      rw [k1.2 this] at h5
      cases h5
end Go.Proofs.Ytolnhkpckbgmgaa
end
section
/- Generations: Where, for a frame that is there. -/
set_option linter.unusedSimpArgs false
set_option linter.unusedVariables false
namespace Go.Proofs.Ytolnhkpckbgmgaa
open Go.RowKit Go.Shelf
attribute [local go_sem] Oper.semAt_some
set_option maxRecDepth 100000 in
set_option maxHeartbeats 1000000 in
theorem Where_in (F : Fence) (n : Nat) (h1 : F.fn 12) (h2 : F.fn 14) (h6 : F.fn 15) (h3 : F.fn 16) (h4 : F.fn 18) (h5 : F.fn 29) (hro : F.round = none) (hn : 6 ≤ n) (b off cap : Nat) (zs : List (List I64)) (hz : zs.length = 4) (hzs : ∀ z ∈ zs, z.length ≤ 1000000) (hlen : (fromRows zs zs.length).length ≤ maxLen) (w : World) (hb : b < w.heap.size) (hI : RowsAt w.heap.size w b off zs)
    (hok : ∀ x ∈ fromRows zs zs.length, okFr x.2.1) (hdi : Maps.size (agesD (H := Unit) (fromRows zs zs.length)) = (fromRows zs zs.length).length) (f : Int) (hf : (Lit.int .i64 f).wf = true) (c : Int)
    (hhas : Maps.has (agesD (H := Unit) (fromRows zs zs.length)) (.int .i64 f) = true) (hat : (agesD (H := Unit) (fromRows zs zs.length)).atKey (.int .i64 f) (.lit (.int .i64 0)) = .lit (.int .i64 c)) :
    CallsIn F n Try.prog 12 #[.slice (some ⟨b, off, none⟩) zs.length cap, .int .i64 f] w fun e W' => e = .returned (.int .i64 c) ∧ Below w.heap.size w W' := by
  have hck : CallsIn F (n - 1) Try.prog 14 #[.slice (some ⟨b, off, none⟩) 4 cap] w fun e W' => e = .returned (.int .i64 0) ∧ Below w.heap.size w W' := by
    have := Check_in F (n - 1) h2 h6 h3 h4 h5 hro (by omega) b off cap zs hz hzs hlen w hb hI hok hdi
    have e4 : (Value.slice (some ⟨b, off, none⟩) zs.length cap) = .slice (some ⟨b, off, none⟩) 4 cap := by rw [hz]
    rwa [e4] at this
  have hag : ∀ W1 : World, Below w.heap.size w W1 → CallsIn F (n - 1) Try.prog 16 #[.slice (some ⟨b, off, none⟩) 4 cap] W1 fun e W' => e = .returned (.map (some W1.heap.size)) ∧ W'.ownsMap Try.prog 3 (plainElem (H := Unit) Try.prog 3) W1.heap.size (fromRows zs zs.length).length (agesD (fromRows zs zs.length)) ∧ Below W1.heap.size W1 W' := fun W1 h => by
    have := ages_in (H := Unit) F (n - 1) h3 h4 h5 hro (by omega) b off cap zs (by omega) hzs hlen W1 (Nat.lt_of_lt_of_le hb h.size) ((hI.below h hb).mono h.size)
    have e4 : (Value.slice (some ⟨b, off, none⟩) zs.length cap) = .slice (some ⟨b, off, none⟩) 4 cap := by rw [hz]
    rwa [e4] at this
  have e4 : (Value.slice (some ⟨b, off, none⟩) zs.length cap) = .slice (some ⟨b, off, none⟩) 4 cap := by rw [hz]
  rw [e4]
  clear e4
  have hn1 : 1 ≤ n := by omega
  generalize fromRows zs zs.length = rows at *
  generalize hD : agesD (H := Unit) rows = DD at *
  refine callsIn_of_wp Try.func12 rfl h1 ?_ hro
  simp only [Try.ntmps12, List.size_toArray, List.length_cons, List.length_nil, Nat.reduceAdd, Nat.reduceSub, Array.replicate_succ, Array.replicate_zero, List.push_toArray, List.append_toArray, List.nil_append, List.cons_append]
  gi_wp2_with (first
    | (gi_at_call 14; refine hck.mono ?_; clear hck; rintro e w1 ⟨rfl, hB1⟩)
    | (gi_at_call 16; refine (hag w1 hB1).mono ?_; clear hag; rintro e w2 ⟨rfl, hown, hB2⟩)
    | (gi_at_lookup; refine wpListIn_lookup_own_ok_int _ rfl _ _ 48 rfl 3 3 .i64 (Maps.int_keyed Try.underlying3) Try.underlying48 Try.underlying3 (Try.zeroValue3 _) _ rows.length _ rfl hown _ _ rfl (Maps.keyOf_int_mk Try.underlying3 hf) ?_; intro c' hc' hwc; obtain rfl : c' = c := by rw [hat] at hc'; cases hc'; rfl))
  go_ret
  exact ⟨rfl, hB1.trans (hB2.mono hB1.size)⟩
end Go.Proofs.Ytolnhkpckbgmgaa
end
section
/- Generations: Add, to empty lists. -/
set_option linter.unusedSimpArgs false
set_option linter.unusedVariables false
namespace Go.Proofs.Ytolnhkpckbgmgaa
open Go.RowKit Go.Shelf
attribute [local go_sem] Oper.semAt_some
set_option maxRecDepth 100000 in
set_option maxHeartbeats 1000000 in
theorem cloneI_in (F : Fence) (n : Nat) (hf : F.fn 28) (hro : F.round = none) (w : World) :
    CallsIn F n Try.prog 28 #[.slice none 0 0] w fun e w' => e = .returned (.slice none 0 0) ∧ w' = w := by
  refine callsIn_of_wp Try.func28 rfl hf ?_ hro
  simp only [Try.ntmps28, List.size_toArray, List.length_cons, List.length_nil, Nat.reduceAdd, Nat.reduceSub, Array.replicate_succ, Array.replicate_zero, List.push_toArray, List.append_toArray, List.nil_append, List.cons_append]
  have heq : (binOp .eql 29 (.slice none 0 0) (.slice none 0 0)).run Try.prog w = .ok (.bool true) w := by kernel_rfl
  gi_wp2
  go_ret
  exact ⟨rfl, rfl⟩
set_option maxRecDepth 100000 in
theorem mk4 (w : World) : (Instr.makeSlice 24 (.int .i64 4) (.int .i64 4)).run Try.prog w = .ok (.slice (some ⟨w.heap.size, 0, none⟩) 4 4) (w.alloc (.cells #[.slice none 0 0, .slice none 0 0, .slice none 0 0, .slice none 0 0] 29)) := by kernel_rfl
theorem cells4 (w : World) {j : Nat} (hj : j < 4) : (w.alloc (.cells #[.slice none 0 0, .slice none 0 0, .slice none 0 0, .slice none 0 0] 29)).cell? ⟨w.heap.size, 0 + j, none⟩ = some (.slice none 0 0) ∧ (w.alloc (.cells #[.slice none 0 0, .slice none 0 0, .slice none 0 0, .slice none 0 0] 29)).frozen? ⟨w.heap.size, 0 + j, none⟩ = false := by
  have h := World.alloc_heap_new w (.cells #[.slice none 0 0, .slice none 0 0, .slice none 0 0, .slice none 0 0] 29)
  obtain rfl | rfl | rfl | rfl : j = 0 ∨ j = 1 ∨ j = 2 ∨ j = 3 := by omega
  all_goals constructor <;> simp only [World.cell?, World.frozen?, h] <;> rfl
def Nils (W : World) (b off : Nat) : Prop := ∀ j, j < 4 → W.cell? ⟨b, off + j, none⟩ = some (.slice none 0 0)
set_option maxRecDepth 100000 in
set_option maxHeartbeats 1000000 in
theorem clone_in (F : Fence) (n : Nat) (h1 : F.fn 17) (h2 : F.fn 28) (hro : F.round = none) (hn : 2 ≤ n) (b off cap : Nat) (w : World) (hb : b < w.heap.size) (hI : Nils w b off) :
    CallsIn F n Try.prog 17 #[.slice (some ⟨b, off, none⟩) 4 cap] w fun e W' => ∃ r, e = .returned (.slice (some ⟨r, 0, none⟩) 4 4) ∧ w.heap.size ≤ r ∧ (∀ j, j < 4 → W'.cell? ⟨r, 0 + j, none⟩ = some (.slice none 0 0) ∧ W'.frozen? ⟨r, 0 + j, none⟩ = false) ∧ Below w.heap.size w W' := by
  have hn1 : 1 ≤ n := by omega
  refine callsIn_of_wp Try.func17 rfl h1 ?_ hro
  simp only [Try.ntmps17, List.size_toArray, List.length_cons, List.length_nil, Nat.reduceAdd, Nat.reduceSub, Array.replicate_succ, Array.replicate_zero, List.push_toArray, List.append_toArray, List.nil_append, List.cons_append]
  have hmk := mk4 w
  have hc4 := @cells4 w
  gi_wp2
  gi_loopw [10] (fun i wr => ∃ k : Nat, k ≤ 4 ∧ i = .int .i64 k ∧ (∀ j, j < 4 → wr.cell? ⟨w.heap.size, 0 + j, none⟩ = some (.slice none 0 0) ∧ wr.frozen? ⟨w.heap.size, 0 + j, none⟩ = false) ∧ Below w.heap.size w wr)
    (fun i _ => 4 - (intOf i).toNat)
  case atStart => exact ⟨0, by omega, rfl, fun j hj => hc4 hj, (Below.refl _ w).alloc (Nat.le_refl _) _⟩
  case round =>
    obtain ⟨k, hk, rfl, hcs, hB⟩ := hrel
    by_cases hlt : k < 4
    · have h1 := (hB.cell (p := ⟨b, off + k, none⟩) hb).trans (hI k hlt)
      have h2' : wr.cell? ⟨w.heap.size, k, none⟩ = some (.slice none 0 0) := by simpa using (hcs k hlt).1
      have h3 : wr.frozen? ⟨w.heap.size, k, none⟩ = false := by simpa using (hcs k hlt).2
      gi_wp2_with (gi_at_call 28; refine (cloneI_in F (n - 1) h2 hro _).mono ?_; rintro e w' ⟨rfl, rfl⟩)
      refine ⟨⟨k + 1, by omega, by simp, fun j hj => ?_, hB.setCell (p := ⟨w.heap.size, k, none⟩) (Nat.le_refl _) _⟩, by simp [intOf]; omega⟩
      refine ⟨?_, by rw [World.frozen?_setCell]; exact (hcs j hj).2⟩
      by_cases hjk : j = k
      · subst hjk
        rw [Nat.zero_add]
        exact World.cell?_setCell_same' _ _ _ (by rw [h2']; rfl)
      · exact (World.cell?_setCell_other (w := w') (a := ⟨w.heap.size, k, none⟩) (b := ⟨w.heap.size, 0 + j, none⟩) (v := .slice none 0 0) (by simp <;> omega)).trans (hcs j hj).1
    · obtain rfl : k = 4 := by omega
      gi_wp2
      go_ret
      exact ⟨_, rfl, Nat.le_refl _, hcs, hB⟩
end Go.Proofs.Ytolnhkpckbgmgaa
end
section
/- Generations: Add of a frame to empty lists. -/
set_option linter.unusedSimpArgs false
set_option linter.unusedVariables false
namespace Go.Proofs.Ytolnhkpckbgmgaa
open Go.RowKit Go.Shelf
attribute [local go_sem] Oper.semAt_some
theorem infoI : (Try.prog.info? 3).map (fun i => (i.zero, i.size, i.bytes)) = some (some (.int .i64 0), 1, 8) := by kernel_rfl
theorem lt_of_cell {W : World} {a : Addr} {v : Value} (h : W.cell? a = some v) : a.block < W.heap.size := by
  rcases Nat.lt_or_ge a.block W.heap.size with h1 | h1
  · exact h1
  · exfalso
    have : W.heap[a.block]? = none := Array.getElem?_eq_none h1
    simp [World.cell?, this] at h
abbrev zs4 : List (List I64) := [[], [], [], []]
theorem rows4 : fromRows zs4 zs4.length = [] := by decide
theorem Nils.rows {w : World} {b off : Nat} (n₀ : Nat) (h : Nils w b off) : RowsAt n₀ w b off zs4 := fun j hj => by
  refine ⟨_, h j hj, none, 0, ?_, fun i hi => ?_⟩
  · obtain rfl | rfl | rfl | rfl : j = 0 ∨ j = 1 ∨ j = 2 ∨ j = 3 := by simp at hj; omega
    all_goals rfl
  · exfalso
    obtain rfl | rfl | rfl | rfl : j = 0 ∨ j = 1 ∨ j = 2 ∨ j = 3 := by simp at hj; omega
    all_goals simp at hi
set_option maxRecDepth 100000 in
set_option maxHeartbeats 2000000 in
theorem Add_in (F : Fence) (n : Nat) (h0 : F.fn 6) (h2 : F.fn 14) (h6 : F.fn 15) (h3 : F.fn 16) (h4 : F.fn 18) (h5 : F.fn 29) (h7 : F.fn 17) (h8 : F.fn 28) (hro : F.round = none) (hn : 6 ≤ n) (b off cap : Nat) (w : World) (hb : b < w.heap.size) (hI : Nils w b off) (f : Int) (hf0 : 0 ≤ f) (hf1 : f < 256) (hfw : (Lit.int .i64 f).wf = true) :
    CallsIn F n Try.prog 6 #[.slice (some ⟨b, off, none⟩) 4 cap, .int .i64 0, .int .i64 f] w fun e W' => ∃ r c cap2, e = .returned (.tuple #[.slice (some ⟨r, 0, none⟩) 4 4, .int .i64 0]) ∧ (w.heap.size ≤ r ∧ r < W'.heap.size) ∧ (w.heap.size ≤ c ∧ c < W'.heap.size) ∧
      W'.cell? ⟨r, 0, none⟩ = some (.slice (some ⟨c, 0, none⟩) 1 cap2) ∧ (∀ j, 0 < j → j < 4 → W'.cell? ⟨r, 0 + j, none⟩ = some (.slice none 0 0)) ∧ W'.cell? ⟨c, 0, none⟩ = some (.int .i64 f) ∧ 1 ≤ cap2 ∧ Below w.heap.size w W' := by
  have hck : CallsIn F (n - 1) Try.prog 14 #[.slice (some ⟨b, off, none⟩) 4 cap] w fun e W' => e = .returned (.int .i64 0) ∧ Below w.heap.size w W' :=
    Check_in F (n - 1) h2 h6 h3 h4 h5 hro (by omega) b off cap zs4 rfl (by simp) (by rw [rows4]; simp) w hb (hI.rows _) (by rw [rows4]; simp) (by rw [rows4]; rfl)
  have hag : ∀ W1 : World, Below w.heap.size w W1 → CallsIn F (n - 1) Try.prog 16 #[.slice (some ⟨b, off, none⟩) 4 cap] W1 fun e W' => e = .returned (.map (some W1.heap.size)) ∧ W'.ownsMap Try.prog 3 (plainElem (H := Unit) Try.prog 3) W1.heap.size 0 (.map []) ∧ Below W1.heap.size W1 W' := fun W1 h => by
    have := ages_in (H := Unit) F (n - 1) h3 h4 h5 hro (by omega) b off cap zs4 (by decide) (by simp) (by rw [rows4]; simp) W1 (Nat.lt_of_lt_of_le hb h.size) ((((hI.rows w.heap.size).below h hb)).mono h.size)
    rw [rows4] at this
    exact this
  have hcl : ∀ W1 : World, Below w.heap.size w W1 → CallsIn F (n - 1) Try.prog 17 #[.slice (some ⟨b, off, none⟩) 4 cap] W1 fun e W' => ∃ r, e = .returned (.slice (some ⟨r, 0, none⟩) 4 4) ∧ W1.heap.size ≤ r ∧ (∀ j, j < 4 → W'.cell? ⟨r, 0 + j, none⟩ = some (.slice none 0 0) ∧ W'.frozen? ⟨r, 0 + j, none⟩ = false) ∧ Below W1.heap.size W1 W' := fun W1 h =>
    clone_in F (n - 1) h7 h8 hro (by omega) b off cap W1 (Nat.lt_of_lt_of_le hb h.size) (fun j hj => (h.cell (p := ⟨b, off + j, none⟩) hb).trans (hI j hj))
  have hn1 : 1 ≤ n := by omega
  obtain ⟨i0, hi, hz0, hz1, hz2⟩ := info_parts infoI
  have hd0 : decide (0 ≤ f) = true := decide_eq_true hf0
  have hd1 : decide (f < 256) = true := decide_eq_true hf1
  refine callsIn_of_wp Try.func6 rfl h0 ?_ hro
  simp only [Try.ntmps6, List.size_toArray, List.length_cons, List.length_nil, Nat.reduceAdd, Nat.reduceSub, Array.replicate_succ, Array.replicate_zero, List.push_toArray, List.append_toArray, List.nil_append, List.cons_append]
  gi_wp2_with (first
    | (gi_at_call 14; refine hck.mono ?_; clear hck; rintro e w1 ⟨rfl, hB1⟩)
    | (gi_at_call 15; refine (isFrame_in F (n - 1) h6 hro f w1).mono ?_; rintro e w1' ⟨rfl, rfl⟩)
    | (gi_at_call 16; refine (hag _ hB1).mono ?_; clear hag; rintro e w2 ⟨rfl, hown, hB2⟩)
    | (gi_at_lookup; refine wpListIn_lookup_own_ok_int _ rfl _ _ 48 rfl 3 3 .i64 (Maps.int_keyed Try.underlying3) Try.underlying48 Try.underlying3 (Try.zeroValue3 _) _ 0 _ rfl hown _ _ rfl (Maps.keyOf_int_mk Try.underlying3 hfw) ?_; intro c' hc' hwc)
    | (gi_at_call 17; refine (hcl _ (hB1.trans (hB2.mono hB1.size))).mono ?_; clear hcl; rintro e w3 ⟨r, rfl, hr, hcs, hB3⟩; have hr0 : w3.cell? ⟨r, 0, none⟩ = some (.slice none 0 0) := (hcs 0 (by omega)).1; have hr1 : w3.frozen? ⟨r, 0, none⟩ = false := (hcs 0 (by omega)).2)
    | (gi_at_builtin; refine wpListIn_append_own _ rfl _ _ 29 rfl (w3.heap.size + 1) 3 i0 (.int .i64 0) 1 8 Try.underlying29 hi hz0 hz1 hz2 rfl (by decide) _ 0 [] rfl (World.ownsRow_nil _ _ _ _) ⟨w3.heap.size, 0, none⟩ 1 1 [.int .i64 f] rfl rfl (cell_one_new _ _ _) (by simp [Value.oneCell']) (by decide) (by decide) (by simp) ?_; intro v' w4 hown4 hgrow _; obtain ⟨c, cap2, rfl⟩ := ownsRow_succ hown4; have hr0' : w4.cell? ⟨r, 0, none⟩ = some (.slice none 0 0) := cell_kept (cell_alloc_c _ hr0) hgrow (fun r e => by cases e); have hr1' : w4.frozen? ⟨r, 0, none⟩ = false := (frozen_kept (cell_alloc_c _ hr0) hgrow (fun r e => by cases e)).trans (frozen_alloc_c _ hr0 hr1)))
  go_ret2
  obtain ⟨_, ⟨_, h0⟩ | ⟨g, cap3, cur, e1, hg, hcur, hle, _, hcs3, htk⟩⟩ := hown4
  · omega
  injection e1 with e1 _ e2
  injection e1 with e1
  injection e1 with e1
  subst e1 e2
  have hsz : w.heap.size ≤ w1'.heap.size := hB1.size
  have hsz2 := hB2.size
  have hsz3 := hB3.size
  have hrl := lt_of_cell hr0
  have hc4 : w4.cell? ⟨c, 0, none⟩ = some (.int .i64 f) := by
    have h1 : cur.toList[0]? = some (.int .i64 f) := by
      have := congrArg (fun l => l[0]?) htk
      simpa using this
    simp [World.cell?, hcur]
    simpa using h1
  have hB4 : Below w.heap.size w w4 := by
    have h3 := hB1.trans ((hB2.mono hB1.size).trans (hB3.mono (by omega)))
    have h4 := h3.trans ((Below.refl w.heap.size w3).alloc h3.size (.cells #[.int .i64 f] 3))
    exact h4.grown hgrow h4.size (fun k e => by cases e)
  refine ⟨r, c, cap2, rfl, ⟨by omega, ?_⟩, ⟨by omega, ?_⟩, World.cell?_setCell_same' _ _ _ (by rw [hr0']; rfl), fun j h0 hj => ?_, ?_, by omega, hB4.setCell (p := ⟨r, 0, none⟩) (by show w.heap.size ≤ r; omega) _⟩
  · rw [World.size_setCell]; exact lt_of_cell hr0'
  · rw [World.size_setCell]; exact lt_of_cell hc4
  · refine (World.cell?_setCell_other (w := w4) (a := ⟨r, 0, none⟩) (b := ⟨r, 0 + j, none⟩) (v := _) (fun h => by have := congrArg Addr.off h; simp at this; omega)).trans ?_
    exact cell_kept (cell_alloc_c _ (hcs j hj).1) hgrow (fun r e => by cases e)
  · refine (World.cell?_setCell_far w4 ⟨r, 0, none⟩ ⟨c, 0, none⟩ _ (by show r ≠ c; simp at hrl; omega)).trans hc4
end Go.Proofs.Ytolnhkpckbgmgaa
end
section
/- Generations: contracts for the example's two calls. -/
set_option linter.unusedSimpArgs false
set_option linter.unusedVariables false
namespace Go.Proofs.Ytolnhkpckbgmgaa
open Go.AM Go.RowKit
theorem RP.nil_inv {w : World} {p : Nat → Prop} {v : Value} (h : RP w p v .nil) : v = .slice none 0 0 := by cases h; rfl
theorem RP.int_inv {w : World} {p : Nat → Prop} {v : Value} {k : IntKind} {n : Int} (h : RP w p v (.int k n)) : v = .int k n := by cases h; rfl
theorem sameO_below {B : Nat} {w w' : World} (h : Below B w w') : SameO w w' := ⟨h.os, h.tape, h.output⟩
theorem nils_of {w : World} {p : Nat → Prop} {v : Value} (h : RP w p v (.vs 1 [.nil, .nil, .nil, .nil] 4)) : ∃ b off cap, v = .slice (some ⟨b, off, none⟩) 4 cap ∧ p b ∧ Nils w b off := by
  cases h with
  | vs b off cap sz len cells cs hl hc hb hcs ho hm hr =>
    refine ⟨b, off, cap, rfl, hb, fun j hj => ?_⟩
    have hcl : cs.length = 4 := hcs
    have hjc : j < cs.length := by omega
    have h1 := hm j _ (List.getElem?_eq_getElem hjc)
    rw [h1]
    have h2 : ([.nil, .nil, .nil, .nil] : List D)[j]? = some .nil := by
      obtain rfl | rfl | rfl | rfl : j = 0 ∨ j = 1 ∨ j = 2 ∨ j = 3 := by omega
      all_goals rfl
    rw [RP.nil_inv (hr j _ _ (List.getElem?_eq_getElem hjc) h2)]
theorem RP.one {w : World} {p : Nat → Prop} {b cap : Nat} {v : Value} {d : D} (hb : p b) (hc : 1 ≤ cap) (hm : w.cell? ⟨b, 0, none⟩ = some v) (ho : v.oneCell' = true) (hr : RP w p v d) : RP w p (.slice (some ⟨b, 0, none⟩) 1 cap) (.vs 1 [d] 1) := by
  refine .vs b 0 cap 1 1 [d] [v] rfl hc hb rfl (by simpa using ho) ?_ ?_
  · intro i u hu
    obtain rfl : i = 0 := by cases i with
      | zero => rfl
      | succ i => simp at hu
    simp at hu; subst hu; exact hm
  · intro i u e hu he
    obtain rfl : i = 0 := by cases i with
      | zero => rfl
      | succ i => simp at hu
    simp at hu he; subst hu he; exact hr
theorem add_p : PCon Try.prog 6 [.vs 1 [.nil, .nil, .nil, .nil] 4, .int .i64 0, .int .i64 7] (.tup [.vs 1 [.vs 1 [.int .i64 7] 1, .nil, .nil, .nil] 4, .int .i64 0]) := by
  refine ⟨A6k, fun w args hA => ?_⟩
  obtain ⟨args⟩ := args
  match args, hA.1 with
  | [v1, v2, v3], _ =>
    obtain ⟨b, off, cap, rfl, hb, hn⟩ := nils_of (hA.2 0 v1 _ rfl rfl)
    obtain rfl := RP.int_inv (hA.2 1 v2 _ rfl rfl)
    obtain rfl := RP.int_inv (hA.2 2 v3 _ rfl rfl)
    have h := Add_in Fence.wide 6 trivial trivial trivial trivial trivial trivial trivial trivial rfl (by omega) b off cap w hb hn 7 (by decide) (by decide) (by decide)
    refine (callsIn_wide.1 h).mono ?_
    rintro e w' ⟨r, c, cap2, rfl, hr, hc, hc0, hcj, hcc, hcap, hB⟩
    refine ⟨_, rfl, fun b hb => hB.block b hb, hB.size, sameO_below hB, none, by simp, by simp [nOw, isOw], _, rfl, ?_⟩
    refine ⟨rfl, fun i v d hv hd => ?_⟩
    obtain rfl | rfl : i = 0 ∨ i = 1 := by
      have : i < 2 := by
        rcases Nat.lt_or_ge i 2 with h | h
        · exact h
        · simp [List.getElem?_eq_none (show ([_, _] : List D).length ≤ i from h)] at hd
      omega
    · simp at hv hd
      subst hv hd
      show RP w' _ _ _
      refine .vs r 0 4 1 4 [.vs 1 [.int .i64 7] 1, .nil, .nil, .nil] [.slice (some ⟨c, 0, none⟩) 1 cap2, .slice none 0 0, .slice none 0 0, .slice none 0 0] rfl (Nat.le_refl _) ⟨hr.1, hr.2, by simp⟩ rfl (by simp [Value.oneCell']) ?_ ?_
      · intro i u hu
        obtain rfl | rfl | rfl | rfl : i = 0 ∨ i = 1 ∨ i = 2 ∨ i = 3 := by
          have : i < 4 := by
            rcases Nat.lt_or_ge i 4 with h | h
            · exact h
            · simp [List.getElem?_eq_none (show ([_, _, _, _] : List Value).length ≤ i from h)] at hu
          omega
        all_goals simp at hu; subst hu
        · exact hc0
        · exact hcj 1 (by omega) (by omega)
        · exact hcj 2 (by omega) (by omega)
        · exact hcj 3 (by omega) (by omega)
      · intro i u d hu hd
        obtain rfl | rfl | rfl | rfl : i = 0 ∨ i = 1 ∨ i = 2 ∨ i = 3 := by
          have : i < 4 := by
            rcases Nat.lt_or_ge i 4 with h | h
            · exact h
            · simp [List.getElem?_eq_none (show ([_, _, _, _] : List Value).length ≤ i from h)] at hu
          omega
        all_goals simp at hu hd; subst hu hd
        · exact RP.one ⟨hc.1, hc.2, by simp⟩ hcap hcc (by simp [Value.oneCell']) (.int _ _)
        · exact .nil
        · exact .nil
        · exact .nil
    · simp at hv hd
      subst hv hd
      exact .int _ _
end Go.Proofs.Ytolnhkpckbgmgaa
end
section
/- Generations: Where's contract; New's; the example awake20. -/
set_option linter.unusedSimpArgs false
set_option linter.unusedVariables false
namespace Go.Proofs.Ytolnhkpckbgmgaa
open Go.AM Go.RowKit
def seven : I64 := ⟨7, by decide⟩
abbrev zs7 : List (List I64) := [[seven], [], [], []]
theorem rows7 : fromRows zs7 zs7.length = [(k64 0, seven)] := by decide
theorem sevens_of {w : World} {n₀ : Nat} {v : Value} (h : RP w (below n₀) v (.vs 1 [.vs 1 [.int .i64 7] 1, .nil, .nil, .nil] 4)) : ∃ b off cap, v = .slice (some ⟨b, off, none⟩) 4 cap ∧ b < n₀ ∧ RowsAt n₀ w b off zs7 := by
  cases h with
  | vs b off cap sz len cells cs hl hc hb hcs ho hm hr =>
    refine ⟨b, off, cap, rfl, hb, fun j hj => ?_⟩
    have hcl : cs.length = 4 := hcs
    have hj4 : j < 4 := hj
    have hjc : j < cs.length := by omega
    have h1 := hm j _ (List.getElem?_eq_getElem hjc)
    refine ⟨_, h1, ?_⟩
    have hg := List.getElem?_eq_getElem hjc
    obtain rfl | rfl | rfl | rfl : j = 0 ∨ j = 1 ∨ j = 2 ∨ j = 3 := by omega
    · have h2 := hr 0 _ (.vs 1 [.int .i64 7] 1) hg rfl
      generalize cs[0] = u at h2
      cases h2 with
      | vs b2 off2 cap2 sz len cells cs2 hl2 hc2 hb2 hcs2 ho2 hm2 hr2 =>
        refine ⟨some ⟨b2, off2, none⟩, cap2, rfl, fun i hi => ?_⟩
        obtain rfl : i = 0 := by simp at hi; omega
        have hl3 : 0 < cs2.length := by rw [hcs2]; simp
        have h3 := hm2 0 _ (List.getElem?_eq_getElem hl3)
        refine ⟨b2, off2, rfl, hb2, ?_⟩
        rw [h3, RP.int_inv (hr2 0 _ (.int .i64 7) (List.getElem?_eq_getElem hl3) rfl)]
        rfl
    · have h2 := RP.nil_inv (hr 1 _ .nil hg rfl)
      rw [h2]
      exact ⟨none, 0, rfl, fun i hi => by simp at hi⟩
    · have h2 := RP.nil_inv (hr 2 _ .nil hg rfl)
      rw [h2]
      exact ⟨none, 0, rfl, fun i hi => by simp at hi⟩
    · have h2 := RP.nil_inv (hr 3 _ .nil hg rfl)
      rw [h2]
      exact ⟨none, 0, rfl, fun i hi => by simp at hi⟩
theorem where_p : PCon Try.prog 12 [.vs 1 [.vs 1 [.int .i64 7] 1, .nil, .nil, .nil] 4, .int .i64 7] (.int .i64 0) := by
  refine ⟨A12k, fun w args hA => ?_⟩
  obtain ⟨args⟩ := args
  match args, hA.1 with
  | [v1, v2], _ =>
    obtain ⟨b, off, cap, rfl, hb, hn⟩ := sevens_of (hA.2 0 v1 _ rfl rfl)
    obtain rfl := RP.int_inv (hA.2 1 v2 _ rfl rfl)
    have h := Where_in Fence.wide 6 trivial trivial trivial trivial trivial trivial rfl (by omega) b off cap zs7 rfl (by simp) (by rw [rows7]; decide) w hb hn (by rw [rows7]; intro x hx; simp at hx; subst hx; exact ⟨by decide, by decide⟩) (by rw [rows7]; rfl) 7 (by decide) 0 (by rw [rows7]; rfl) (by rw [rows7]; rfl)
    refine (callsIn_wide.1 h).mono ?_
    rintro e w' ⟨rfl, hB⟩
    exact ⟨_, rfl, fun b hb => hB.block b hb, hB.size, sameO_below hB, none, by simp, .int _ _⟩
theorem new_p : PCon Try.prog 5 [] (.ow 1 [.nil, .nil, .nil, .nil] 4) := by
  refine A5p (by simp [A5]) ?_
  simp only [A5, argEnv]
  repeat' (first | (with_reducible first | refine W_seq ?_ | refine then_n ?_ | refine W_skip ?_ | refine W_ret ?_ | refine then_r ?_) | ((with_reducible refine s_reg ?_); intro K hK) | ((with_reducible refine k_nil ?_); (with_reducible apply s_nil hK); (· exact nmX); clear hK; clear K) | ((with_reducible refine k_guard ?_); (first | (refine s_gt rfl ?_) | (refine s_gf1 rfl ?_) | (refine s_gfn rfl ?_) | (refine s_gx1 rfl ?_) | (refine s_gxn rfl ?_) | (refine s_gs rfl ?_))) | ((with_reducible refine k_mv ?_); (refine s_mv rfl ?_)) | ((with_reducible refine k_mkslice (dst := some 1) ?_); ((with_reducible apply s_mkslice); (· rfl); (· rfl); (· (exact ⟨rfl, by decide, by omega, by omega, by (rw [room_i]; omega), by omega⟩)); (· ((first | exact nuI | exact nuN))); intro k1 hk1; (try simp only [upd_none] at hk1))) | ((with_reducible refine k_br ?_); (first | (with_reducible first | refine Br_dec ?_ | refine Br_not ?_ | refine Br_eqF ?_ | refine Br_and ?_ | refine Br_or ?_ | refine Br_neg ?_ | refine Br_band ?_ | refine Br_bor ?_ | refine Br_beq ?_) | (refine Br_t (by first | with_reducible rfl | omega | assumption | rfl) ?_) | (refine Br_f (by first | omega | assumption | decide) ?_) | (with_reducible apply Br_sb <;> intro hbr <;> (first | subst hbr | simp only [hbr] | skip)) | (with_reducible apply Br_s <;> intro hbr))) | (with_reducible refine WN_succ ?_) | ((first | (with_reducible apply q_eqI) | (with_reducible apply q_eqN)); (first | exact nuI | exact nuN)) | ((first | (with_reducible apply q_eqL) | (with_reducible apply q_eqO)); (first | exact liL | exact liO)))
  all_goals first | exact Fin_flat trivial rfl rfl | (refine Fin_tup trivial rfl ?_ (Nat.le_of_ble_eq_true rfl); (repeat (first | exact All2.nil | (apply All2.cons; (· first | exact exc_n | exact exc_e | exact exc_v rfl rfl | exact exc_o upd_self rfl rfl)))); done) | (refine Fin_own trivial rfl upd_self ?_ (Nat.le_of_ble_eq_true rfl); (repeat (first | exact All2.nil | (apply All2.cons; (· first | exact exc_n | exact exc_e | exact exc_v rfl rfl | exact exc_o upd_self rfl rfl)))); done) | exact Fin_nil trivial rfl | exact Fin_sl trivial rfl upd_self rfl rfl
end Go.Proofs.Ytolnhkpckbgmgaa
end
