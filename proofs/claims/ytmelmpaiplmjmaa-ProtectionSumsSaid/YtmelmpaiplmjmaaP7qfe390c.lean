/- Protection: contracts of the reference's functions, second part. -/
import Derived.Test.YtmelmpaiplmjmaaP6q9ad148
set_option linter.unusedSimpArgs false
set_option linter.unusedVariables false
namespace Go.Proofs.Ytmelmpaiplmjmaa
open Go.AM Classical
set_option maxRecDepth 100000
set_option maxHeartbeats 4000000
theorem rovercommit_c (l : List Acct) (hL : l.length ≤ 9223372036854775807) (fr : Int) : PCon Try.prog 19 [accs l, .int .i64 fr] (.tup [.int .i64 (ovrF l fr).1, .int .i64 (ovrF l fr).2]) := by
  have c1 := rcheck_c l hL
  refine A19p (by simp [A19]) ?_
  simp only [A19, argEnv]
  unfold ovrF
  by_cases h : chkF l = 0
  · rw [h] at c1
    rw [if_pos h]
    by_cases hf : inR fr
    · rw [if_pos hf]
      unfold inR at hf
      obtain ⟨hl, ht, ha, _⟩ := chk_ok h
      have hal := accs_len l
      repeat' (first
        | (with_reducible first | refine W_seq ?_ | refine then_n ?_ | refine W_block ?_ | refine blk_n ?_ | refine blk_r ?_ | refine blk_e ?_ | refine W_skip ?_ | refine W_ret ?_ | refine then_r ?_ | refine W_exit ?_ | refine then_e ?_)
        | (refine blk_j (by decide) ?_)
        | ((with_reducible refine s_reg ?_); intro K hK)
        | ((with_reducible refine k_nil ?_); (with_reducible apply s_nil hK); (· (repeat (first | exact norm_nil | ((with_reducible apply norm_cons); (· rfl)) | ((with_reducible apply norm_skip); (· rfl))))); clear hK; clear K)
        | ((with_reducible refine k_cond ?_); (first | ((with_reducible apply s_condT); (· rfl); (· (repeat (first | exact norm_nil | ((with_reducible apply norm_cons); (· rfl)) | ((with_reducible apply norm_skip); (· rfl)))))) | ((with_reducible apply s_condF); (· rfl); (· (repeat (first | exact norm_nil | ((with_reducible apply norm_cons); (· rfl)) | ((with_reducible apply norm_skip); (· rfl)))))) | ((with_reducible apply s_condS); (· rfl); (· (repeat (first | exact norm_nil | ((with_reducible apply norm_cons); (· rfl)) | ((with_reducible apply norm_skip); (· rfl))))); (· (repeat (first | exact norm_nil | ((with_reducible apply norm_cons); (· rfl)) | ((with_reducible apply norm_skip); (· rfl))))))))
        | ((with_reducible refine k_guard ?_); (first | (refine s_gt rfl ?_) | (refine s_gf1 rfl ?_) | (refine s_gfn rfl ?_) | (refine s_gx1 rfl ?_) | (refine s_gxn rfl ?_) | (refine s_gs rfl ?_)))
        | ((with_reducible refine k_mv ?_); (refine s_mv rfl ?_))
        | ((with_reducible refine k_pick ?_); (first | (refine s_pickT rfl rfl ?_) | (refine s_pickF rfl rfl ?_)))
        | ((with_reducible refine k_neq ?_); (first | (refine s_neq rfl rfl ?_) | (refine s_strNe rfl rfl ?_)))
        | ((with_reducible refine k_lss ?_); (refine s_lss rfl rfl ?_))
        | ((with_reducible refine k_gtr ?_); (refine s_gtr rfl rfl ?_))
        | ((with_reducible refine k_callF ?_); (first | ((with_reducible apply s_call1); (· rfl)) | ((with_reducible apply s_calln); (· rfl))))
        | ((with_reducible refine k_con ?_); (first | ((with_reducible apply con_val (c1)); (· (repeat (first | exact All2.nil | (apply All2.cons; (· first | exact Rd_int | exact Rd_bool | exact Rd_vs | exact Rd_nil | exact Rd_emp | exact Rd_vp | exact Rd_sl0 upd_self rfl rfl | exact Rd_fn0 | exact Rd_flat rfl | ((apply Rd_sl0); (· (first | exact upd_self | rfl | assumption | (simp (disch := omega) only [upd_self, upd_ne]; first | done | rfl | assumption))); (· first | rfl | exact scal_i | exact scal_b | assumption); (· first | rfl | assumption | (simp; done) | (simp; omega))) | ((apply Rd_so); (· first | assumption | ((repeat' (first | assumption | (with_reducible apply SlOwn.upd) | (simp only [upd_none]; assumption))); done)); (· first | rfl | exact scal_i | exact scal_b | assumption))))))); (· rfl); (· exact fun _ => rfl))))
        | ((with_reducible refine k_br ?_); (first | (with_reducible first | refine Br_dec ?_ | refine Br_not ?_ | refine Br_eqF ?_ | refine Br_and ?_ | refine Br_or ?_ | refine Br_neg ?_ | refine Br_band ?_ | refine Br_bor ?_ | refine Br_beq ?_) | (refine Br_t (by first | omega | assumption | rfl) ?_) | (refine Br_f (by first | omega | assumption | decide) ?_) | (with_reducible apply Br_sb <;> intro hbr <;> (first | subst hbr | simp only [hbr] | skip)) | (with_reducible apply Br_s <;> intro hbr)))
        | (with_reducible refine WN_succ ?_)
        | ((first | (with_reducible apply q_eqI) | (with_reducible apply q_eqN)); (first | (simp (disch := omega) only [w64, wu8, wu16, wu32, wu64, tm_nn, td_nn, fd_nn, Int.reduceAdd, Int.reduceSub, Int.reduceMul, Int.reduceDiv, Int.reduceMod, Int.reduceNeg, Int.reduceToNat, Int.toNat_natCast, Int.toNat_zero, Int.zero_add, Int.add_zero, Int.one_mul, Int.reducePow, Nat.mul_one, Nat.zero_add, Nat.add_zero, Nat.zero_mul, Nat.reduceAdd, Nat.reduceMul, Nat.reduceSub, Nat.min_eq_left, IntKind.bits, Nat.sub_zero]; try rfl; done) | rfl))
        | ((first | (with_reducible apply q_eqL) | (with_reducible apply q_eqO)); (first | (simp (disch := omega) only [upd_self, upd_ne, upd_upd, rep, splice, List.take_succ_cons, List.take_zero, List.drop_succ_cons, List.drop_zero, List.cons_append, List.nil_append, List.append_nil, List.length_cons, List.length_nil, List.reduceReplicate, List.flatten_cons, List.flatten_nil, Nat.reduceAdd, Nat.reduceMul, Nat.reduceSub, Nat.zero_add, Nat.add_zero, List.getElem?_cons_zero, List.getElem?_cons_succ]; try rfl; done) | rfl)))
      all_goals first | (exfalso; omega) | skip
      refine W_for l.length (fun i st => (∀ j, j < i → ¬ ovrP l fr j) ∧ st = ⟨[(0, accs l), (1, .int .i64 fr), (7, .int .i64 i)], fun _ => none⟩) ⟨fun j h => by omega, rfl⟩ ?_ ?_
      · rintro i e' h' hi ⟨hj, he⟩
        cases he
        repeat' (first
          | (with_reducible first | refine W_seq ?_ | refine then_n ?_ | refine W_block ?_ | refine blk_n ?_ | refine blk_r ?_ | refine blk_e ?_ | refine W_skip ?_ | refine W_ret ?_ | refine then_r ?_ | refine W_exit ?_ | refine then_e ?_)
          | (refine blk_j (by decide) ?_)
          | ((with_reducible refine s_reg ?_); intro K hK)
          | ((with_reducible refine k_nil ?_); (with_reducible apply s_nil hK); (· (repeat (first | exact norm_nil | ((with_reducible apply norm_cons); (· rfl)) | ((with_reducible apply norm_skip); (· rfl))))); clear hK; clear K)
          | ((with_reducible refine k_cond ?_); (first | ((with_reducible apply s_condT); (· rfl); (· (repeat (first | exact norm_nil | ((with_reducible apply norm_cons); (· rfl)) | ((with_reducible apply norm_skip); (· rfl)))))) | ((with_reducible apply s_condF); (· rfl); (· (repeat (first | exact norm_nil | ((with_reducible apply norm_cons); (· rfl)) | ((with_reducible apply norm_skip); (· rfl)))))) | ((with_reducible apply s_condS); (· rfl); (· (repeat (first | exact norm_nil | ((with_reducible apply norm_cons); (· rfl)) | ((with_reducible apply norm_skip); (· rfl))))); (· (repeat (first | exact norm_nil | ((with_reducible apply norm_cons); (· rfl)) | ((with_reducible apply norm_skip); (· rfl))))))))
          | ((with_reducible refine k_guard ?_); (first | (refine s_gt rfl ?_) | (refine s_gf1 rfl ?_) | (refine s_gfn rfl ?_) | (refine s_gx1 rfl ?_) | (refine s_gxn rfl ?_) | (refine s_gs rfl ?_)))
          | ((with_reducible refine k_mv ?_); (refine s_mv rfl ?_))
          | ((with_reducible refine k_len ?_); (first | (refine s_len rfl rfl ?_) | ((with_reducible apply s_len); (· rfl); (· exact SlOwn.len (by assumption)))))
          | ((with_reducible refine k_lss ?_); (refine s_lss rfl rfl ?_))
          | ((with_reducible refine k_add ?_); ((with_reducible apply s_add); (· rfl); (· rfl)))
          | ((with_reducible refine k_br ?_); (first | (with_reducible first | refine Br_dec ?_ | refine Br_not ?_ | refine Br_eqF ?_ | refine Br_and ?_ | refine Br_or ?_ | refine Br_neg ?_ | refine Br_band ?_ | refine Br_bor ?_ | refine Br_beq ?_) | (refine Br_t (by first | omega | assumption | rfl) ?_) | (refine Br_f (by first | omega | assumption | decide) ?_) | (with_reducible apply Br_sb <;> intro hbr <;> (first | subst hbr | simp only [hbr] | skip)) | (with_reducible apply Br_s <;> intro hbr)))
          | (with_reducible refine WN_succ ?_)
          | ((first | (with_reducible apply q_eqI) | (with_reducible apply q_eqN)); (first | (simp (disch := omega) only [w64, wu8, wu16, wu32, wu64, tm_nn, td_nn, fd_nn, Int.reduceAdd, Int.reduceSub, Int.reduceMul, Int.reduceDiv, Int.reduceMod, Int.reduceNeg, Int.reduceToNat, Int.toNat_natCast, Int.toNat_zero, Int.zero_add, Int.add_zero, Int.one_mul, Int.reducePow, Nat.mul_one, Nat.zero_add, Nat.add_zero, Nat.zero_mul, Nat.reduceAdd, Nat.reduceMul, Nat.reduceSub, Nat.min_eq_left, IntKind.bits, Nat.sub_zero]; try rfl; done) | rfl))
          | ((first | (with_reducible apply q_eqL) | (with_reducible apply q_eqO)); (first | (simp (disch := omega) only [upd_self, upd_ne, upd_upd, rep, splice, List.take_succ_cons, List.take_zero, List.drop_succ_cons, List.drop_zero, List.cons_append, List.nil_append, List.append_nil, List.length_cons, List.length_nil, List.reduceReplicate, List.flatten_cons, List.flatten_nil, Nat.reduceAdd, Nat.reduceMul, Nat.reduceSub, Nat.zero_add, Nat.add_zero, List.getElem?_cons_zero, List.getElem?_cons_succ]; try rfl; done) | rfl)))
        all_goals first | (exfalso; omega) | skip
        refine W_for (l.length - (i + 1)) (fun m st => st = ⟨[(0, accs l), (1, .int .i64 fr), (7, .int .i64 i), (8, .int .i64 (kT l (mn l) i (i + 1 + m))), (9, .int .i64 ((i + 1 + m : Nat) : Int))], fun _ => none⟩) (by rw [Nat.add_zero, kT_zero ht (Nat.le_refl _) (by omega)]; rfl) ?_ ?_
        · rintro m e' h' hm he
          cases he
          have hc : i + 1 + m < l.length := by omega
          have g0 : (l.flatMap Acct.cells)[(i + 1 + m) * 5]? = some (.int .i64 (pa l (i + 1 + m))) := by rw [ac0 hc, pa_at hc]
          have g2 : (l.flatMap Acct.cells)[(i + 1 + m) * 5 + 2]? = some (.int .i64 (mn l (i + 1 + m))) := by rw [ac2 hc, mn_at hc]
          have hb := kT_in (l := l) (f := mn l) (b := 1048576) (mn_in ha.1) (i : Int) (i + 1 + m)
          have hm2 := mn_in ha.1 (i + 1 + m)
          have hs : kT l (mn l) i (i + 1 + (m + 1)) = kT l (mn l) i (i + 1 + m) + (if 0 < i + 1 + m ∧ pa l (i + 1 + m) = i then mn l (i + 1 + m) else 0) := kT_s _ _ _ _
          have hy : pa l (i + 1 + m) = i → kT l (mn l) i (i + 1 + (m + 1)) = kT l (mn l) i (i + 1 + m) + mn l (i + 1 + m) := fun h => by rw [hs, if_pos ⟨by omega, h⟩]
          have hn : pa l (i + 1 + m) ≠ i → kT l (mn l) i (i + 1 + (m + 1)) = kT l (mn l) i (i + 1 + m) := fun h => by rw [hs, if_neg (fun h2 => h h2.2), Int.add_zero]
          clear hs
          generalize kT l (mn l) i (i + 1 + m) = T at *
          generalize kT l (mn l) i (i + 1 + (m + 1)) = T' at *
          repeat' (first
            | (with_reducible first | refine W_seq ?_ | refine then_n ?_ | refine W_block ?_ | refine blk_n ?_ | refine blk_r ?_ | refine blk_e ?_ | refine W_skip ?_ | refine W_ret ?_ | refine then_r ?_ | refine W_exit ?_ | refine then_e ?_)
            | (refine blk_j (by decide) ?_)
            | ((with_reducible refine s_reg ?_); intro K hK)
            | ((with_reducible refine k_nil ?_); (with_reducible apply s_nil hK); (· (repeat (first | exact norm_nil | ((with_reducible apply norm_cons); (· rfl)) | ((with_reducible apply norm_skip); (· rfl))))); clear hK; clear K)
            | ((with_reducible refine k_cond ?_); (first | ((with_reducible apply s_condT); (· rfl); (· (repeat (first | exact norm_nil | ((with_reducible apply norm_cons); (· rfl)) | ((with_reducible apply norm_skip); (· rfl)))))) | ((with_reducible apply s_condF); (· rfl); (· (repeat (first | exact norm_nil | ((with_reducible apply norm_cons); (· rfl)) | ((with_reducible apply norm_skip); (· rfl)))))) | ((with_reducible apply s_condS); (· rfl); (· (repeat (first | exact norm_nil | ((with_reducible apply norm_cons); (· rfl)) | ((with_reducible apply norm_skip); (· rfl))))); (· (repeat (first | exact norm_nil | ((with_reducible apply norm_cons); (· rfl)) | ((with_reducible apply norm_skip); (· rfl))))))))
            | ((with_reducible refine k_guard ?_); (first | (refine s_gt rfl ?_) | (refine s_gf1 rfl ?_) | (refine s_gfn rfl ?_) | (refine s_gx1 rfl ?_) | (refine s_gxn rfl ?_) | (refine s_gs rfl ?_)))
            | ((with_reducible refine k_mv ?_); (refine s_mv rfl ?_))
            | ((with_reducible refine k_len ?_); (first | (refine s_len rfl rfl ?_) | ((with_reducible apply s_len); (· rfl); (· exact SlOwn.len (by assumption)))))
            | ((with_reducible refine k_eql ?_); (first | (refine s_eql rfl rfl ?_) | (refine s_strEq rfl rfl ?_)))
            | ((with_reducible refine k_lss ?_); (refine s_lss rfl rfl ?_))
            | ((with_reducible refine k_iaddr ?_); (first | ((with_reducible apply s_iaddrV); (· rfl); (· rfl); (· (first | omega | exact ⟨rfl, by omega⟩ | skip))) | ((with_reducible apply s_iaddrO); (· rfl); (· rfl); (· (first | omega | exact ⟨rfl, by omega⟩ | skip)); (· (first | exact upd_self | rfl | assumption | (simp (disch := omega) only [upd_self, upd_ne]; first | done | rfl | assumption)))) | ((with_reducible apply s_iaddrSO); (· rfl); (· assumption); (· rfl); (· (first | omega | exact ⟨rfl, by omega⟩ | skip)); (· (first | (simp (disch := omega) only [w64, wu8, wu16, wu32, wu64, tm_nn, td_nn, fd_nn, Int.reduceAdd, Int.reduceSub, Int.reduceMul, Int.reduceDiv, Int.reduceMod, Int.reduceNeg, Int.reduceToNat, Int.toNat_natCast, Int.toNat_zero, Int.zero_add, Int.add_zero, Int.one_mul, Int.reducePow, Nat.mul_one, Nat.zero_add, Nat.add_zero, Nat.zero_mul, Nat.reduceAdd, Nat.reduceMul, Nat.reduceSub, Nat.min_eq_left, IntKind.bits, Nat.sub_zero, g0, g2]; try rfl; done) | rfl)); intro ks hks)))
            | ((with_reducible refine k_load ?_); (first | ((with_reducible apply s_loadV); (· rfl)) | ((with_reducible apply s_loadP); (· rfl); (· (first | exact upd_self | rfl | assumption | (simp (disch := omega) only [upd_self, upd_ne]; first | done | rfl | assumption))))))
            | ((with_reducible refine k_add ?_); ((with_reducible apply s_add); (· rfl); (· rfl)))
            | ((with_reducible refine k_faddr ?_); (first | ((with_reducible apply s_faddrV); (· rfl); (· rfl)) | ((with_reducible apply s_faddrP); (· rfl); (· rfl))))
            | ((with_reducible refine k_br ?_); (first | (with_reducible first | refine Br_dec ?_ | refine Br_not ?_ | refine Br_eqF ?_ | refine Br_and ?_ | refine Br_or ?_ | refine Br_neg ?_ | refine Br_band ?_ | refine Br_bor ?_ | refine Br_beq ?_) | (refine Br_t (by first | omega | assumption | rfl) ?_) | (refine Br_f (by first | omega | assumption | decide) ?_) | (with_reducible apply Br_sb <;> intro hbr <;> (first | subst hbr | simp only [hbr] | skip)) | (with_reducible apply Br_s <;> intro hbr)))
            | (with_reducible refine WN_succ ?_)
            | ((first | (with_reducible apply q_eqI) | (with_reducible apply q_eqN)); (first | (simp (disch := omega) only [w64, wu8, wu16, wu32, wu64, tm_nn, td_nn, fd_nn, Int.reduceAdd, Int.reduceSub, Int.reduceMul, Int.reduceDiv, Int.reduceMod, Int.reduceNeg, Int.reduceToNat, Int.toNat_natCast, Int.toNat_zero, Int.zero_add, Int.add_zero, Int.one_mul, Int.reducePow, Nat.mul_one, Nat.zero_add, Nat.add_zero, Nat.zero_mul, Nat.reduceAdd, Nat.reduceMul, Nat.reduceSub, Nat.min_eq_left, IntKind.bits, Nat.sub_zero, g0, g2]; try rfl; done) | rfl))
            | ((first | (with_reducible apply q_eqL) | (with_reducible apply q_eqO)); (first | (simp (disch := omega) only [upd_self, upd_ne, upd_upd, rep, splice, List.take_succ_cons, List.take_zero, List.drop_succ_cons, List.drop_zero, List.cons_append, List.nil_append, List.append_nil, List.length_cons, List.length_nil, List.reduceReplicate, List.flatten_cons, List.flatten_nil, Nat.reduceAdd, Nat.reduceMul, Nat.reduceSub, Nat.zero_add, Nat.add_zero, List.getElem?_cons_zero, List.getElem?_cons_succ, g0, g2]; try rfl; done) | rfl)))
          all_goals first
            | (exfalso; omega)
            | (rw [hy (by assumption)]; rfl)
            | (rw [hn (by assumption)]; rfl)
        · rintro e' h' he
          cases he
          rw [show i + 1 + (l.length - (i + 1)) = l.length by omega]
          have g2 : (l.flatMap Acct.cells)[i * 5 + 2]? = some (.int .i64 (mn l i)) := by rw [ac2 hi, mn_at hi]
          have hat : ovrP l fr i → firstI (fun a => decide (ovrP l fr a)) (List.range l.length) = i := fun ho => firstI_at (by simpa using hi) (by simpa using ho) (fun j hj2 => by simpa using hj j hj2)
          have hif : i = 0 → (ovrP l fr i ↔ fr < kT l (mn l) i l.length) := fun h => by unfold ovrP; rw [if_pos h]
          have hin : i ≠ 0 → (ovrP l fr i ↔ mn l i < kT l (mn l) i l.length) := fun h => by unfold ovrP; rw [if_neg h]
          repeat' (first
            | (with_reducible first | refine W_seq ?_ | refine then_n ?_ | refine W_block ?_ | refine blk_n ?_ | refine blk_r ?_ | refine blk_e ?_ | refine W_skip ?_ | refine W_ret ?_ | refine then_r ?_ | refine W_exit ?_ | refine then_e ?_)
            | (refine blk_j (by decide) ?_)
            | ((with_reducible refine s_reg ?_); intro K hK)
            | ((with_reducible refine k_nil ?_); (with_reducible apply s_nil hK); (· (repeat (first | exact norm_nil | ((with_reducible apply norm_cons); (· rfl)) | ((with_reducible apply norm_skip); (· rfl))))); clear hK; clear K)
            | ((with_reducible refine k_cond ?_); (first | ((with_reducible apply s_condT); (· rfl); (· (repeat (first | exact norm_nil | ((with_reducible apply norm_cons); (· rfl)) | ((with_reducible apply norm_skip); (· rfl)))))) | ((with_reducible apply s_condF); (· rfl); (· (repeat (first | exact norm_nil | ((with_reducible apply norm_cons); (· rfl)) | ((with_reducible apply norm_skip); (· rfl)))))) | ((with_reducible apply s_condS); (· rfl); (· (repeat (first | exact norm_nil | ((with_reducible apply norm_cons); (· rfl)) | ((with_reducible apply norm_skip); (· rfl))))); (· (repeat (first | exact norm_nil | ((with_reducible apply norm_cons); (· rfl)) | ((with_reducible apply norm_skip); (· rfl))))))))
            | ((with_reducible refine k_guard ?_); (first | (refine s_gt rfl ?_) | (refine s_gf1 rfl ?_) | (refine s_gfn rfl ?_) | (refine s_gx1 rfl ?_) | (refine s_gxn rfl ?_) | (refine s_gs rfl ?_)))
            | ((with_reducible refine k_mv ?_); (refine s_mv rfl ?_))
            | ((with_reducible refine k_len ?_); (first | (refine s_len rfl rfl ?_) | ((with_reducible apply s_len); (· rfl); (· exact SlOwn.len (by assumption)))))
            | ((with_reducible refine k_pick ?_); (first | (refine s_pickT rfl rfl ?_) | (refine s_pickF rfl rfl ?_)))
            | ((with_reducible refine k_eql ?_); (first | (refine s_eql rfl rfl ?_) | (refine s_strEq rfl rfl ?_)))
            | ((with_reducible refine k_lss ?_); (refine s_lss rfl rfl ?_))
            | ((with_reducible refine k_gtr ?_); (refine s_gtr rfl rfl ?_))
            | ((with_reducible refine k_iaddr ?_); (first | ((with_reducible apply s_iaddrV); (· rfl); (· rfl); (· (first | omega | exact ⟨rfl, by omega⟩ | skip))) | ((with_reducible apply s_iaddrO); (· rfl); (· rfl); (· (first | omega | exact ⟨rfl, by omega⟩ | skip)); (· (first | exact upd_self | rfl | assumption | (simp (disch := omega) only [upd_self, upd_ne]; first | done | rfl | assumption)))) | ((with_reducible apply s_iaddrSO); (· rfl); (· assumption); (· rfl); (· (first | omega | exact ⟨rfl, by omega⟩ | skip)); (· (first | (simp (disch := omega) only [w64, wu8, wu16, wu32, wu64, tm_nn, td_nn, fd_nn, Int.reduceAdd, Int.reduceSub, Int.reduceMul, Int.reduceDiv, Int.reduceMod, Int.reduceNeg, Int.reduceToNat, Int.toNat_natCast, Int.toNat_zero, Int.zero_add, Int.add_zero, Int.one_mul, Int.reducePow, Nat.mul_one, Nat.zero_add, Nat.add_zero, Nat.zero_mul, Nat.reduceAdd, Nat.reduceMul, Nat.reduceSub, Nat.min_eq_left, IntKind.bits, Nat.sub_zero, g2]; try rfl; done) | rfl)); intro ks hks)))
            | ((with_reducible refine k_load ?_); (first | ((with_reducible apply s_loadV); (· rfl)) | ((with_reducible apply s_loadP); (· rfl); (· (first | exact upd_self | rfl | assumption | (simp (disch := omega) only [upd_self, upd_ne]; first | done | rfl | assumption))))))
            | ((with_reducible refine k_add ?_); ((with_reducible apply s_add); (· rfl); (· rfl)))
            | ((with_reducible refine k_faddr ?_); (first | ((with_reducible apply s_faddrV); (· rfl); (· rfl)) | ((with_reducible apply s_faddrP); (· rfl); (· rfl))))
            | ((with_reducible refine k_br ?_); (first | (with_reducible first | refine Br_dec ?_ | refine Br_not ?_ | refine Br_eqF ?_ | refine Br_and ?_ | refine Br_or ?_ | refine Br_neg ?_ | refine Br_band ?_ | refine Br_bor ?_ | refine Br_beq ?_) | (refine Br_t (by first | omega | assumption | rfl) ?_) | (refine Br_f (by first | omega | assumption | decide) ?_) | (with_reducible apply Br_sb <;> intro hbr <;> (first | subst hbr | simp only [hbr] | skip)) | (with_reducible apply Br_s <;> intro hbr)))
            | (with_reducible refine WN_succ ?_)
            | ((first | (with_reducible apply q_eqI) | (with_reducible apply q_eqN)); (first | (simp (disch := omega) only [w64, wu8, wu16, wu32, wu64, tm_nn, td_nn, fd_nn, Int.reduceAdd, Int.reduceSub, Int.reduceMul, Int.reduceDiv, Int.reduceMod, Int.reduceNeg, Int.reduceToNat, Int.toNat_natCast, Int.toNat_zero, Int.zero_add, Int.add_zero, Int.one_mul, Int.reducePow, Nat.mul_one, Nat.zero_add, Nat.add_zero, Nat.zero_mul, Nat.reduceAdd, Nat.reduceMul, Nat.reduceSub, Nat.min_eq_left, IntKind.bits, Nat.sub_zero, g2]; try rfl; done) | rfl))
            | ((first | (with_reducible apply q_eqL) | (with_reducible apply q_eqO)); (first | (simp (disch := omega) only [upd_self, upd_ne, upd_upd, rep, splice, List.take_succ_cons, List.take_zero, List.drop_succ_cons, List.drop_zero, List.cons_append, List.nil_append, List.append_nil, List.length_cons, List.length_nil, List.reduceReplicate, List.flatten_cons, List.flatten_nil, Nat.reduceAdd, Nat.reduceMul, Nat.reduceSub, Nat.zero_add, Nat.add_zero, List.getElem?_cons_zero, List.getElem?_cons_succ, g2]; try rfl; done) | rfl)))
          all_goals first
            | (exfalso; omega)
            | (rw [hat ((hif (by omega)).2 (by assumption))]; (first | exact Fin_flat trivial rfl rfl | (refine Fin_tup trivial rfl ?_ (Nat.le_of_ble_eq_true rfl); (repeat (first | exact All2.nil | (apply All2.cons; (· first | exact exc_n | exact exc_e | exact exc_v rfl rfl | exact exc_o upd_self rfl rfl)))); done) | (refine Fin_own trivial rfl upd_self ?_ (Nat.le_of_ble_eq_true rfl); (repeat (first | exact All2.nil | (apply All2.cons; (· first | exact exc_n | exact exc_e | exact exc_v rfl rfl | exact exc_o upd_self rfl rfl)))); done) | exact Fin_nil trivial rfl | exact Fin_sl trivial rfl upd_self rfl rfl))
            | (rw [hat ((hin (by omega)).2 (by assumption))]; (first | exact Fin_flat trivial rfl rfl | (refine Fin_tup trivial rfl ?_ (Nat.le_of_ble_eq_true rfl); (repeat (first | exact All2.nil | (apply All2.cons; (· first | exact exc_n | exact exc_e | exact exc_v rfl rfl | exact exc_o upd_self rfl rfl)))); done) | (refine Fin_own trivial rfl upd_self ?_ (Nat.le_of_ble_eq_true rfl); (repeat (first | exact All2.nil | (apply All2.cons; (· first | exact exc_n | exact exc_e | exact exc_v rfl rfl | exact exc_o upd_self rfl rfl)))); done) | exact Fin_nil trivial rfl | exact Fin_sl trivial rfl upd_self rfl rfl))
            | (refine ⟨fun j hj2 => ?_, rfl⟩
               rcases Nat.lt_succ_iff_lt_or_eq.1 hj2 with h4 | rfl
               · exact hj j h4
               · first | exact fun h5 => absurd ((hif (by omega)).1 h5) (by assumption) | exact fun h5 => absurd ((hin (by omega)).1 h5) (by assumption))
      · rintro e' h' ⟨hj, he⟩
        cases he
        have hno : firstI (fun a => decide (ovrP l fr a)) (List.range l.length) = -1 := firstI_no (fun j hj2 => by simpa using hj j (by simpa using hj2))
        rw [hno]
        repeat' (first
          | (with_reducible first | refine W_seq ?_ | refine then_n ?_ | refine W_block ?_ | refine blk_n ?_ | refine blk_r ?_ | refine blk_e ?_ | refine W_skip ?_ | refine W_ret ?_ | refine then_r ?_ | refine W_exit ?_ | refine then_e ?_)
          | (refine blk_j (by decide) ?_)
          | ((with_reducible refine s_reg ?_); intro K hK)
          | ((with_reducible refine k_nil ?_); (with_reducible apply s_nil hK); (· (repeat (first | exact norm_nil | ((with_reducible apply norm_cons); (· rfl)) | ((with_reducible apply norm_skip); (· rfl))))); clear hK; clear K)
          | ((with_reducible refine k_cond ?_); (first | ((with_reducible apply s_condT); (· rfl); (· (repeat (first | exact norm_nil | ((with_reducible apply norm_cons); (· rfl)) | ((with_reducible apply norm_skip); (· rfl)))))) | ((with_reducible apply s_condF); (· rfl); (· (repeat (first | exact norm_nil | ((with_reducible apply norm_cons); (· rfl)) | ((with_reducible apply norm_skip); (· rfl)))))) | ((with_reducible apply s_condS); (· rfl); (· (repeat (first | exact norm_nil | ((with_reducible apply norm_cons); (· rfl)) | ((with_reducible apply norm_skip); (· rfl))))); (· (repeat (first | exact norm_nil | ((with_reducible apply norm_cons); (· rfl)) | ((with_reducible apply norm_skip); (· rfl))))))))
          | ((with_reducible refine k_guard ?_); (first | (refine s_gt rfl ?_) | (refine s_gf1 rfl ?_) | (refine s_gfn rfl ?_) | (refine s_gx1 rfl ?_) | (refine s_gxn rfl ?_) | (refine s_gs rfl ?_)))
          | ((with_reducible refine k_mv ?_); (refine s_mv rfl ?_))
          | ((with_reducible refine k_len ?_); (first | (refine s_len rfl rfl ?_) | ((with_reducible apply s_len); (· rfl); (· exact SlOwn.len (by assumption)))))
          | ((with_reducible refine k_lss ?_); (refine s_lss rfl rfl ?_))
          | ((with_reducible refine k_br ?_); (first | (with_reducible first | refine Br_dec ?_ | refine Br_not ?_ | refine Br_eqF ?_ | refine Br_and ?_ | refine Br_or ?_ | refine Br_neg ?_ | refine Br_band ?_ | refine Br_bor ?_ | refine Br_beq ?_) | (refine Br_t (by first | omega | assumption | rfl) ?_) | (refine Br_f (by first | omega | assumption | decide) ?_) | (with_reducible apply Br_sb <;> intro hbr <;> (first | subst hbr | simp only [hbr] | skip)) | (with_reducible apply Br_s <;> intro hbr)))
          | (with_reducible refine WN_succ ?_)
          | ((first | (with_reducible apply q_eqI) | (with_reducible apply q_eqN)); (first | (simp (disch := omega) only [w64, wu8, wu16, wu32, wu64, tm_nn, td_nn, fd_nn, Int.reduceAdd, Int.reduceSub, Int.reduceMul, Int.reduceDiv, Int.reduceMod, Int.reduceNeg, Int.reduceToNat, Int.toNat_natCast, Int.toNat_zero, Int.zero_add, Int.add_zero, Int.one_mul, Int.reducePow, Nat.mul_one, Nat.zero_add, Nat.add_zero, Nat.zero_mul, Nat.reduceAdd, Nat.reduceMul, Nat.reduceSub, Nat.min_eq_left, IntKind.bits, Nat.sub_zero]; try rfl; done) | rfl))
          | ((first | (with_reducible apply q_eqL) | (with_reducible apply q_eqO)); (first | (simp (disch := omega) only [upd_self, upd_ne, upd_upd, rep, splice, List.take_succ_cons, List.take_zero, List.drop_succ_cons, List.drop_zero, List.cons_append, List.nil_append, List.append_nil, List.length_cons, List.length_nil, List.reduceReplicate, List.flatten_cons, List.flatten_nil, Nat.reduceAdd, Nat.reduceMul, Nat.reduceSub, Nat.zero_add, Nat.add_zero, List.getElem?_cons_zero, List.getElem?_cons_succ]; try rfl; done) | rfl)))
        all_goals first | (exfalso; omega) | (first | exact Fin_flat trivial rfl rfl | (refine Fin_tup trivial rfl ?_ (Nat.le_of_ble_eq_true rfl); (repeat (first | exact All2.nil | (apply All2.cons; (· first | exact exc_n | exact exc_e | exact exc_v rfl rfl | exact exc_o upd_self rfl rfl)))); done) | (refine Fin_own trivial rfl upd_self ?_ (Nat.le_of_ble_eq_true rfl); (repeat (first | exact All2.nil | (apply All2.cons; (· first | exact exc_n | exact exc_e | exact exc_v rfl rfl | exact exc_o upd_self rfl rfl)))); done) | exact Fin_nil trivial rfl | exact Fin_sl trivial rfl upd_self rfl rfl)
    · rw [if_neg hf]
      unfold inR at hf
      repeat' (first
        | (with_reducible first | refine W_seq ?_ | refine then_n ?_ | refine W_block ?_ | refine blk_n ?_ | refine blk_r ?_ | refine blk_e ?_ | refine W_skip ?_ | refine W_ret ?_ | refine then_r ?_ | refine W_exit ?_ | refine then_e ?_)
        | (refine blk_j (by decide) ?_)
        | ((with_reducible refine s_reg ?_); intro K hK)
        | ((with_reducible refine k_nil ?_); (with_reducible apply s_nil hK); (· (repeat (first | exact norm_nil | ((with_reducible apply norm_cons); (· rfl)) | ((with_reducible apply norm_skip); (· rfl))))); clear hK; clear K)
        | ((with_reducible refine k_cond ?_); (first | ((with_reducible apply s_condT); (· rfl); (· (repeat (first | exact norm_nil | ((with_reducible apply norm_cons); (· rfl)) | ((with_reducible apply norm_skip); (· rfl)))))) | ((with_reducible apply s_condF); (· rfl); (· (repeat (first | exact norm_nil | ((with_reducible apply norm_cons); (· rfl)) | ((with_reducible apply norm_skip); (· rfl)))))) | ((with_reducible apply s_condS); (· rfl); (· (repeat (first | exact norm_nil | ((with_reducible apply norm_cons); (· rfl)) | ((with_reducible apply norm_skip); (· rfl))))); (· (repeat (first | exact norm_nil | ((with_reducible apply norm_cons); (· rfl)) | ((with_reducible apply norm_skip); (· rfl))))))))
        | ((with_reducible refine k_guard ?_); (first | (refine s_gt rfl ?_) | (refine s_gf1 rfl ?_) | (refine s_gfn rfl ?_) | (refine s_gx1 rfl ?_) | (refine s_gxn rfl ?_) | (refine s_gs rfl ?_)))
        | ((with_reducible refine k_mv ?_); (refine s_mv rfl ?_))
        | ((with_reducible refine k_pick ?_); (first | (refine s_pickT rfl rfl ?_) | (refine s_pickF rfl rfl ?_)))
        | ((with_reducible refine k_neq ?_); (first | (refine s_neq rfl rfl ?_) | (refine s_strNe rfl rfl ?_)))
        | ((with_reducible refine k_lss ?_); (refine s_lss rfl rfl ?_))
        | ((with_reducible refine k_gtr ?_); (refine s_gtr rfl rfl ?_))
        | ((with_reducible refine k_callF ?_); (first | ((with_reducible apply s_call1); (· rfl)) | ((with_reducible apply s_calln); (· rfl))))
        | ((with_reducible refine k_con ?_); (first | ((with_reducible apply con_val (c1)); (· (repeat (first | exact All2.nil | (apply All2.cons; (· first | exact Rd_int | exact Rd_bool | exact Rd_vs | exact Rd_nil | exact Rd_emp | exact Rd_vp | exact Rd_sl0 upd_self rfl rfl | exact Rd_fn0 | exact Rd_flat rfl | ((apply Rd_sl0); (· (first | exact upd_self | rfl | assumption | (simp (disch := omega) only [upd_self, upd_ne]; first | done | rfl | assumption))); (· first | rfl | exact scal_i | exact scal_b | assumption); (· first | rfl | assumption | (simp; done) | (simp; omega))) | ((apply Rd_so); (· first | assumption | ((repeat' (first | assumption | (with_reducible apply SlOwn.upd) | (simp only [upd_none]; assumption))); done)); (· first | rfl | exact scal_i | exact scal_b | assumption))))))); (· rfl); (· exact fun _ => rfl))))
        | ((with_reducible refine k_br ?_); (first | (with_reducible first | refine Br_dec ?_ | refine Br_not ?_ | refine Br_eqF ?_ | refine Br_and ?_ | refine Br_or ?_ | refine Br_neg ?_ | refine Br_band ?_ | refine Br_bor ?_ | refine Br_beq ?_) | (refine Br_t (by first | omega | assumption | rfl) ?_) | (refine Br_f (by first | omega | assumption | decide) ?_) | (with_reducible apply Br_sb <;> intro hbr <;> (first | subst hbr | simp only [hbr] | skip)) | (with_reducible apply Br_s <;> intro hbr)))
        | (with_reducible refine WN_succ ?_)
        | ((first | (with_reducible apply q_eqI) | (with_reducible apply q_eqN)); (first | (simp (disch := omega) only [w64, wu8, wu16, wu32, wu64, tm_nn, td_nn, fd_nn, Int.reduceAdd, Int.reduceSub, Int.reduceMul, Int.reduceDiv, Int.reduceMod, Int.reduceNeg, Int.reduceToNat, Int.toNat_natCast, Int.toNat_zero, Int.zero_add, Int.add_zero, Int.one_mul, Int.reducePow, Nat.mul_one, Nat.zero_add, Nat.add_zero, Nat.zero_mul, Nat.reduceAdd, Nat.reduceMul, Nat.reduceSub, Nat.min_eq_left, IntKind.bits, Nat.sub_zero]; try rfl; done) | rfl))
        | ((first | (with_reducible apply q_eqL) | (with_reducible apply q_eqO)); (first | (simp (disch := omega) only [upd_self, upd_ne, upd_upd, rep, splice, List.take_succ_cons, List.take_zero, List.drop_succ_cons, List.drop_zero, List.cons_append, List.nil_append, List.append_nil, List.length_cons, List.length_nil, List.reduceReplicate, List.flatten_cons, List.flatten_nil, Nat.reduceAdd, Nat.reduceMul, Nat.reduceSub, Nat.zero_add, Nat.add_zero, List.getElem?_cons_zero, List.getElem?_cons_succ]; try rfl; done) | rfl)))
      all_goals first | (exfalso; omega) | (first | exact Fin_flat trivial rfl rfl | (refine Fin_tup trivial rfl ?_ (Nat.le_of_ble_eq_true rfl); (repeat (first | exact All2.nil | (apply All2.cons; (· first | exact exc_n | exact exc_e | exact exc_v rfl rfl | exact exc_o upd_self rfl rfl)))); done) | (refine Fin_own trivial rfl upd_self ?_ (Nat.le_of_ble_eq_true rfl); (repeat (first | exact All2.nil | (apply All2.cons; (· first | exact exc_n | exact exc_e | exact exc_v rfl rfl | exact exc_o upd_self rfl rfl)))); done) | exact Fin_nil trivial rfl | exact Fin_sl trivial rfl upd_self rfl rfl)
  · rw [if_neg h]
    repeat' (first
      | (with_reducible first | refine W_seq ?_ | refine then_n ?_ | refine W_block ?_ | refine blk_n ?_ | refine blk_r ?_ | refine blk_e ?_ | refine W_skip ?_ | refine W_ret ?_ | refine then_r ?_ | refine W_exit ?_ | refine then_e ?_)
      | (refine blk_j (by decide) ?_)
      | ((with_reducible refine s_reg ?_); intro K hK)
      | ((with_reducible refine k_nil ?_); (with_reducible apply s_nil hK); (· (repeat (first | exact norm_nil | ((with_reducible apply norm_cons); (· rfl)) | ((with_reducible apply norm_skip); (· rfl))))); clear hK; clear K)
      | ((with_reducible refine k_cond ?_); (first | ((with_reducible apply s_condT); (· rfl); (· (repeat (first | exact norm_nil | ((with_reducible apply norm_cons); (· rfl)) | ((with_reducible apply norm_skip); (· rfl)))))) | ((with_reducible apply s_condF); (· rfl); (· (repeat (first | exact norm_nil | ((with_reducible apply norm_cons); (· rfl)) | ((with_reducible apply norm_skip); (· rfl)))))) | ((with_reducible apply s_condS); (· rfl); (· (repeat (first | exact norm_nil | ((with_reducible apply norm_cons); (· rfl)) | ((with_reducible apply norm_skip); (· rfl))))); (· (repeat (first | exact norm_nil | ((with_reducible apply norm_cons); (· rfl)) | ((with_reducible apply norm_skip); (· rfl))))))))
      | ((with_reducible refine k_guard ?_); (first | (refine s_gt rfl ?_) | (refine s_gf1 rfl ?_) | (refine s_gfn rfl ?_) | (refine s_gx1 rfl ?_) | (refine s_gxn rfl ?_) | (refine s_gs rfl ?_)))
      | ((with_reducible refine k_mv ?_); (refine s_mv rfl ?_))
      | ((with_reducible refine k_neq ?_); (first | (refine s_neq rfl rfl ?_) | (refine s_strNe rfl rfl ?_)))
      | ((with_reducible refine k_callF ?_); (first | ((with_reducible apply s_call1); (· rfl)) | ((with_reducible apply s_calln); (· rfl))))
      | ((with_reducible refine k_con ?_); (first | ((with_reducible apply con_val (c1)); (· (repeat (first | exact All2.nil | (apply All2.cons; (· first | exact Rd_int | exact Rd_bool | exact Rd_vs | exact Rd_nil | exact Rd_emp | exact Rd_vp | exact Rd_sl0 upd_self rfl rfl | exact Rd_fn0 | exact Rd_flat rfl | ((apply Rd_sl0); (· (first | exact upd_self | rfl | assumption | (simp (disch := omega) only [upd_self, upd_ne]; first | done | rfl | assumption))); (· first | rfl | exact scal_i | exact scal_b | assumption); (· first | rfl | assumption | (simp; done) | (simp; omega))) | ((apply Rd_so); (· first | assumption | ((repeat' (first | assumption | (with_reducible apply SlOwn.upd) | (simp only [upd_none]; assumption))); done)); (· first | rfl | exact scal_i | exact scal_b | assumption))))))); (· rfl); (· exact fun _ => rfl))))
      | ((with_reducible refine k_br ?_); (first | (with_reducible first | refine Br_dec ?_ | refine Br_not ?_ | refine Br_eqF ?_ | refine Br_and ?_ | refine Br_or ?_ | refine Br_neg ?_ | refine Br_band ?_ | refine Br_bor ?_ | refine Br_beq ?_) | (refine Br_t (by first | omega | assumption | rfl) ?_) | (refine Br_f (by first | omega | assumption | decide) ?_) | (with_reducible apply Br_sb <;> intro hbr <;> (first | subst hbr | simp only [hbr] | skip)) | (with_reducible apply Br_s <;> intro hbr)))
      | (with_reducible refine WN_succ ?_)
      | ((first | (with_reducible apply q_eqI) | (with_reducible apply q_eqN)); (first | (simp (disch := omega) only [w64, wu8, wu16, wu32, wu64, tm_nn, td_nn, fd_nn, Int.reduceAdd, Int.reduceSub, Int.reduceMul, Int.reduceDiv, Int.reduceMod, Int.reduceNeg, Int.reduceToNat, Int.toNat_natCast, Int.toNat_zero, Int.zero_add, Int.add_zero, Int.one_mul, Int.reducePow, Nat.mul_one, Nat.zero_add, Nat.add_zero, Nat.zero_mul, Nat.reduceAdd, Nat.reduceMul, Nat.reduceSub, Nat.min_eq_left, IntKind.bits, Nat.sub_zero]; try rfl; done) | rfl))
      | ((first | (with_reducible apply q_eqL) | (with_reducible apply q_eqO)); (first | (simp (disch := omega) only [upd_self, upd_ne, upd_upd, rep, splice, List.take_succ_cons, List.take_zero, List.drop_succ_cons, List.drop_zero, List.cons_append, List.nil_append, List.append_nil, List.length_cons, List.length_nil, List.reduceReplicate, List.flatten_cons, List.flatten_nil, Nat.reduceAdd, Nat.reduceMul, Nat.reduceSub, Nat.zero_add, Nat.add_zero, List.getElem?_cons_zero, List.getElem?_cons_succ]; try rfl; done) | rfl)))
    all_goals first | (exfalso; omega) | (first | exact Fin_flat trivial rfl rfl | (refine Fin_tup trivial rfl ?_ (Nat.le_of_ble_eq_true rfl); (repeat (first | exact All2.nil | (apply All2.cons; (· first | exact exc_n | exact exc_e | exact exc_v rfl rfl | exact exc_o upd_self rfl rfl)))); done) | (refine Fin_own trivial rfl upd_self ?_ (Nat.le_of_ble_eq_true rfl); (repeat (first | exact All2.nil | (apply All2.cons; (· first | exact exc_n | exact exc_e | exact exc_v rfl rfl | exact exc_o upd_self rfl rfl)))); done) | exact Fin_nil trivial rfl | exact Fin_sl trivial rfl upd_self rfl rfl)
end Go.Proofs.Ytmelmpaiplmjmaa
