/- Contracts of the comparisons. -/
import Derived.Test.YtoaanhoelhmekaaC1
set_option linter.unusedSimpArgs false
set_option linter.unusedVariables false
namespace Go.Proofs.Ytoaanhoelhmekaa
open Go.AM
set_option maxRecDepth 100000
set_option maxHeartbeats 4000000

abbrev u8s (xs : List Int) : D := .vs 1 (xs.map (.int .u8)) xs.length
theorem sameBytes_c (xs ys : List Int) (hl : (xs.length : Int) ≤ 9223372036854775807) : PCon Try.prog 14 [u8s xs, u8s ys] (.bool (decide (xs = ys))) := by
  refine A14p (by simp [A14]) ?_
  simp only [A14, argEnv]
  repeat' (first
    | (with_reducible refine W_seq ?_)
    | (with_reducible refine then_n ?_)
    | (with_reducible refine W_block ?_)
    | (with_reducible refine blk_n ?_)
    | (with_reducible refine blk_r ?_)
    | (with_reducible refine blk_e ?_)
    | (refine blk_j (by decide) ?_)
    | (with_reducible refine W_skip ?_)
    | (with_reducible refine W_ret ?_)
    | (with_reducible refine then_r ?_)
    | (with_reducible refine W_exit ?_)
    | (with_reducible refine then_e ?_)
    | ((with_reducible refine s_reg ?_); intro K hK)
    | ((with_reducible refine k_nil ?_); (with_reducible apply s_nil hK); (· (repeat (first | exact norm_nil | ((with_reducible apply norm_cons); (· rfl)) | ((with_reducible apply norm_skip); (· rfl))))); clear hK; clear K)
    | ((with_reducible refine k_cond ?_); (first | ((with_reducible apply s_condT); (· rfl); (· (repeat (first | exact norm_nil | ((with_reducible apply norm_cons); (· rfl)) | ((with_reducible apply norm_skip); (· rfl)))))) | ((with_reducible apply s_condF); (· rfl); (· (repeat (first | exact norm_nil | ((with_reducible apply norm_cons); (· rfl)) | ((with_reducible apply norm_skip); (· rfl)))))) | ((with_reducible apply s_condS); (· rfl); (· (repeat (first | exact norm_nil | ((with_reducible apply norm_cons); (· rfl)) | ((with_reducible apply norm_skip); (· rfl))))); (· (repeat (first | exact norm_nil | ((with_reducible apply norm_cons); (· rfl)) | ((with_reducible apply norm_skip); (· rfl))))))))
    | ((with_reducible refine k_guard ?_); (first | (refine s_gt rfl ?_) | (refine s_gf1 rfl ?_) | (refine s_gfn rfl ?_) | (refine s_gx1 rfl ?_) | (refine s_gxn rfl ?_) | (refine s_gs rfl ?_)))
    | ((with_reducible refine k_mv ?_); (refine s_mv rfl ?_))
    | ((with_reducible refine k_len ?_); (first | (refine s_len rfl rfl ?_) | ((with_reducible apply s_len); (· rfl); (· exact SlOwn.len (by assumption)))))
    | ((with_reducible refine k_neq ?_); (first | (refine s_neq rfl rfl ?_) | (refine s_strNe rfl rfl ?_)))
    | ((with_reducible refine k_lss ?_); (refine s_lss rfl rfl ?_))
    | ((with_reducible refine k_iaddr ?_); (first | ((with_reducible apply s_iaddrV); (· rfl); (· rfl); (· (first | omega | exact ⟨rfl, by omega⟩ | skip))) | ((with_reducible apply s_iaddrO); (· rfl); (· rfl); (· (first | omega | exact ⟨rfl, by omega⟩ | skip)); (· (first | exact upd_self | rfl | assumption | (simp (disch := omega) only [upd_self, upd_ne]; done) | (simp (disch := omega) only [upd_self, upd_ne]; rfl)))) | ((with_reducible apply s_iaddrSO); (· rfl); (· assumption); (· rfl); (· (first | omega | exact ⟨rfl, by omega⟩ | skip)); (· (first | (simp (disch := omega) only [w64, wu8, wu16, wu32, wu64, tm_nn, td_nn, fd_nn, Int.reduceAdd, Int.reduceSub, Int.reduceMul, Int.reduceDiv, Int.reduceMod, Int.reduceNeg, Int.reduceToNat, Int.toNat_natCast, Int.toNat_zero, Int.zero_add, Int.add_zero, Int.one_mul, Int.reducePow, Nat.mul_one, Nat.zero_add, Nat.add_zero, Nat.zero_mul, Nat.reduceAdd, Nat.reduceMul, Nat.reduceSub, Nat.min_eq_left, IntKind.bits, Nat.sub_zero]; done) | (simp (disch := omega) only [w64, wu8, wu16, wu32, wu64, tm_nn, td_nn, fd_nn, Int.reduceAdd, Int.reduceSub, Int.reduceMul, Int.reduceDiv, Int.reduceMod, Int.reduceNeg, Int.reduceToNat, Int.toNat_natCast, Int.toNat_zero, Int.zero_add, Int.add_zero, Int.one_mul, Int.reducePow, Nat.mul_one, Nat.zero_add, Nat.add_zero, Nat.zero_mul, Nat.reduceAdd, Nat.reduceMul, Nat.reduceSub, Nat.min_eq_left, IntKind.bits, Nat.sub_zero]; rfl) | rfl)); intro ks hks)))
    | ((with_reducible refine k_load ?_); (first | ((with_reducible apply s_loadV); (· rfl)) | ((with_reducible apply s_loadP); (· rfl); (· (first | exact upd_self | rfl | assumption | (simp (disch := omega) only [upd_self, upd_ne]; done) | (simp (disch := omega) only [upd_self, upd_ne]; rfl))))))
    | ((with_reducible refine k_add ?_); ((with_reducible apply s_add); (· rfl); (· rfl)))
    | ((with_reducible refine k_dreg ?_); refine s_dreg rfl rfl ?_; intro K hK)
    | (with_reducible refine d_nilS ?_)
    | ((with_reducible refine k_dnil ?_); (with_reducible apply d_nil hK); (· (repeat (first | exact norm_nil | ((with_reducible apply norm_cons); (· rfl)) | ((with_reducible apply norm_skip); (· rfl))))); clear hK; clear K)
    | ((with_reducible refine k_dguard ?_); (first | (refine d_gt rfl ?_) | (refine d_gf rfl ?_) | (refine d_gx rfl ?_) | (refine d_gs rfl ?_)))
    | ((with_reducible refine k_dop ?_); refine d_step (by first | exact Or.inl rfl | exact Or.inr rfl) ?_)
    | (with_reducible refine d_back ?_)
    | ((with_reducible refine k_br ?_); (first | (with_reducible refine Br_dec ?_) | (with_reducible refine Br_not ?_) | (with_reducible refine Br_eqF ?_) | (with_reducible refine Br_and ?_) | (with_reducible refine Br_or ?_) | (with_reducible refine Br_neg ?_) | (with_reducible refine Br_band ?_) | (with_reducible refine Br_bor ?_) | (with_reducible refine Br_beq ?_) | (refine Br_t (by first | omega | assumption | rfl) ?_) | (refine Br_f (by first | omega | assumption | decide) ?_) | (with_reducible apply Br_sb <;> intro hbr <;> (first | subst hbr | simp only [hbr] | skip)) | (with_reducible apply Br_s <;> intro hbr)))
    | (with_reducible refine WN_succ ?_)
    | ((first | (with_reducible apply q_eqI) | (with_reducible apply q_eqN)); (first | (simp (disch := omega) only [w64, wu8, wu16, wu32, wu64, tm_nn, td_nn, fd_nn, Int.reduceAdd, Int.reduceSub, Int.reduceMul, Int.reduceDiv, Int.reduceMod, Int.reduceNeg, Int.reduceToNat, Int.toNat_natCast, Int.toNat_zero, Int.zero_add, Int.add_zero, Int.one_mul, Int.reducePow, Nat.mul_one, Nat.zero_add, Nat.add_zero, Nat.zero_mul, Nat.reduceAdd, Nat.reduceMul, Nat.reduceSub, Nat.min_eq_left, IntKind.bits, Nat.sub_zero]; done) | (simp (disch := omega) only [w64, wu8, wu16, wu32, wu64, tm_nn, td_nn, fd_nn, Int.reduceAdd, Int.reduceSub, Int.reduceMul, Int.reduceDiv, Int.reduceMod, Int.reduceNeg, Int.reduceToNat, Int.toNat_natCast, Int.toNat_zero, Int.zero_add, Int.add_zero, Int.one_mul, Int.reducePow, Nat.mul_one, Nat.zero_add, Nat.add_zero, Nat.zero_mul, Nat.reduceAdd, Nat.reduceMul, Nat.reduceSub, Nat.min_eq_left, IntKind.bits, Nat.sub_zero]; rfl) | rfl))
    | ((first | (with_reducible apply q_eqL) | (with_reducible apply q_eqO)); (first | (simp (disch := omega) only [upd_self, upd_ne, upd_upd, rep, splice, List.take_succ_cons, List.take_zero, List.drop_succ_cons, List.drop_zero, List.cons_append, List.nil_append, List.append_nil, List.length_cons, List.length_nil, List.reduceReplicate, List.flatten_cons, List.flatten_nil, Nat.reduceAdd, Nat.reduceMul, Nat.reduceSub, Nat.zero_add, Nat.add_zero, List.getElem?_cons_zero, List.getElem?_cons_succ]; done) | (simp (disch := omega) only [upd_self, upd_ne, upd_upd, rep, splice, List.take_succ_cons, List.take_zero, List.drop_succ_cons, List.drop_zero, List.cons_append, List.nil_append, List.append_nil, List.length_cons, List.length_nil, List.reduceReplicate, List.flatten_cons, List.flatten_nil, Nat.reduceAdd, Nat.reduceMul, Nat.reduceSub, Nat.zero_add, Nat.add_zero, List.getElem?_cons_zero, List.getElem?_cons_succ]; rfl) | rfl)))
  · refine W_for xs.length (fun i st => st = ⟨[(0, u8s xs), (1, u8s ys), (5, .int .i64 i)], fun _ => none⟩ ∧ xs.take i = ys.take i) ⟨rfl, rfl⟩ ?_ ?_
    · rintro i e' h' hi ⟨he, hx⟩
      cases he
      have hy : i < ys.length := by omega
      repeat' (first
        | (with_reducible refine W_seq ?_)
        | (with_reducible refine then_n ?_)
        | (with_reducible refine W_block ?_)
        | (with_reducible refine blk_n ?_)
        | (with_reducible refine blk_r ?_)
        | (with_reducible refine blk_e ?_)
        | (refine blk_j (by decide) ?_)
        | (with_reducible refine W_skip ?_)
        | (with_reducible refine W_ret ?_)
        | (with_reducible refine then_r ?_)
        | (with_reducible refine W_exit ?_)
        | (with_reducible refine then_e ?_)
        | ((with_reducible refine s_reg ?_); intro K hK)
        | ((with_reducible refine k_nil ?_); (with_reducible apply s_nil hK); (· (repeat (first | exact norm_nil | ((with_reducible apply norm_cons); (· rfl)) | ((with_reducible apply norm_skip); (· rfl))))); clear hK; clear K)
        | ((with_reducible refine k_cond ?_); (first | ((with_reducible apply s_condT); (· rfl); (· (repeat (first | exact norm_nil | ((with_reducible apply norm_cons); (· rfl)) | ((with_reducible apply norm_skip); (· rfl)))))) | ((with_reducible apply s_condF); (· rfl); (· (repeat (first | exact norm_nil | ((with_reducible apply norm_cons); (· rfl)) | ((with_reducible apply norm_skip); (· rfl)))))) | ((with_reducible apply s_condS); (· rfl); (· (repeat (first | exact norm_nil | ((with_reducible apply norm_cons); (· rfl)) | ((with_reducible apply norm_skip); (· rfl))))); (· (repeat (first | exact norm_nil | ((with_reducible apply norm_cons); (· rfl)) | ((with_reducible apply norm_skip); (· rfl))))))))
        | ((with_reducible refine k_guard ?_); (first | (refine s_gt rfl ?_) | (refine s_gf1 rfl ?_) | (refine s_gfn rfl ?_) | (refine s_gx1 rfl ?_) | (refine s_gxn rfl ?_) | (refine s_gs rfl ?_)))
        | ((with_reducible refine k_mv ?_); (refine s_mv rfl ?_))
        | ((with_reducible refine k_len ?_); (first | (refine s_len rfl rfl ?_) | ((with_reducible apply s_len); (· rfl); (· exact SlOwn.len (by assumption)))))
        | ((with_reducible refine k_neq ?_); (first | (refine s_neq rfl rfl ?_) | (refine s_strNe rfl rfl ?_)))
        | ((with_reducible refine k_lss ?_); (refine s_lss rfl rfl ?_))
        | ((with_reducible refine k_iaddr ?_); (first | ((with_reducible apply s_iaddrV); (· rfl); (· rfl); (· (first | omega | exact ⟨rfl, by omega⟩ | skip))) | ((with_reducible apply s_iaddrO); (· rfl); (· rfl); (· (first | omega | exact ⟨rfl, by omega⟩ | skip)); (· (first | exact upd_self | rfl | assumption | (simp (disch := omega) only [upd_self, upd_ne]; done) | (simp (disch := omega) only [upd_self, upd_ne]; rfl)))) | ((with_reducible apply s_iaddrSO); (· rfl); (· assumption); (· rfl); (· (first | omega | exact ⟨rfl, by omega⟩ | skip)); (· (first | (simp (disch := omega) only [w64, wu8, wu16, wu32, wu64, tm_nn, td_nn, fd_nn, Int.reduceAdd, Int.reduceSub, Int.reduceMul, Int.reduceDiv, Int.reduceMod, Int.reduceNeg, Int.reduceToNat, Int.toNat_natCast, Int.toNat_zero, Int.zero_add, Int.add_zero, Int.one_mul, Int.reducePow, Nat.mul_one, Nat.zero_add, Nat.add_zero, Nat.zero_mul, Nat.reduceAdd, Nat.reduceMul, Nat.reduceSub, Nat.min_eq_left, IntKind.bits, Nat.sub_zero, gm]; done) | (simp (disch := omega) only [w64, wu8, wu16, wu32, wu64, tm_nn, td_nn, fd_nn, Int.reduceAdd, Int.reduceSub, Int.reduceMul, Int.reduceDiv, Int.reduceMod, Int.reduceNeg, Int.reduceToNat, Int.toNat_natCast, Int.toNat_zero, Int.zero_add, Int.add_zero, Int.one_mul, Int.reducePow, Nat.mul_one, Nat.zero_add, Nat.add_zero, Nat.zero_mul, Nat.reduceAdd, Nat.reduceMul, Nat.reduceSub, Nat.min_eq_left, IntKind.bits, Nat.sub_zero, gm]; rfl) | rfl)); intro ks hks)))
        | ((with_reducible refine k_load ?_); (first | ((with_reducible apply s_loadV); (· rfl)) | ((with_reducible apply s_loadP); (· rfl); (· (first | exact upd_self | rfl | assumption | (simp (disch := omega) only [upd_self, upd_ne]; done) | (simp (disch := omega) only [upd_self, upd_ne]; rfl))))))
        | ((with_reducible refine k_add ?_); ((with_reducible apply s_add); (· rfl); (· rfl)))
        | ((with_reducible refine k_dreg ?_); refine s_dreg rfl rfl ?_; intro K hK)
        | (with_reducible refine d_nilS ?_)
        | ((with_reducible refine k_dnil ?_); (with_reducible apply d_nil hK); (· (repeat (first | exact norm_nil | ((with_reducible apply norm_cons); (· rfl)) | ((with_reducible apply norm_skip); (· rfl))))); clear hK; clear K)
        | ((with_reducible refine k_dguard ?_); (first | (refine d_gt rfl ?_) | (refine d_gf rfl ?_) | (refine d_gx rfl ?_) | (refine d_gs rfl ?_)))
        | ((with_reducible refine k_dop ?_); refine d_step (by first | exact Or.inl rfl | exact Or.inr rfl) ?_)
        | (with_reducible refine d_back ?_)
        | ((with_reducible refine k_br ?_); (first | (with_reducible refine Br_dec ?_) | (with_reducible refine Br_not ?_) | (with_reducible refine Br_eqF ?_) | (with_reducible refine Br_and ?_) | (with_reducible refine Br_or ?_) | (with_reducible refine Br_neg ?_) | (with_reducible refine Br_band ?_) | (with_reducible refine Br_bor ?_) | (with_reducible refine Br_beq ?_) | (refine Br_t (by first | omega | assumption | rfl) ?_) | (refine Br_f (by first | omega | assumption | decide) ?_) | (with_reducible apply Br_sb <;> intro hbr <;> (first | subst hbr | simp only [hbr] | skip)) | (with_reducible apply Br_s <;> intro hbr)))
        | (with_reducible refine WN_succ ?_)
        | ((first | (with_reducible apply q_eqI) | (with_reducible apply q_eqN)); (first | (simp (disch := omega) only [w64, wu8, wu16, wu32, wu64, tm_nn, td_nn, fd_nn, Int.reduceAdd, Int.reduceSub, Int.reduceMul, Int.reduceDiv, Int.reduceMod, Int.reduceNeg, Int.reduceToNat, Int.toNat_natCast, Int.toNat_zero, Int.zero_add, Int.add_zero, Int.one_mul, Int.reducePow, Nat.mul_one, Nat.zero_add, Nat.add_zero, Nat.zero_mul, Nat.reduceAdd, Nat.reduceMul, Nat.reduceSub, Nat.min_eq_left, IntKind.bits, Nat.sub_zero, gm]; done) | (simp (disch := omega) only [w64, wu8, wu16, wu32, wu64, tm_nn, td_nn, fd_nn, Int.reduceAdd, Int.reduceSub, Int.reduceMul, Int.reduceDiv, Int.reduceMod, Int.reduceNeg, Int.reduceToNat, Int.toNat_natCast, Int.toNat_zero, Int.zero_add, Int.add_zero, Int.one_mul, Int.reducePow, Nat.mul_one, Nat.zero_add, Nat.add_zero, Nat.zero_mul, Nat.reduceAdd, Nat.reduceMul, Nat.reduceSub, Nat.min_eq_left, IntKind.bits, Nat.sub_zero, gm]; rfl) | rfl))
        | ((first | (with_reducible apply q_eqL) | (with_reducible apply q_eqO)); (first | (simp (disch := omega) only [upd_self, upd_ne, upd_upd, rep, splice, List.take_succ_cons, List.take_zero, List.drop_succ_cons, List.drop_zero, List.cons_append, List.nil_append, List.append_nil, List.length_cons, List.length_nil, List.reduceReplicate, List.flatten_cons, List.flatten_nil, Nat.reduceAdd, Nat.reduceMul, Nat.reduceSub, Nat.zero_add, Nat.add_zero, List.getElem?_cons_zero, List.getElem?_cons_succ, gm]; done) | (simp (disch := omega) only [upd_self, upd_ne, upd_upd, rep, splice, List.take_succ_cons, List.take_zero, List.drop_succ_cons, List.drop_zero, List.cons_append, List.nil_append, List.append_nil, List.length_cons, List.length_nil, List.reduceReplicate, List.flatten_cons, List.flatten_nil, Nat.reduceAdd, Nat.reduceMul, Nat.reduceSub, Nat.zero_add, Nat.add_zero, List.getElem?_cons_zero, List.getElem?_cons_succ, gm]; rfl) | rfl)))
      · exact ⟨rfl, take_step hi hy hx (by assumption)⟩
      · refine Fin_flat trivial ?_ rfl
        have hne : xs ≠ ys := by
          rintro rfl
          exact absurd rfl (by assumption)
        simp [resD, resL, AM.get, hne]
    · rintro e' h' ⟨he, hx⟩
      cases he
      repeat' (first
        | (with_reducible refine W_seq ?_)
        | (with_reducible refine then_n ?_)
        | (with_reducible refine W_block ?_)
        | (with_reducible refine blk_n ?_)
        | (with_reducible refine blk_r ?_)
        | (with_reducible refine blk_e ?_)
        | (refine blk_j (by decide) ?_)
        | (with_reducible refine W_skip ?_)
        | (with_reducible refine W_ret ?_)
        | (with_reducible refine then_r ?_)
        | (with_reducible refine W_exit ?_)
        | (with_reducible refine then_e ?_)
        | ((with_reducible refine s_reg ?_); intro K hK)
        | ((with_reducible refine k_nil ?_); (with_reducible apply s_nil hK); (· (repeat (first | exact norm_nil | ((with_reducible apply norm_cons); (· rfl)) | ((with_reducible apply norm_skip); (· rfl))))); clear hK; clear K)
        | ((with_reducible refine k_cond ?_); (first | ((with_reducible apply s_condT); (· rfl); (· (repeat (first | exact norm_nil | ((with_reducible apply norm_cons); (· rfl)) | ((with_reducible apply norm_skip); (· rfl)))))) | ((with_reducible apply s_condF); (· rfl); (· (repeat (first | exact norm_nil | ((with_reducible apply norm_cons); (· rfl)) | ((with_reducible apply norm_skip); (· rfl)))))) | ((with_reducible apply s_condS); (· rfl); (· (repeat (first | exact norm_nil | ((with_reducible apply norm_cons); (· rfl)) | ((with_reducible apply norm_skip); (· rfl))))); (· (repeat (first | exact norm_nil | ((with_reducible apply norm_cons); (· rfl)) | ((with_reducible apply norm_skip); (· rfl))))))))
        | ((with_reducible refine k_guard ?_); (first | (refine s_gt rfl ?_) | (refine s_gf1 rfl ?_) | (refine s_gfn rfl ?_) | (refine s_gx1 rfl ?_) | (refine s_gxn rfl ?_) | (refine s_gs rfl ?_)))
        | ((with_reducible refine k_mv ?_); (refine s_mv rfl ?_))
        | ((with_reducible refine k_len ?_); (first | (refine s_len rfl rfl ?_) | ((with_reducible apply s_len); (· rfl); (· exact SlOwn.len (by assumption)))))
        | ((with_reducible refine k_neq ?_); (first | (refine s_neq rfl rfl ?_) | (refine s_strNe rfl rfl ?_)))
        | ((with_reducible refine k_lss ?_); (refine s_lss rfl rfl ?_))
        | ((with_reducible refine k_iaddr ?_); (first | ((with_reducible apply s_iaddrV); (· rfl); (· rfl); (· (first | omega | exact ⟨rfl, by omega⟩ | skip))) | ((with_reducible apply s_iaddrO); (· rfl); (· rfl); (· (first | omega | exact ⟨rfl, by omega⟩ | skip)); (· (first | exact upd_self | rfl | assumption | (simp (disch := omega) only [upd_self, upd_ne]; done) | (simp (disch := omega) only [upd_self, upd_ne]; rfl)))) | ((with_reducible apply s_iaddrSO); (· rfl); (· assumption); (· rfl); (· (first | omega | exact ⟨rfl, by omega⟩ | skip)); (· (first | (simp (disch := omega) only [w64, wu8, wu16, wu32, wu64, tm_nn, td_nn, fd_nn, Int.reduceAdd, Int.reduceSub, Int.reduceMul, Int.reduceDiv, Int.reduceMod, Int.reduceNeg, Int.reduceToNat, Int.toNat_natCast, Int.toNat_zero, Int.zero_add, Int.add_zero, Int.one_mul, Int.reducePow, Nat.mul_one, Nat.zero_add, Nat.add_zero, Nat.zero_mul, Nat.reduceAdd, Nat.reduceMul, Nat.reduceSub, Nat.min_eq_left, IntKind.bits, Nat.sub_zero]; done) | (simp (disch := omega) only [w64, wu8, wu16, wu32, wu64, tm_nn, td_nn, fd_nn, Int.reduceAdd, Int.reduceSub, Int.reduceMul, Int.reduceDiv, Int.reduceMod, Int.reduceNeg, Int.reduceToNat, Int.toNat_natCast, Int.toNat_zero, Int.zero_add, Int.add_zero, Int.one_mul, Int.reducePow, Nat.mul_one, Nat.zero_add, Nat.add_zero, Nat.zero_mul, Nat.reduceAdd, Nat.reduceMul, Nat.reduceSub, Nat.min_eq_left, IntKind.bits, Nat.sub_zero]; rfl) | rfl)); intro ks hks)))
        | ((with_reducible refine k_load ?_); (first | ((with_reducible apply s_loadV); (· rfl)) | ((with_reducible apply s_loadP); (· rfl); (· (first | exact upd_self | rfl | assumption | (simp (disch := omega) only [upd_self, upd_ne]; done) | (simp (disch := omega) only [upd_self, upd_ne]; rfl))))))
        | ((with_reducible refine k_add ?_); ((with_reducible apply s_add); (· rfl); (· rfl)))
        | ((with_reducible refine k_dreg ?_); refine s_dreg rfl rfl ?_; intro K hK)
        | (with_reducible refine d_nilS ?_)
        | ((with_reducible refine k_dnil ?_); (with_reducible apply d_nil hK); (· (repeat (first | exact norm_nil | ((with_reducible apply norm_cons); (· rfl)) | ((with_reducible apply norm_skip); (· rfl))))); clear hK; clear K)
        | ((with_reducible refine k_dguard ?_); (first | (refine d_gt rfl ?_) | (refine d_gf rfl ?_) | (refine d_gx rfl ?_) | (refine d_gs rfl ?_)))
        | ((with_reducible refine k_dop ?_); refine d_step (by first | exact Or.inl rfl | exact Or.inr rfl) ?_)
        | (with_reducible refine d_back ?_)
        | ((with_reducible refine k_br ?_); (first | (with_reducible refine Br_dec ?_) | (with_reducible refine Br_not ?_) | (with_reducible refine Br_eqF ?_) | (with_reducible refine Br_and ?_) | (with_reducible refine Br_or ?_) | (with_reducible refine Br_neg ?_) | (with_reducible refine Br_band ?_) | (with_reducible refine Br_bor ?_) | (with_reducible refine Br_beq ?_) | (refine Br_t (by first | omega | assumption | rfl) ?_) | (refine Br_f (by first | omega | assumption | decide) ?_) | (with_reducible apply Br_sb <;> intro hbr <;> (first | subst hbr | simp only [hbr] | skip)) | (with_reducible apply Br_s <;> intro hbr)))
        | (with_reducible refine WN_succ ?_)
        | ((first | (with_reducible apply q_eqI) | (with_reducible apply q_eqN)); (first | (simp (disch := omega) only [w64, wu8, wu16, wu32, wu64, tm_nn, td_nn, fd_nn, Int.reduceAdd, Int.reduceSub, Int.reduceMul, Int.reduceDiv, Int.reduceMod, Int.reduceNeg, Int.reduceToNat, Int.toNat_natCast, Int.toNat_zero, Int.zero_add, Int.add_zero, Int.one_mul, Int.reducePow, Nat.mul_one, Nat.zero_add, Nat.add_zero, Nat.zero_mul, Nat.reduceAdd, Nat.reduceMul, Nat.reduceSub, Nat.min_eq_left, IntKind.bits, Nat.sub_zero]; done) | (simp (disch := omega) only [w64, wu8, wu16, wu32, wu64, tm_nn, td_nn, fd_nn, Int.reduceAdd, Int.reduceSub, Int.reduceMul, Int.reduceDiv, Int.reduceMod, Int.reduceNeg, Int.reduceToNat, Int.toNat_natCast, Int.toNat_zero, Int.zero_add, Int.add_zero, Int.one_mul, Int.reducePow, Nat.mul_one, Nat.zero_add, Nat.add_zero, Nat.zero_mul, Nat.reduceAdd, Nat.reduceMul, Nat.reduceSub, Nat.min_eq_left, IntKind.bits, Nat.sub_zero]; rfl) | rfl))
        | ((first | (with_reducible apply q_eqL) | (with_reducible apply q_eqO)); (first | (simp (disch := omega) only [upd_self, upd_ne, upd_upd, rep, splice, List.take_succ_cons, List.take_zero, List.drop_succ_cons, List.drop_zero, List.cons_append, List.nil_append, List.append_nil, List.length_cons, List.length_nil, List.reduceReplicate, List.flatten_cons, List.flatten_nil, Nat.reduceAdd, Nat.reduceMul, Nat.reduceSub, Nat.zero_add, Nat.add_zero, List.getElem?_cons_zero, List.getElem?_cons_succ]; done) | (simp (disch := omega) only [upd_self, upd_ne, upd_upd, rep, splice, List.take_succ_cons, List.take_zero, List.drop_succ_cons, List.drop_zero, List.cons_append, List.nil_append, List.append_nil, List.length_cons, List.length_nil, List.reduceReplicate, List.flatten_cons, List.flatten_nil, Nat.reduceAdd, Nat.reduceMul, Nat.reduceSub, Nat.zero_add, Nat.add_zero, List.getElem?_cons_zero, List.getElem?_cons_succ]; rfl) | rfl)))
      have hxy : xs = ys := by
        rw [List.take_length, List.take_of_length_le (by omega)] at hx
        exact hx
      refine Fin_flat trivial ?_ rfl
      simp [resD, resL, AM.get, hxy]
  · refine Fin_flat trivial ?_ rfl
    have hne : xs ≠ ys := by
      rintro rfl
      exact absurd rfl (by assumption)
    simp [resD, resL, AM.get, hne]
abbrev i64s (xs : List Int) : D := .vs 1 (xs.map (.int .i64)) xs.length
theorem sameInts_c (xs ys : List Int) (hl : (xs.length : Int) ≤ 9223372036854775807) : PCon Try.prog 19 [i64s xs, i64s ys] (.bool (decide (xs = ys))) := by
  refine A19p (by simp [A19]) ?_
  simp only [A19, argEnv]
  repeat' (first
    | (with_reducible refine W_seq ?_)
    | (with_reducible refine then_n ?_)
    | (with_reducible refine W_block ?_)
    | (with_reducible refine blk_n ?_)
    | (with_reducible refine blk_r ?_)
    | (with_reducible refine blk_e ?_)
    | (refine blk_j (by decide) ?_)
    | (with_reducible refine W_skip ?_)
    | (with_reducible refine W_ret ?_)
    | (with_reducible refine then_r ?_)
    | (with_reducible refine W_exit ?_)
    | (with_reducible refine then_e ?_)
    | ((with_reducible refine s_reg ?_); intro K hK)
    | ((with_reducible refine k_nil ?_); (with_reducible apply s_nil hK); (· (repeat (first | exact norm_nil | ((with_reducible apply norm_cons); (· rfl)) | ((with_reducible apply norm_skip); (· rfl))))); clear hK; clear K)
    | ((with_reducible refine k_cond ?_); (first | ((with_reducible apply s_condT); (· rfl); (· (repeat (first | exact norm_nil | ((with_reducible apply norm_cons); (· rfl)) | ((with_reducible apply norm_skip); (· rfl)))))) | ((with_reducible apply s_condF); (· rfl); (· (repeat (first | exact norm_nil | ((with_reducible apply norm_cons); (· rfl)) | ((with_reducible apply norm_skip); (· rfl)))))) | ((with_reducible apply s_condS); (· rfl); (· (repeat (first | exact norm_nil | ((with_reducible apply norm_cons); (· rfl)) | ((with_reducible apply norm_skip); (· rfl))))); (· (repeat (first | exact norm_nil | ((with_reducible apply norm_cons); (· rfl)) | ((with_reducible apply norm_skip); (· rfl))))))))
    | ((with_reducible refine k_guard ?_); (first | (refine s_gt rfl ?_) | (refine s_gf1 rfl ?_) | (refine s_gfn rfl ?_) | (refine s_gx1 rfl ?_) | (refine s_gxn rfl ?_) | (refine s_gs rfl ?_)))
    | ((with_reducible refine k_mv ?_); (refine s_mv rfl ?_))
    | ((with_reducible refine k_len ?_); (first | (refine s_len rfl rfl ?_) | ((with_reducible apply s_len); (· rfl); (· exact SlOwn.len (by assumption)))))
    | ((with_reducible refine k_neq ?_); (first | (refine s_neq rfl rfl ?_) | (refine s_strNe rfl rfl ?_)))
    | ((with_reducible refine k_lss ?_); (refine s_lss rfl rfl ?_))
    | ((with_reducible refine k_iaddr ?_); (first | ((with_reducible apply s_iaddrV); (· rfl); (· rfl); (· (first | omega | exact ⟨rfl, by omega⟩ | skip))) | ((with_reducible apply s_iaddrO); (· rfl); (· rfl); (· (first | omega | exact ⟨rfl, by omega⟩ | skip)); (· (first | exact upd_self | rfl | assumption | (simp (disch := omega) only [upd_self, upd_ne]; done) | (simp (disch := omega) only [upd_self, upd_ne]; rfl)))) | ((with_reducible apply s_iaddrSO); (· rfl); (· assumption); (· rfl); (· (first | omega | exact ⟨rfl, by omega⟩ | skip)); (· (first | (simp (disch := omega) only [w64, wu8, wu16, wu32, wu64, tm_nn, td_nn, fd_nn, Int.reduceAdd, Int.reduceSub, Int.reduceMul, Int.reduceDiv, Int.reduceMod, Int.reduceNeg, Int.reduceToNat, Int.toNat_natCast, Int.toNat_zero, Int.zero_add, Int.add_zero, Int.one_mul, Int.reducePow, Nat.mul_one, Nat.zero_add, Nat.add_zero, Nat.zero_mul, Nat.reduceAdd, Nat.reduceMul, Nat.reduceSub, Nat.min_eq_left, IntKind.bits, Nat.sub_zero]; done) | (simp (disch := omega) only [w64, wu8, wu16, wu32, wu64, tm_nn, td_nn, fd_nn, Int.reduceAdd, Int.reduceSub, Int.reduceMul, Int.reduceDiv, Int.reduceMod, Int.reduceNeg, Int.reduceToNat, Int.toNat_natCast, Int.toNat_zero, Int.zero_add, Int.add_zero, Int.one_mul, Int.reducePow, Nat.mul_one, Nat.zero_add, Nat.add_zero, Nat.zero_mul, Nat.reduceAdd, Nat.reduceMul, Nat.reduceSub, Nat.min_eq_left, IntKind.bits, Nat.sub_zero]; rfl) | rfl)); intro ks hks)))
    | ((with_reducible refine k_load ?_); (first | ((with_reducible apply s_loadV); (· rfl)) | ((with_reducible apply s_loadP); (· rfl); (· (first | exact upd_self | rfl | assumption | (simp (disch := omega) only [upd_self, upd_ne]; done) | (simp (disch := omega) only [upd_self, upd_ne]; rfl))))))
    | ((with_reducible refine k_add ?_); ((with_reducible apply s_add); (· rfl); (· rfl)))
    | ((with_reducible refine k_dreg ?_); refine s_dreg rfl rfl ?_; intro K hK)
    | (with_reducible refine d_nilS ?_)
    | ((with_reducible refine k_dnil ?_); (with_reducible apply d_nil hK); (· (repeat (first | exact norm_nil | ((with_reducible apply norm_cons); (· rfl)) | ((with_reducible apply norm_skip); (· rfl))))); clear hK; clear K)
    | ((with_reducible refine k_dguard ?_); (first | (refine d_gt rfl ?_) | (refine d_gf rfl ?_) | (refine d_gx rfl ?_) | (refine d_gs rfl ?_)))
    | ((with_reducible refine k_dop ?_); refine d_step (by first | exact Or.inl rfl | exact Or.inr rfl) ?_)
    | (with_reducible refine d_back ?_)
    | ((with_reducible refine k_br ?_); (first | (with_reducible refine Br_dec ?_) | (with_reducible refine Br_not ?_) | (with_reducible refine Br_eqF ?_) | (with_reducible refine Br_and ?_) | (with_reducible refine Br_or ?_) | (with_reducible refine Br_neg ?_) | (with_reducible refine Br_band ?_) | (with_reducible refine Br_bor ?_) | (with_reducible refine Br_beq ?_) | (refine Br_t (by first | omega | assumption | rfl) ?_) | (refine Br_f (by first | omega | assumption | decide) ?_) | (with_reducible apply Br_sb <;> intro hbr <;> (first | subst hbr | simp only [hbr] | skip)) | (with_reducible apply Br_s <;> intro hbr)))
    | (with_reducible refine WN_succ ?_)
    | ((first | (with_reducible apply q_eqI) | (with_reducible apply q_eqN)); (first | (simp (disch := omega) only [w64, wu8, wu16, wu32, wu64, tm_nn, td_nn, fd_nn, Int.reduceAdd, Int.reduceSub, Int.reduceMul, Int.reduceDiv, Int.reduceMod, Int.reduceNeg, Int.reduceToNat, Int.toNat_natCast, Int.toNat_zero, Int.zero_add, Int.add_zero, Int.one_mul, Int.reducePow, Nat.mul_one, Nat.zero_add, Nat.add_zero, Nat.zero_mul, Nat.reduceAdd, Nat.reduceMul, Nat.reduceSub, Nat.min_eq_left, IntKind.bits, Nat.sub_zero]; done) | (simp (disch := omega) only [w64, wu8, wu16, wu32, wu64, tm_nn, td_nn, fd_nn, Int.reduceAdd, Int.reduceSub, Int.reduceMul, Int.reduceDiv, Int.reduceMod, Int.reduceNeg, Int.reduceToNat, Int.toNat_natCast, Int.toNat_zero, Int.zero_add, Int.add_zero, Int.one_mul, Int.reducePow, Nat.mul_one, Nat.zero_add, Nat.add_zero, Nat.zero_mul, Nat.reduceAdd, Nat.reduceMul, Nat.reduceSub, Nat.min_eq_left, IntKind.bits, Nat.sub_zero]; rfl) | rfl))
    | ((first | (with_reducible apply q_eqL) | (with_reducible apply q_eqO)); (first | (simp (disch := omega) only [upd_self, upd_ne, upd_upd, rep, splice, List.take_succ_cons, List.take_zero, List.drop_succ_cons, List.drop_zero, List.cons_append, List.nil_append, List.append_nil, List.length_cons, List.length_nil, List.reduceReplicate, List.flatten_cons, List.flatten_nil, Nat.reduceAdd, Nat.reduceMul, Nat.reduceSub, Nat.zero_add, Nat.add_zero, List.getElem?_cons_zero, List.getElem?_cons_succ]; done) | (simp (disch := omega) only [upd_self, upd_ne, upd_upd, rep, splice, List.take_succ_cons, List.take_zero, List.drop_succ_cons, List.drop_zero, List.cons_append, List.nil_append, List.append_nil, List.length_cons, List.length_nil, List.reduceReplicate, List.flatten_cons, List.flatten_nil, Nat.reduceAdd, Nat.reduceMul, Nat.reduceSub, Nat.zero_add, Nat.add_zero, List.getElem?_cons_zero, List.getElem?_cons_succ]; rfl) | rfl)))
  · refine W_for xs.length (fun i st => st = ⟨[(0, i64s xs), (1, i64s ys), (5, .int .i64 i)], fun _ => none⟩ ∧ xs.take i = ys.take i) ⟨rfl, rfl⟩ ?_ ?_
    · rintro i e' h' hi ⟨he, hx⟩
      cases he
      have hy : i < ys.length := by omega
      repeat' (first
        | (with_reducible refine W_seq ?_)
        | (with_reducible refine then_n ?_)
        | (with_reducible refine W_block ?_)
        | (with_reducible refine blk_n ?_)
        | (with_reducible refine blk_r ?_)
        | (with_reducible refine blk_e ?_)
        | (refine blk_j (by decide) ?_)
        | (with_reducible refine W_skip ?_)
        | (with_reducible refine W_ret ?_)
        | (with_reducible refine then_r ?_)
        | (with_reducible refine W_exit ?_)
        | (with_reducible refine then_e ?_)
        | ((with_reducible refine s_reg ?_); intro K hK)
        | ((with_reducible refine k_nil ?_); (with_reducible apply s_nil hK); (· (repeat (first | exact norm_nil | ((with_reducible apply norm_cons); (· rfl)) | ((with_reducible apply norm_skip); (· rfl))))); clear hK; clear K)
        | ((with_reducible refine k_cond ?_); (first | ((with_reducible apply s_condT); (· rfl); (· (repeat (first | exact norm_nil | ((with_reducible apply norm_cons); (· rfl)) | ((with_reducible apply norm_skip); (· rfl)))))) | ((with_reducible apply s_condF); (· rfl); (· (repeat (first | exact norm_nil | ((with_reducible apply norm_cons); (· rfl)) | ((with_reducible apply norm_skip); (· rfl)))))) | ((with_reducible apply s_condS); (· rfl); (· (repeat (first | exact norm_nil | ((with_reducible apply norm_cons); (· rfl)) | ((with_reducible apply norm_skip); (· rfl))))); (· (repeat (first | exact norm_nil | ((with_reducible apply norm_cons); (· rfl)) | ((with_reducible apply norm_skip); (· rfl))))))))
        | ((with_reducible refine k_guard ?_); (first | (refine s_gt rfl ?_) | (refine s_gf1 rfl ?_) | (refine s_gfn rfl ?_) | (refine s_gx1 rfl ?_) | (refine s_gxn rfl ?_) | (refine s_gs rfl ?_)))
        | ((with_reducible refine k_mv ?_); (refine s_mv rfl ?_))
        | ((with_reducible refine k_len ?_); (first | (refine s_len rfl rfl ?_) | ((with_reducible apply s_len); (· rfl); (· exact SlOwn.len (by assumption)))))
        | ((with_reducible refine k_neq ?_); (first | (refine s_neq rfl rfl ?_) | (refine s_strNe rfl rfl ?_)))
        | ((with_reducible refine k_lss ?_); (refine s_lss rfl rfl ?_))
        | ((with_reducible refine k_iaddr ?_); (first | ((with_reducible apply s_iaddrV); (· rfl); (· rfl); (· (first | omega | exact ⟨rfl, by omega⟩ | skip))) | ((with_reducible apply s_iaddrO); (· rfl); (· rfl); (· (first | omega | exact ⟨rfl, by omega⟩ | skip)); (· (first | exact upd_self | rfl | assumption | (simp (disch := omega) only [upd_self, upd_ne]; done) | (simp (disch := omega) only [upd_self, upd_ne]; rfl)))) | ((with_reducible apply s_iaddrSO); (· rfl); (· assumption); (· rfl); (· (first | omega | exact ⟨rfl, by omega⟩ | skip)); (· (first | (simp (disch := omega) only [w64, wu8, wu16, wu32, wu64, tm_nn, td_nn, fd_nn, Int.reduceAdd, Int.reduceSub, Int.reduceMul, Int.reduceDiv, Int.reduceMod, Int.reduceNeg, Int.reduceToNat, Int.toNat_natCast, Int.toNat_zero, Int.zero_add, Int.add_zero, Int.one_mul, Int.reducePow, Nat.mul_one, Nat.zero_add, Nat.add_zero, Nat.zero_mul, Nat.reduceAdd, Nat.reduceMul, Nat.reduceSub, Nat.min_eq_left, IntKind.bits, Nat.sub_zero, gm]; done) | (simp (disch := omega) only [w64, wu8, wu16, wu32, wu64, tm_nn, td_nn, fd_nn, Int.reduceAdd, Int.reduceSub, Int.reduceMul, Int.reduceDiv, Int.reduceMod, Int.reduceNeg, Int.reduceToNat, Int.toNat_natCast, Int.toNat_zero, Int.zero_add, Int.add_zero, Int.one_mul, Int.reducePow, Nat.mul_one, Nat.zero_add, Nat.add_zero, Nat.zero_mul, Nat.reduceAdd, Nat.reduceMul, Nat.reduceSub, Nat.min_eq_left, IntKind.bits, Nat.sub_zero, gm]; rfl) | rfl)); intro ks hks)))
        | ((with_reducible refine k_load ?_); (first | ((with_reducible apply s_loadV); (· rfl)) | ((with_reducible apply s_loadP); (· rfl); (· (first | exact upd_self | rfl | assumption | (simp (disch := omega) only [upd_self, upd_ne]; done) | (simp (disch := omega) only [upd_self, upd_ne]; rfl))))))
        | ((with_reducible refine k_add ?_); ((with_reducible apply s_add); (· rfl); (· rfl)))
        | ((with_reducible refine k_dreg ?_); refine s_dreg rfl rfl ?_; intro K hK)
        | (with_reducible refine d_nilS ?_)
        | ((with_reducible refine k_dnil ?_); (with_reducible apply d_nil hK); (· (repeat (first | exact norm_nil | ((with_reducible apply norm_cons); (· rfl)) | ((with_reducible apply norm_skip); (· rfl))))); clear hK; clear K)
        | ((with_reducible refine k_dguard ?_); (first | (refine d_gt rfl ?_) | (refine d_gf rfl ?_) | (refine d_gx rfl ?_) | (refine d_gs rfl ?_)))
        | ((with_reducible refine k_dop ?_); refine d_step (by first | exact Or.inl rfl | exact Or.inr rfl) ?_)
        | (with_reducible refine d_back ?_)
        | ((with_reducible refine k_br ?_); (first | (with_reducible refine Br_dec ?_) | (with_reducible refine Br_not ?_) | (with_reducible refine Br_eqF ?_) | (with_reducible refine Br_and ?_) | (with_reducible refine Br_or ?_) | (with_reducible refine Br_neg ?_) | (with_reducible refine Br_band ?_) | (with_reducible refine Br_bor ?_) | (with_reducible refine Br_beq ?_) | (refine Br_t (by first | omega | assumption | rfl) ?_) | (refine Br_f (by first | omega | assumption | decide) ?_) | (with_reducible apply Br_sb <;> intro hbr <;> (first | subst hbr | simp only [hbr] | skip)) | (with_reducible apply Br_s <;> intro hbr)))
        | (with_reducible refine WN_succ ?_)
        | ((first | (with_reducible apply q_eqI) | (with_reducible apply q_eqN)); (first | (simp (disch := omega) only [w64, wu8, wu16, wu32, wu64, tm_nn, td_nn, fd_nn, Int.reduceAdd, Int.reduceSub, Int.reduceMul, Int.reduceDiv, Int.reduceMod, Int.reduceNeg, Int.reduceToNat, Int.toNat_natCast, Int.toNat_zero, Int.zero_add, Int.add_zero, Int.one_mul, Int.reducePow, Nat.mul_one, Nat.zero_add, Nat.add_zero, Nat.zero_mul, Nat.reduceAdd, Nat.reduceMul, Nat.reduceSub, Nat.min_eq_left, IntKind.bits, Nat.sub_zero, gm]; done) | (simp (disch := omega) only [w64, wu8, wu16, wu32, wu64, tm_nn, td_nn, fd_nn, Int.reduceAdd, Int.reduceSub, Int.reduceMul, Int.reduceDiv, Int.reduceMod, Int.reduceNeg, Int.reduceToNat, Int.toNat_natCast, Int.toNat_zero, Int.zero_add, Int.add_zero, Int.one_mul, Int.reducePow, Nat.mul_one, Nat.zero_add, Nat.add_zero, Nat.zero_mul, Nat.reduceAdd, Nat.reduceMul, Nat.reduceSub, Nat.min_eq_left, IntKind.bits, Nat.sub_zero, gm]; rfl) | rfl))
        | ((first | (with_reducible apply q_eqL) | (with_reducible apply q_eqO)); (first | (simp (disch := omega) only [upd_self, upd_ne, upd_upd, rep, splice, List.take_succ_cons, List.take_zero, List.drop_succ_cons, List.drop_zero, List.cons_append, List.nil_append, List.append_nil, List.length_cons, List.length_nil, List.reduceReplicate, List.flatten_cons, List.flatten_nil, Nat.reduceAdd, Nat.reduceMul, Nat.reduceSub, Nat.zero_add, Nat.add_zero, List.getElem?_cons_zero, List.getElem?_cons_succ, gm]; done) | (simp (disch := omega) only [upd_self, upd_ne, upd_upd, rep, splice, List.take_succ_cons, List.take_zero, List.drop_succ_cons, List.drop_zero, List.cons_append, List.nil_append, List.append_nil, List.length_cons, List.length_nil, List.reduceReplicate, List.flatten_cons, List.flatten_nil, Nat.reduceAdd, Nat.reduceMul, Nat.reduceSub, Nat.zero_add, Nat.add_zero, List.getElem?_cons_zero, List.getElem?_cons_succ, gm]; rfl) | rfl)))
      · exact ⟨rfl, take_step hi hy hx (by assumption)⟩
      · refine Fin_flat trivial ?_ rfl
        have hne : xs ≠ ys := by
          rintro rfl
          exact absurd rfl (by assumption)
        simp [resD, resL, AM.get, hne]
    · rintro e' h' ⟨he, hx⟩
      cases he
      repeat' (first
        | (with_reducible refine W_seq ?_)
        | (with_reducible refine then_n ?_)
        | (with_reducible refine W_block ?_)
        | (with_reducible refine blk_n ?_)
        | (with_reducible refine blk_r ?_)
        | (with_reducible refine blk_e ?_)
        | (refine blk_j (by decide) ?_)
        | (with_reducible refine W_skip ?_)
        | (with_reducible refine W_ret ?_)
        | (with_reducible refine then_r ?_)
        | (with_reducible refine W_exit ?_)
        | (with_reducible refine then_e ?_)
        | ((with_reducible refine s_reg ?_); intro K hK)
        | ((with_reducible refine k_nil ?_); (with_reducible apply s_nil hK); (· (repeat (first | exact norm_nil | ((with_reducible apply norm_cons); (· rfl)) | ((with_reducible apply norm_skip); (· rfl))))); clear hK; clear K)
        | ((with_reducible refine k_cond ?_); (first | ((with_reducible apply s_condT); (· rfl); (· (repeat (first | exact norm_nil | ((with_reducible apply norm_cons); (· rfl)) | ((with_reducible apply norm_skip); (· rfl)))))) | ((with_reducible apply s_condF); (· rfl); (· (repeat (first | exact norm_nil | ((with_reducible apply norm_cons); (· rfl)) | ((with_reducible apply norm_skip); (· rfl)))))) | ((with_reducible apply s_condS); (· rfl); (· (repeat (first | exact norm_nil | ((with_reducible apply norm_cons); (· rfl)) | ((with_reducible apply norm_skip); (· rfl))))); (· (repeat (first | exact norm_nil | ((with_reducible apply norm_cons); (· rfl)) | ((with_reducible apply norm_skip); (· rfl))))))))
        | ((with_reducible refine k_guard ?_); (first | (refine s_gt rfl ?_) | (refine s_gf1 rfl ?_) | (refine s_gfn rfl ?_) | (refine s_gx1 rfl ?_) | (refine s_gxn rfl ?_) | (refine s_gs rfl ?_)))
        | ((with_reducible refine k_mv ?_); (refine s_mv rfl ?_))
        | ((with_reducible refine k_len ?_); (first | (refine s_len rfl rfl ?_) | ((with_reducible apply s_len); (· rfl); (· exact SlOwn.len (by assumption)))))
        | ((with_reducible refine k_neq ?_); (first | (refine s_neq rfl rfl ?_) | (refine s_strNe rfl rfl ?_)))
        | ((with_reducible refine k_lss ?_); (refine s_lss rfl rfl ?_))
        | ((with_reducible refine k_iaddr ?_); (first | ((with_reducible apply s_iaddrV); (· rfl); (· rfl); (· (first | omega | exact ⟨rfl, by omega⟩ | skip))) | ((with_reducible apply s_iaddrO); (· rfl); (· rfl); (· (first | omega | exact ⟨rfl, by omega⟩ | skip)); (· (first | exact upd_self | rfl | assumption | (simp (disch := omega) only [upd_self, upd_ne]; done) | (simp (disch := omega) only [upd_self, upd_ne]; rfl)))) | ((with_reducible apply s_iaddrSO); (· rfl); (· assumption); (· rfl); (· (first | omega | exact ⟨rfl, by omega⟩ | skip)); (· (first | (simp (disch := omega) only [w64, wu8, wu16, wu32, wu64, tm_nn, td_nn, fd_nn, Int.reduceAdd, Int.reduceSub, Int.reduceMul, Int.reduceDiv, Int.reduceMod, Int.reduceNeg, Int.reduceToNat, Int.toNat_natCast, Int.toNat_zero, Int.zero_add, Int.add_zero, Int.one_mul, Int.reducePow, Nat.mul_one, Nat.zero_add, Nat.add_zero, Nat.zero_mul, Nat.reduceAdd, Nat.reduceMul, Nat.reduceSub, Nat.min_eq_left, IntKind.bits, Nat.sub_zero]; done) | (simp (disch := omega) only [w64, wu8, wu16, wu32, wu64, tm_nn, td_nn, fd_nn, Int.reduceAdd, Int.reduceSub, Int.reduceMul, Int.reduceDiv, Int.reduceMod, Int.reduceNeg, Int.reduceToNat, Int.toNat_natCast, Int.toNat_zero, Int.zero_add, Int.add_zero, Int.one_mul, Int.reducePow, Nat.mul_one, Nat.zero_add, Nat.add_zero, Nat.zero_mul, Nat.reduceAdd, Nat.reduceMul, Nat.reduceSub, Nat.min_eq_left, IntKind.bits, Nat.sub_zero]; rfl) | rfl)); intro ks hks)))
        | ((with_reducible refine k_load ?_); (first | ((with_reducible apply s_loadV); (· rfl)) | ((with_reducible apply s_loadP); (· rfl); (· (first | exact upd_self | rfl | assumption | (simp (disch := omega) only [upd_self, upd_ne]; done) | (simp (disch := omega) only [upd_self, upd_ne]; rfl))))))
        | ((with_reducible refine k_add ?_); ((with_reducible apply s_add); (· rfl); (· rfl)))
        | ((with_reducible refine k_dreg ?_); refine s_dreg rfl rfl ?_; intro K hK)
        | (with_reducible refine d_nilS ?_)
        | ((with_reducible refine k_dnil ?_); (with_reducible apply d_nil hK); (· (repeat (first | exact norm_nil | ((with_reducible apply norm_cons); (· rfl)) | ((with_reducible apply norm_skip); (· rfl))))); clear hK; clear K)
        | ((with_reducible refine k_dguard ?_); (first | (refine d_gt rfl ?_) | (refine d_gf rfl ?_) | (refine d_gx rfl ?_) | (refine d_gs rfl ?_)))
        | ((with_reducible refine k_dop ?_); refine d_step (by first | exact Or.inl rfl | exact Or.inr rfl) ?_)
        | (with_reducible refine d_back ?_)
        | ((with_reducible refine k_br ?_); (first | (with_reducible refine Br_dec ?_) | (with_reducible refine Br_not ?_) | (with_reducible refine Br_eqF ?_) | (with_reducible refine Br_and ?_) | (with_reducible refine Br_or ?_) | (with_reducible refine Br_neg ?_) | (with_reducible refine Br_band ?_) | (with_reducible refine Br_bor ?_) | (with_reducible refine Br_beq ?_) | (refine Br_t (by first | omega | assumption | rfl) ?_) | (refine Br_f (by first | omega | assumption | decide) ?_) | (with_reducible apply Br_sb <;> intro hbr <;> (first | subst hbr | simp only [hbr] | skip)) | (with_reducible apply Br_s <;> intro hbr)))
        | (with_reducible refine WN_succ ?_)
        | ((first | (with_reducible apply q_eqI) | (with_reducible apply q_eqN)); (first | (simp (disch := omega) only [w64, wu8, wu16, wu32, wu64, tm_nn, td_nn, fd_nn, Int.reduceAdd, Int.reduceSub, Int.reduceMul, Int.reduceDiv, Int.reduceMod, Int.reduceNeg, Int.reduceToNat, Int.toNat_natCast, Int.toNat_zero, Int.zero_add, Int.add_zero, Int.one_mul, Int.reducePow, Nat.mul_one, Nat.zero_add, Nat.add_zero, Nat.zero_mul, Nat.reduceAdd, Nat.reduceMul, Nat.reduceSub, Nat.min_eq_left, IntKind.bits, Nat.sub_zero]; done) | (simp (disch := omega) only [w64, wu8, wu16, wu32, wu64, tm_nn, td_nn, fd_nn, Int.reduceAdd, Int.reduceSub, Int.reduceMul, Int.reduceDiv, Int.reduceMod, Int.reduceNeg, Int.reduceToNat, Int.toNat_natCast, Int.toNat_zero, Int.zero_add, Int.add_zero, Int.one_mul, Int.reducePow, Nat.mul_one, Nat.zero_add, Nat.add_zero, Nat.zero_mul, Nat.reduceAdd, Nat.reduceMul, Nat.reduceSub, Nat.min_eq_left, IntKind.bits, Nat.sub_zero]; rfl) | rfl))
        | ((first | (with_reducible apply q_eqL) | (with_reducible apply q_eqO)); (first | (simp (disch := omega) only [upd_self, upd_ne, upd_upd, rep, splice, List.take_succ_cons, List.take_zero, List.drop_succ_cons, List.drop_zero, List.cons_append, List.nil_append, List.append_nil, List.length_cons, List.length_nil, List.reduceReplicate, List.flatten_cons, List.flatten_nil, Nat.reduceAdd, Nat.reduceMul, Nat.reduceSub, Nat.zero_add, Nat.add_zero, List.getElem?_cons_zero, List.getElem?_cons_succ]; done) | (simp (disch := omega) only [upd_self, upd_ne, upd_upd, rep, splice, List.take_succ_cons, List.take_zero, List.drop_succ_cons, List.drop_zero, List.cons_append, List.nil_append, List.append_nil, List.length_cons, List.length_nil, List.reduceReplicate, List.flatten_cons, List.flatten_nil, Nat.reduceAdd, Nat.reduceMul, Nat.reduceSub, Nat.zero_add, Nat.add_zero, List.getElem?_cons_zero, List.getElem?_cons_succ]; rfl) | rfl)))
      have hxy : xs = ys := by
        rw [List.take_length, List.take_of_length_le (by omega)] at hx
        exact hx
      refine Fin_flat trivial ?_ rfl
      simp [resD, resL, AM.get, hxy]
  · refine Fin_flat trivial ?_ rfl
    have hne : xs ≠ ys := by
      rintro rfl
      exact absurd rfl (by assumption)
    simp [resD, resL, AM.get, hne]
abbrev bos (xs : List Bool) : D := .vs 1 (xs.map D.bool) xs.length
theorem sameBools_c (xs ys : List Bool) (hl : (xs.length : Int) ≤ 9223372036854775807) : PCon Try.prog 24 [bos xs, bos ys] (.bool (decide (xs = ys))) := by
  refine A24p (by simp [A24]) ?_
  simp only [A24, argEnv]
  repeat' (first
    | (with_reducible refine W_seq ?_)
    | (with_reducible refine then_n ?_)
    | (with_reducible refine W_block ?_)
    | (with_reducible refine blk_n ?_)
    | (with_reducible refine blk_r ?_)
    | (with_reducible refine blk_e ?_)
    | (refine blk_j (by decide) ?_)
    | (with_reducible refine W_skip ?_)
    | (with_reducible refine W_ret ?_)
    | (with_reducible refine then_r ?_)
    | (with_reducible refine W_exit ?_)
    | (with_reducible refine then_e ?_)
    | ((with_reducible refine s_reg ?_); intro K hK)
    | ((with_reducible refine k_nil ?_); (with_reducible apply s_nil hK); (· (repeat (first | exact norm_nil | ((with_reducible apply norm_cons); (· rfl)) | ((with_reducible apply norm_skip); (· rfl))))); clear hK; clear K)
    | ((with_reducible refine k_cond ?_); (first | ((with_reducible apply s_condT); (· rfl); (· (repeat (first | exact norm_nil | ((with_reducible apply norm_cons); (· rfl)) | ((with_reducible apply norm_skip); (· rfl)))))) | ((with_reducible apply s_condF); (· rfl); (· (repeat (first | exact norm_nil | ((with_reducible apply norm_cons); (· rfl)) | ((with_reducible apply norm_skip); (· rfl)))))) | ((with_reducible apply s_condS); (· rfl); (· (repeat (first | exact norm_nil | ((with_reducible apply norm_cons); (· rfl)) | ((with_reducible apply norm_skip); (· rfl))))); (· (repeat (first | exact norm_nil | ((with_reducible apply norm_cons); (· rfl)) | ((with_reducible apply norm_skip); (· rfl))))))))
    | ((with_reducible refine k_guard ?_); (first | (refine s_gt rfl ?_) | (refine s_gf1 rfl ?_) | (refine s_gfn rfl ?_) | (refine s_gx1 rfl ?_) | (refine s_gxn rfl ?_) | (refine s_gs rfl ?_)))
    | ((with_reducible refine k_mv ?_); (refine s_mv rfl ?_))
    | ((with_reducible refine k_len ?_); (first | (refine s_len rfl rfl ?_) | ((with_reducible apply s_len); (· rfl); (· exact SlOwn.len (by assumption)))))
    | ((with_reducible refine k_neq ?_); (first | (refine s_neq rfl rfl ?_) | (refine s_strNe rfl rfl ?_)))
    | ((with_reducible refine k_lss ?_); (refine s_lss rfl rfl ?_))
    | ((with_reducible refine k_iaddr ?_); (first | ((with_reducible apply s_iaddrV); (· rfl); (· rfl); (· (first | omega | exact ⟨rfl, by omega⟩ | skip))) | ((with_reducible apply s_iaddrO); (· rfl); (· rfl); (· (first | omega | exact ⟨rfl, by omega⟩ | skip)); (· (first | exact upd_self | rfl | assumption | (simp (disch := omega) only [upd_self, upd_ne]; done) | (simp (disch := omega) only [upd_self, upd_ne]; rfl)))) | ((with_reducible apply s_iaddrSO); (· rfl); (· assumption); (· rfl); (· (first | omega | exact ⟨rfl, by omega⟩ | skip)); (· (first | (simp (disch := omega) only [w64, wu8, wu16, wu32, wu64, tm_nn, td_nn, fd_nn, Int.reduceAdd, Int.reduceSub, Int.reduceMul, Int.reduceDiv, Int.reduceMod, Int.reduceNeg, Int.reduceToNat, Int.toNat_natCast, Int.toNat_zero, Int.zero_add, Int.add_zero, Int.one_mul, Int.reducePow, Nat.mul_one, Nat.zero_add, Nat.add_zero, Nat.zero_mul, Nat.reduceAdd, Nat.reduceMul, Nat.reduceSub, Nat.min_eq_left, IntKind.bits, Nat.sub_zero]; done) | (simp (disch := omega) only [w64, wu8, wu16, wu32, wu64, tm_nn, td_nn, fd_nn, Int.reduceAdd, Int.reduceSub, Int.reduceMul, Int.reduceDiv, Int.reduceMod, Int.reduceNeg, Int.reduceToNat, Int.toNat_natCast, Int.toNat_zero, Int.zero_add, Int.add_zero, Int.one_mul, Int.reducePow, Nat.mul_one, Nat.zero_add, Nat.add_zero, Nat.zero_mul, Nat.reduceAdd, Nat.reduceMul, Nat.reduceSub, Nat.min_eq_left, IntKind.bits, Nat.sub_zero]; rfl) | rfl)); intro ks hks)))
    | ((with_reducible refine k_load ?_); (first | ((with_reducible apply s_loadV); (· rfl)) | ((with_reducible apply s_loadP); (· rfl); (· (first | exact upd_self | rfl | assumption | (simp (disch := omega) only [upd_self, upd_ne]; done) | (simp (disch := omega) only [upd_self, upd_ne]; rfl))))))
    | ((with_reducible refine k_add ?_); ((with_reducible apply s_add); (· rfl); (· rfl)))
    | ((with_reducible refine k_eqB ?_); (first | (refine s_eqBt rfl rfl ?_) | (refine s_eqBf rfl rfl ?_)))
    | ((with_reducible refine k_dreg ?_); refine s_dreg rfl rfl ?_; intro K hK)
    | (with_reducible refine d_nilS ?_)
    | ((with_reducible refine k_dnil ?_); (with_reducible apply d_nil hK); (· (repeat (first | exact norm_nil | ((with_reducible apply norm_cons); (· rfl)) | ((with_reducible apply norm_skip); (· rfl))))); clear hK; clear K)
    | ((with_reducible refine k_dguard ?_); (first | (refine d_gt rfl ?_) | (refine d_gf rfl ?_) | (refine d_gx rfl ?_) | (refine d_gs rfl ?_)))
    | ((with_reducible refine k_dop ?_); refine d_step (by first | exact Or.inl rfl | exact Or.inr rfl) ?_)
    | (with_reducible refine d_back ?_)
    | ((with_reducible refine k_br ?_); (first | (with_reducible refine Br_dec ?_) | (with_reducible refine Br_not ?_) | (with_reducible refine Br_eqF ?_) | (with_reducible refine Br_and ?_) | (with_reducible refine Br_or ?_) | (with_reducible refine Br_neg ?_) | (with_reducible refine Br_band ?_) | (with_reducible refine Br_bor ?_) | (with_reducible refine Br_beq ?_) | (refine Br_t (by first | omega | assumption | rfl) ?_) | (refine Br_f (by first | omega | assumption | decide) ?_) | (with_reducible apply Br_sb <;> intro hbr <;> (first | subst hbr | simp only [hbr] | skip)) | (with_reducible apply Br_s <;> intro hbr)))
    | (with_reducible refine WN_succ ?_)
    | ((first | (with_reducible apply q_eqI) | (with_reducible apply q_eqN)); (first | (simp (disch := omega) only [w64, wu8, wu16, wu32, wu64, tm_nn, td_nn, fd_nn, Int.reduceAdd, Int.reduceSub, Int.reduceMul, Int.reduceDiv, Int.reduceMod, Int.reduceNeg, Int.reduceToNat, Int.toNat_natCast, Int.toNat_zero, Int.zero_add, Int.add_zero, Int.one_mul, Int.reducePow, Nat.mul_one, Nat.zero_add, Nat.add_zero, Nat.zero_mul, Nat.reduceAdd, Nat.reduceMul, Nat.reduceSub, Nat.min_eq_left, IntKind.bits, Nat.sub_zero]; done) | (simp (disch := omega) only [w64, wu8, wu16, wu32, wu64, tm_nn, td_nn, fd_nn, Int.reduceAdd, Int.reduceSub, Int.reduceMul, Int.reduceDiv, Int.reduceMod, Int.reduceNeg, Int.reduceToNat, Int.toNat_natCast, Int.toNat_zero, Int.zero_add, Int.add_zero, Int.one_mul, Int.reducePow, Nat.mul_one, Nat.zero_add, Nat.add_zero, Nat.zero_mul, Nat.reduceAdd, Nat.reduceMul, Nat.reduceSub, Nat.min_eq_left, IntKind.bits, Nat.sub_zero]; rfl) | rfl))
    | ((first | (with_reducible apply q_eqL) | (with_reducible apply q_eqO)); (first | (simp (disch := omega) only [upd_self, upd_ne, upd_upd, rep, splice, List.take_succ_cons, List.take_zero, List.drop_succ_cons, List.drop_zero, List.cons_append, List.nil_append, List.append_nil, List.length_cons, List.length_nil, List.reduceReplicate, List.flatten_cons, List.flatten_nil, Nat.reduceAdd, Nat.reduceMul, Nat.reduceSub, Nat.zero_add, Nat.add_zero, List.getElem?_cons_zero, List.getElem?_cons_succ]; done) | (simp (disch := omega) only [upd_self, upd_ne, upd_upd, rep, splice, List.take_succ_cons, List.take_zero, List.drop_succ_cons, List.drop_zero, List.cons_append, List.nil_append, List.append_nil, List.length_cons, List.length_nil, List.reduceReplicate, List.flatten_cons, List.flatten_nil, Nat.reduceAdd, Nat.reduceMul, Nat.reduceSub, Nat.zero_add, Nat.add_zero, List.getElem?_cons_zero, List.getElem?_cons_succ]; rfl) | rfl)))
  · refine W_for xs.length (fun i st => st = ⟨[(0, bos xs), (1, bos ys), (5, .int .i64 i)], fun _ => none⟩ ∧ xs.take i = ys.take i) ⟨rfl, rfl⟩ ?_ ?_
    · rintro i e' h' hi ⟨he, hx⟩
      cases he
      have hy : i < ys.length := by omega
      repeat' (first
        | (with_reducible refine W_seq ?_)
        | (with_reducible refine then_n ?_)
        | (with_reducible refine W_block ?_)
        | (with_reducible refine blk_n ?_)
        | (with_reducible refine blk_r ?_)
        | (with_reducible refine blk_e ?_)
        | (refine blk_j (by decide) ?_)
        | (with_reducible refine W_skip ?_)
        | (with_reducible refine W_ret ?_)
        | (with_reducible refine then_r ?_)
        | (with_reducible refine W_exit ?_)
        | (with_reducible refine then_e ?_)
        | ((with_reducible refine s_reg ?_); intro K hK)
        | ((with_reducible refine k_nil ?_); (with_reducible apply s_nil hK); (· (repeat (first | exact norm_nil | ((with_reducible apply norm_cons); (· rfl)) | ((with_reducible apply norm_skip); (· rfl))))); clear hK; clear K)
        | ((with_reducible refine k_cond ?_); (first | ((with_reducible apply s_condT); (· rfl); (· (repeat (first | exact norm_nil | ((with_reducible apply norm_cons); (· rfl)) | ((with_reducible apply norm_skip); (· rfl)))))) | ((with_reducible apply s_condF); (· rfl); (· (repeat (first | exact norm_nil | ((with_reducible apply norm_cons); (· rfl)) | ((with_reducible apply norm_skip); (· rfl)))))) | ((with_reducible apply s_condS); (· rfl); (· (repeat (first | exact norm_nil | ((with_reducible apply norm_cons); (· rfl)) | ((with_reducible apply norm_skip); (· rfl))))); (· (repeat (first | exact norm_nil | ((with_reducible apply norm_cons); (· rfl)) | ((with_reducible apply norm_skip); (· rfl))))))))
        | ((with_reducible refine k_guard ?_); (first | (refine s_gt rfl ?_) | (refine s_gf1 rfl ?_) | (refine s_gfn rfl ?_) | (refine s_gx1 rfl ?_) | (refine s_gxn rfl ?_) | (refine s_gs rfl ?_)))
        | ((with_reducible refine k_mv ?_); (refine s_mv rfl ?_))
        | ((with_reducible refine k_len ?_); (first | (refine s_len rfl rfl ?_) | ((with_reducible apply s_len); (· rfl); (· exact SlOwn.len (by assumption)))))
        | ((with_reducible refine k_neq ?_); (first | (refine s_neq rfl rfl ?_) | (refine s_strNe rfl rfl ?_)))
        | ((with_reducible refine k_lss ?_); (refine s_lss rfl rfl ?_))
        | ((with_reducible refine k_iaddr ?_); (first | ((with_reducible apply s_iaddrV); (· rfl); (· rfl); (· (first | omega | exact ⟨rfl, by omega⟩ | skip))) | ((with_reducible apply s_iaddrO); (· rfl); (· rfl); (· (first | omega | exact ⟨rfl, by omega⟩ | skip)); (· (first | exact upd_self | rfl | assumption | (simp (disch := omega) only [upd_self, upd_ne]; done) | (simp (disch := omega) only [upd_self, upd_ne]; rfl)))) | ((with_reducible apply s_iaddrSO); (· rfl); (· assumption); (· rfl); (· (first | omega | exact ⟨rfl, by omega⟩ | skip)); (· (first | (simp (disch := omega) only [w64, wu8, wu16, wu32, wu64, tm_nn, td_nn, fd_nn, Int.reduceAdd, Int.reduceSub, Int.reduceMul, Int.reduceDiv, Int.reduceMod, Int.reduceNeg, Int.reduceToNat, Int.toNat_natCast, Int.toNat_zero, Int.zero_add, Int.add_zero, Int.one_mul, Int.reducePow, Nat.mul_one, Nat.zero_add, Nat.add_zero, Nat.zero_mul, Nat.reduceAdd, Nat.reduceMul, Nat.reduceSub, Nat.min_eq_left, IntKind.bits, Nat.sub_zero, gm]; done) | (simp (disch := omega) only [w64, wu8, wu16, wu32, wu64, tm_nn, td_nn, fd_nn, Int.reduceAdd, Int.reduceSub, Int.reduceMul, Int.reduceDiv, Int.reduceMod, Int.reduceNeg, Int.reduceToNat, Int.toNat_natCast, Int.toNat_zero, Int.zero_add, Int.add_zero, Int.one_mul, Int.reducePow, Nat.mul_one, Nat.zero_add, Nat.add_zero, Nat.zero_mul, Nat.reduceAdd, Nat.reduceMul, Nat.reduceSub, Nat.min_eq_left, IntKind.bits, Nat.sub_zero, gm]; rfl) | rfl)); intro ks hks)))
        | ((with_reducible refine k_load ?_); (first | ((with_reducible apply s_loadV); (· rfl)) | ((with_reducible apply s_loadP); (· rfl); (· (first | exact upd_self | rfl | assumption | (simp (disch := omega) only [upd_self, upd_ne]; done) | (simp (disch := omega) only [upd_self, upd_ne]; rfl))))))
        | ((with_reducible refine k_add ?_); ((with_reducible apply s_add); (· rfl); (· rfl)))
        | ((with_reducible refine k_eqB ?_); (first | (refine s_eqBt rfl rfl ?_) | (refine s_eqBf rfl rfl ?_)))
        | ((with_reducible refine k_dreg ?_); refine s_dreg rfl rfl ?_; intro K hK)
        | (with_reducible refine d_nilS ?_)
        | ((with_reducible refine k_dnil ?_); (with_reducible apply d_nil hK); (· (repeat (first | exact norm_nil | ((with_reducible apply norm_cons); (· rfl)) | ((with_reducible apply norm_skip); (· rfl))))); clear hK; clear K)
        | ((with_reducible refine k_dguard ?_); (first | (refine d_gt rfl ?_) | (refine d_gf rfl ?_) | (refine d_gx rfl ?_) | (refine d_gs rfl ?_)))
        | ((with_reducible refine k_dop ?_); refine d_step (by first | exact Or.inl rfl | exact Or.inr rfl) ?_)
        | (with_reducible refine d_back ?_)
        | ((with_reducible refine k_br ?_); (first | (with_reducible refine Br_dec ?_) | (with_reducible refine Br_not ?_) | (with_reducible refine Br_eqF ?_) | (with_reducible refine Br_and ?_) | (with_reducible refine Br_or ?_) | (with_reducible refine Br_neg ?_) | (with_reducible refine Br_band ?_) | (with_reducible refine Br_bor ?_) | (with_reducible refine Br_beq ?_) | (refine Br_t (by first | omega | assumption | rfl) ?_) | (refine Br_f (by first | omega | assumption | decide) ?_) | (with_reducible apply Br_sb <;> intro hbr <;> (first | subst hbr | simp only [hbr] | skip)) | (with_reducible apply Br_s <;> intro hbr)))
        | (with_reducible refine WN_succ ?_)
        | ((first | (with_reducible apply q_eqI) | (with_reducible apply q_eqN)); (first | (simp (disch := omega) only [w64, wu8, wu16, wu32, wu64, tm_nn, td_nn, fd_nn, Int.reduceAdd, Int.reduceSub, Int.reduceMul, Int.reduceDiv, Int.reduceMod, Int.reduceNeg, Int.reduceToNat, Int.toNat_natCast, Int.toNat_zero, Int.zero_add, Int.add_zero, Int.one_mul, Int.reducePow, Nat.mul_one, Nat.zero_add, Nat.add_zero, Nat.zero_mul, Nat.reduceAdd, Nat.reduceMul, Nat.reduceSub, Nat.min_eq_left, IntKind.bits, Nat.sub_zero, gm]; done) | (simp (disch := omega) only [w64, wu8, wu16, wu32, wu64, tm_nn, td_nn, fd_nn, Int.reduceAdd, Int.reduceSub, Int.reduceMul, Int.reduceDiv, Int.reduceMod, Int.reduceNeg, Int.reduceToNat, Int.toNat_natCast, Int.toNat_zero, Int.zero_add, Int.add_zero, Int.one_mul, Int.reducePow, Nat.mul_one, Nat.zero_add, Nat.add_zero, Nat.zero_mul, Nat.reduceAdd, Nat.reduceMul, Nat.reduceSub, Nat.min_eq_left, IntKind.bits, Nat.sub_zero, gm]; rfl) | rfl))
        | ((first | (with_reducible apply q_eqL) | (with_reducible apply q_eqO)); (first | (simp (disch := omega) only [upd_self, upd_ne, upd_upd, rep, splice, List.take_succ_cons, List.take_zero, List.drop_succ_cons, List.drop_zero, List.cons_append, List.nil_append, List.append_nil, List.length_cons, List.length_nil, List.reduceReplicate, List.flatten_cons, List.flatten_nil, Nat.reduceAdd, Nat.reduceMul, Nat.reduceSub, Nat.zero_add, Nat.add_zero, List.getElem?_cons_zero, List.getElem?_cons_succ, gm]; done) | (simp (disch := omega) only [upd_self, upd_ne, upd_upd, rep, splice, List.take_succ_cons, List.take_zero, List.drop_succ_cons, List.drop_zero, List.cons_append, List.nil_append, List.append_nil, List.length_cons, List.length_nil, List.reduceReplicate, List.flatten_cons, List.flatten_nil, Nat.reduceAdd, Nat.reduceMul, Nat.reduceSub, Nat.zero_add, Nat.add_zero, List.getElem?_cons_zero, List.getElem?_cons_succ, gm]; rfl) | rfl)))
      · exact ⟨rfl, take_step hi hy hx (by assumption)⟩
      · refine Fin_flat trivial ?_ rfl
        have hne : xs ≠ ys := by
          rintro rfl
          exact absurd rfl (by assumption)
        simp [resD, resL, AM.get, hne]
    · rintro e' h' ⟨he, hx⟩
      cases he
      repeat' (first
        | (with_reducible refine W_seq ?_)
        | (with_reducible refine then_n ?_)
        | (with_reducible refine W_block ?_)
        | (with_reducible refine blk_n ?_)
        | (with_reducible refine blk_r ?_)
        | (with_reducible refine blk_e ?_)
        | (refine blk_j (by decide) ?_)
        | (with_reducible refine W_skip ?_)
        | (with_reducible refine W_ret ?_)
        | (with_reducible refine then_r ?_)
        | (with_reducible refine W_exit ?_)
        | (with_reducible refine then_e ?_)
        | ((with_reducible refine s_reg ?_); intro K hK)
        | ((with_reducible refine k_nil ?_); (with_reducible apply s_nil hK); (· (repeat (first | exact norm_nil | ((with_reducible apply norm_cons); (· rfl)) | ((with_reducible apply norm_skip); (· rfl))))); clear hK; clear K)
        | ((with_reducible refine k_cond ?_); (first | ((with_reducible apply s_condT); (· rfl); (· (repeat (first | exact norm_nil | ((with_reducible apply norm_cons); (· rfl)) | ((with_reducible apply norm_skip); (· rfl)))))) | ((with_reducible apply s_condF); (· rfl); (· (repeat (first | exact norm_nil | ((with_reducible apply norm_cons); (· rfl)) | ((with_reducible apply norm_skip); (· rfl)))))) | ((with_reducible apply s_condS); (· rfl); (· (repeat (first | exact norm_nil | ((with_reducible apply norm_cons); (· rfl)) | ((with_reducible apply norm_skip); (· rfl))))); (· (repeat (first | exact norm_nil | ((with_reducible apply norm_cons); (· rfl)) | ((with_reducible apply norm_skip); (· rfl))))))))
        | ((with_reducible refine k_guard ?_); (first | (refine s_gt rfl ?_) | (refine s_gf1 rfl ?_) | (refine s_gfn rfl ?_) | (refine s_gx1 rfl ?_) | (refine s_gxn rfl ?_) | (refine s_gs rfl ?_)))
        | ((with_reducible refine k_mv ?_); (refine s_mv rfl ?_))
        | ((with_reducible refine k_len ?_); (first | (refine s_len rfl rfl ?_) | ((with_reducible apply s_len); (· rfl); (· exact SlOwn.len (by assumption)))))
        | ((with_reducible refine k_neq ?_); (first | (refine s_neq rfl rfl ?_) | (refine s_strNe rfl rfl ?_)))
        | ((with_reducible refine k_lss ?_); (refine s_lss rfl rfl ?_))
        | ((with_reducible refine k_iaddr ?_); (first | ((with_reducible apply s_iaddrV); (· rfl); (· rfl); (· (first | omega | exact ⟨rfl, by omega⟩ | skip))) | ((with_reducible apply s_iaddrO); (· rfl); (· rfl); (· (first | omega | exact ⟨rfl, by omega⟩ | skip)); (· (first | exact upd_self | rfl | assumption | (simp (disch := omega) only [upd_self, upd_ne]; done) | (simp (disch := omega) only [upd_self, upd_ne]; rfl)))) | ((with_reducible apply s_iaddrSO); (· rfl); (· assumption); (· rfl); (· (first | omega | exact ⟨rfl, by omega⟩ | skip)); (· (first | (simp (disch := omega) only [w64, wu8, wu16, wu32, wu64, tm_nn, td_nn, fd_nn, Int.reduceAdd, Int.reduceSub, Int.reduceMul, Int.reduceDiv, Int.reduceMod, Int.reduceNeg, Int.reduceToNat, Int.toNat_natCast, Int.toNat_zero, Int.zero_add, Int.add_zero, Int.one_mul, Int.reducePow, Nat.mul_one, Nat.zero_add, Nat.add_zero, Nat.zero_mul, Nat.reduceAdd, Nat.reduceMul, Nat.reduceSub, Nat.min_eq_left, IntKind.bits, Nat.sub_zero]; done) | (simp (disch := omega) only [w64, wu8, wu16, wu32, wu64, tm_nn, td_nn, fd_nn, Int.reduceAdd, Int.reduceSub, Int.reduceMul, Int.reduceDiv, Int.reduceMod, Int.reduceNeg, Int.reduceToNat, Int.toNat_natCast, Int.toNat_zero, Int.zero_add, Int.add_zero, Int.one_mul, Int.reducePow, Nat.mul_one, Nat.zero_add, Nat.add_zero, Nat.zero_mul, Nat.reduceAdd, Nat.reduceMul, Nat.reduceSub, Nat.min_eq_left, IntKind.bits, Nat.sub_zero]; rfl) | rfl)); intro ks hks)))
        | ((with_reducible refine k_load ?_); (first | ((with_reducible apply s_loadV); (· rfl)) | ((with_reducible apply s_loadP); (· rfl); (· (first | exact upd_self | rfl | assumption | (simp (disch := omega) only [upd_self, upd_ne]; done) | (simp (disch := omega) only [upd_self, upd_ne]; rfl))))))
        | ((with_reducible refine k_add ?_); ((with_reducible apply s_add); (· rfl); (· rfl)))
        | ((with_reducible refine k_eqB ?_); (first | (refine s_eqBt rfl rfl ?_) | (refine s_eqBf rfl rfl ?_)))
        | ((with_reducible refine k_dreg ?_); refine s_dreg rfl rfl ?_; intro K hK)
        | (with_reducible refine d_nilS ?_)
        | ((with_reducible refine k_dnil ?_); (with_reducible apply d_nil hK); (· (repeat (first | exact norm_nil | ((with_reducible apply norm_cons); (· rfl)) | ((with_reducible apply norm_skip); (· rfl))))); clear hK; clear K)
        | ((with_reducible refine k_dguard ?_); (first | (refine d_gt rfl ?_) | (refine d_gf rfl ?_) | (refine d_gx rfl ?_) | (refine d_gs rfl ?_)))
        | ((with_reducible refine k_dop ?_); refine d_step (by first | exact Or.inl rfl | exact Or.inr rfl) ?_)
        | (with_reducible refine d_back ?_)
        | ((with_reducible refine k_br ?_); (first | (with_reducible refine Br_dec ?_) | (with_reducible refine Br_not ?_) | (with_reducible refine Br_eqF ?_) | (with_reducible refine Br_and ?_) | (with_reducible refine Br_or ?_) | (with_reducible refine Br_neg ?_) | (with_reducible refine Br_band ?_) | (with_reducible refine Br_bor ?_) | (with_reducible refine Br_beq ?_) | (refine Br_t (by first | omega | assumption | rfl) ?_) | (refine Br_f (by first | omega | assumption | decide) ?_) | (with_reducible apply Br_sb <;> intro hbr <;> (first | subst hbr | simp only [hbr] | skip)) | (with_reducible apply Br_s <;> intro hbr)))
        | (with_reducible refine WN_succ ?_)
        | ((first | (with_reducible apply q_eqI) | (with_reducible apply q_eqN)); (first | (simp (disch := omega) only [w64, wu8, wu16, wu32, wu64, tm_nn, td_nn, fd_nn, Int.reduceAdd, Int.reduceSub, Int.reduceMul, Int.reduceDiv, Int.reduceMod, Int.reduceNeg, Int.reduceToNat, Int.toNat_natCast, Int.toNat_zero, Int.zero_add, Int.add_zero, Int.one_mul, Int.reducePow, Nat.mul_one, Nat.zero_add, Nat.add_zero, Nat.zero_mul, Nat.reduceAdd, Nat.reduceMul, Nat.reduceSub, Nat.min_eq_left, IntKind.bits, Nat.sub_zero]; done) | (simp (disch := omega) only [w64, wu8, wu16, wu32, wu64, tm_nn, td_nn, fd_nn, Int.reduceAdd, Int.reduceSub, Int.reduceMul, Int.reduceDiv, Int.reduceMod, Int.reduceNeg, Int.reduceToNat, Int.toNat_natCast, Int.toNat_zero, Int.zero_add, Int.add_zero, Int.one_mul, Int.reducePow, Nat.mul_one, Nat.zero_add, Nat.add_zero, Nat.zero_mul, Nat.reduceAdd, Nat.reduceMul, Nat.reduceSub, Nat.min_eq_left, IntKind.bits, Nat.sub_zero]; rfl) | rfl))
        | ((first | (with_reducible apply q_eqL) | (with_reducible apply q_eqO)); (first | (simp (disch := omega) only [upd_self, upd_ne, upd_upd, rep, splice, List.take_succ_cons, List.take_zero, List.drop_succ_cons, List.drop_zero, List.cons_append, List.nil_append, List.append_nil, List.length_cons, List.length_nil, List.reduceReplicate, List.flatten_cons, List.flatten_nil, Nat.reduceAdd, Nat.reduceMul, Nat.reduceSub, Nat.zero_add, Nat.add_zero, List.getElem?_cons_zero, List.getElem?_cons_succ]; done) | (simp (disch := omega) only [upd_self, upd_ne, upd_upd, rep, splice, List.take_succ_cons, List.take_zero, List.drop_succ_cons, List.drop_zero, List.cons_append, List.nil_append, List.append_nil, List.length_cons, List.length_nil, List.reduceReplicate, List.flatten_cons, List.flatten_nil, Nat.reduceAdd, Nat.reduceMul, Nat.reduceSub, Nat.zero_add, Nat.add_zero, List.getElem?_cons_zero, List.getElem?_cons_succ]; rfl) | rfl)))
      have hxy : xs = ys := by
        rw [List.take_length, List.take_of_length_le (by omega)] at hx
        exact hx
      refine Fin_flat trivial ?_ rfl
      simp [resD, resL, AM.get, hxy]
  · refine Fin_flat trivial ?_ rfl
    have hne : xs ≠ ys := by
      rintro rfl
      exact absurd rfl (by assumption)
    simp [resD, resL, AM.get, hne]
end Go.Proofs.Ytoaanhoelhmekaa
