/- Throttle: the laws ThrottleShares and ThrottleOldest. -/
import Derived.Test.YtnngcjipfdejcaaT2q6120b5
import Derived.Test.YtnngcjipfdejcaaA9qa91d7b
set_option linter.unusedSimpArgs false
set_option linter.unusedVariables false
namespace Go.Proofs.Ytnngcjipfdejcaa
open Go.AM Classical
set_option maxRecDepth 100000
set_option maxHeartbeats 4000000
theorem shares_c (l : List Acct) (hL : l.length ≤ 9223372036854775807) (m a : Int) : PCon Try.prog 4 [accs l, .int .i64 m, .int .i64 a] (.bool true) := by
  have c1 := share_c l hL m a
  have c2 := rshare_c l hL m a
  simp only [pp2] at c1 c2
  refine A4p (by simp [A4]) ?_
  simp only [A4, argEnv]
  repeat' (first
    | (with_reducible first | refine W_seq ?_ | refine then_n ?_ | refine W_skip ?_ | refine W_ret ?_ | refine then_r ?_)
    | ((with_reducible refine s_reg ?_); intro K hK)
    | ((with_reducible refine k_nil ?_); (with_reducible apply s_nil hK); (· (repeat (first | exact norm_nil | ((with_reducible apply norm_cons); (· rfl)) | ((with_reducible apply norm_skip); (· rfl))))); clear hK; clear K)
    | ((with_reducible refine k_cond ?_); (first | ((with_reducible apply s_condT); (· rfl); (· (repeat (first | exact norm_nil | ((with_reducible apply norm_cons); (· rfl)) | ((with_reducible apply norm_skip); (· rfl)))))) | ((with_reducible apply s_condF); (· rfl); (· (repeat (first | exact norm_nil | ((with_reducible apply norm_cons); (· rfl)) | ((with_reducible apply norm_skip); (· rfl)))))) | ((with_reducible apply s_condS); (· rfl); (· (repeat (first | exact norm_nil | ((with_reducible apply norm_cons); (· rfl)) | ((with_reducible apply norm_skip); (· rfl))))); (· (repeat (first | exact norm_nil | ((with_reducible apply norm_cons); (· rfl)) | ((with_reducible apply norm_skip); (· rfl))))))))
    | ((with_reducible refine k_guard ?_); (first | (refine s_gt rfl ?_) | (refine s_gf1 rfl ?_) | (refine s_gfn rfl ?_) | (refine s_gx1 rfl ?_) | (refine s_gxn rfl ?_) | (refine s_gs rfl ?_)))
    | ((with_reducible refine k_mv ?_); (refine s_mv rfl ?_))
    | ((with_reducible refine k_extract ?_); (refine s_extract rfl rfl ?_))
    | ((with_reducible refine k_len ?_); (first | (refine s_len rfl rfl ?_) | ((with_reducible apply s_len); (· rfl); (· exact SlOwn.len (by assumption)))))
    | ((with_reducible refine k_pick ?_); (first | (refine s_pickT rfl rfl ?_) | (refine s_pickF rfl rfl ?_)))
    | ((with_reducible refine k_not ?_); (refine s_not rfl (by first | exact Bool.not_true | exact Bool.not_false | rfl) ?_))
    | ((with_reducible refine k_eql ?_); (first | (refine s_eql rfl rfl ?_) | (refine s_strEq rfl rfl ?_)))
    | ((with_reducible refine k_gtr ?_); (refine s_gtr rfl rfl ?_))
    | ((with_reducible refine k_callF ?_); (first | ((with_reducible apply s_call1); (· rfl)) | ((with_reducible apply s_calln); (· rfl))))
    | ((with_reducible refine k_con ?_); (first | ((with_reducible apply con_val (awake_c)); (· (repeat (first | exact All2.nil | (apply All2.cons; (· first | exact Rd_int | exact Rd_bool | exact Rd_vs | exact Rd_nil | exact Rd_emp | exact Rd_vp | exact Rd_sl0 upd_self rfl rfl | exact Rd_fn0 | exact Rd_flat rfl | ((apply Rd_sl0); (· (first | exact upd_self | rfl | assumption | (simp (disch := omega) only [upd_self, upd_ne]; first | done | rfl | assumption))); (· first | rfl | exact scal_i | exact scal_b | assumption); (· first | rfl | assumption | (simp; done) | (simp; omega))) | ((apply Rd_so); (· first | assumption | ((repeat' (first | assumption | (with_reducible apply SlOwn.upd) | (simp only [upd_none]; assumption))); done)); (· first | rfl | exact scal_i | exact scal_b | assumption))))))); (· rfl); (· exact fun _ => rfl)) | ((with_reducible apply con_val (c1)); (· (repeat (first | exact All2.nil | (apply All2.cons; (· first | exact Rd_int | exact Rd_bool | exact Rd_vs | exact Rd_nil | exact Rd_emp | exact Rd_vp | exact Rd_sl0 upd_self rfl rfl | exact Rd_fn0 | exact Rd_flat rfl | ((apply Rd_sl0); (· (first | exact upd_self | rfl | assumption | (simp (disch := omega) only [upd_self, upd_ne]; first | done | rfl | assumption))); (· first | rfl | exact scal_i | exact scal_b | assumption); (· first | rfl | assumption | (simp; done) | (simp; omega))) | ((apply Rd_so); (· first | assumption | ((repeat' (first | assumption | (with_reducible apply SlOwn.upd) | (simp only [upd_none]; assumption))); done)); (· first | rfl | exact scal_i | exact scal_b | assumption))))))); (· rfl); (· exact fun _ => rfl)) | ((with_reducible apply con_val (c2)); (· (repeat (first | exact All2.nil | (apply All2.cons; (· first | exact Rd_int | exact Rd_bool | exact Rd_vs | exact Rd_nil | exact Rd_emp | exact Rd_vp | exact Rd_sl0 upd_self rfl rfl | exact Rd_fn0 | exact Rd_flat rfl | ((apply Rd_sl0); (· (first | exact upd_self | rfl | assumption | (simp (disch := omega) only [upd_self, upd_ne]; first | done | rfl | assumption))); (· first | rfl | exact scal_i | exact scal_b | assumption); (· first | rfl | assumption | (simp; done) | (simp; omega))) | ((apply Rd_so); (· first | assumption | ((repeat' (first | assumption | (with_reducible apply SlOwn.upd) | (simp only [upd_none]; assumption))); done)); (· first | rfl | exact scal_i | exact scal_b | assumption))))))); (· rfl); (· exact fun _ => rfl))))
    | ((with_reducible refine k_br ?_); (first | (with_reducible first | refine Br_dec ?_ | refine Br_not ?_ | refine Br_eqF ?_ | refine Br_and ?_ | refine Br_or ?_ | refine Br_neg ?_ | refine Br_band ?_ | refine Br_bor ?_ | refine Br_beq ?_) | (refine Br_t (by first | omega | assumption | rfl) ?_) | (refine Br_f (by first | omega | assumption | decide) ?_) | (with_reducible apply Br_sb <;> intro hbr <;> (first | subst hbr | simp only [hbr] | skip)) | (with_reducible apply Br_s <;> intro hbr)))
    | (with_reducible refine WN_succ ?_)
    | ((first | (with_reducible apply q_eqI) | (with_reducible apply q_eqN)); (first | (simp (disch := omega) only [w64, wu8, wu16, wu32, wu64, tm_nn, td_nn, fd_nn, Int.reduceAdd, Int.reduceSub, Int.reduceMul, Int.reduceDiv, Int.reduceMod, Int.reduceNeg, Int.reduceToNat, Int.toNat_natCast, Int.toNat_zero, Int.zero_add, Int.add_zero, Int.one_mul, Int.reducePow, Nat.mul_one, Nat.zero_add, Nat.add_zero, Nat.zero_mul, Nat.reduceAdd, Nat.reduceMul, Nat.reduceSub, Nat.min_eq_left, IntKind.bits, Nat.sub_zero]; try rfl; done) | rfl))
    | ((first | (with_reducible apply q_eqL) | (with_reducible apply q_eqO)); (first | (simp (disch := omega) only [upd_self, upd_ne, upd_upd, rep, splice, List.take_succ_cons, List.take_zero, List.drop_succ_cons, List.drop_zero, List.cons_append, List.nil_append, List.append_nil, List.length_cons, List.length_nil, List.reduceReplicate, List.flatten_cons, List.flatten_nil, Nat.reduceAdd, Nat.reduceMul, Nat.reduceSub, Nat.zero_add, Nat.add_zero, List.getElem?_cons_zero, List.getElem?_cons_succ]; try rfl; done) | rfl)))
  all_goals first | exact Fin_flat trivial rfl rfl | (refine Fin_tup trivial rfl ?_ (Nat.le_of_ble_eq_true rfl); (repeat (first | exact All2.nil | (apply All2.cons; (· first | exact exc_n | exact exc_e | exact exc_v rfl rfl | exact exc_o upd_self rfl rfl)))); done) | (refine Fin_own trivial rfl upd_self ?_ (Nat.le_of_ble_eq_true rfl); (repeat (first | exact All2.nil | (apply All2.cons; (· first | exact exc_n | exact exc_e | exact exc_v rfl rfl | exact exc_o upd_self rfl rfl)))); done) | exact Fin_nil trivial rfl | exact Fin_sl trivial rfl upd_self rfl rfl
theorem shares_t : ∀ dts, All2 (TypedA Try.prog) Try.f4.params.toList dts → PCon Try.prog 4 dts (.bool true) := by
  intro dts h
  rw [Try.params4] at h
  obtain ⟨a, b, c, rfl, ha, hb, hc⟩ := three_args h
  obtain ⟨l, rfl, hl, _⟩ := typed_accs ha
  obtain ⟨m, rfl, _⟩ := typed_int Try.underlying3 hb
  obtain ⟨n, rfl, _⟩ := typed_int Try.underlying3 hc
  exact shares_c l (maxLen_le hl) m n
end Go.Proofs.Ytnngcjipfdejcaa
