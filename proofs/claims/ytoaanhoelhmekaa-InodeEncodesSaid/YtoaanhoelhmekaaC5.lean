/- The contract of the library's comparison of bytes. -/
import Derived.Test.YtoaanhoelhmekaaC4
set_option linter.unusedSimpArgs false
set_option linter.unusedVariables false
namespace Go.Proofs.Ytoaanhoelhmekaa
open Go.AM
set_option maxRecDepth 100000
set_option maxHeartbeats 4000000

theorem equal_c (xs ys : List Int) (hx : xs ≠ []) (hy : ys ≠ []) (bx : ∀ a ∈ xs, 0 ≤ a ∧ a ≤ 255) (by' : ∀ a ∈ ys, 0 ≤ a ∧ a ≤ 255) : PCon Try.prog 28 [u8s xs, u8s ys] (.bool (decide (xs = ys))) := by
  refine A28p (by simp [A28]) ?_
  simp only [A28, argEnv]
  repeat' (first
    | (with_reducible refine W_seq ?_)
    | (with_reducible refine then_n ?_)
    | (with_reducible refine W_skip ?_)
    | (with_reducible refine W_ret ?_)
    | (with_reducible refine then_r ?_)
    | ((with_reducible refine s_reg ?_); intro K hK)
    | ((with_reducible refine k_nil ?_); (with_reducible apply s_nil hK); (· (repeat (first | exact norm_nil | ((with_reducible apply norm_cons); (· rfl)) | ((with_reducible apply norm_skip); (· rfl))))); clear hK; clear K)
    | ((with_reducible refine k_guard ?_); (first | (refine s_gt rfl ?_) | (refine s_gf1 rfl ?_) | (refine s_gfn rfl ?_) | (refine s_gx1 rfl ?_) | (refine s_gxn rfl ?_) | (refine s_gs rfl ?_)))
    | ((with_reducible refine k_mv ?_); (refine s_mv rfl ?_))
    | ((with_reducible refine k_eql ?_); (first | (refine s_eql rfl rfl ?_) | (refine s_strEq rfl rfl ?_)))
    | ((with_reducible refine k_strB ?_); ((with_reducible apply s_strB); (· rfl); (· (first | exact strD_vs (by assumption) | rfl))))
    | ((with_reducible refine k_br ?_); (first | (with_reducible refine Br_dec ?_) | (with_reducible refine Br_not ?_) | (with_reducible refine Br_eqF ?_) | (with_reducible refine Br_and ?_) | (with_reducible refine Br_or ?_) | (with_reducible refine Br_neg ?_) | (with_reducible refine Br_band ?_) | (with_reducible refine Br_bor ?_) | (with_reducible refine Br_beq ?_) | (refine Br_t (by first | omega | assumption | rfl) ?_) | (refine Br_f (by first | omega | assumption | decide) ?_) | (with_reducible apply Br_sb <;> intro hbr <;> (first | subst hbr | simp only [hbr] | skip)) | (with_reducible apply Br_s <;> intro hbr)))
    | (with_reducible refine WN_succ ?_)
    | ((first | (with_reducible apply q_eqI) | (with_reducible apply q_eqN)); (first | (simp (disch := omega) only [w64, wu8, wu16, wu32, wu64, tm_nn, td_nn, fd_nn, Int.reduceAdd, Int.reduceSub, Int.reduceMul, Int.reduceDiv, Int.reduceMod, Int.reduceNeg, Int.reduceToNat, Int.toNat_natCast, Int.toNat_zero, Int.zero_add, Int.add_zero, Int.one_mul, Int.reducePow, Nat.mul_one, Nat.zero_add, Nat.add_zero, Nat.zero_mul, Nat.reduceAdd, Nat.reduceMul, Nat.reduceSub, Nat.min_eq_left, IntKind.bits, Nat.sub_zero]; done) | (simp (disch := omega) only [w64, wu8, wu16, wu32, wu64, tm_nn, td_nn, fd_nn, Int.reduceAdd, Int.reduceSub, Int.reduceMul, Int.reduceDiv, Int.reduceMod, Int.reduceNeg, Int.reduceToNat, Int.toNat_natCast, Int.toNat_zero, Int.zero_add, Int.add_zero, Int.one_mul, Int.reducePow, Nat.mul_one, Nat.zero_add, Nat.add_zero, Nat.zero_mul, Nat.reduceAdd, Nat.reduceMul, Nat.reduceSub, Nat.min_eq_left, IntKind.bits, Nat.sub_zero]; rfl) | rfl))
    | ((first | (with_reducible apply q_eqL) | (with_reducible apply q_eqO)); (first | (simp (disch := omega) only [upd_self, upd_ne, upd_upd, rep, splice, List.take_succ_cons, List.take_zero, List.drop_succ_cons, List.drop_zero, List.cons_append, List.nil_append, List.append_nil, List.length_cons, List.length_nil, List.reduceReplicate, List.flatten_cons, List.flatten_nil, Nat.reduceAdd, Nat.reduceMul, Nat.reduceSub, Nat.zero_add, Nat.add_zero, List.getElem?_cons_zero, List.getElem?_cons_succ]; done) | (simp (disch := omega) only [upd_self, upd_ne, upd_upd, rep, splice, List.take_succ_cons, List.take_zero, List.drop_succ_cons, List.drop_zero, List.cons_append, List.nil_append, List.append_nil, List.length_cons, List.length_nil, List.reduceReplicate, List.flatten_cons, List.flatten_nil, Nat.reduceAdd, Nat.reduceMul, Nat.reduceSub, Nat.zero_add, Nat.add_zero, List.getElem?_cons_zero, List.getElem?_cons_succ]; rfl) | rfl)))
  refine Fin_flat trivial ?_ rfl
  simp only [resD, resL, AM.get, if_true]
  rw [strOf_eq bx by']
end Go.Proofs.Ytoaanhoelhmekaa
