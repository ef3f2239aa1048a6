import Derived.Test.YthblalidmmbcoaaD7q3114da
import Derived.Test.YthblalidmmbcoaaAmZ3q643cc1
section
/- min -/
/- The reference: submissions, completions, the check. -/
set_option linter.unusedSimpArgs false
set_option linter.unusedVariables false
namespace Go.Proofs.Ythblalidmmbcoaa
open Go.AM Classical
set_option maxRecDepth 100000
set_option maxHeartbeats 4000000
theorem rsub_c (l : List Ev) (hl : l.length ≤ 1000000) (n : Nat) (hn : n ≤ l.length) (i : Int) : PCon Try.prog 46 [evD l, .int .i64 n, .int .i64 i] (.int .i64 (subF l n i)) := by
  refine A46p (by simp [A46]) ?_
  simp only [A46, argEnv]
  have hal := evs_len l
  repeat' (first | (with_reducible first | refine W_seq ?_ | refine then_n ?_ | refine W_block ?_ | refine blk_n ?_ | refine blk_r ?_ | refine blk_e ?_ | refine W_skip ?_ | refine W_ret ?_ | refine then_r ?_ | refine W_exit ?_ | refine then_e ?_) | ((with_reducible refine s_reg ?_); intro K hK) | ((with_reducible refine k_nil ?_); (with_reducible apply s_nil hK); (· exact nmX); clear hK; clear K) | ((with_reducible refine k_mv ?_); (refine s_mv rfl ?_)))
  refine W_for n (fun j st => (∀ m (hm : m < j) (h : m < l.length), isW i l[m] = false) ∧ st = ⟨[(0, evD l), (1, .int .i64 n), (2, .int .i64 i), (7, .int .i64 j)], fun _ => none⟩) ⟨fun j hj => by omega, rfl⟩ ?_ ?_
  · rintro j e' h' hi ⟨ht, he⟩
    cases he
    have hj : j < l.length := by omega
    have g0 := ev0 hj
    have g1 := ev1 hj
    have hw : isW i l[j] = decide (l[j].kind = 1 ∧ l[j].id = i) := rfl
    have hat : isW i l[j] = true → subF l n i = j := fun h => firstI_at (by rw [List.length_take]; omega) (by rw [List.getElem_take]; exact h) (fun m hm => by rw [List.getElem_take]; exact ht m hm (by omega))
    have hnx : isW i l[j] = false → ∀ m (hm : m < j + 1) (h : m < l.length), isW i l[m] = false := fun hf m hm h => by
      rcases Nat.lt_succ_iff_lt_or_eq.1 hm with h1 | rfl
      · exact ht m h1 h
      · exact hf
    rw [hw] at hat hnx
    generalize l[j].kind = x at *
    generalize l[j].id = y at *
    repeat' (first | (with_reducible first | refine W_seq ?_ | refine then_n ?_ | refine W_block ?_ | refine blk_n ?_ | refine blk_r ?_ | refine blk_e ?_ | refine W_skip ?_ | refine W_ret ?_ | refine then_r ?_ | refine W_exit ?_ | refine then_e ?_) | ((with_reducible refine s_reg ?_); intro K hK) | ((with_reducible refine k_nil ?_); (with_reducible apply s_nil hK); (· exact nmX); clear hK; clear K) | ((with_reducible refine k_cond ?_); (first | ((with_reducible apply s_condT); (· rfl); (· exact nmX)) | ((with_reducible apply s_condF); (· rfl); (· exact nmX)) | ((with_reducible apply s_condS); (· rfl); (· exact nmX); (· exact nmX)))) | ((with_reducible refine k_guard ?_); (first | (refine s_gt rfl ?_) | (refine s_gf1 rfl ?_) | (refine s_gfn rfl ?_) | (refine s_gx1 rfl ?_) | (refine s_gxn rfl ?_) | (refine s_gs rfl ?_))) | ((with_reducible refine k_mv ?_); (refine s_mv rfl ?_)) | ((with_reducible refine k_pick ?_); (first | (refine s_pickT rfl rfl ?_) | (refine s_pickF rfl rfl ?_))) | ((with_reducible refine k_eql ?_); (first | (refine s_eql rfl rfl ?_) | (refine s_strEq rfl rfl ?_))) | ((with_reducible refine k_lss ?_); (refine s_lss rfl rfl ?_)) | ((with_reducible refine k_iaddr ?_); (first | ((with_reducible apply s_iaddrV); (· rfl); (· rfl); (· (first | omega | exact ⟨rfl, by omega⟩ | skip))) | ((with_reducible apply s_iaddrO); (· rfl); (· rfl); (· (first | omega | exact ⟨rfl, by omega⟩ | skip)); (· (exact hpX))) | ((with_reducible apply s_iaddrSO); (· rfl); (· assumption); (· rfl); (· (first | omega | exact ⟨rfl, by omega⟩ | skip)); (· (first | (simp (disch := omega) only [w64, wu8, wu16, wu32, wu64, tm_nn, td_nn, fd_nn, Int.reduceAdd, Int.reduceSub, Int.reduceMul, Int.reduceDiv, Int.reduceMod, Int.reduceNeg, Int.reduceToNat, Int.toNat_natCast, Int.toNat_zero, Int.zero_add, Int.add_zero, Int.one_mul, Int.reducePow, Nat.mul_one, Nat.zero_add, Nat.add_zero, Nat.zero_mul, Nat.reduceAdd, Nat.reduceMul, Nat.reduceSub, Nat.min_eq_left, IntKind.bits, Nat.sub_zero, g0, g1]; try rfl; done) | rfl)); intro ks hks))) | ((with_reducible refine k_load ?_); (first | ((with_reducible apply s_loadV); (· rfl)) | ((with_reducible apply s_loadP); (· rfl); (· (exact hpX))))) | ((with_reducible refine k_add ?_); ((with_reducible apply s_add); (· rfl); (· rfl))) | ((with_reducible refine k_faddr ?_); (first | ((with_reducible apply s_faddrV); (· rfl); (· rfl)) | ((with_reducible apply s_faddrP); (· rfl); (· rfl)))) | ((with_reducible refine k_br ?_); (first | (with_reducible first | refine Br_dec ?_ | refine Br_not ?_ | refine Br_eqF ?_ | refine Br_and ?_ | refine Br_or ?_ | refine Br_neg ?_ | refine Br_band ?_ | refine Br_bor ?_ | refine Br_beq ?_) | (refine Br_t (by first | with_reducible rfl | omega | assumption | rfl) ?_) | (refine Br_f (by first | omega | assumption | decide) ?_) | (with_reducible apply Br_sb <;> intro hbr <;> (first | subst hbr | simp only [hbr] | skip)) | (with_reducible apply Br_s <;> intro hbr))) | ((first | (with_reducible apply q_eqI) | (with_reducible apply q_eqN)); (first | (simp (disch := omega) only [w64, wu8, wu16, wu32, wu64, tm_nn, td_nn, fd_nn, Int.reduceAdd, Int.reduceSub, Int.reduceMul, Int.reduceDiv, Int.reduceMod, Int.reduceNeg, Int.reduceToNat, Int.toNat_natCast, Int.toNat_zero, Int.zero_add, Int.add_zero, Int.one_mul, Int.reducePow, Nat.mul_one, Nat.zero_add, Nat.add_zero, Nat.zero_mul, Nat.reduceAdd, Nat.reduceMul, Nat.reduceSub, Nat.min_eq_left, IntKind.bits, Nat.sub_zero, g0, g1]; try rfl; done) | rfl)) | ((first | (with_reducible apply q_eqL) | (with_reducible apply q_eqO)); (first | (simp (disch := omega) only [upd_self, upd_ne, upd_upd, rep, splice, List.take_succ_cons, List.take_zero, List.drop_succ_cons, List.drop_zero, List.cons_append, List.nil_append, List.append_nil, List.length_cons, List.length_nil, List.reduceReplicate, List.flatten_cons, List.flatten_nil, Nat.reduceAdd, Nat.reduceMul, Nat.reduceSub, Nat.zero_add, Nat.add_zero, List.getElem?_cons_zero, List.getElem?_cons_succ, g0, g1]; try rfl; done) | rfl)))
    all_goals first | (exfalso; omega) | skip
    all_goals first
      | (rw [hat (decide_eq_true ⟨by omega, by omega⟩)]; first | exact Fin_flat trivial rfl rfl | (refine Fin_tup trivial rfl ?_ (Nat.le_of_ble_eq_true rfl); (repeat (first | exact All2.nil | (apply All2.cons; (· first | exact exc_n | exact exc_e | exact exc_v rfl rfl | exact exc_o upd_self rfl rfl)))); done) | (refine Fin_own trivial rfl upd_self ?_ (Nat.le_of_ble_eq_true rfl); (repeat (first | exact All2.nil | (apply All2.cons; (· first | exact exc_n | exact exc_e | exact exc_v rfl rfl | exact exc_o upd_self rfl rfl)))); done) | exact Fin_nil trivial rfl | exact Fin_sl trivial rfl upd_self rfl rfl)
      | exact ⟨hnx (decide_eq_false (by omega)), rfl⟩
  · rintro e' h' ⟨ht, he⟩
    cases he
    have hno : subF l n i = -1 := firstI_no fun m hm => by rw [List.getElem_take]; rw [List.length_take] at hm; exact ht m (by omega) (by omega)
    rw [hno]
    repeat' (first | (with_reducible first | refine W_seq ?_ | refine then_n ?_ | refine W_block ?_ | refine blk_n ?_ | refine blk_r ?_ | refine blk_e ?_ | refine W_skip ?_ | refine W_ret ?_ | refine then_r ?_ | refine W_exit ?_ | refine then_e ?_) | ((with_reducible refine s_reg ?_); intro K hK) | ((with_reducible refine k_nil ?_); (with_reducible apply s_nil hK); (· exact nmX); clear hK; clear K) | ((with_reducible refine k_cond ?_); (first | ((with_reducible apply s_condT); (· rfl); (· exact nmX)) | ((with_reducible apply s_condF); (· rfl); (· exact nmX)) | ((with_reducible apply s_condS); (· rfl); (· exact nmX); (· exact nmX)))) | ((with_reducible refine k_mv ?_); (refine s_mv rfl ?_)) | ((with_reducible refine k_lss ?_); (refine s_lss rfl rfl ?_)) | ((with_reducible refine k_br ?_); (first | (with_reducible first | refine Br_dec ?_ | refine Br_not ?_ | refine Br_eqF ?_ | refine Br_and ?_ | refine Br_or ?_ | refine Br_neg ?_ | refine Br_band ?_ | refine Br_bor ?_ | refine Br_beq ?_) | (refine Br_t (by first | with_reducible rfl | omega | assumption | rfl) ?_) | (refine Br_f (by first | omega | assumption | decide) ?_) | (with_reducible apply Br_sb <;> intro hbr <;> (first | subst hbr | simp only [hbr] | skip)) | (with_reducible apply Br_s <;> intro hbr))))
    all_goals first | exact Fin_flat trivial rfl rfl | (refine Fin_tup trivial rfl ?_ (Nat.le_of_ble_eq_true rfl); (repeat (first | exact All2.nil | (apply All2.cons; (· first | exact exc_n | exact exc_e | exact exc_v rfl rfl | exact exc_o upd_self rfl rfl)))); done) | (refine Fin_own trivial rfl upd_self ?_ (Nat.le_of_ble_eq_true rfl); (repeat (first | exact All2.nil | (apply All2.cons; (· first | exact exc_n | exact exc_e | exact exc_v rfl rfl | exact exc_o upd_self rfl rfl)))); done) | exact Fin_nil trivial rfl | exact Fin_sl trivial rfl upd_self rfl rfl
theorem rcom_c (l : List Ev) (hl : l.length ≤ 1000000) (n : Nat) (hn : n ≤ l.length) (i : Int) : PCon Try.prog 47 [evD l, .int .i64 n, .int .i64 i] (.int .i64 (comF l n i)) := by
  refine A47p (by simp [A47]) ?_
  simp only [A47, argEnv]
  have hal := evs_len l
  repeat' (first | (with_reducible first | refine W_seq ?_ | refine then_n ?_ | refine W_block ?_ | refine blk_n ?_ | refine blk_r ?_ | refine blk_e ?_ | refine W_skip ?_ | refine W_ret ?_ | refine then_r ?_ | refine W_exit ?_ | refine then_e ?_) | ((with_reducible refine s_reg ?_); intro K hK) | ((with_reducible refine k_nil ?_); (with_reducible apply s_nil hK); (· exact nmX); clear hK; clear K) | ((with_reducible refine k_mv ?_); (refine s_mv rfl ?_)))
  refine W_for n (fun j st => (∀ m (hm : m < j) (h : m < l.length), isD i l[m] = false) ∧ st = ⟨[(0, evD l), (1, .int .i64 n), (2, .int .i64 i), (7, .int .i64 j)], fun _ => none⟩) ⟨fun j hj => by omega, rfl⟩ ?_ ?_
  · rintro j e' h' hi ⟨ht, he⟩
    cases he
    have hj : j < l.length := by omega
    have g0 := ev0 hj
    have g1 := ev1 hj
    have hw : isD i l[j] = decide (l[j].kind = 2 ∧ l[j].id = i) := rfl
    have hat : isD i l[j] = true → comF l n i = j := fun h => firstI_at (by rw [List.length_take]; omega) (by rw [List.getElem_take]; exact h) (fun m hm => by rw [List.getElem_take]; exact ht m hm (by omega))
    have hnx : isD i l[j] = false → ∀ m (hm : m < j + 1) (h : m < l.length), isD i l[m] = false := fun hf m hm h => by
      rcases Nat.lt_succ_iff_lt_or_eq.1 hm with h1 | rfl
      · exact ht m h1 h
      · exact hf
    rw [hw] at hat hnx
    generalize l[j].kind = x at *
    generalize l[j].id = y at *
    repeat' (first | (with_reducible first | refine W_seq ?_ | refine then_n ?_ | refine W_block ?_ | refine blk_n ?_ | refine blk_r ?_ | refine blk_e ?_ | refine W_skip ?_ | refine W_ret ?_ | refine then_r ?_ | refine W_exit ?_ | refine then_e ?_) | ((with_reducible refine s_reg ?_); intro K hK) | ((with_reducible refine k_nil ?_); (with_reducible apply s_nil hK); (· exact nmX); clear hK; clear K) | ((with_reducible refine k_cond ?_); (first | ((with_reducible apply s_condT); (· rfl); (· exact nmX)) | ((with_reducible apply s_condF); (· rfl); (· exact nmX)) | ((with_reducible apply s_condS); (· rfl); (· exact nmX); (· exact nmX)))) | ((with_reducible refine k_guard ?_); (first | (refine s_gt rfl ?_) | (refine s_gf1 rfl ?_) | (refine s_gfn rfl ?_) | (refine s_gx1 rfl ?_) | (refine s_gxn rfl ?_) | (refine s_gs rfl ?_))) | ((with_reducible refine k_mv ?_); (refine s_mv rfl ?_)) | ((with_reducible refine k_pick ?_); (first | (refine s_pickT rfl rfl ?_) | (refine s_pickF rfl rfl ?_))) | ((with_reducible refine k_eql ?_); (first | (refine s_eql rfl rfl ?_) | (refine s_strEq rfl rfl ?_))) | ((with_reducible refine k_lss ?_); (refine s_lss rfl rfl ?_)) | ((with_reducible refine k_iaddr ?_); (first | ((with_reducible apply s_iaddrV); (· rfl); (· rfl); (· (first | omega | exact ⟨rfl, by omega⟩ | skip))) | ((with_reducible apply s_iaddrO); (· rfl); (· rfl); (· (first | omega | exact ⟨rfl, by omega⟩ | skip)); (· (exact hpX))) | ((with_reducible apply s_iaddrSO); (· rfl); (· assumption); (· rfl); (· (first | omega | exact ⟨rfl, by omega⟩ | skip)); (· (first | (simp (disch := omega) only [w64, wu8, wu16, wu32, wu64, tm_nn, td_nn, fd_nn, Int.reduceAdd, Int.reduceSub, Int.reduceMul, Int.reduceDiv, Int.reduceMod, Int.reduceNeg, Int.reduceToNat, Int.toNat_natCast, Int.toNat_zero, Int.zero_add, Int.add_zero, Int.one_mul, Int.reducePow, Nat.mul_one, Nat.zero_add, Nat.add_zero, Nat.zero_mul, Nat.reduceAdd, Nat.reduceMul, Nat.reduceSub, Nat.min_eq_left, IntKind.bits, Nat.sub_zero, g0, g1]; try rfl; done) | rfl)); intro ks hks))) | ((with_reducible refine k_load ?_); (first | ((with_reducible apply s_loadV); (· rfl)) | ((with_reducible apply s_loadP); (· rfl); (· (exact hpX))))) | ((with_reducible refine k_add ?_); ((with_reducible apply s_add); (· rfl); (· rfl))) | ((with_reducible refine k_faddr ?_); (first | ((with_reducible apply s_faddrV); (· rfl); (· rfl)) | ((with_reducible apply s_faddrP); (· rfl); (· rfl)))) | ((with_reducible refine k_br ?_); (first | (with_reducible first | refine Br_dec ?_ | refine Br_not ?_ | refine Br_eqF ?_ | refine Br_and ?_ | refine Br_or ?_ | refine Br_neg ?_ | refine Br_band ?_ | refine Br_bor ?_ | refine Br_beq ?_) | (refine Br_t (by first | with_reducible rfl | omega | assumption | rfl) ?_) | (refine Br_f (by first | omega | assumption | decide) ?_) | (with_reducible apply Br_sb <;> intro hbr <;> (first | subst hbr | simp only [hbr] | skip)) | (with_reducible apply Br_s <;> intro hbr))) | ((first | (with_reducible apply q_eqI) | (with_reducible apply q_eqN)); (first | (simp (disch := omega) only [w64, wu8, wu16, wu32, wu64, tm_nn, td_nn, fd_nn, Int.reduceAdd, Int.reduceSub, Int.reduceMul, Int.reduceDiv, Int.reduceMod, Int.reduceNeg, Int.reduceToNat, Int.toNat_natCast, Int.toNat_zero, Int.zero_add, Int.add_zero, Int.one_mul, Int.reducePow, Nat.mul_one, Nat.zero_add, Nat.add_zero, Nat.zero_mul, Nat.reduceAdd, Nat.reduceMul, Nat.reduceSub, Nat.min_eq_left, IntKind.bits, Nat.sub_zero, g0, g1]; try rfl; done) | rfl)) | ((first | (with_reducible apply q_eqL) | (with_reducible apply q_eqO)); (first | (simp (disch := omega) only [upd_self, upd_ne, upd_upd, rep, splice, List.take_succ_cons, List.take_zero, List.drop_succ_cons, List.drop_zero, List.cons_append, List.nil_append, List.append_nil, List.length_cons, List.length_nil, List.reduceReplicate, List.flatten_cons, List.flatten_nil, Nat.reduceAdd, Nat.reduceMul, Nat.reduceSub, Nat.zero_add, Nat.add_zero, List.getElem?_cons_zero, List.getElem?_cons_succ, g0, g1]; try rfl; done) | rfl)))
    all_goals first | (exfalso; omega) | skip
    all_goals first
      | (rw [hat (decide_eq_true ⟨by omega, by omega⟩)]; first | exact Fin_flat trivial rfl rfl | (refine Fin_tup trivial rfl ?_ (Nat.le_of_ble_eq_true rfl); (repeat (first | exact All2.nil | (apply All2.cons; (· first | exact exc_n | exact exc_e | exact exc_v rfl rfl | exact exc_o upd_self rfl rfl)))); done) | (refine Fin_own trivial rfl upd_self ?_ (Nat.le_of_ble_eq_true rfl); (repeat (first | exact All2.nil | (apply All2.cons; (· first | exact exc_n | exact exc_e | exact exc_v rfl rfl | exact exc_o upd_self rfl rfl)))); done) | exact Fin_nil trivial rfl | exact Fin_sl trivial rfl upd_self rfl rfl)
      | exact ⟨hnx (decide_eq_false (by omega)), rfl⟩
  · rintro e' h' ⟨ht, he⟩
    cases he
    have hno : comF l n i = -1 := firstI_no fun m hm => by rw [List.getElem_take]; rw [List.length_take] at hm; exact ht m (by omega) (by omega)
    rw [hno]
    repeat' (first | (with_reducible first | refine W_seq ?_ | refine then_n ?_ | refine W_block ?_ | refine blk_n ?_ | refine blk_r ?_ | refine blk_e ?_ | refine W_skip ?_ | refine W_ret ?_ | refine then_r ?_ | refine W_exit ?_ | refine then_e ?_) | ((with_reducible refine s_reg ?_); intro K hK) | ((with_reducible refine k_nil ?_); (with_reducible apply s_nil hK); (· exact nmX); clear hK; clear K) | ((with_reducible refine k_cond ?_); (first | ((with_reducible apply s_condT); (· rfl); (· exact nmX)) | ((with_reducible apply s_condF); (· rfl); (· exact nmX)) | ((with_reducible apply s_condS); (· rfl); (· exact nmX); (· exact nmX)))) | ((with_reducible refine k_mv ?_); (refine s_mv rfl ?_)) | ((with_reducible refine k_lss ?_); (refine s_lss rfl rfl ?_)) | ((with_reducible refine k_br ?_); (first | (with_reducible first | refine Br_dec ?_ | refine Br_not ?_ | refine Br_eqF ?_ | refine Br_and ?_ | refine Br_or ?_ | refine Br_neg ?_ | refine Br_band ?_ | refine Br_bor ?_ | refine Br_beq ?_) | (refine Br_t (by first | with_reducible rfl | omega | assumption | rfl) ?_) | (refine Br_f (by first | omega | assumption | decide) ?_) | (with_reducible apply Br_sb <;> intro hbr <;> (first | subst hbr | simp only [hbr] | skip)) | (with_reducible apply Br_s <;> intro hbr))))
    all_goals first | exact Fin_flat trivial rfl rfl | (refine Fin_tup trivial rfl ?_ (Nat.le_of_ble_eq_true rfl); (repeat (first | exact All2.nil | (apply All2.cons; (· first | exact exc_n | exact exc_e | exact exc_v rfl rfl | exact exc_o upd_self rfl rfl)))); done) | (refine Fin_own trivial rfl upd_self ?_ (Nat.le_of_ble_eq_true rfl); (repeat (first | exact All2.nil | (apply All2.cons; (· first | exact exc_n | exact exc_e | exact exc_v rfl rfl | exact exc_o upd_self rfl rfl)))); done) | exact Fin_nil trivial rfl | exact Fin_sl trivial rfl upd_self rfl rfl
theorem revent_c (B : List Bs) (hB : B.length ≤ 1000000) (l : List Ev) (hl : l.length ≤ 1000000) (i : Nat) (hi : i < l.length) : PCon Try.prog 40 [bsD B, evD l, .int .i64 i] (.int .i64 (evE l B.length i)) := by
  refine A40p (by simp [A40]) ?_
  simp only [A40, argEnv]
  have hal := evs_len l
  have hrow := evr hi
  have c1 := rsub_c l hl i (by omega) l[i].id
  have c2 := rcom_c l hl i (by omega) l[i].id
  rw [evE, dif_pos hi]
  generalize subF l i l[i].id = s at *
  generalize comF l i l[i].id = c at *
  generalize l[i] = x at *
  obtain ⟨kind, id, block, data⟩ := x
  dsimp only at *
  repeat' (first | (with_reducible first | refine W_seq ?_ | refine then_n ?_ | refine W_block ?_ | refine blk_n ?_ | refine blk_r ?_ | refine blk_e ?_ | refine W_skip ?_ | refine W_ret ?_ | refine then_r ?_) | ((with_reducible refine s_reg ?_); intro K hK) | ((with_reducible refine k_nil ?_); (with_reducible apply s_nil hK); (· exact nmX); clear hK; clear K) | ((with_reducible refine k_cond ?_); (first | ((with_reducible apply s_condT); (· rfl); (· exact nmX)) | ((with_reducible apply s_condF); (· rfl); (· exact nmX)) | ((with_reducible apply s_condS); (· rfl); (· exact nmX); (· exact nmX)))) | ((with_reducible refine k_guard ?_); (first | (refine s_gt rfl ?_) | (refine s_gf1 rfl ?_) | (refine s_gfn rfl ?_) | (refine s_gx1 rfl ?_) | (refine s_gxn rfl ?_) | (refine s_gs rfl ?_))) | ((with_reducible refine k_mv ?_); (refine s_mv rfl ?_)) | ((with_reducible refine k_len ?_); (first | (refine s_len rfl rfl ?_) | ((with_reducible apply s_len); (· rfl); (· exact SlOwn.len (by assumption))) | ((with_reducible apply s_len); (· rfl); (· assumption)))) | ((with_reducible refine k_pick ?_); (first | (refine s_pickT rfl rfl ?_) | (refine s_pickF rfl rfl ?_))) | ((with_reducible refine k_eql ?_); (first | (refine s_eql rfl rfl ?_) | (refine s_strEq rfl rfl ?_))) | ((with_reducible refine k_neq ?_); (first | (refine s_neq rfl rfl ?_) | (refine s_strNe rfl rfl ?_))) | ((with_reducible refine k_lss ?_); (refine s_lss rfl rfl ?_)) | ((with_reducible refine k_gtr ?_); (refine s_gtr rfl rfl ?_)) | ((with_reducible refine k_geq ?_); (refine s_geq rfl rfl ?_)) | ((with_reducible refine k_iaddr ?_); (first | ((with_reducible apply s_iaddrV); (· rfl); (· rfl); (· (first | omega | exact ⟨rfl, by omega⟩ | skip))) | ((with_reducible apply s_iaddrO); (· rfl); (· rfl); (· (first | omega | exact ⟨rfl, by omega⟩ | skip)); (· (exact hpX))) | ((with_reducible apply s_iaddrSO); (· rfl); (· assumption); (· rfl); (· (first | omega | exact ⟨rfl, by omega⟩ | skip)); (· (first | (simp (disch := omega) only [w64, wu8, wu16, wu32, wu64, tm_nn, td_nn, fd_nn, Int.reduceAdd, Int.reduceSub, Int.reduceMul, Int.reduceDiv, Int.reduceMod, Int.reduceNeg, Int.reduceToNat, Int.toNat_natCast, Int.toNat_zero, Int.zero_add, Int.add_zero, Int.one_mul, Int.reducePow, Nat.mul_one, Nat.zero_add, Nat.add_zero, Nat.zero_mul, Nat.reduceAdd, Nat.reduceMul, Nat.reduceSub, Nat.min_eq_left, IntKind.bits, Nat.sub_zero, hrow]; try rfl; done) | rfl)); intro ks hks))) | ((with_reducible refine k_load ?_); (first | ((with_reducible apply s_loadV); (· rfl)) | ((with_reducible apply s_loadP); (· rfl); (· (exact hpX))))) | ((with_reducible refine k_loadA ?_); (first | ((with_reducible apply s_loadAV); (· rfl); (· (first | exact Nat.le_of_ble_eq_true rfl | decide | omega | (simp; done) | (simp; omega) | skip))) | ((with_reducible apply s_loadAP); (· rfl); (· (exact hpX)); (· (first | exact Nat.le_of_ble_eq_true rfl | decide | omega | (simp; done) | (simp; omega) | skip))))) | ((with_reducible refine k_store ?_); ((with_reducible apply s_store0); (· rfl); (· rfl); (· rfl); (· (exact hpX)); (· (exact ⟨rfl, by first | exact Nat.le_of_ble_eq_true rfl | omega | (simp [hrow]; omega)⟩)); (· ((first | (simp (disch := omega) only [upd_self, upd_ne, upd_upd, rep, splice, List.take_succ_cons, List.take_zero, List.drop_succ_cons, List.drop_zero, List.cons_append, List.nil_append, List.append_nil, List.length_cons, List.length_nil, List.reduceReplicate, List.flatten_cons, List.flatten_nil, Nat.reduceAdd, Nat.reduceMul, Nat.reduceSub, Nat.zero_add, Nat.add_zero, List.getElem?_cons_zero, List.getElem?_cons_succ, hrow]; try rfl; done) | rfl))); (· (first | exact upd_upd | rfl)))) | ((with_reducible refine k_faddr ?_); (first | ((with_reducible apply s_faddrV); (· rfl); (· rfl)) | ((with_reducible apply s_faddrP); (· rfl); (· rfl)))) | ((with_reducible refine k_alloc (dst := some 7) ?_); ((with_reducible apply s_alloc); intro k7 hk7; (try simp only [upd_none] at hk7))) | ((with_reducible refine k_callF ?_); (first | ((with_reducible apply s_call1); (· rfl)) | ((with_reducible apply s_calln); (· rfl)))) | ((with_reducible refine k_con ?_); (first | ((with_reducible apply con_val (c1)); (· (repeat (first | exact All2.nil | (apply All2.cons; (· first | ((apply Rd_sl0); (· exact hpX); (· first | rfl | exact scal_i | exact scal_b | assumption); (· first | rfl | assumption | (simp [hrow]; done) | (simp [hrow]; omega))) | exact rdX))))); (· rfl); (· exact fun _ => rfl)) | ((with_reducible apply con_val (c2)); (· (repeat (first | exact All2.nil | (apply All2.cons; (· first | ((apply Rd_sl0); (· exact hpX); (· first | rfl | exact scal_i | exact scal_b | assumption); (· first | rfl | assumption | (simp [hrow]; done) | (simp [hrow]; omega))) | exact rdX))))); (· rfl); (· exact fun _ => rfl)))) | ((with_reducible refine k_br ?_); (first | (with_reducible first | refine Br_dec ?_ | refine Br_not ?_ | refine Br_eqF ?_ | refine Br_and ?_ | refine Br_or ?_ | refine Br_neg ?_ | refine Br_band ?_ | refine Br_bor ?_ | refine Br_beq ?_) | (refine Br_t (by first | with_reducible rfl | omega | assumption | rfl) ?_) | (refine Br_f (by first | omega | assumption | decide) ?_) | (with_reducible apply Br_sb <;> intro hbr <;> (first | subst hbr | simp only [hbr] | skip)) | (with_reducible apply Br_s <;> intro hbr))) | ((first | (with_reducible apply q_eqI) | (with_reducible apply q_eqN)); (first | (simp (disch := omega) only [w64, wu8, wu16, wu32, wu64, tm_nn, td_nn, fd_nn, Int.reduceAdd, Int.reduceSub, Int.reduceMul, Int.reduceDiv, Int.reduceMod, Int.reduceNeg, Int.reduceToNat, Int.toNat_natCast, Int.toNat_zero, Int.zero_add, Int.add_zero, Int.one_mul, Int.reducePow, Nat.mul_one, Nat.zero_add, Nat.add_zero, Nat.zero_mul, Nat.reduceAdd, Nat.reduceMul, Nat.reduceSub, Nat.min_eq_left, IntKind.bits, Nat.sub_zero, hrow]; try rfl; done) | rfl)) | ((first | (with_reducible apply q_eqL) | (with_reducible apply q_eqO)); (first | (simp (disch := omega) only [upd_self, upd_ne, upd_upd, rep, splice, List.take_succ_cons, List.take_zero, List.drop_succ_cons, List.drop_zero, List.cons_append, List.nil_append, List.append_nil, List.length_cons, List.length_nil, List.reduceReplicate, List.flatten_cons, List.flatten_nil, Nat.reduceAdd, Nat.reduceMul, Nat.reduceSub, Nat.zero_add, Nat.add_zero, List.getElem?_cons_zero, List.getElem?_cons_succ, hrow]; try rfl; done) | rfl)))
  all_goals first | (exfalso; omega) | skip
  all_goals first
    | (refine ⟨trivial, _, rfl, ?_⟩; have : ∀ {n : Int} {m : Int} {h : Heap}, m = n → Ex h (.int .i64 n) (.int .i64 m) := fun e => by rw [e]; exact Ex_flat rfl
       exact this (by (repeat' split) <;> first | rfl | omega | contradiction))
theorem rcheck_c (B : List Bs) (hB : B.length ≤ 1000000) (l : List Ev) (hl : l.length ≤ 1000000) : PCon Try.prog 17 [bsD B, evD l] (.int .i64 (chkR B l)) := by
  refine A17p (by simp [A17]) ?_
  simp only [A17, argEnv]
  have hal := evs_len l
  have hbl := bs_len B
  repeat' (first | (with_reducible first | refine W_seq ?_ | refine then_n ?_ | refine W_block ?_ | refine blk_n ?_ | refine blk_r ?_ | refine blk_e ?_ | refine W_skip ?_ | refine W_ret ?_ | refine then_r ?_ | refine W_exit ?_ | refine then_e ?_) | ((with_reducible refine s_reg ?_); intro K hK) | ((with_reducible refine k_nil ?_); (with_reducible apply s_nil hK); (· exact nmX); clear hK; clear K) | ((with_reducible refine k_mv ?_); (refine s_mv rfl ?_)))
  refine W_for B.length (fun i st => (∀ j (hj : j < B.length), j < i → B[j].length = 32) ∧ st = ⟨[(0, bsD B), (1, evD l), (5, .int .i64 i)], fun _ => none⟩) ⟨fun j _ hj => by omega, rfl⟩ ?_ ?_
  · rintro i e' h' hi ⟨ht, he⟩
    cases he
    have hg := bsg hi
    by_cases h32 : B[i].length = 32
    · have h32' := h32
      generalize B[i] = b at h32 hg
      repeat' (first | (with_reducible first | refine W_seq ?_ | refine then_n ?_ | refine W_block ?_ | refine blk_n ?_ | refine blk_r ?_ | refine blk_e ?_ | refine W_skip ?_ | refine W_ret ?_ | refine then_r ?_ | refine W_exit ?_ | refine then_e ?_) | ((with_reducible refine s_reg ?_); intro K hK) | ((with_reducible refine k_nil ?_); (with_reducible apply s_nil hK); (· exact nmX); clear hK; clear K) | ((with_reducible refine k_cond ?_); (first | ((with_reducible apply s_condT); (· rfl); (· exact nmX)) | ((with_reducible apply s_condF); (· rfl); (· exact nmX)) | ((with_reducible apply s_condS); (· rfl); (· exact nmX); (· exact nmX)))) | ((with_reducible refine k_mv ?_); (refine s_mv rfl ?_)) | ((with_reducible refine k_len ?_); (first | (refine s_len rfl rfl ?_) | ((with_reducible apply s_len); (· rfl); (· exact SlOwn.len (by assumption))) | ((with_reducible apply s_len); (· rfl); (· assumption)))) | ((with_reducible refine k_neq ?_); (first | (refine s_neq rfl rfl ?_) | (refine s_strNe rfl rfl ?_))) | ((with_reducible refine k_lss ?_); (refine s_lss rfl rfl ?_)) | ((with_reducible refine k_iaddr ?_); (first | ((with_reducible apply s_iaddrV); (· rfl); (· rfl); (· (first | omega | exact ⟨rfl, by omega⟩ | skip))) | ((with_reducible apply s_iaddrO); (· rfl); (· rfl); (· (first | omega | exact ⟨rfl, by omega⟩ | skip)); (· (exact hpX))) | ((with_reducible apply s_iaddrSO); (· rfl); (· assumption); (· rfl); (· (first | omega | exact ⟨rfl, by omega⟩ | skip)); (· (first | (simp (disch := omega) only [w64, wu8, wu16, wu32, wu64, tm_nn, td_nn, fd_nn, Int.reduceAdd, Int.reduceSub, Int.reduceMul, Int.reduceDiv, Int.reduceMod, Int.reduceNeg, Int.reduceToNat, Int.toNat_natCast, Int.toNat_zero, Int.zero_add, Int.add_zero, Int.one_mul, Int.reducePow, Nat.mul_one, Nat.zero_add, Nat.add_zero, Nat.zero_mul, Nat.reduceAdd, Nat.reduceMul, Nat.reduceSub, Nat.min_eq_left, IntKind.bits, Nat.sub_zero, hg]; try rfl; done) | rfl)); intro ks hks))) | ((with_reducible refine k_load ?_); (first | ((with_reducible apply s_loadV); (· rfl)) | ((with_reducible apply s_loadP); (· rfl); (· (exact hpX))))) | ((with_reducible refine k_add ?_); ((with_reducible apply s_add); (· rfl); (· rfl))) | ((with_reducible refine k_br ?_); (first | (with_reducible first | refine Br_dec ?_ | refine Br_not ?_ | refine Br_eqF ?_ | refine Br_and ?_ | refine Br_or ?_ | refine Br_neg ?_ | refine Br_band ?_ | refine Br_bor ?_ | refine Br_beq ?_) | (refine Br_t (by first | with_reducible rfl | omega | assumption | rfl) ?_) | (refine Br_f (by first | omega | assumption | decide) ?_) | (with_reducible apply Br_sb <;> intro hbr <;> (first | subst hbr | simp only [hbr] | skip)) | (with_reducible apply Br_s <;> intro hbr))) | ((first | (with_reducible apply q_eqI) | (with_reducible apply q_eqN)); (first | (simp (disch := omega) only [w64, wu8, wu16, wu32, wu64, tm_nn, td_nn, fd_nn, Int.reduceAdd, Int.reduceSub, Int.reduceMul, Int.reduceDiv, Int.reduceMod, Int.reduceNeg, Int.reduceToNat, Int.toNat_natCast, Int.toNat_zero, Int.zero_add, Int.add_zero, Int.one_mul, Int.reducePow, Nat.mul_one, Nat.zero_add, Nat.add_zero, Nat.zero_mul, Nat.reduceAdd, Nat.reduceMul, Nat.reduceSub, Nat.min_eq_left, IntKind.bits, Nat.sub_zero, hg]; try rfl; done) | rfl)) | ((first | (with_reducible apply q_eqL) | (with_reducible apply q_eqO)); (first | (simp (disch := omega) only [upd_self, upd_ne, upd_upd, rep, splice, List.take_succ_cons, List.take_zero, List.drop_succ_cons, List.drop_zero, List.cons_append, List.nil_append, List.append_nil, List.length_cons, List.length_nil, List.reduceReplicate, List.flatten_cons, List.flatten_nil, Nat.reduceAdd, Nat.reduceMul, Nat.reduceSub, Nat.zero_add, Nat.add_zero, List.getElem?_cons_zero, List.getElem?_cons_succ, hg]; try rfl; done) | rfl)))
      all_goals first | (exfalso; omega) | skip
      refine ⟨fun j hj hji => ?_, rfl⟩
      rcases Nat.lt_succ_iff_lt_or_eq.1 hji with h1 | rfl
      · exact ht j hj h1
      · assumption
    · have hok : ¬ okB B := fun h => h32 (h _ (List.getElem_mem hi))
      have hch : chkR B l = 3 := by unfold chkR; rw [if_neg hok]
      rw [hch]
      generalize B[i] = b at *
      repeat' (first | (with_reducible first | refine W_seq ?_ | refine then_n ?_ | refine W_block ?_ | refine blk_n ?_ | refine blk_r ?_ | refine blk_e ?_ | refine W_skip ?_ | refine W_ret ?_ | refine then_r ?_ | refine W_exit ?_ | refine then_e ?_) | ((with_reducible refine s_reg ?_); intro K hK) | ((with_reducible refine k_nil ?_); (with_reducible apply s_nil hK); (· exact nmX); clear hK; clear K) | ((with_reducible refine k_cond ?_); (first | ((with_reducible apply s_condT); (· rfl); (· exact nmX)) | ((with_reducible apply s_condF); (· rfl); (· exact nmX)) | ((with_reducible apply s_condS); (· rfl); (· exact nmX); (· exact nmX)))) | ((with_reducible refine k_mv ?_); (refine s_mv rfl ?_)) | ((with_reducible refine k_len ?_); (first | (refine s_len rfl rfl ?_) | ((with_reducible apply s_len); (· rfl); (· exact SlOwn.len (by assumption))) | ((with_reducible apply s_len); (· rfl); (· assumption)))) | ((with_reducible refine k_neq ?_); (first | (refine s_neq rfl rfl ?_) | (refine s_strNe rfl rfl ?_))) | ((with_reducible refine k_lss ?_); (refine s_lss rfl rfl ?_)) | ((with_reducible refine k_iaddr ?_); (first | ((with_reducible apply s_iaddrV); (· rfl); (· rfl); (· (first | omega | exact ⟨rfl, by omega⟩ | skip))) | ((with_reducible apply s_iaddrO); (· rfl); (· rfl); (· (first | omega | exact ⟨rfl, by omega⟩ | skip)); (· (exact hpX))) | ((with_reducible apply s_iaddrSO); (· rfl); (· assumption); (· rfl); (· (first | omega | exact ⟨rfl, by omega⟩ | skip)); (· (first | (simp (disch := omega) only [w64, wu8, wu16, wu32, wu64, tm_nn, td_nn, fd_nn, Int.reduceAdd, Int.reduceSub, Int.reduceMul, Int.reduceDiv, Int.reduceMod, Int.reduceNeg, Int.reduceToNat, Int.toNat_natCast, Int.toNat_zero, Int.zero_add, Int.add_zero, Int.one_mul, Int.reducePow, Nat.mul_one, Nat.zero_add, Nat.add_zero, Nat.zero_mul, Nat.reduceAdd, Nat.reduceMul, Nat.reduceSub, Nat.min_eq_left, IntKind.bits, Nat.sub_zero, hg]; try rfl; done) | rfl)); intro ks hks))) | ((with_reducible refine k_load ?_); (first | ((with_reducible apply s_loadV); (· rfl)) | ((with_reducible apply s_loadP); (· rfl); (· (exact hpX))))) | ((with_reducible refine k_br ?_); (first | (with_reducible first | refine Br_dec ?_ | refine Br_not ?_ | refine Br_eqF ?_ | refine Br_and ?_ | refine Br_or ?_ | refine Br_neg ?_ | refine Br_band ?_ | refine Br_bor ?_ | refine Br_beq ?_) | (refine Br_t (by first | with_reducible rfl | omega | assumption | rfl) ?_) | (refine Br_f (by first | omega | assumption | decide) ?_) | (with_reducible apply Br_sb <;> intro hbr <;> (first | subst hbr | simp only [hbr] | skip)) | (with_reducible apply Br_s <;> intro hbr))) | ((first | (with_reducible apply q_eqI) | (with_reducible apply q_eqN)); (first | (simp (disch := omega) only [w64, wu8, wu16, wu32, wu64, tm_nn, td_nn, fd_nn, Int.reduceAdd, Int.reduceSub, Int.reduceMul, Int.reduceDiv, Int.reduceMod, Int.reduceNeg, Int.reduceToNat, Int.toNat_natCast, Int.toNat_zero, Int.zero_add, Int.add_zero, Int.one_mul, Int.reducePow, Nat.mul_one, Nat.zero_add, Nat.add_zero, Nat.zero_mul, Nat.reduceAdd, Nat.reduceMul, Nat.reduceSub, Nat.min_eq_left, IntKind.bits, Nat.sub_zero, hg]; try rfl; done) | rfl)) | ((first | (with_reducible apply q_eqL) | (with_reducible apply q_eqO)); (first | (simp (disch := omega) only [upd_self, upd_ne, upd_upd, rep, splice, List.take_succ_cons, List.take_zero, List.drop_succ_cons, List.drop_zero, List.cons_append, List.nil_append, List.append_nil, List.length_cons, List.length_nil, List.reduceReplicate, List.flatten_cons, List.flatten_nil, Nat.reduceAdd, Nat.reduceMul, Nat.reduceSub, Nat.zero_add, Nat.add_zero, List.getElem?_cons_zero, List.getElem?_cons_succ, hg]; try rfl; done) | rfl)))
      all_goals first | (exfalso; omega) | (first | exact Fin_flat trivial rfl rfl | (refine Fin_tup trivial rfl ?_ (Nat.le_of_ble_eq_true rfl); (repeat (first | exact All2.nil | (apply All2.cons; (· first | exact exc_n | exact exc_e | exact exc_v rfl rfl | exact exc_o upd_self rfl rfl)))); done) | (refine Fin_own trivial rfl upd_self ?_ (Nat.le_of_ble_eq_true rfl); (repeat (first | exact All2.nil | (apply All2.cons; (· first | exact exc_n | exact exc_e | exact exc_v rfl rfl | exact exc_o upd_self rfl rfl)))); done) | exact Fin_nil trivial rfl | exact Fin_sl trivial rfl upd_self rfl rfl)
  · rintro e' h' ⟨ht, he⟩
    cases he
    have hok : okB B := fun b hb => by obtain ⟨j, hj, rfl⟩ := List.mem_iff_getElem.1 hb; exact ht j hj hj
    have hch : chkR B l = fE (evE l B.length) l.length := by unfold chkR; rw [if_pos hok]
    rw [hch]
    clear ht
    repeat' (first | (with_reducible first | refine W_seq ?_ | refine then_n ?_ | refine W_block ?_ | refine blk_n ?_ | refine blk_r ?_ | refine blk_e ?_ | refine W_skip ?_ | refine W_ret ?_ | refine then_r ?_ | refine W_exit ?_ | refine then_e ?_) | ((with_reducible refine s_reg ?_); intro K hK) | ((with_reducible refine k_nil ?_); (with_reducible apply s_nil hK); (· exact nmX); clear hK; clear K) | ((with_reducible refine k_cond ?_); (first | ((with_reducible apply s_condT); (· rfl); (· exact nmX)) | ((with_reducible apply s_condF); (· rfl); (· exact nmX)) | ((with_reducible apply s_condS); (· rfl); (· exact nmX); (· exact nmX)))) | ((with_reducible refine k_mv ?_); (refine s_mv rfl ?_)) | ((with_reducible refine k_len ?_); (first | (refine s_len rfl rfl ?_) | ((with_reducible apply s_len); (· rfl); (· exact SlOwn.len (by assumption))) | ((with_reducible apply s_len); (· rfl); (· assumption)))) | ((with_reducible refine k_lss ?_); (refine s_lss rfl rfl ?_)) | ((with_reducible refine k_br ?_); (first | (with_reducible first | refine Br_dec ?_ | refine Br_not ?_ | refine Br_eqF ?_ | refine Br_and ?_ | refine Br_or ?_ | refine Br_neg ?_ | refine Br_band ?_ | refine Br_bor ?_ | refine Br_beq ?_) | (refine Br_t (by first | with_reducible rfl | omega | assumption | rfl) ?_) | (refine Br_f (by first | omega | assumption | decide) ?_) | (with_reducible apply Br_sb <;> intro hbr <;> (first | subst hbr | simp only [hbr] | skip)) | (with_reducible apply Br_s <;> intro hbr))))
    all_goals first | (exfalso; omega) | skip
    refine W_for l.length (fun i st => (∀ j, j < i → evE l B.length j = 0) ∧ st = ⟨[(0, bsD B), (1, evD l), (6, .int .i64 i)], fun _ => none⟩) ⟨fun j hj => by omega, rfl⟩ ?_ ?_
    · rintro i e' h' hi ⟨ht, he⟩
      cases he
      have c1 := revent_c B hB l hl i hi
      have hst : ∀ e, evE l B.length i = e → e ≠ 0 → fE (evE l B.length) l.length = e := fun e h1 h2 => fE_stop hi ht h1 h2
      have hnx : evE l B.length i = 0 → ∀ j, j < i + 1 → evE l B.length j = 0 := fun h0 j hj => by
        rcases Nat.lt_succ_iff_lt_or_eq.1 hj with h1 | rfl
        · exact ht j h1
        · exact h0
      generalize evE l B.length i = e at *
      repeat' (first | (with_reducible first | refine W_seq ?_ | refine then_n ?_ | refine W_block ?_ | refine blk_n ?_ | refine blk_r ?_ | refine blk_e ?_ | refine W_skip ?_ | refine W_ret ?_ | refine then_r ?_ | refine W_exit ?_ | refine then_e ?_) | ((with_reducible refine s_reg ?_); intro K hK) | ((with_reducible refine k_nil ?_); (with_reducible apply s_nil hK); (· exact nmX); clear hK; clear K) | ((with_reducible refine k_cond ?_); (first | ((with_reducible apply s_condT); (· rfl); (· exact nmX)) | ((with_reducible apply s_condF); (· rfl); (· exact nmX)) | ((with_reducible apply s_condS); (· rfl); (· exact nmX); (· exact nmX)))) | ((with_reducible refine k_mv ?_); (refine s_mv rfl ?_)) | ((with_reducible refine k_len ?_); (first | (refine s_len rfl rfl ?_) | ((with_reducible apply s_len); (· rfl); (· exact SlOwn.len (by assumption))) | ((with_reducible apply s_len); (· rfl); (· assumption)))) | ((with_reducible refine k_neq ?_); (first | (refine s_neq rfl rfl ?_) | (refine s_strNe rfl rfl ?_))) | ((with_reducible refine k_lss ?_); (refine s_lss rfl rfl ?_)) | ((with_reducible refine k_add ?_); ((with_reducible apply s_add); (· rfl); (· rfl))) | ((with_reducible refine k_callF ?_); (first | ((with_reducible apply s_call1); (· rfl)) | ((with_reducible apply s_calln); (· rfl)))) | ((with_reducible refine k_con ?_); (first | ((with_reducible apply con_val (c1)); (· (exact agX)); (· rfl); (· exact fun _ => rfl)))) | ((with_reducible refine k_br ?_); (first | (with_reducible first | refine Br_dec ?_ | refine Br_not ?_ | refine Br_eqF ?_ | refine Br_and ?_ | refine Br_or ?_ | refine Br_neg ?_ | refine Br_band ?_ | refine Br_bor ?_ | refine Br_beq ?_) | (refine Br_t (by first | with_reducible rfl | omega | assumption | rfl) ?_) | (refine Br_f (by first | omega | assumption | decide) ?_) | (with_reducible apply Br_sb <;> intro hbr <;> (first | subst hbr | simp only [hbr] | skip)) | (with_reducible apply Br_s <;> intro hbr))) | ((first | (with_reducible apply q_eqI) | (with_reducible apply q_eqN)); (first | exact nuI | exact nuN)))
      all_goals first | (exfalso; omega) | skip
      all_goals first
        | exact ⟨hnx (by omega), rfl⟩
        | (rw [hst e rfl (by omega)]; first | exact Fin_flat trivial rfl rfl | (refine Fin_tup trivial rfl ?_ (Nat.le_of_ble_eq_true rfl); (repeat (first | exact All2.nil | (apply All2.cons; (· first | exact exc_n | exact exc_e | exact exc_v rfl rfl | exact exc_o upd_self rfl rfl)))); done) | (refine Fin_own trivial rfl upd_self ?_ (Nat.le_of_ble_eq_true rfl); (repeat (first | exact All2.nil | (apply All2.cons; (· first | exact exc_n | exact exc_e | exact exc_v rfl rfl | exact exc_o upd_self rfl rfl)))); done) | exact Fin_nil trivial rfl | exact Fin_sl trivial rfl upd_self rfl rfl)
    · rintro e' h' ⟨ht, he⟩
      cases he
      rw [fE_zero.2 ht]
      repeat' (first | (with_reducible first | refine W_seq ?_ | refine then_n ?_ | refine W_block ?_ | refine blk_n ?_ | refine blk_r ?_ | refine blk_e ?_ | refine W_skip ?_ | refine W_ret ?_ | refine then_r ?_ | refine W_exit ?_ | refine then_e ?_) | ((with_reducible refine s_reg ?_); intro K hK) | ((with_reducible refine k_nil ?_); (with_reducible apply s_nil hK); (· exact nmX); clear hK; clear K) | ((with_reducible refine k_cond ?_); (first | ((with_reducible apply s_condT); (· rfl); (· exact nmX)) | ((with_reducible apply s_condF); (· rfl); (· exact nmX)) | ((with_reducible apply s_condS); (· rfl); (· exact nmX); (· exact nmX)))) | ((with_reducible refine k_mv ?_); (refine s_mv rfl ?_)) | ((with_reducible refine k_len ?_); (first | (refine s_len rfl rfl ?_) | ((with_reducible apply s_len); (· rfl); (· exact SlOwn.len (by assumption))) | ((with_reducible apply s_len); (· rfl); (· assumption)))) | ((with_reducible refine k_lss ?_); (refine s_lss rfl rfl ?_)) | ((with_reducible refine k_br ?_); (first | (with_reducible first | refine Br_dec ?_ | refine Br_not ?_ | refine Br_eqF ?_ | refine Br_and ?_ | refine Br_or ?_ | refine Br_neg ?_ | refine Br_band ?_ | refine Br_bor ?_ | refine Br_beq ?_) | (refine Br_t (by first | with_reducible rfl | omega | assumption | rfl) ?_) | (refine Br_f (by first | omega | assumption | decide) ?_) | (with_reducible apply Br_sb <;> intro hbr <;> (first | subst hbr | simp only [hbr] | skip)) | (with_reducible apply Br_s <;> intro hbr))))
      all_goals first | exact Fin_flat trivial rfl rfl | (refine Fin_tup trivial rfl ?_ (Nat.le_of_ble_eq_true rfl); (repeat (first | exact All2.nil | (apply All2.cons; (· first | exact exc_n | exact exc_e | exact exc_v rfl rfl | exact exc_o upd_self rfl rfl)))); done) | (refine Fin_own trivial rfl upd_self ?_ (Nat.le_of_ble_eq_true rfl); (repeat (first | exact All2.nil | (apply All2.cons; (· first | exact exc_n | exact exc_e | exact exc_v rfl rfl | exact exc_o upd_self rfl rfl)))); done) | exact Fin_nil trivial rfl | exact Fin_sl trivial rfl upd_self rfl rfl
end Go.Proofs.Ythblalidmmbcoaa
end
section
/- min -/
/- The reference: contents, possible contents. -/
set_option linter.unusedSimpArgs false
set_option linter.unusedVariables false
namespace Go.Proofs.Ythblalidmmbcoaa
open Go.AM Classical
set_option maxRecDepth 100000
set_option maxHeartbeats 4000000
abbrev vD (c : Bs) : D := .vn 1 (c.map (.int .u8)) c.length
theorem vs_rn {h : Heap} (L : List Bs) : All2 (Rn h) (L.map vD) (L.map bD) := by
  refine ⟨by simp, fun i c d hc hd => ?_⟩
  rw [List.getElem?_map] at hc hd
  cases hb : L[i]? with
  | none => rw [hb] at hd; cases hd
  | some b => rw [hb] at hc hd; injection hc with hc; injection hd with hd; subst hc; subst hd; exact Rn_vn
end Go.Proofs.Ythblalidmmbcoaa
end
section
/- min -/
/- The reference: contents of blocks. -/
set_option linter.unusedSimpArgs false
set_option linter.unusedVariables false
namespace Go.Proofs.Ythblalidmmbcoaa
open Go.AM Classical
set_option maxRecDepth 100000
set_option maxHeartbeats 4000000
end Go.Proofs.Ythblalidmmbcoaa
end
section
/- min -/
/- The reference: possible contents. -/
set_option linter.unusedSimpArgs false
set_option linter.unusedVariables false
namespace Go.Proofs.Ythblalidmmbcoaa
open Go.AM Classical
set_option maxRecDepth 100000
set_option maxHeartbeats 4000000
end Go.Proofs.Ythblalidmmbcoaa
end
section
/- min -/
/- The reference: equality, sizes, order. -/
set_option linter.unusedSimpArgs false
set_option linter.unusedVariables false
namespace Go.Proofs.Ythblalidmmbcoaa
open Go.AM Classical
set_option maxRecDepth 100000
set_option maxHeartbeats 4000000
theorem rsame_c (a b : List Bs) (ha : a.length ≤ 1000000) (hb : b.length ≤ 1000000) (ya : ∀ c ∈ a, byB c) (yb : ∀ c ∈ b, byB c) : PCon Try.prog 20 [bsD a, bsD b] (.bool (decide (a = b))) := by
  refine A20p (by simp [A20]) ?_
  simp only [A20, argEnv]
  have hal := bs_len a
  have hbl := bs_len b
  by_cases hl : a.length = b.length
  · repeat' (first | (with_reducible first | refine W_seq ?_ | refine then_n ?_ | refine W_block ?_ | refine blk_n ?_ | refine blk_r ?_ | refine blk_e ?_ | refine W_skip ?_ | refine W_ret ?_ | refine then_r ?_ | refine W_exit ?_ | refine then_e ?_) | ((with_reducible refine s_reg ?_); intro K hK) | ((with_reducible refine k_nil ?_); (with_reducible apply s_nil hK); (· exact nmX); clear hK; clear K) | ((with_reducible refine k_cond ?_); (first | ((with_reducible apply s_condT); (· rfl); (· exact nmX)) | ((with_reducible apply s_condF); (· rfl); (· exact nmX)) | ((with_reducible apply s_condS); (· rfl); (· exact nmX); (· exact nmX)))) | ((with_reducible refine k_mv ?_); (refine s_mv rfl ?_)) | ((with_reducible refine k_len ?_); (first | (refine s_len rfl rfl ?_) | ((with_reducible apply s_len); (· rfl); (· exact SlOwn.len (by assumption))) | ((with_reducible apply s_len); (· rfl); (· assumption)))) | ((with_reducible refine k_neq ?_); (first | (refine s_neq rfl rfl ?_) | (refine s_strNe rfl rfl ?_))) | ((with_reducible refine k_br ?_); (first | (with_reducible first | refine Br_dec ?_ | refine Br_not ?_ | refine Br_eqF ?_ | refine Br_and ?_ | refine Br_or ?_ | refine Br_neg ?_ | refine Br_band ?_ | refine Br_bor ?_ | refine Br_beq ?_) | (refine Br_t (by first | with_reducible rfl | omega | assumption | rfl) ?_) | (refine Br_f (by first | omega | assumption | decide) ?_) | (with_reducible apply Br_sb <;> intro hbr <;> (first | subst hbr | simp only [hbr] | skip)) | (with_reducible apply Br_s <;> intro hbr))))
    all_goals first | (exfalso; omega) | skip
    refine W_for a.length (fun i st => (∀ j (hj : j < a.length), j < i → a[j] = b[j]) ∧ st = ⟨[(0, bsD a), (1, bsD b), (5, .int .i64 i)], fun _ => none⟩) ⟨fun j _ hj => by omega, rfl⟩ ?_ ?_
    · rintro i e' h' hi ⟨ht, he⟩
      cases he
      have hi2 : i < b.length := by omega
      have g1 := bsg hi
      have g2 := bsg hi2
      have he := strOf_eq (ya _ (List.getElem_mem hi)) (yb _ (List.getElem_mem hi2))
      by_cases hx : a[i] = b[i]
      · have hnx : ∀ j (hj : j < a.length), j < i + 1 → a[j] = b[j] := fun j hj hji => by
          rcases Nat.lt_succ_iff_lt_or_eq.1 hji with h1 | rfl
          · exact ht j hj h1
          · exact hx
        rw [decide_eq_true hx] at he
        rw [hx] at g1 he
        clear hx
        generalize b[i] = y at g1 g2 he
        repeat' (first | (with_reducible first | refine W_seq ?_ | refine then_n ?_ | refine W_block ?_ | refine blk_n ?_ | refine blk_r ?_ | refine blk_e ?_ | refine W_skip ?_ | refine W_ret ?_ | refine then_r ?_ | refine W_exit ?_ | refine then_e ?_) | ((with_reducible refine s_reg ?_); intro K hK) | ((with_reducible refine k_nil ?_); (with_reducible apply s_nil hK); (· exact nmX); clear hK; clear K) | ((with_reducible refine k_cond ?_); (first | ((with_reducible apply s_condT); (· rfl); (· exact nmX)) | ((with_reducible apply s_condF); (· rfl); (· exact nmX)) | ((with_reducible apply s_condS); (· rfl); (· exact nmX); (· exact nmX)))) | ((with_reducible refine k_mv ?_); (refine s_mv rfl ?_)) | ((with_reducible refine k_len ?_); (first | (refine s_len rfl rfl ?_) | ((with_reducible apply s_len); (· rfl); (· exact SlOwn.len (by assumption))) | ((with_reducible apply s_len); (· rfl); (· assumption)))) | ((with_reducible refine k_neq ?_); (first | (refine s_neq rfl rfl ?_) | (refine s_strNe rfl rfl ?_))) | ((with_reducible refine k_lss ?_); (refine s_lss rfl rfl ?_)) | ((with_reducible refine k_iaddr ?_); (first | ((with_reducible apply s_iaddrV); (· rfl); (· rfl); (· (first | omega | exact ⟨rfl, by omega⟩ | skip))) | ((with_reducible apply s_iaddrO); (· rfl); (· rfl); (· (first | omega | exact ⟨rfl, by omega⟩ | skip)); (· (exact hpX))) | ((with_reducible apply s_iaddrSO); (· rfl); (· assumption); (· rfl); (· (first | omega | exact ⟨rfl, by omega⟩ | skip)); (· (first | (simp (disch := omega) only [w64, wu8, wu16, wu32, wu64, tm_nn, td_nn, fd_nn, Int.reduceAdd, Int.reduceSub, Int.reduceMul, Int.reduceDiv, Int.reduceMod, Int.reduceNeg, Int.reduceToNat, Int.toNat_natCast, Int.toNat_zero, Int.zero_add, Int.add_zero, Int.one_mul, Int.reducePow, Nat.mul_one, Nat.zero_add, Nat.add_zero, Nat.zero_mul, Nat.reduceAdd, Nat.reduceMul, Nat.reduceSub, Nat.min_eq_left, IntKind.bits, Nat.sub_zero, g1, g2]; try rfl; done) | rfl)); intro ks hks))) | ((with_reducible refine k_load ?_); (first | ((with_reducible apply s_loadV); (· rfl)) | ((with_reducible apply s_loadP); (· rfl); (· (exact hpX))))) | ((with_reducible refine k_add ?_); ((with_reducible apply s_add); (· rfl); (· rfl))) | ((with_reducible refine k_strB ?_); ((with_reducible apply s_strB); (· rfl); (· (first | exact strD_vs (by assumption) | assumption | exact strD_vs0 _ | rfl)))) | ((with_reducible refine k_dreg ?_); refine s_dreg rfl rfl ?_; intro K hK) | ((with_reducible refine k_dnil ?_); (with_reducible apply d_nil hK); (· exact nmX); clear hK; clear K) | ((with_reducible refine k_dop ?_); refine d_step (by first | exact Or.inl rfl | exact Or.inr rfl) ?_) | (with_reducible refine d_back ?_) | ((with_reducible refine k_br ?_); (first | (with_reducible first | refine Br_dec ?_ | refine Br_not ?_ | refine Br_eqF ?_ | refine Br_and ?_ | refine Br_or ?_ | refine Br_neg ?_ | refine Br_band ?_ | refine Br_bor ?_ | refine Br_beq ?_) | (refine Br_t (by first | with_reducible rfl | omega | assumption | rfl) ?_) | (refine Br_f (by first | omega | assumption | decide) ?_) | (with_reducible apply Br_sb <;> intro hbr <;> (first | subst hbr | simp only [hbr] | skip)) | (with_reducible apply Br_s <;> intro hbr))) | ((first | (with_reducible apply q_eqI) | (with_reducible apply q_eqN)); (first | (simp (disch := omega) only [w64, wu8, wu16, wu32, wu64, tm_nn, td_nn, fd_nn, Int.reduceAdd, Int.reduceSub, Int.reduceMul, Int.reduceDiv, Int.reduceMod, Int.reduceNeg, Int.reduceToNat, Int.toNat_natCast, Int.toNat_zero, Int.zero_add, Int.add_zero, Int.one_mul, Int.reducePow, Nat.mul_one, Nat.zero_add, Nat.add_zero, Nat.zero_mul, Nat.reduceAdd, Nat.reduceMul, Nat.reduceSub, Nat.min_eq_left, IntKind.bits, Nat.sub_zero, g1, g2]; try rfl; done) | rfl)) | ((first | (with_reducible apply q_eqL) | (with_reducible apply q_eqO)); (first | (simp (disch := omega) only [upd_self, upd_ne, upd_upd, rep, splice, List.take_succ_cons, List.take_zero, List.drop_succ_cons, List.drop_zero, List.cons_append, List.nil_append, List.append_nil, List.length_cons, List.length_nil, List.reduceReplicate, List.flatten_cons, List.flatten_nil, Nat.reduceAdd, Nat.reduceMul, Nat.reduceSub, Nat.zero_add, Nat.add_zero, List.getElem?_cons_zero, List.getElem?_cons_succ, g1, g2]; try rfl; done) | rfl)))
        all_goals first | (exfalso; omega) | exact ⟨hnx, rfl⟩ | (exfalso; simp at hbr)
      · have hne : a ≠ b := fun h => hx (by subst h; rfl)
        rw [decide_eq_false hx] at he
        rw [decide_eq_false hne]
        clear hne ht
        generalize a[i] = x at g1 g2 he
        generalize b[i] = y at g1 g2 he
        repeat' (first | (with_reducible first | refine W_seq ?_ | refine then_n ?_ | refine W_block ?_ | refine blk_n ?_ | refine blk_r ?_ | refine blk_e ?_ | refine W_skip ?_ | refine W_ret ?_ | refine then_r ?_ | refine W_exit ?_ | refine then_e ?_) | ((with_reducible refine s_reg ?_); intro K hK) | ((with_reducible refine k_nil ?_); (with_reducible apply s_nil hK); (· exact nmX); clear hK; clear K) | ((with_reducible refine k_cond ?_); (first | ((with_reducible apply s_condT); (· rfl); (· exact nmX)) | ((with_reducible apply s_condF); (· rfl); (· exact nmX)) | ((with_reducible apply s_condS); (· rfl); (· exact nmX); (· exact nmX)))) | ((with_reducible refine k_mv ?_); (refine s_mv rfl ?_)) | ((with_reducible refine k_len ?_); (first | (refine s_len rfl rfl ?_) | ((with_reducible apply s_len); (· rfl); (· exact SlOwn.len (by assumption))) | ((with_reducible apply s_len); (· rfl); (· assumption)))) | ((with_reducible refine k_neq ?_); (first | (refine s_neq rfl rfl ?_) | (refine s_strNe rfl rfl ?_))) | ((with_reducible refine k_lss ?_); (refine s_lss rfl rfl ?_)) | ((with_reducible refine k_iaddr ?_); (first | ((with_reducible apply s_iaddrV); (· rfl); (· rfl); (· (first | omega | exact ⟨rfl, by omega⟩ | skip))) | ((with_reducible apply s_iaddrO); (· rfl); (· rfl); (· (first | omega | exact ⟨rfl, by omega⟩ | skip)); (· (exact hpX))) | ((with_reducible apply s_iaddrSO); (· rfl); (· assumption); (· rfl); (· (first | omega | exact ⟨rfl, by omega⟩ | skip)); (· (first | (simp (disch := omega) only [w64, wu8, wu16, wu32, wu64, tm_nn, td_nn, fd_nn, Int.reduceAdd, Int.reduceSub, Int.reduceMul, Int.reduceDiv, Int.reduceMod, Int.reduceNeg, Int.reduceToNat, Int.toNat_natCast, Int.toNat_zero, Int.zero_add, Int.add_zero, Int.one_mul, Int.reducePow, Nat.mul_one, Nat.zero_add, Nat.add_zero, Nat.zero_mul, Nat.reduceAdd, Nat.reduceMul, Nat.reduceSub, Nat.min_eq_left, IntKind.bits, Nat.sub_zero, g1, g2]; try rfl; done) | rfl)); intro ks hks))) | ((with_reducible refine k_load ?_); (first | ((with_reducible apply s_loadV); (· rfl)) | ((with_reducible apply s_loadP); (· rfl); (· (exact hpX))))) | ((with_reducible refine k_add ?_); ((with_reducible apply s_add); (· rfl); (· rfl))) | ((with_reducible refine k_strB ?_); ((with_reducible apply s_strB); (· rfl); (· (first | exact strD_vs (by assumption) | assumption | exact strD_vs0 _ | rfl)))) | ((with_reducible refine k_dreg ?_); refine s_dreg rfl rfl ?_; intro K hK) | ((with_reducible refine k_dnil ?_); (with_reducible apply d_nil hK); (· exact nmX); clear hK; clear K) | ((with_reducible refine k_dop ?_); refine d_step (by first | exact Or.inl rfl | exact Or.inr rfl) ?_) | (with_reducible refine d_back ?_) | ((with_reducible refine k_br ?_); (first | (with_reducible first | refine Br_dec ?_ | refine Br_not ?_ | refine Br_eqF ?_ | refine Br_and ?_ | refine Br_or ?_ | refine Br_neg ?_ | refine Br_band ?_ | refine Br_bor ?_ | refine Br_beq ?_) | (refine Br_t (by first | with_reducible rfl | omega | assumption | rfl) ?_) | (refine Br_f (by first | omega | assumption | decide) ?_) | (with_reducible apply Br_sb <;> intro hbr <;> (first | subst hbr | simp only [hbr] | skip)) | (with_reducible apply Br_s <;> intro hbr))) | ((first | (with_reducible apply q_eqI) | (with_reducible apply q_eqN)); (first | (simp (disch := omega) only [w64, wu8, wu16, wu32, wu64, tm_nn, td_nn, fd_nn, Int.reduceAdd, Int.reduceSub, Int.reduceMul, Int.reduceDiv, Int.reduceMod, Int.reduceNeg, Int.reduceToNat, Int.toNat_natCast, Int.toNat_zero, Int.zero_add, Int.add_zero, Int.one_mul, Int.reducePow, Nat.mul_one, Nat.zero_add, Nat.add_zero, Nat.zero_mul, Nat.reduceAdd, Nat.reduceMul, Nat.reduceSub, Nat.min_eq_left, IntKind.bits, Nat.sub_zero, g1, g2]; try rfl; done) | rfl)) | ((first | (with_reducible apply q_eqL) | (with_reducible apply q_eqO)); (first | (simp (disch := omega) only [upd_self, upd_ne, upd_upd, rep, splice, List.take_succ_cons, List.take_zero, List.drop_succ_cons, List.drop_zero, List.cons_append, List.nil_append, List.append_nil, List.length_cons, List.length_nil, List.reduceReplicate, List.flatten_cons, List.flatten_nil, Nat.reduceAdd, Nat.reduceMul, Nat.reduceSub, Nat.zero_add, Nat.add_zero, List.getElem?_cons_zero, List.getElem?_cons_succ, g1, g2]; try rfl; done) | rfl)))
        all_goals first | (exfalso; omega) | (first | exact Fin_flat trivial rfl rfl | (refine Fin_tup trivial rfl ?_ (Nat.le_of_ble_eq_true rfl); (repeat (first | exact All2.nil | (apply All2.cons; (· first | exact exc_n | exact exc_e | exact exc_v rfl rfl | exact exc_o upd_self rfl rfl)))); done) | (refine Fin_own trivial rfl upd_self ?_ (Nat.le_of_ble_eq_true rfl); (repeat (first | exact All2.nil | (apply All2.cons; (· first | exact exc_n | exact exc_e | exact exc_v rfl rfl | exact exc_o upd_self rfl rfl)))); done) | exact Fin_nil trivial rfl | exact Fin_sl trivial rfl upd_self rfl rfl) | (exfalso; simp [hbr] at he)
    · rintro e' h' ⟨ht, he⟩
      cases he
      rw [decide_eq_true (List.ext_getElem hl fun i h1 h2 => ht i h1 h1)]
      repeat' (first | (with_reducible first | refine W_seq ?_ | refine then_n ?_ | refine W_block ?_ | refine blk_n ?_ | refine blk_r ?_ | refine blk_e ?_ | refine W_skip ?_ | refine W_ret ?_ | refine then_r ?_ | refine W_exit ?_ | refine then_e ?_) | ((with_reducible refine s_reg ?_); intro K hK) | ((with_reducible refine k_nil ?_); (with_reducible apply s_nil hK); (· exact nmX); clear hK; clear K) | ((with_reducible refine k_cond ?_); (first | ((with_reducible apply s_condT); (· rfl); (· exact nmX)) | ((with_reducible apply s_condF); (· rfl); (· exact nmX)) | ((with_reducible apply s_condS); (· rfl); (· exact nmX); (· exact nmX)))) | ((with_reducible refine k_mv ?_); (refine s_mv rfl ?_)) | ((with_reducible refine k_len ?_); (first | (refine s_len rfl rfl ?_) | ((with_reducible apply s_len); (· rfl); (· exact SlOwn.len (by assumption))) | ((with_reducible apply s_len); (· rfl); (· assumption)))) | ((with_reducible refine k_lss ?_); (refine s_lss rfl rfl ?_)) | ((with_reducible refine k_br ?_); (first | (with_reducible first | refine Br_dec ?_ | refine Br_not ?_ | refine Br_eqF ?_ | refine Br_and ?_ | refine Br_or ?_ | refine Br_neg ?_ | refine Br_band ?_ | refine Br_bor ?_ | refine Br_beq ?_) | (refine Br_t (by first | with_reducible rfl | omega | assumption | rfl) ?_) | (refine Br_f (by first | omega | assumption | decide) ?_) | (with_reducible apply Br_sb <;> intro hbr <;> (first | subst hbr | simp only [hbr] | skip)) | (with_reducible apply Br_s <;> intro hbr))))
      all_goals first | (exfalso; omega) | (first | exact Fin_flat trivial rfl rfl | (refine Fin_tup trivial rfl ?_ (Nat.le_of_ble_eq_true rfl); (repeat (first | exact All2.nil | (apply All2.cons; (· first | exact exc_n | exact exc_e | exact exc_v rfl rfl | exact exc_o upd_self rfl rfl)))); done) | (refine Fin_own trivial rfl upd_self ?_ (Nat.le_of_ble_eq_true rfl); (repeat (first | exact All2.nil | (apply All2.cons; (· first | exact exc_n | exact exc_e | exact exc_v rfl rfl | exact exc_o upd_self rfl rfl)))); done) | exact Fin_nil trivial rfl | exact Fin_sl trivial rfl upd_self rfl rfl)
  · rw [decide_eq_false (fun h => hl (by rw [h]))]
    repeat' (first | (with_reducible first | refine W_seq ?_ | refine then_n ?_ | refine W_block ?_ | refine blk_n ?_ | refine blk_r ?_ | refine blk_e ?_ | refine W_skip ?_ | refine W_ret ?_ | refine then_r ?_ | refine W_exit ?_ | refine then_e ?_) | ((with_reducible refine s_reg ?_); intro K hK) | ((with_reducible refine k_nil ?_); (with_reducible apply s_nil hK); (· exact nmX); clear hK; clear K) | ((with_reducible refine k_cond ?_); (first | ((with_reducible apply s_condT); (· rfl); (· exact nmX)) | ((with_reducible apply s_condF); (· rfl); (· exact nmX)) | ((with_reducible apply s_condS); (· rfl); (· exact nmX); (· exact nmX)))) | ((with_reducible refine k_mv ?_); (refine s_mv rfl ?_)) | ((with_reducible refine k_len ?_); (first | (refine s_len rfl rfl ?_) | ((with_reducible apply s_len); (· rfl); (· exact SlOwn.len (by assumption))) | ((with_reducible apply s_len); (· rfl); (· assumption)))) | ((with_reducible refine k_neq ?_); (first | (refine s_neq rfl rfl ?_) | (refine s_strNe rfl rfl ?_))) | ((with_reducible refine k_br ?_); (first | (with_reducible first | refine Br_dec ?_ | refine Br_not ?_ | refine Br_eqF ?_ | refine Br_and ?_ | refine Br_or ?_ | refine Br_neg ?_ | refine Br_band ?_ | refine Br_bor ?_ | refine Br_beq ?_) | (refine Br_t (by first | with_reducible rfl | omega | assumption | rfl) ?_) | (refine Br_f (by first | omega | assumption | decide) ?_) | (with_reducible apply Br_sb <;> intro hbr <;> (first | subst hbr | simp only [hbr] | skip)) | (with_reducible apply Br_s <;> intro hbr))))
    all_goals first | (exfalso; omega) | (first | exact Fin_flat trivial rfl rfl | (refine Fin_tup trivial rfl ?_ (Nat.le_of_ble_eq_true rfl); (repeat (first | exact All2.nil | (apply All2.cons; (· first | exact exc_n | exact exc_e | exact exc_v rfl rfl | exact exc_o upd_self rfl rfl)))); done) | (refine Fin_own trivial rfl upd_self ?_ (Nat.le_of_ble_eq_true rfl); (repeat (first | exact All2.nil | (apply All2.cons; (· first | exact exc_n | exact exc_e | exact exc_v rfl rfl | exact exc_o upd_self rfl rfl)))); done) | exact Fin_nil trivial rfl | exact Fin_sl trivial rfl upd_self rfl rfl)
def FewP (B : List Bs) (l : List Ev) (n m : Int) : Prop := B.length ≤ n ∧ l.length ≤ m ∧ (∀ b ∈ B, b.length ≤ 100) ∧ ∀ x ∈ l, x.data.length ≤ 100
theorem rfew_c (B : List Bs) (l : List Ev) (hB : B.length ≤ 9223372036854775807) (hl : l.length ≤ 9223372036854775807) (n m : Int) : PCon Try.prog 30 [.agg [bsD B, evD l], .int .i64 n, .int .i64 m] (.bool (decide (FewP B l n m))) := by
  refine A30p (by simp [A30]) ?_
  simp only [A30, argEnv]
  have hal := bs_len B
  have hbl := evs_len l
  repeat' (first | (with_reducible first | refine W_seq ?_ | refine then_n ?_ | refine W_block ?_ | refine blk_n ?_ | refine blk_r ?_ | refine blk_e ?_ | refine W_skip ?_ | refine W_ret ?_ | refine then_r ?_ | refine W_exit ?_ | refine then_e ?_) | ((with_reducible refine s_reg ?_); intro K hK) | ((with_reducible refine k_nil ?_); (with_reducible apply s_nil hK); (· exact nmX); clear hK; clear K) | ((with_reducible refine k_cond ?_); (first | ((with_reducible apply s_condT); (· rfl); (· exact nmX)) | ((with_reducible apply s_condF); (· rfl); (· exact nmX)) | ((with_reducible apply s_condS); (· rfl); (· exact nmX); (· exact nmX)))) | ((with_reducible refine k_guard ?_); (first | (refine s_gt rfl ?_) | (refine s_gf1 rfl ?_) | (refine s_gfn rfl ?_) | (refine s_gx1 rfl ?_) | (refine s_gxn rfl ?_) | (refine s_gs rfl ?_))) | ((with_reducible refine k_mv ?_); (refine s_mv rfl ?_)) | ((with_reducible refine k_len ?_); (first | (refine s_len rfl rfl ?_) | ((with_reducible apply s_len); (· rfl); (· exact SlOwn.len (by assumption))) | ((with_reducible apply s_len); (· rfl); (· assumption)))) | ((with_reducible refine k_pick ?_); (first | (refine s_pickT rfl rfl ?_) | (refine s_pickF rfl rfl ?_))) | ((with_reducible refine k_gtr ?_); (refine s_gtr rfl rfl ?_)) | ((with_reducible refine k_load ?_); (first | ((with_reducible apply s_loadV); (· rfl)) | ((with_reducible apply s_loadP); (· rfl); (· (exact hpX))))) | ((with_reducible refine k_faddr ?_); (first | ((with_reducible apply s_faddrV); (· rfl); (· rfl)) | ((with_reducible apply s_faddrP); (· rfl); (· rfl)))) | ((with_reducible refine k_box (dst := some 3) ?_); ((with_reducible apply s_box); (· rfl); (· rfl); intro k3 hk3; (try simp only [upd_none] at hk3))) | ((with_reducible refine k_br ?_); (first | (with_reducible first | refine Br_dec ?_ | refine Br_not ?_ | refine Br_eqF ?_ | refine Br_and ?_ | refine Br_or ?_ | refine Br_neg ?_ | refine Br_band ?_ | refine Br_bor ?_ | refine Br_beq ?_) | (refine Br_t (by first | with_reducible rfl | omega | assumption | rfl) ?_) | (refine Br_f (by first | omega | assumption | decide) ?_) | (with_reducible apply Br_sb <;> intro hbr <;> (first | subst hbr | simp only [hbr] | skip)) | (with_reducible apply Br_s <;> intro hbr))) | ((first | (with_reducible apply q_eqL) | (with_reducible apply q_eqO)); (first | exact liL | exact liO)))
  all_goals first | (exfalso; omega) | skip
  · exact Fin_bf trivial rfl fun h => by have := h.1; omega
  · exact Fin_bf trivial rfl fun h => by have := h.2.1; omega
  have hn : (B.length : Int) ≤ n := by omega
  have hm : (l.length : Int) ≤ m := by omega
  refine W_for B.length (fun i st => (∀ j (hj : j < B.length), j < i → B[j].length ≤ 100) ∧ st = ⟨[(3, .pt k3 0), (7, .int .i64 i)], upd (fun _ => none) k3 [bsD B, evD l]⟩) ⟨fun j _ hj => by omega, rfl⟩ ?_ ?_
  · rintro i e' h' hi ⟨ht, he⟩
    cases he
    have g1 := bsg hi
    have hin : 100 < B[i].length → ¬ FewP B l n m := fun h hf => by have := hf.2.2.1 _ (List.getElem_mem hi); omega
    have hnx : B[i].length ≤ 100 → ∀ j (hj : j < B.length), j < i + 1 → B[j].length ≤ 100 := fun h j hj hji => by
      rcases Nat.lt_succ_iff_lt_or_eq.1 hji with h1 | rfl
      · exact ht j hj h1
      · exact h
    clear ht
    generalize B[i] = x at *
    repeat' (first | (with_reducible first | refine W_seq ?_ | refine then_n ?_ | refine W_block ?_ | refine blk_n ?_ | refine blk_r ?_ | refine blk_e ?_ | refine W_skip ?_ | refine W_ret ?_ | refine then_r ?_ | refine W_exit ?_ | refine then_e ?_) | ((with_reducible refine s_reg ?_); intro K hK) | ((with_reducible refine k_nil ?_); (with_reducible apply s_nil hK); (· exact nmX); clear hK; clear K) | ((with_reducible refine k_cond ?_); (first | ((with_reducible apply s_condT); (· rfl); (· exact nmX)) | ((with_reducible apply s_condF); (· rfl); (· exact nmX)) | ((with_reducible apply s_condS); (· rfl); (· exact nmX); (· exact nmX)))) | ((with_reducible refine k_mv ?_); (refine s_mv rfl ?_)) | ((with_reducible refine k_len ?_); (first | (refine s_len rfl rfl ?_) | ((with_reducible apply s_len); (· rfl); (· exact SlOwn.len (by assumption))) | ((with_reducible apply s_len); (· rfl); (· assumption)))) | ((with_reducible refine k_lss ?_); (refine s_lss rfl rfl ?_)) | ((with_reducible refine k_gtr ?_); (refine s_gtr rfl rfl ?_)) | ((with_reducible refine k_iaddr ?_); (first | ((with_reducible apply s_iaddrV); (· rfl); (· rfl); (· (first | omega | exact ⟨rfl, by omega⟩ | skip))) | ((with_reducible apply s_iaddrO); (· rfl); (· rfl); (· (first | omega | exact ⟨rfl, by omega⟩ | skip)); (· (exact hpX))) | ((with_reducible apply s_iaddrSO); (· rfl); (· assumption); (· rfl); (· (first | omega | exact ⟨rfl, by omega⟩ | skip)); (· (first | (simp (disch := omega) only [w64, wu8, wu16, wu32, wu64, tm_nn, td_nn, fd_nn, Int.reduceAdd, Int.reduceSub, Int.reduceMul, Int.reduceDiv, Int.reduceMod, Int.reduceNeg, Int.reduceToNat, Int.toNat_natCast, Int.toNat_zero, Int.zero_add, Int.add_zero, Int.one_mul, Int.reducePow, Nat.mul_one, Nat.zero_add, Nat.add_zero, Nat.zero_mul, Nat.reduceAdd, Nat.reduceMul, Nat.reduceSub, Nat.min_eq_left, IntKind.bits, Nat.sub_zero, g1]; try rfl; done) | rfl)); intro ks hks))) | ((with_reducible refine k_load ?_); (first | ((with_reducible apply s_loadV); (· rfl)) | ((with_reducible apply s_loadP); (· rfl); (· (exact hpX))))) | ((with_reducible refine k_add ?_); ((with_reducible apply s_add); (· rfl); (· rfl))) | ((with_reducible refine k_faddr ?_); (first | ((with_reducible apply s_faddrV); (· rfl); (· rfl)) | ((with_reducible apply s_faddrP); (· rfl); (· rfl)))) | ((with_reducible refine k_br ?_); (first | (with_reducible first | refine Br_dec ?_ | refine Br_not ?_ | refine Br_eqF ?_ | refine Br_and ?_ | refine Br_or ?_ | refine Br_neg ?_ | refine Br_band ?_ | refine Br_bor ?_ | refine Br_beq ?_) | (refine Br_t (by first | with_reducible rfl | omega | assumption | rfl) ?_) | (refine Br_f (by first | omega | assumption | decide) ?_) | (with_reducible apply Br_sb <;> intro hbr <;> (first | subst hbr | simp only [hbr] | skip)) | (with_reducible apply Br_s <;> intro hbr))) | ((first | (with_reducible apply q_eqI) | (with_reducible apply q_eqN)); (first | (simp (disch := omega) only [w64, wu8, wu16, wu32, wu64, tm_nn, td_nn, fd_nn, Int.reduceAdd, Int.reduceSub, Int.reduceMul, Int.reduceDiv, Int.reduceMod, Int.reduceNeg, Int.reduceToNat, Int.toNat_natCast, Int.toNat_zero, Int.zero_add, Int.add_zero, Int.one_mul, Int.reducePow, Nat.mul_one, Nat.zero_add, Nat.add_zero, Nat.zero_mul, Nat.reduceAdd, Nat.reduceMul, Nat.reduceSub, Nat.min_eq_left, IntKind.bits, Nat.sub_zero, g1]; try rfl; done) | rfl)) | ((first | (with_reducible apply q_eqL) | (with_reducible apply q_eqO)); (first | (simp (disch := omega) only [upd_self, upd_ne, upd_upd, rep, splice, List.take_succ_cons, List.take_zero, List.drop_succ_cons, List.drop_zero, List.cons_append, List.nil_append, List.append_nil, List.length_cons, List.length_nil, List.reduceReplicate, List.flatten_cons, List.flatten_nil, Nat.reduceAdd, Nat.reduceMul, Nat.reduceSub, Nat.zero_add, Nat.add_zero, List.getElem?_cons_zero, List.getElem?_cons_succ, g1]; try rfl; done) | rfl)))
    all_goals first | (exfalso; omega) | exact ⟨hnx (by omega), rfl⟩ | exact Fin_bf trivial rfl (hin (by omega))
  · rintro e' h' ⟨ht, he⟩
    cases he
    repeat' (first | (with_reducible first | refine W_seq ?_ | refine then_n ?_ | refine W_block ?_ | refine blk_n ?_ | refine blk_r ?_ | refine blk_e ?_ | refine W_skip ?_ | refine W_ret ?_ | refine then_r ?_ | refine W_exit ?_ | refine then_e ?_) | ((with_reducible refine s_reg ?_); intro K hK) | ((with_reducible refine k_nil ?_); (with_reducible apply s_nil hK); (· exact nmX); clear hK; clear K) | ((with_reducible refine k_cond ?_); (first | ((with_reducible apply s_condT); (· rfl); (· exact nmX)) | ((with_reducible apply s_condF); (· rfl); (· exact nmX)) | ((with_reducible apply s_condS); (· rfl); (· exact nmX); (· exact nmX)))) | ((with_reducible refine k_mv ?_); (refine s_mv rfl ?_)) | ((with_reducible refine k_len ?_); (first | (refine s_len rfl rfl ?_) | ((with_reducible apply s_len); (· rfl); (· exact SlOwn.len (by assumption))) | ((with_reducible apply s_len); (· rfl); (· assumption)))) | ((with_reducible refine k_lss ?_); (refine s_lss rfl rfl ?_)) | ((with_reducible refine k_load ?_); (first | ((with_reducible apply s_loadV); (· rfl)) | ((with_reducible apply s_loadP); (· rfl); (· (exact hpX))))) | ((with_reducible refine k_faddr ?_); (first | ((with_reducible apply s_faddrV); (· rfl); (· rfl)) | ((with_reducible apply s_faddrP); (· rfl); (· rfl)))) | ((with_reducible refine k_br ?_); (first | (with_reducible first | refine Br_dec ?_ | refine Br_not ?_ | refine Br_eqF ?_ | refine Br_and ?_ | refine Br_or ?_ | refine Br_neg ?_ | refine Br_band ?_ | refine Br_bor ?_ | refine Br_beq ?_) | (refine Br_t (by first | with_reducible rfl | omega | assumption | rfl) ?_) | (refine Br_f (by first | omega | assumption | decide) ?_) | (with_reducible apply Br_sb <;> intro hbr <;> (first | subst hbr | simp only [hbr] | skip)) | (with_reducible apply Br_s <;> intro hbr))) | ((first | (with_reducible apply q_eqL) | (with_reducible apply q_eqO)); (first | exact liL | exact liO)))
    all_goals first | (exfalso; omega) | skip
    refine W_for l.length (fun i st => (∀ j (hj : j < l.length), j < i → l[j].data.length ≤ 100) ∧ st = ⟨[(3, .pt k3 0), (8, .int .i64 i)], upd (fun _ => none) k3 [bsD B, evD l]⟩) ⟨fun j _ hj => by omega, rfl⟩ ?_ ?_
    · rintro i e' h' hi ⟨ht, he⟩
      cases he
      have g1 := ev3 hi
      have hin : 100 < l[i].data.length → ¬ FewP B l n m := fun h hf => by have := hf.2.2.2 _ (List.getElem_mem hi); omega
      have hnx : l[i].data.length ≤ 100 → ∀ j (hj : j < l.length), j < i + 1 → l[j].data.length ≤ 100 := fun h j hj hji => by
        rcases Nat.lt_succ_iff_lt_or_eq.1 hji with h1 | rfl
        · exact ht j hj h1
        · exact h
      clear ht
      generalize l[i].data = x at *
      repeat' (first | (with_reducible first | refine W_seq ?_ | refine then_n ?_ | refine W_block ?_ | refine blk_n ?_ | refine blk_r ?_ | refine blk_e ?_ | refine W_skip ?_ | refine W_ret ?_ | refine then_r ?_ | refine W_exit ?_ | refine then_e ?_) | ((with_reducible refine s_reg ?_); intro K hK) | ((with_reducible refine k_nil ?_); (with_reducible apply s_nil hK); (· exact nmX); clear hK; clear K) | ((with_reducible refine k_cond ?_); (first | ((with_reducible apply s_condT); (· rfl); (· exact nmX)) | ((with_reducible apply s_condF); (· rfl); (· exact nmX)) | ((with_reducible apply s_condS); (· rfl); (· exact nmX); (· exact nmX)))) | ((with_reducible refine k_mv ?_); (refine s_mv rfl ?_)) | ((with_reducible refine k_len ?_); (first | (refine s_len rfl rfl ?_) | ((with_reducible apply s_len); (· rfl); (· exact SlOwn.len (by assumption))) | ((with_reducible apply s_len); (· rfl); (· assumption)))) | ((with_reducible refine k_lss ?_); (refine s_lss rfl rfl ?_)) | ((with_reducible refine k_gtr ?_); (refine s_gtr rfl rfl ?_)) | ((with_reducible refine k_iaddr ?_); (first | ((with_reducible apply s_iaddrV); (· rfl); (· rfl); (· (first | omega | exact ⟨rfl, by omega⟩ | skip))) | ((with_reducible apply s_iaddrO); (· rfl); (· rfl); (· (first | omega | exact ⟨rfl, by omega⟩ | skip)); (· (exact hpX))) | ((with_reducible apply s_iaddrSO); (· rfl); (· assumption); (· rfl); (· (first | omega | exact ⟨rfl, by omega⟩ | skip)); (· (first | (simp (disch := omega) only [w64, wu8, wu16, wu32, wu64, tm_nn, td_nn, fd_nn, Int.reduceAdd, Int.reduceSub, Int.reduceMul, Int.reduceDiv, Int.reduceMod, Int.reduceNeg, Int.reduceToNat, Int.toNat_natCast, Int.toNat_zero, Int.zero_add, Int.add_zero, Int.one_mul, Int.reducePow, Nat.mul_one, Nat.zero_add, Nat.add_zero, Nat.zero_mul, Nat.reduceAdd, Nat.reduceMul, Nat.reduceSub, Nat.min_eq_left, IntKind.bits, Nat.sub_zero, g1]; try rfl; done) | rfl)); intro ks hks))) | ((with_reducible refine k_load ?_); (first | ((with_reducible apply s_loadV); (· rfl)) | ((with_reducible apply s_loadP); (· rfl); (· (exact hpX))))) | ((with_reducible refine k_add ?_); ((with_reducible apply s_add); (· rfl); (· rfl))) | ((with_reducible refine k_faddr ?_); (first | ((with_reducible apply s_faddrV); (· rfl); (· rfl)) | ((with_reducible apply s_faddrP); (· rfl); (· rfl)))) | ((with_reducible refine k_br ?_); (first | (with_reducible first | refine Br_dec ?_ | refine Br_not ?_ | refine Br_eqF ?_ | refine Br_and ?_ | refine Br_or ?_ | refine Br_neg ?_ | refine Br_band ?_ | refine Br_bor ?_ | refine Br_beq ?_) | (refine Br_t (by first | with_reducible rfl | omega | assumption | rfl) ?_) | (refine Br_f (by first | omega | assumption | decide) ?_) | (with_reducible apply Br_sb <;> intro hbr <;> (first | subst hbr | simp only [hbr] | skip)) | (with_reducible apply Br_s <;> intro hbr))) | ((first | (with_reducible apply q_eqI) | (with_reducible apply q_eqN)); (first | (simp (disch := omega) only [w64, wu8, wu16, wu32, wu64, tm_nn, td_nn, fd_nn, Int.reduceAdd, Int.reduceSub, Int.reduceMul, Int.reduceDiv, Int.reduceMod, Int.reduceNeg, Int.reduceToNat, Int.toNat_natCast, Int.toNat_zero, Int.zero_add, Int.add_zero, Int.one_mul, Int.reducePow, Nat.mul_one, Nat.zero_add, Nat.add_zero, Nat.zero_mul, Nat.reduceAdd, Nat.reduceMul, Nat.reduceSub, Nat.min_eq_left, IntKind.bits, Nat.sub_zero, g1]; try rfl; done) | rfl)) | ((first | (with_reducible apply q_eqL) | (with_reducible apply q_eqO)); (first | (simp (disch := omega) only [upd_self, upd_ne, upd_upd, rep, splice, List.take_succ_cons, List.take_zero, List.drop_succ_cons, List.drop_zero, List.cons_append, List.nil_append, List.append_nil, List.length_cons, List.length_nil, List.reduceReplicate, List.flatten_cons, List.flatten_nil, Nat.reduceAdd, Nat.reduceMul, Nat.reduceSub, Nat.zero_add, Nat.add_zero, List.getElem?_cons_zero, List.getElem?_cons_succ, g1]; try rfl; done) | rfl)))
      all_goals first | (exfalso; omega) | exact ⟨hnx (by omega), rfl⟩ | exact Fin_bf trivial rfl (hin (by omega))
    · rintro e' h' ⟨ht2, he⟩
      cases he
      have hP : FewP B l n m := ⟨hn, hm, fun b hb => by obtain ⟨j, hj, rfl⟩ := List.mem_iff_getElem.1 hb; exact ht j hj hj, fun b hb => by obtain ⟨j, hj, rfl⟩ := List.mem_iff_getElem.1 hb; exact ht2 j hj hj⟩
      repeat' (first | (with_reducible first | refine W_seq ?_ | refine then_n ?_ | refine W_block ?_ | refine blk_n ?_ | refine blk_r ?_ | refine blk_e ?_ | refine W_skip ?_ | refine W_ret ?_ | refine then_r ?_ | refine W_exit ?_ | refine then_e ?_) | ((with_reducible refine s_reg ?_); intro K hK) | ((with_reducible refine k_nil ?_); (with_reducible apply s_nil hK); (· exact nmX); clear hK; clear K) | ((with_reducible refine k_cond ?_); (first | ((with_reducible apply s_condT); (· rfl); (· exact nmX)) | ((with_reducible apply s_condF); (· rfl); (· exact nmX)) | ((with_reducible apply s_condS); (· rfl); (· exact nmX); (· exact nmX)))) | ((with_reducible refine k_mv ?_); (refine s_mv rfl ?_)) | ((with_reducible refine k_len ?_); (first | (refine s_len rfl rfl ?_) | ((with_reducible apply s_len); (· rfl); (· exact SlOwn.len (by assumption))) | ((with_reducible apply s_len); (· rfl); (· assumption)))) | ((with_reducible refine k_lss ?_); (refine s_lss rfl rfl ?_)) | ((with_reducible refine k_load ?_); (first | ((with_reducible apply s_loadV); (· rfl)) | ((with_reducible apply s_loadP); (· rfl); (· (exact hpX))))) | ((with_reducible refine k_faddr ?_); (first | ((with_reducible apply s_faddrV); (· rfl); (· rfl)) | ((with_reducible apply s_faddrP); (· rfl); (· rfl)))) | ((with_reducible refine k_br ?_); (first | (with_reducible first | refine Br_dec ?_ | refine Br_not ?_ | refine Br_eqF ?_ | refine Br_and ?_ | refine Br_or ?_ | refine Br_neg ?_ | refine Br_band ?_ | refine Br_bor ?_ | refine Br_beq ?_) | (refine Br_t (by first | with_reducible rfl | omega | assumption | rfl) ?_) | (refine Br_f (by first | omega | assumption | decide) ?_) | (with_reducible apply Br_sb <;> intro hbr <;> (first | subst hbr | simp only [hbr] | skip)) | (with_reducible apply Br_s <;> intro hbr))) | ((first | (with_reducible apply q_eqL) | (with_reducible apply q_eqO)); (first | exact liL | exact liO)))
      all_goals first | (exfalso; omega) | exact Fin_bt trivial rfl hP
theorem few_c (B : List Bs) (l : List Ev) (hB : B.length ≤ 9223372036854775807) (hl : l.length ≤ 9223372036854775807) : PCon Try.prog 14 [.agg [bsD B, evD l]] (.bool (decide (FewP B l 6 24))) := by
  refine A14p (by simp [A14]) ?_
  simp only [A14, argEnv]
  have c1 := rfew_c B l hB hl 6 24
  generalize decide (FewP B l 6 24) = z at *
  repeat' (first | (with_reducible first | refine W_seq ?_ | refine then_n ?_ | refine W_skip ?_ | refine W_ret ?_ | refine then_r ?_) | ((with_reducible refine s_reg ?_); intro K hK) | ((with_reducible refine k_nil ?_); (with_reducible apply s_nil hK); (· exact nmX); clear hK; clear K) | ((with_reducible refine k_mv ?_); (refine s_mv rfl ?_)) | ((with_reducible refine k_loadA ?_); (first | ((with_reducible apply s_loadAV); (· rfl); (· (first | exact Nat.le_of_ble_eq_true rfl | decide | omega | (simp; done) | (simp; omega) | skip))) | ((with_reducible apply s_loadAP); (· rfl); (· (exact hpX)); (· (first | exact Nat.le_of_ble_eq_true rfl | decide | omega | (simp; done) | (simp; omega) | skip))))) | ((with_reducible refine k_box (dst := some 1) ?_); ((with_reducible apply s_box); (· rfl); (· rfl); intro k1 hk1; (try simp only [upd_none] at hk1))) | ((with_reducible refine k_callF ?_); (first | ((with_reducible apply s_call1); (· rfl)) | ((with_reducible apply s_calln); (· rfl)))) | ((with_reducible refine k_con ?_); (first | ((with_reducible apply con_val (c1)); (· (repeat (first | exact All2.nil | (apply All2.cons; (· first | exact Rd_ag (All2.cons Rd_vs (All2.cons Rd_vs All2.nil)) | exact rdX))))); (· rfl); (· exact fun _ => rfl)))) | ((first | (with_reducible apply q_eqL) | (with_reducible apply q_eqO)); (first | exact liL | exact liO)))
  all_goals first | exact Fin_flat trivial rfl rfl | (refine Fin_tup trivial rfl ?_ (Nat.le_of_ble_eq_true rfl); (repeat (first | exact All2.nil | (apply All2.cons; (· first | exact exc_n | exact exc_e | exact exc_v rfl rfl | exact exc_o upd_self rfl rfl)))); done) | (refine Fin_own trivial rfl upd_self ?_ (Nat.le_of_ble_eq_true rfl); (repeat (first | exact All2.nil | (apply All2.cons; (· first | exact exc_n | exact exc_e | exact exc_v rfl rfl | exact exc_o upd_self rfl rfl)))); done) | exact Fin_nil trivial rfl | exact Fin_sl trivial rfl upd_self rfl rfl
def sepF (l : List Ev) (f t : Int) : Bool := decide (∃ i : Nat, ∃ h : i < l.length, f ≤ i ∧ (i : Int) < t ∧ l[i].kind = 3)
def ordR (B : List Bs) (l : List Ev) (a b : Int) : D := if chkR B l = 0 then (if subF l l.length a < 0 ∨ subF l l.length b < 0 then .tup [.bool false, .int .i64 6] else .tup [.bool (decide (0 ≤ comF l l.length a ∧ sepF l (comF l l.length a) (subF l l.length b) = true)), .int .i64 0]) else .tup [.bool false, .int .i64 (chkR B l)]
end Go.Proofs.Ythblalidmmbcoaa
end
section
/- min -/
/- Ordered. -/
set_option linter.unusedSimpArgs false
set_option linter.unusedVariables false
namespace Go.Proofs.Ythblalidmmbcoaa
open Go.AM Classical
set_option maxRecDepth 100000
set_option maxHeartbeats 4000000
def flO (l : List Ev) (a : Int) (i : Nat) : Bool := decide (0 ≤ comF l i a ∧ sepF l (comF l i a) i = true)
def odO (l : List Ev) (a b : Int) (i : Nat) : Bool := decide (0 ≤ subF l i b ∧ flO l a (subF l i b).toNat = true)
theorem sepF_s {l : List Ev} {f : Int} {i : Nat} (hi : i < l.length) : sepF l f ((i : Int) + 1) = (sepF l f i || decide (f ≤ i ∧ l[i].kind = 3)) := by
  unfold sepF
  rw [Bool.eq_iff_iff]
  simp only [decide_eq_true_eq, Bool.or_eq_true]
  constructor
  · rintro ⟨j, hj, h1, h2, h3⟩
    by_cases he : j = i
    · subst he; exact .inr ⟨h1, h3⟩
    · exact .inl ⟨j, hj, h1, by omega, h3⟩
  · rintro (⟨j, hj, h1, h2, h3⟩ | ⟨h1, h2⟩)
    · exact ⟨j, hj, h1, by omega, h3⟩
    · exact ⟨i, hi, h1, by omega, h2⟩
theorem flO_s {l : List Ev} {a : Int} {i : Nat} (hi : i < l.length) (hv : l[i].kind = 2 → comF l i l[i].id < 0) : flO l a (i + 1) = if l[i].kind = 3 then (flO l a i || decide (0 ≤ comF l i a)) else flO l a i := by
  have hc := comF_s hi a
  have h4 := comF_ge l i a
  have hlt : comF l i a < i ∨ comF l i a < 0 := by
    unfold comF firstI
    split
    · rename_i h; left; rw [List.length_take] at h; omega
    · right; omega
  unfold flO
  rw [hc]
  by_cases h0 : 0 ≤ comF l i a
  · rw [if_pos h0]
    have e1 : (((i + 1 : Nat)) : Int) = (i : Int) + 1 := by omega
    rw [e1, sepF_s hi]
    by_cases hk : l[i].kind = 3
    · rw [if_pos hk]
      rw [decide_eq_true (show comF l i a ≤ i ∧ l[i].kind = 3 from ⟨by omega, hk⟩)]
      simp [h0]
    · rw [if_neg hk, decide_eq_false (show ¬ (comF l i a ≤ i ∧ l[i].kind = 3) from fun h => hk h.2), Bool.or_false]
  · rw [if_neg h0]
    have e0 : (decide (0 ≤ comF l i a ∧ sepF l (comF l i a) i = true)) = false := decide_eq_false fun h => h0 h.1
    rw [e0, decide_eq_false h0]
    have : decide (0 ≤ (if isD a l[i] = true then (i : Int) else -1) ∧ sepF l (if isD a l[i] = true then (i : Int) else -1) ((i + 1 : Nat) : Int) = true) = false := decide_eq_false fun ⟨h1, h2⟩ => by
      split at h1
      · rename_i hd
        rw [if_pos hd] at h2
        obtain ⟨j, hj, q1, q2, q3⟩ := of_decide_eq_true h2
        have hji : j = i := by omega
        subst hji
        have hd2 := of_decide_eq_true hd
        omega
      · omega
    rw [this]
    simp
theorem comF_mono {l : List Ev} {n : Nat} {i : Int} (h : 0 ≤ comF l n i) : ∀ m, n ≤ m → m ≤ l.length → comF l m i = comF l n i
  | m, h1, h2 => by
    rcases Nat.lt_or_ge n m with h3 | h3
    · obtain ⟨k, rfl⟩ : ∃ k, m = k + 1 := ⟨m - 1, by omega⟩
      have ih := comF_mono h k (by omega) (by omega)
      rw [comF_s (by omega), ih, if_pos h]
    · have : m = n := by omega
      rw [this]
theorem comF_late {l : List Ev} {n : Nat} {i : Int} (h : comF l n i < 0) : ∀ m, n ≤ m → m ≤ l.length → comF l m i < 0 ∨ n ≤ comF l m i
  | m, h1, h2 => by
    rcases Nat.lt_or_ge n m with h3 | h3
    · obtain ⟨k, rfl⟩ : ∃ k, m = k + 1 := ⟨m - 1, by omega⟩
      have ih := comF_late h k (by omega) (by omega)
      rw [comF_s (by omega)]
      split
      · omega
      · split <;> omega
    · have : m = n := by omega
      rw [this]; exact .inl h
theorem odO_end {l : List Ev} {a b : Int} (hb : 0 ≤ subF l l.length b) : odO l a b l.length = decide (0 ≤ comF l l.length a ∧ sepF l (comF l l.length a) (subF l l.length b) = true) := by
  unfold odO flO
  obtain ⟨h1, h2, -, -⟩ := subF_sp hb
  obtain ⟨s, hs⟩ : ∃ s : Nat, subF l l.length b = s := ⟨(subF l l.length b).toNat, by omega⟩
  rw [hs] at h1 ⊢
  rw [Int.toNat_natCast] at h1 ⊢
  rw [Bool.eq_iff_iff]
  simp only [decide_eq_true_eq]
  constructor
  · rintro ⟨-, h3, h4⟩
    rw [comF_mono h3 l.length (by omega) (Nat.le_refl _)]
    exact ⟨h3, h4⟩
  · rintro ⟨h3, h4⟩
    refine ⟨by omega, ?_⟩
    by_cases h5 : 0 ≤ comF l s a
    · rw [comF_mono h5 l.length (by omega) (Nat.le_refl _)] at h4
      exact ⟨h5, h4⟩
    · obtain ⟨j, hj, q1, q2, q3⟩ := of_decide_eq_true h4
      have := comF_late (by omega : comF l s a < 0) l.length (by omega) (Nat.le_refl _)
      omega
theorem odO_s {l : List Ev} {a b : Int} {i : Nat} (hi : i < l.length) (hv : l[i].kind = 1 → subF l i l[i].id < 0) : odO l a b (i + 1) = if l[i].kind = 1 ∧ l[i].id = b then flO l a i else odO l a b i := by
  unfold odO
  rw [subF_s hi]
  by_cases h0 : 0 ≤ subF l i b
  · rw [if_pos h0]
    rw [if_neg (fun h => by have := hv h.1; rw [h.2] at this; omega)]
  · rw [if_neg h0]
    by_cases hw : l[i].kind = 1 ∧ l[i].id = b
    · rw [if_pos hw, if_pos (show isW b l[i] = true from decide_eq_true hw)]
      simp
    · rw [if_neg hw, if_neg (fun (h : isW b l[i] = true) => hw (of_decide_eq_true h))]
      have := subF_ge l i b
      rw [show subF l i b = -1 by omega]
theorem sn_s {l : List Ev} {b : Int} {i : Nat} (hi : i < l.length) : decide (0 ≤ subF l (i + 1) b) = if l[i].kind = 1 ∧ l[i].id = b then true else decide (0 ≤ subF l i b) := by
  rw [subF_s hi]
  by_cases hw : l[i].kind = 1 ∧ l[i].id = b
  · rw [if_pos hw, if_pos (show isW b l[i] = true from decide_eq_true hw)]
    split <;> simp <;> omega
  · rw [if_neg hw, if_neg (fun (h : isW b l[i] = true) => hw (of_decide_eq_true h))]
    split
    · rfl
    · rename_i h; rw [decide_eq_false h]; rfl
theorem dn_s {l : List Ev} {b : Int} {i : Nat} (hi : i < l.length) : decide (0 ≤ comF l (i + 1) b) = if l[i].kind = 2 ∧ l[i].id = b then true else decide (0 ≤ comF l i b) := by
  rw [comF_s hi]
  by_cases hw : l[i].kind = 2 ∧ l[i].id = b
  · rw [if_pos hw, if_pos (show isD b l[i] = true from decide_eq_true hw)]
    split <;> simp <;> omega
  · rw [if_neg hw, if_neg (fun (h : isD b l[i] = true) => hw (of_decide_eq_true h))]
    split
    · rfl
    · rename_i h; rw [decide_eq_false h]; rfl
theorem chk_uniq {B : List Bs} {l : List Ev} (hc : chkR B l = 0) {i : Nat} (hi : i < l.length) : (l[i].kind = 1 → subF l i l[i].id < 0) ∧ (l[i].kind = 2 → comF l i l[i].id < 0) := by
  unfold chkR at hc
  split at hc
  · have := fE_zero.1 hc i hi
    unfold evE at this
    rw [dif_pos hi] at this
    constructor <;> intro hk
    · rw [if_pos hk] at this
      repeat' split at this
      all_goals omega
    · rw [if_neg (by omega), if_pos hk] at this
      repeat' split at this
      all_goals omega
  · omega
theorem dordered_c (B : List Bs) (l : List Ev) (hB : B.length ≤ 1000000) (hL : l.length ≤ 900) (hid : ∀ x ∈ l, -9223372036854775808 ≤ x.id ∧ x.id ≤ 9223372036854775807) (a b : Int) : PCon Try.prog 21 [bsD B, evD l, .int .i64 a, .int .i64 b] (ordR B l a b) := by
  refine A21p (by simp [A21]) ?_
  simp only [A21, argEnv]
  have hal := evs_len l
  have c1 := dcheck_c B l hB hL hid
  unfold ordR
  by_cases hc : chkR B l = 0
  · rw [if_pos hc]
    rw [hc] at c1
    repeat' (first | (with_reducible first | refine W_seq ?_ | refine then_n ?_ | refine W_block ?_ | refine blk_n ?_ | refine blk_r ?_ | refine blk_e ?_ | refine W_skip ?_ | refine W_ret ?_ | refine then_r ?_ | refine W_exit ?_ | refine then_e ?_) | ((with_reducible refine s_reg ?_); intro K hK) | ((with_reducible refine k_nil ?_); (with_reducible apply s_nil hK); (· exact nmX); clear hK; clear K) | ((with_reducible refine k_cond ?_); (first | ((with_reducible apply s_condT); (· rfl); (· exact nmX)) | ((with_reducible apply s_condF); (· rfl); (· exact nmX)) | ((with_reducible apply s_condS); (· rfl); (· exact nmX); (· exact nmX)))) | ((with_reducible refine k_mv ?_); (refine s_mv rfl ?_)) | ((with_reducible refine k_len ?_); (first | (refine s_len rfl rfl ?_) | ((with_reducible apply s_len); (· rfl); (· exact SlOwn.len (by assumption))) | ((with_reducible apply s_len); (· rfl); (· assumption)))) | ((with_reducible refine k_neq ?_); (first | (refine s_neq rfl rfl ?_) | (refine s_strNe rfl rfl ?_))) | ((with_reducible refine k_store ?_); ((with_reducible apply s_store0); (· rfl); (· rfl); (· rfl); (· (exact hpX)); (· (exact ⟨rfl, by first | exact Nat.le_of_ble_eq_true rfl | omega | (simp; omega)⟩)); (· ((first | exact liL | exact liO))); (· (first | exact upd_upd | rfl)))) | ((with_reducible refine k_alloc (dst := some 11) ?_); ((with_reducible apply s_alloc); intro k11 hk11; (try simp only [upd_none] at hk11))) | ((with_reducible refine k_build ?_); ((with_reducible apply s_build); (· rfl); (· rfl))) | ((with_reducible refine k_callF ?_); (first | ((with_reducible apply s_call1); (· rfl)) | ((with_reducible apply s_calln); (· rfl)))) | ((with_reducible refine k_con ?_); (first | ((with_reducible apply con_val (c1)); (· (exact agX)); (· rfl); (· exact fun _ => rfl)))) | ((with_reducible refine k_br ?_); (first | (with_reducible first | refine Br_dec ?_ | refine Br_not ?_ | refine Br_eqF ?_ | refine Br_and ?_ | refine Br_or ?_ | refine Br_neg ?_ | refine Br_band ?_ | refine Br_bor ?_ | refine Br_beq ?_) | (refine Br_t (by first | with_reducible rfl | omega | assumption | rfl) ?_) | (refine Br_f (by first | omega | assumption | decide) ?_) | (with_reducible apply Br_sb <;> intro hbr <;> (first | subst hbr | simp only [hbr] | skip)) | (with_reducible apply Br_s <;> intro hbr))))
    all_goals first | (exfalso; omega) | skip
    refine W_for l.length (fun i st => ∃ h', st = ⟨[(2, .int .i64 a), (3, .int .i64 b), (11, .pt k11 0), (12, .bool (decide (0 ≤ comF l i a))), (13, .bool (flO l a i)), (14, .bool (odO l a b i)), (24, evD l), (25, .int .i64 l.length), (26, .int .i64 i)], h'⟩ ∧ h' k11 = some [.bool (decide (0 ≤ subF l i a)), .bool (decide (0 ≤ subF l i b))]) ⟨_, rfl, ?_⟩ ?_ ?_
    · exact upd_self
    · rintro i e' h' hi ⟨h1, he, hk⟩
      cases he
      have g0 := ev0 hi
      have g1 := ev1 hi
      have g2 := ev2 hi
      have g3 := ev3 hi
      have hrow := evr hi
      obtain ⟨u1, u2⟩ := chk_uniq hc hi
      rw [odO_s hi u1, flO_s hi u2, sn_s hi, sn_s hi, dn_s hi]
      generalize odO l a b i = od at *
      generalize flO l a i = fl at *
      generalize decide (0 ≤ subF l i a) = sa at *
      generalize decide (0 ≤ subF l i b) = sb at *
      generalize decide (0 ≤ comF l i a) = ca at *
      generalize l[i] = w at *
      obtain ⟨wk, wi, wb, wd⟩ := w
      dsimp only at *
      clear u1 u2
      repeat' (first | (with_reducible first | refine W_seq ?_ | refine then_n ?_ | refine W_block ?_ | refine blk_n ?_ | refine blk_r ?_ | refine blk_e ?_ | refine W_skip ?_ | refine W_ret ?_ | refine then_r ?_ | refine W_exit ?_ | refine then_e ?_) | ((with_reducible refine s_reg ?_); intro K hK) | ((with_reducible refine k_nil ?_); (with_reducible apply s_nil hK); (· exact nmX); clear hK; clear K) | ((with_reducible refine k_cond ?_); (first | ((with_reducible apply s_condT); (· rfl); (· exact nmX)) | ((with_reducible apply s_condF); (· rfl); (· exact nmX)) | ((with_reducible apply s_condS); (· rfl); (· exact nmX); (· exact nmX)))) | ((with_reducible refine k_guard ?_); (first | (refine s_gt rfl ?_) | (refine s_gf1 rfl ?_) | (refine s_gfn rfl ?_) | (refine s_gx1 rfl ?_) | (refine s_gxn rfl ?_) | (refine s_gs rfl ?_))) | ((with_reducible refine k_mv ?_); (refine s_mv rfl ?_)) | ((with_reducible refine k_pick ?_); (first | (refine s_pickT rfl rfl ?_) | (refine s_pickF rfl rfl ?_))) | ((with_reducible refine k_eql ?_); (first | (refine s_eql rfl rfl ?_) | (refine s_strEq rfl rfl ?_))) | ((with_reducible refine k_lss ?_); (refine s_lss rfl rfl ?_)) | ((with_reducible refine k_iaddr ?_); (first | ((with_reducible apply s_iaddrV); (· rfl); (· rfl); (· (first | omega | exact ⟨rfl, by omega⟩ | skip))) | ((with_reducible apply s_iaddrO); (· rfl); (· rfl); (· (first | omega | exact ⟨rfl, by omega⟩ | skip)); (· (exact hpX))) | ((with_reducible apply s_iaddrSO); (· rfl); (· assumption); (· rfl); (· (first | omega | exact ⟨rfl, by omega⟩ | skip)); (· (first | (simp (disch := omega) only [w64, wu8, wu16, wu32, wu64, tm_nn, td_nn, fd_nn, Int.reduceAdd, Int.reduceSub, Int.reduceMul, Int.reduceDiv, Int.reduceMod, Int.reduceNeg, Int.reduceToNat, Int.toNat_natCast, Int.toNat_zero, Int.zero_add, Int.add_zero, Int.one_mul, Int.reducePow, Nat.mul_one, Nat.zero_add, Nat.add_zero, Nat.zero_mul, Nat.reduceAdd, Nat.reduceMul, Nat.reduceSub, Nat.min_eq_left, IntKind.bits, Nat.sub_zero, g0, g1, g2, g3, hrow]; try rfl; done) | rfl)); intro ks hks))) | ((with_reducible refine k_iaddrA ?_); (first | ((with_reducible apply s_iaddrAV); (· rfl); (· rfl); (· (first | omega | exact ⟨rfl, by omega⟩ | skip))) | ((with_reducible apply s_iaddrAP); (· rfl); (· rfl); (· (first | omega | exact ⟨rfl, by omega⟩ | skip))))) | ((with_reducible refine k_load ?_); (first | ((with_reducible apply s_loadV); (· rfl)) | ((with_reducible apply s_loadP); (· rfl); (· (exact hpX))))) | ((with_reducible refine k_loadA ?_); (first | ((with_reducible apply s_loadAV); (· rfl); (· (first | exact Nat.le_of_ble_eq_true rfl | decide | omega | (simp; done) | (simp; omega) | skip))) | ((with_reducible apply s_loadAP); (· rfl); (· (exact hpX)); (· (first | exact Nat.le_of_ble_eq_true rfl | decide | omega | (simp; done) | (simp; omega) | skip))))) | ((with_reducible refine k_add ?_); ((with_reducible apply s_add); (· rfl); (· rfl))) | ((with_reducible refine k_store ?_); ((with_reducible apply s_store0); (· rfl); (· rfl); (· rfl); (· (exact hpX)); (· (exact ⟨rfl, by first | exact Nat.le_of_ble_eq_true rfl | omega | (simp [g0, g1, g2, g3, hrow]; omega)⟩)); (· ((first | (simp (disch := omega) only [upd_self, upd_ne, upd_upd, rep, splice, List.take_succ_cons, List.take_zero, List.drop_succ_cons, List.drop_zero, List.cons_append, List.nil_append, List.append_nil, List.length_cons, List.length_nil, List.reduceReplicate, List.flatten_cons, List.flatten_nil, Nat.reduceAdd, Nat.reduceMul, Nat.reduceSub, Nat.zero_add, Nat.add_zero, List.getElem?_cons_zero, List.getElem?_cons_succ, g0, g1, g2, g3, hrow]; try rfl; done) | rfl))); (· (first | exact upd_upd | rfl)))) | ((with_reducible refine k_faddr ?_); (first | ((with_reducible apply s_faddrV); (· rfl); (· rfl)) | ((with_reducible apply s_faddrP); (· rfl); (· rfl)))) | ((with_reducible refine k_alloc (dst := some 16) ?_); ((with_reducible apply s_alloc); intro k16 hk16; (try simp only [upd_none] at hk16))) | ((with_reducible refine k_br ?_); (first | (with_reducible first | refine Br_dec ?_ | refine Br_not ?_ | refine Br_eqF ?_ | refine Br_and ?_ | refine Br_or ?_ | refine Br_neg ?_ | refine Br_band ?_ | refine Br_bor ?_ | refine Br_beq ?_) | (refine Br_t (by first | with_reducible rfl | omega | assumption | rfl) ?_) | (refine Br_f (by first | omega | assumption | decide) ?_) | (with_reducible apply Br_sb <;> intro hbr <;> (first | subst hbr | simp only [hbr] | skip)) | (with_reducible apply Br_s <;> intro hbr))) | ((first | (with_reducible apply q_eqI) | (with_reducible apply q_eqN)); (first | (simp (disch := omega) only [w64, wu8, wu16, wu32, wu64, tm_nn, td_nn, fd_nn, Int.reduceAdd, Int.reduceSub, Int.reduceMul, Int.reduceDiv, Int.reduceMod, Int.reduceNeg, Int.reduceToNat, Int.toNat_natCast, Int.toNat_zero, Int.zero_add, Int.add_zero, Int.one_mul, Int.reducePow, Nat.mul_one, Nat.zero_add, Nat.add_zero, Nat.zero_mul, Nat.reduceAdd, Nat.reduceMul, Nat.reduceSub, Nat.min_eq_left, IntKind.bits, Nat.sub_zero, g0, g1, g2, g3, hrow]; try rfl; done) | rfl)) | ((first | (with_reducible apply q_eqL) | (with_reducible apply q_eqO)); (first | (simp (disch := omega) only [upd_self, upd_ne, upd_upd, rep, splice, List.take_succ_cons, List.take_zero, List.drop_succ_cons, List.drop_zero, List.cons_append, List.nil_append, List.append_nil, List.length_cons, List.length_nil, List.reduceReplicate, List.flatten_cons, List.flatten_nil, Nat.reduceAdd, Nat.reduceMul, Nat.reduceSub, Nat.zero_add, Nat.add_zero, List.getElem?_cons_zero, List.getElem?_cons_succ, g0, g1, g2, g3, hrow]; try rfl; done) | rfl)))
      all_goals first | (exfalso; omega) | skip
      all_goals repeat' first | rw [if_pos (by omega)] | rw [if_neg (by omega)]
      all_goals try simp only [Bool.true_or, Bool.false_or]
      all_goals refine ⟨_, rfl, ?_⟩
      all_goals first | exact upd_self | exact upd_sub hk16 _ _ hk
    · rintro e' h' ⟨h1, he, hk⟩
      cases he
      by_cases ha : 0 ≤ subF l l.length a
      · rw [decide_eq_true ha] at hk
        by_cases hb : 0 ≤ subF l l.length b
        · rw [decide_eq_true hb] at hk
          rw [if_neg (by omega), ← odO_end hb]
          repeat' (first | (with_reducible first | refine W_seq ?_ | refine then_n ?_ | refine W_block ?_ | refine blk_n ?_ | refine blk_r ?_ | refine blk_e ?_ | refine W_skip ?_ | refine W_ret ?_ | refine then_r ?_ | refine W_exit ?_ | refine then_e ?_) | ((with_reducible refine s_reg ?_); intro K hK) | ((with_reducible refine k_nil ?_); (with_reducible apply s_nil hK); (· exact nmX); clear hK; clear K) | ((with_reducible refine k_cond ?_); (first | ((with_reducible apply s_condT); (· rfl); (· exact nmX)) | ((with_reducible apply s_condF); (· rfl); (· exact nmX)) | ((with_reducible apply s_condS); (· rfl); (· exact nmX); (· exact nmX)))) | ((with_reducible refine k_guard ?_); (first | (refine s_gt rfl ?_) | (refine s_gf1 rfl ?_) | (refine s_gfn rfl ?_) | (refine s_gx1 rfl ?_) | (refine s_gxn rfl ?_) | (refine s_gs rfl ?_))) | ((with_reducible refine k_mv ?_); (refine s_mv rfl ?_)) | ((with_reducible refine k_pick ?_); (first | (refine s_pickT rfl rfl ?_) | (refine s_pickF rfl rfl ?_))) | ((with_reducible refine k_not ?_); (refine s_not rfl (by first | exact Bool.not_true | exact Bool.not_false | rfl) ?_)) | ((with_reducible refine k_lss ?_); (refine s_lss rfl rfl ?_)) | ((with_reducible refine k_iaddrA ?_); (first | ((with_reducible apply s_iaddrAV); (· rfl); (· rfl); (· (first | omega | exact ⟨rfl, by omega⟩ | skip))) | ((with_reducible apply s_iaddrAP); (· rfl); (· rfl); (· (first | omega | exact ⟨rfl, by omega⟩ | skip))))) | ((with_reducible refine k_load ?_); (first | ((with_reducible apply s_loadV); (· rfl)) | ((with_reducible apply s_loadP); (· rfl); (· (exact hpX))))) | ((with_reducible refine k_br ?_); (first | (with_reducible first | refine Br_dec ?_ | refine Br_not ?_ | refine Br_eqF ?_ | refine Br_and ?_ | refine Br_or ?_ | refine Br_neg ?_ | refine Br_band ?_ | refine Br_bor ?_ | refine Br_beq ?_) | (refine Br_t (by first | with_reducible rfl | omega | assumption | rfl) ?_) | (refine Br_f (by first | omega | assumption | decide) ?_) | (with_reducible apply Br_sb <;> intro hbr <;> (first | subst hbr | simp only [hbr] | skip)) | (with_reducible apply Br_s <;> intro hbr))) | ((first | (with_reducible apply q_eqI) | (with_reducible apply q_eqN)); (first | exact nuI | exact nuN)) | ((first | (with_reducible apply q_eqL) | (with_reducible apply q_eqO)); (first | exact liL | exact liO)))
          all_goals first | (exfalso; omega) | (first | exact Fin_flat trivial rfl rfl | (refine Fin_tup trivial rfl ?_ (Nat.le_of_ble_eq_true rfl); (repeat (first | exact All2.nil | (apply All2.cons; (· first | exact exc_n | exact exc_e | exact exc_v rfl rfl | exact exc_o upd_self rfl rfl)))); done) | (refine Fin_own trivial rfl upd_self ?_ (Nat.le_of_ble_eq_true rfl); (repeat (first | exact All2.nil | (apply All2.cons; (· first | exact exc_n | exact exc_e | exact exc_v rfl rfl | exact exc_o upd_self rfl rfl)))); done) | exact Fin_nil trivial rfl | exact Fin_sl trivial rfl upd_self rfl rfl)
        · rw [decide_eq_false hb] at hk
          rw [if_pos (by omega)]
          repeat' (first | (with_reducible first | refine W_seq ?_ | refine then_n ?_ | refine W_block ?_ | refine blk_n ?_ | refine blk_r ?_ | refine blk_e ?_ | refine W_skip ?_ | refine W_ret ?_ | refine then_r ?_ | refine W_exit ?_ | refine then_e ?_) | ((with_reducible refine s_reg ?_); intro K hK) | ((with_reducible refine k_nil ?_); (with_reducible apply s_nil hK); (· exact nmX); clear hK; clear K) | ((with_reducible refine k_cond ?_); (first | ((with_reducible apply s_condT); (· rfl); (· exact nmX)) | ((with_reducible apply s_condF); (· rfl); (· exact nmX)) | ((with_reducible apply s_condS); (· rfl); (· exact nmX); (· exact nmX)))) | ((with_reducible refine k_guard ?_); (first | (refine s_gt rfl ?_) | (refine s_gf1 rfl ?_) | (refine s_gfn rfl ?_) | (refine s_gx1 rfl ?_) | (refine s_gxn rfl ?_) | (refine s_gs rfl ?_))) | ((with_reducible refine k_mv ?_); (refine s_mv rfl ?_)) | ((with_reducible refine k_pick ?_); (first | (refine s_pickT rfl rfl ?_) | (refine s_pickF rfl rfl ?_))) | ((with_reducible refine k_not ?_); (refine s_not rfl (by first | exact Bool.not_true | exact Bool.not_false | rfl) ?_)) | ((with_reducible refine k_lss ?_); (refine s_lss rfl rfl ?_)) | ((with_reducible refine k_iaddrA ?_); (first | ((with_reducible apply s_iaddrAV); (· rfl); (· rfl); (· (first | omega | exact ⟨rfl, by omega⟩ | skip))) | ((with_reducible apply s_iaddrAP); (· rfl); (· rfl); (· (first | omega | exact ⟨rfl, by omega⟩ | skip))))) | ((with_reducible refine k_load ?_); (first | ((with_reducible apply s_loadV); (· rfl)) | ((with_reducible apply s_loadP); (· rfl); (· (exact hpX))))) | ((with_reducible refine k_br ?_); (first | (with_reducible first | refine Br_dec ?_ | refine Br_not ?_ | refine Br_eqF ?_ | refine Br_and ?_ | refine Br_or ?_ | refine Br_neg ?_ | refine Br_band ?_ | refine Br_bor ?_ | refine Br_beq ?_) | (refine Br_t (by first | with_reducible rfl | omega | assumption | rfl) ?_) | (refine Br_f (by first | omega | assumption | decide) ?_) | (with_reducible apply Br_sb <;> intro hbr <;> (first | subst hbr | simp only [hbr] | skip)) | (with_reducible apply Br_s <;> intro hbr))) | ((first | (with_reducible apply q_eqI) | (with_reducible apply q_eqN)); (first | exact nuI | exact nuN)) | ((first | (with_reducible apply q_eqL) | (with_reducible apply q_eqO)); (first | exact liL | exact liO)))
          all_goals first | (exfalso; omega) | (first | exact Fin_flat trivial rfl rfl | (refine Fin_tup trivial rfl ?_ (Nat.le_of_ble_eq_true rfl); (repeat (first | exact All2.nil | (apply All2.cons; (· first | exact exc_n | exact exc_e | exact exc_v rfl rfl | exact exc_o upd_self rfl rfl)))); done) | (refine Fin_own trivial rfl upd_self ?_ (Nat.le_of_ble_eq_true rfl); (repeat (first | exact All2.nil | (apply All2.cons; (· first | exact exc_n | exact exc_e | exact exc_v rfl rfl | exact exc_o upd_self rfl rfl)))); done) | exact Fin_nil trivial rfl | exact Fin_sl trivial rfl upd_self rfl rfl)
      · rw [decide_eq_false ha] at hk
        rw [if_pos (by omega)]
        repeat' (first | (with_reducible first | refine W_seq ?_ | refine then_n ?_ | refine W_block ?_ | refine blk_n ?_ | refine blk_r ?_ | refine blk_e ?_ | refine W_skip ?_ | refine W_ret ?_ | refine then_r ?_ | refine W_exit ?_ | refine then_e ?_) | ((with_reducible refine s_reg ?_); intro K hK) | ((with_reducible refine k_nil ?_); (with_reducible apply s_nil hK); (· exact nmX); clear hK; clear K) | ((with_reducible refine k_cond ?_); (first | ((with_reducible apply s_condT); (· rfl); (· exact nmX)) | ((with_reducible apply s_condF); (· rfl); (· exact nmX)) | ((with_reducible apply s_condS); (· rfl); (· exact nmX); (· exact nmX)))) | ((with_reducible refine k_guard ?_); (first | (refine s_gt rfl ?_) | (refine s_gf1 rfl ?_) | (refine s_gfn rfl ?_) | (refine s_gx1 rfl ?_) | (refine s_gxn rfl ?_) | (refine s_gs rfl ?_))) | ((with_reducible refine k_mv ?_); (refine s_mv rfl ?_)) | ((with_reducible refine k_pick ?_); (first | (refine s_pickT rfl rfl ?_) | (refine s_pickF rfl rfl ?_))) | ((with_reducible refine k_not ?_); (refine s_not rfl (by first | exact Bool.not_true | exact Bool.not_false | rfl) ?_)) | ((with_reducible refine k_lss ?_); (refine s_lss rfl rfl ?_)) | ((with_reducible refine k_iaddrA ?_); (first | ((with_reducible apply s_iaddrAV); (· rfl); (· rfl); (· (first | omega | exact ⟨rfl, by omega⟩ | skip))) | ((with_reducible apply s_iaddrAP); (· rfl); (· rfl); (· (first | omega | exact ⟨rfl, by omega⟩ | skip))))) | ((with_reducible refine k_load ?_); (first | ((with_reducible apply s_loadV); (· rfl)) | ((with_reducible apply s_loadP); (· rfl); (· (exact hpX))))) | ((with_reducible refine k_br ?_); (first | (with_reducible first | refine Br_dec ?_ | refine Br_not ?_ | refine Br_eqF ?_ | refine Br_and ?_ | refine Br_or ?_ | refine Br_neg ?_ | refine Br_band ?_ | refine Br_bor ?_ | refine Br_beq ?_) | (refine Br_t (by first | with_reducible rfl | omega | assumption | rfl) ?_) | (refine Br_f (by first | omega | assumption | decide) ?_) | (with_reducible apply Br_sb <;> intro hbr <;> (first | subst hbr | simp only [hbr] | skip)) | (with_reducible apply Br_s <;> intro hbr))) | ((first | (with_reducible apply q_eqI) | (with_reducible apply q_eqN)); (first | exact nuI | exact nuN)) | ((first | (with_reducible apply q_eqL) | (with_reducible apply q_eqO)); (first | exact liL | exact liO)))
        all_goals first | (exfalso; omega) | (first | exact Fin_flat trivial rfl rfl | (refine Fin_tup trivial rfl ?_ (Nat.le_of_ble_eq_true rfl); (repeat (first | exact All2.nil | (apply All2.cons; (· first | exact exc_n | exact exc_e | exact exc_v rfl rfl | exact exc_o upd_self rfl rfl)))); done) | (refine Fin_own trivial rfl upd_self ?_ (Nat.le_of_ble_eq_true rfl); (repeat (first | exact All2.nil | (apply All2.cons; (· first | exact exc_n | exact exc_e | exact exc_v rfl rfl | exact exc_o upd_self rfl rfl)))); done) | exact Fin_nil trivial rfl | exact Fin_sl trivial rfl upd_self rfl rfl)
  · rw [if_neg hc]
    generalize chkR B l = e at *
    repeat' (first | (with_reducible first | refine W_seq ?_ | refine then_n ?_ | refine W_block ?_ | refine blk_n ?_ | refine blk_r ?_ | refine blk_e ?_ | refine W_skip ?_ | refine W_ret ?_ | refine then_r ?_ | refine W_exit ?_ | refine then_e ?_) | ((with_reducible refine s_reg ?_); intro K hK) | ((with_reducible refine k_nil ?_); (with_reducible apply s_nil hK); (· exact nmX); clear hK; clear K) | ((with_reducible refine k_cond ?_); (first | ((with_reducible apply s_condT); (· rfl); (· exact nmX)) | ((with_reducible apply s_condF); (· rfl); (· exact nmX)) | ((with_reducible apply s_condS); (· rfl); (· exact nmX); (· exact nmX)))) | ((with_reducible refine k_mv ?_); (refine s_mv rfl ?_)) | ((with_reducible refine k_neq ?_); (first | (refine s_neq rfl rfl ?_) | (refine s_strNe rfl rfl ?_))) | ((with_reducible refine k_callF ?_); (first | ((with_reducible apply s_call1); (· rfl)) | ((with_reducible apply s_calln); (· rfl)))) | ((with_reducible refine k_con ?_); (first | ((with_reducible apply con_val (c1)); (· (exact agX)); (· rfl); (· exact fun _ => rfl)))) | ((with_reducible refine k_br ?_); (first | (with_reducible first | refine Br_dec ?_ | refine Br_not ?_ | refine Br_eqF ?_ | refine Br_and ?_ | refine Br_or ?_ | refine Br_neg ?_ | refine Br_band ?_ | refine Br_bor ?_ | refine Br_beq ?_) | (refine Br_t (by first | with_reducible rfl | omega | assumption | rfl) ?_) | (refine Br_f (by first | omega | assumption | decide) ?_) | (with_reducible apply Br_sb <;> intro hbr <;> (first | subst hbr | simp only [hbr] | skip)) | (with_reducible apply Br_s <;> intro hbr))))
    all_goals first | (exfalso; omega) | (first | exact Fin_flat trivial rfl rfl | (refine Fin_tup trivial rfl ?_ (Nat.le_of_ble_eq_true rfl); (repeat (first | exact All2.nil | (apply All2.cons; (· first | exact exc_n | exact exc_e | exact exc_v rfl rfl | exact exc_o upd_self rfl rfl)))); done) | (refine Fin_own trivial rfl upd_self ?_ (Nat.le_of_ble_eq_true rfl); (repeat (first | exact All2.nil | (apply All2.cons; (· first | exact exc_n | exact exc_e | exact exc_v rfl rfl | exact exc_o upd_self rfl rfl)))); done) | exact Fin_nil trivial rfl | exact Fin_sl trivial rfl upd_self rfl rfl)
end Go.Proofs.Ythblalidmmbcoaa
end
section
/- Images: the closure. -/
set_option linter.unusedSimpArgs false
set_option linter.unusedVariables false
namespace Go.Proofs.Ythblalidmmbcoaa
open Go.AM Classical
set_option maxRecDepth 100000
set_option maxHeartbeats 4000000
abbrev imV (im : List Bs) : D := .vn 1 (im.map bD) im.length
structure ImH (h : Heap) (kA kS kO kI kF : Nat) (C : List (List Bs)) (O : List (List Bs)) (im : List Bs) (dO dI : D) : Prop where
  a : h kA = some [.sl kS 1 0 C.length]
  s : h kS = some (C.map bsD)
  o : h kO = some [dO]
  so : SlOwn h dO 1 (O.map imV) O.length
  i : h kI = some [dI]
  pi : SlPre h dI 1 (im.map bD) im.length
  f : h kF = some [.fn 42 [] [.pt kA 0, .pt kO 0, .pt kI 0, .pt kF 0]]
  ne : (kA ≠ kO ∧ kA ≠ kI) ∧ (kS ≠ kO ∧ kS ≠ kI) ∧ kO ≠ kI ∧ kF ≠ kO ∧ kF ≠ kI
  fO : Fr dO kA ∧ Fr dO kS ∧ Fr dO kO ∧ Fr dO kI ∧ Fr dO kF
  fI : Fr dI kA ∧ Fr dI kS ∧ Fr dI kO ∧ Fr dI kI ∧ Fr dI kF
  dis : Dis dO dI
theorem ImH.mono {h h2 : Heap} {kA kS kO kI kF : Nat} {C O : List (List Bs)} {im : List Bs} {dO dI : D} (H : ImH h kA kS kO kI kF C O im dO dI) (hh : ∀ j c, h j = some c → h2 j = some c) : ImH h2 kA kS kO kI kF C O im dO dI where
  a := hh _ _ H.a
  s := hh _ _ H.s
  o := hh _ _ H.o
  so := slSub H.so hh
  i := hh _ _ H.i
  pi := H.pi.mono fun j c hj _ => hh j c hj
  f := hh _ _ H.f
  ne := H.ne
  fO := H.fO
  fI := H.fI
  dis := H.dis
theorem fr_new {h : Heap} {k j sz n : Nat} {c : List D} (hk : h k = none) (hj : h j = some c) : Fr (.sl k sz 0 n) j := Fr.sl fun e => by rw [e, hj] at hk; cases hk
theorem SlPre.oth {h h' : Heap} {d d0 : D} {sz n : Nat} {cells : List D} (ho : SlPre h d sz cells n) (hd : Dis d0 d) (hh : ∀ j c, h j = some c → Fr d0 j → h' j = some c) : SlPre h' d sz cells n := by
  obtain ⟨hc, h0 | ⟨k, tl, t, rfl, hkc, ht⟩⟩ := ho
  · exact ⟨hc, .inl h0⟩
  · refine ⟨hc, .inr ⟨k, tl, t, rfl, hh k _ hkc ?_, ht⟩⟩
    rcases hd k with h1 | h1
    · exact h1
    · exact absurd rfl (h1 sz 0 n)
theorem SlPre.upd' {h : Heap} {d : D} {sz n k : Nat} {cells c : List D} (ho : SlPre h d sz cells n) (hk : Fr d k) : SlPre (AM.upd h k c) d sz cells n :=
  ho.mono fun j c hj ⟨sz, off, n, hd⟩ => by rw [upd_ne (fun e => by subst e; exact hk _ _ _ hd)]; exact hj
theorem ImH.out {h h' : Heap} {kA kS kO kI kF ka : Nat} {C O : List (List Bs)} {im : List Bs} {dO dI : D} (H : ImH h kA kS kO kI kF C O im dO dI) (hn : h ka = none) (hk : h' ka = some (O.map imV ++ [imV im])) (hh : ∀ j c, h j = some c → Fr dO j → h' j = some c) :
    ImH (upd h' kO [.sl ka 1 0 (O.length + 1)]) kA kS kO kI kF C (O ++ [im]) im (.sl ka 1 0 (O.length + 1)) dI := by
  obtain ⟨⟨n1, n2⟩, ⟨n3, n4⟩, n5, n6, n7⟩ := H.ne
  obtain ⟨o1, o2, o3, o4, o5⟩ := H.fO
  have hka : ka ≠ kO := fun e => by rw [e, H.o] at hn; cases hn
  have hln : (O.map imV).length = O.length := List.length_map _
  refine ⟨?_, ?_, upd_self, ?_, ?_, ?_, ?_, H.ne, ⟨fr_new hn H.a, fr_new hn H.s, fr_new hn H.o, fr_new hn H.i, fr_new hn H.f⟩, H.fI, ?_⟩
  · rw [upd_ne n1]; exact hh _ _ H.a o1
  · rw [upd_ne n3]; exact hh _ _ H.s o2
  · rw [List.map_append, List.length_append, List.length_singleton]
    exact SlOwn.sl (by rw [upd_ne hka, hk]; rfl) (by rw [List.length_append, hln, Nat.mul_one]; rfl)
  · rw [upd_ne n5.symm]; exact hh _ _ H.i o4
  · exact (H.pi.oth H.dis hh).upd' H.fI.2.2.1
  · rw [upd_ne n6]; exact hh _ _ H.f o5
  · intro j
    by_cases hj : ka = j
    · subst hj
      right
      intro sz off n hd
      obtain ⟨-, ⟨-, h0 | h0⟩ | ⟨k, tl, t, h0, hkc, -⟩⟩ := H.pi
      · rw [h0] at hd; cases hd
      · rw [h0] at hd; cases hd
      · rw [h0] at hd; injection hd with hd; subst hd; rw [hn] at hkc; cases hkc
    · exact .inl (Fr.sl hj)
theorem ImH.put {h h' : Heap} {kA kS kO kI kF : Nat} {C O : List (List Bs)} {im : List Bs} {c : Bs} {dO dI da : D} (H : ImH h kA kS kO kI kF C O im dO dI) (hp : SlPre h' da 1 (im.map bD ++ [bD c]) (im.length + 1)) (hh : ∀ j c, h j = some c → Fr dI j → h' j = some c ∧ Fr da j) :
    ImH (upd h' kI [da]) kA kS kO kI kF C O (im ++ [c]) dO da := by
  obtain ⟨⟨n1, n2⟩, ⟨n3, n4⟩, n5, n6, n7⟩ := H.ne
  obtain ⟨i1, i2, i3, i4, i5⟩ := H.fI
  refine ⟨?_, ?_, ?_, ?_, upd_self, ?_, ?_, H.ne, H.fO, ⟨(hh _ _ H.a i1).2, (hh _ _ H.s i2).2, (hh _ _ H.o i3).2, (hh _ _ H.i i4).2, (hh _ _ H.f i5).2⟩, ?_⟩
  · rw [upd_ne n2]; exact (hh _ _ H.a i1).1
  · rw [upd_ne n4]; exact (hh _ _ H.s i2).1
  · rw [upd_ne n5]; exact (hh _ _ H.o i3).1
  · exact (H.so.oth H.dis.symm fun j c hj hf => (hh j c hj hf).1).upd' H.fO.2.2.2.1
  · rw [List.map_append, List.length_append, List.length_singleton]
    exact hp.upd' (hh _ _ H.i i4).2
  · rw [upd_ne n7]; exact (hh _ _ H.f i5).1
  · intro j
    by_cases hj : Fr dO j
    · exact .inl hj
    · right
      obtain ⟨-, ⟨-, h0⟩ | ⟨k, h0, hkc⟩⟩ := H.so
      · rcases h0 with h0 | h0 <;> exact absurd (fun sz off n hd => by rw [h0] at hd; cases hd) hj
      · have hjk : k = j := Classical.byContradiction fun h => hj (h0 ▸ Fr.sl h)
        subst hjk
        rcases H.dis k with h1 | h1
        · exact absurd h1 hj
        · exact (hh k _ hkc h1).2
theorem ImH.cut {h : Heap} {kA kS kO kI kF : Nat} {C O : List (List Bs)} {im : List Bs} {c : Bs} {dO dI : D} (H : ImH h kA kS kO kI kF C O (im ++ [c]) dO dI) : ∃ k, dI = .sl k 1 0 (im.length + 1) ∧
    ImH (upd h kI [.sl k 1 0 im.length]) kA kS kO kI kF C O im dO (.sl k 1 0 im.length) ∧ ∃ cs, h k = some cs ∧ im.length + 1 ≤ cs.length := by
  obtain ⟨⟨n1, n2⟩, ⟨n3, n4⟩, n5, n6, n7⟩ := H.ne
  obtain ⟨i1, i2, i3, i4, i5⟩ := H.fI
  have hp := H.pi
  rw [List.map_append, List.length_append, List.length_singleton] at hp
  obtain ⟨k, tl, t, rfl, hk, ht⟩ := hp.pos (by omega)
  have hf : ∀ {j}, Fr (.sl k 1 0 ((im ++ [c]).length)) j → Fr (.sl k 1 0 im.length) j := fun {j} hj => Fr.sl fun e => hj 1 0 _ (by rw [e])
  rw [show im.length + 1 = (im ++ [c]).length by simp] at *
  refine ⟨k, rfl, ⟨?_, ?_, ?_, H.so.upd' H.fO.2.2.2.1, upd_self, ?_, ?_, H.ne, H.fO, ⟨hf i1, hf i2, hf i3, hf i4, hf i5⟩, fun j => (H.dis j).imp id hf⟩, _, hk, ?_⟩
  · rw [upd_ne n2]; exact H.a
  · rw [upd_ne n4]; exact H.s
  · rw [upd_ne n5]; exact H.o
  · refine SlPre.upd' ⟨by simp, .inr ⟨k, bD c :: tl, t + 1, rfl, ?_, by simp [ht]⟩⟩ (hf i4)
    rw [hk]; simp
  · rw [upd_ne n7]; exact H.f
  · simp
end Go.Proofs.Ythblalidmmbcoaa
end
section
/- min -/
/- Images: the closure's walk. -/
set_option linter.unusedSimpArgs false
set_option linter.unusedVariables false
namespace Go.Proofs.Ythblalidmmbcoaa
open Go.AM Classical
set_option maxRecDepth 100000
set_option maxHeartbeats 4000000
theorem Rd_bD {h : Heap} (L : List Bs) : All2 (Rd h) (L.map bD) (L.map bD) := by
  refine ⟨rfl, fun i c d hc hd => ?_⟩
  rw [hc] at hd; injection hd with hd; subst hd
  rw [List.getElem?_map] at hc
  cases hb : L[i]? with
  | none => rw [hb] at hc; cases hc
  | some b => rw [hb] at hc; injection hc with hc; subst hc; exact Rd_vs
theorem choose_con {C : List (List Bs)} (hCl : C.length ≤ 1000000) (hC1 : ∀ c ∈ C, c.length ≤ 1000000 ∧ ∀ b ∈ c, b.length ≤ 1000000) {kA kS kO kI kF : Nat} :
    ∀ (r block : Nat) (im : List Bs) (O : List (List Bs)) (dO dI : D) (h : Heap) (Q : D → Heap → Prop), C.length = block + r → im.length = block → (∀ b ∈ im, b.length ≤ 1000000) → O.length + preP (C.drop block) ≤ 64 → ImH h kA kS kO kI kF C O im dO dI →
    (∀ h2 dO2 dI2, ImH h2 kA kS kO kI kF C (O ++ (prodF (C.drop block)).map (im ++ ·)) im dO2 dI2 → Q (.tup []) h2) →
    Con Try.prog 42 [.int .i64 block, .pt kA 0, .pt kO 0, .pt kI 0, .pt kF 0] h Q
  | 0, block, im, O, dO, dI, h, Q, hb, him, hib, hn, H, hQ => by
    refine con_of_W mixed Try.func42 A42k A42c (by simp [A42]) ?_
    simp only [A42, argEnv]
    have hd : C.drop block = [] := List.drop_eq_nil_of_le (by omega)
    rw [hd] at hQ hn
    have e1 : (prodF []).map (im ++ ·) = [im] := by simp [prodF]
    rw [e1] at hQ
    have ha := H.a
    have hs := H.s
    have ho := H.o
    have hii := H.i
    have hso := H.so
    have c1 := copies_c im (by omega) hib
    have hpi := H.pi
    have hle : C.length = block := by omega
    have hp1 : O.length + 1 ≤ 64 := hn
    repeat' (first | (with_reducible first | refine W_seq ?_ | refine then_n ?_ | refine W_block ?_ | refine blk_n ?_ | refine blk_r ?_ | refine blk_e ?_ | refine W_skip ?_ | refine W_ret ?_ | refine then_r ?_ | refine W_exit ?_ | refine then_e ?_) | ((with_reducible refine s_reg ?_); intro K hK) | ((with_reducible refine k_nil ?_); (with_reducible apply s_nil hK); (· exact nmX); clear hK; clear K) | ((with_reducible refine k_cond ?_); (first | ((with_reducible apply s_condT); (· rfl); (· exact nmX)) | ((with_reducible apply s_condF); (· rfl); (· exact nmX)) | ((with_reducible apply s_condS); (· rfl); (· exact nmX); (· exact nmX)))) | ((with_reducible refine k_mv ?_); (refine s_mv rfl ?_)) | ((with_reducible refine k_len ?_); (first | (refine s_len rfl rfl ?_) | ((with_reducible apply s_len); (· rfl); (· exact SlOwn.len (by assumption))) | ((with_reducible apply s_len); (· rfl); (· assumption)))) | ((with_reducible refine k_eql ?_); (first | (refine s_eql rfl rfl ?_) | (refine s_strEq rfl rfl ?_))) | ((with_reducible refine k_load ?_); (first | ((with_reducible apply s_loadV); (· rfl)) | ((with_reducible apply s_loadP); (· rfl); (· (exact hpX))))) | ((with_reducible refine k_buildS (dst := some 15) ?_); ((with_reducible apply s_buildS); (· rfl); (· (exact ⟨rfl, by decide⟩)); (· (first | (simp only [fillB, rep, splice, List.reduceReplicate, List.flatten_cons, List.flatten_nil, List.cons_append, List.nil_append, List.append_nil, List.length_cons, List.length_nil, Nat.reduceAdd, Nat.reduceMul, Nat.reduceLeDiff, Nat.reduceEqDiff, eq_self, Nat.le_refl, Nat.zero_add, and_self, and_true, true_and, if_true, List.take_zero, List.take_succ_cons, List.drop_zero, List.drop_succ_cons, List.drop_nil, List.take_nil]; rfl) | rfl)); intro k15 hk15; (try simp only [upd_none] at hk15))) | ((with_reducible refine k_append (dst := some 16) ?_); ((with_reducible apply s_app2); (· rfl); (· rfl); (· first | assumption | exact SlOwn.nil | exact SlOwn.emp | ((repeat' (first | assumption | (with_reducible apply SlOwn.upd) | (simp only [upd_none]; assumption))); done)); (· rfl); (· first | exact srcD_sl upd_self rfl | (exact srcD_vs (by first | assumption | simp)) | ((apply srcD_sl); (· (exact hpX)); (· rfl))); (· exact ⟨by first | rfl | assumption | simp, by decide, by decide⟩); (· first | (rw [room_n]; omega) | skip); intro ka16 ha16 hn16 hk16 hoth16)) | ((with_reducible refine k_dreg ?_); refine W_dregM (pre := A42d2a) (suf := A42d2b) rfl rfl rfl rfl ?_; intro K hK) | (with_reducible refine d_nilS ?_) | ((with_reducible refine k_dcall ?_); (first | ((with_reducible apply d_callN); (· rfl); (· exact c1); (· (repeat (first | exact All2.nil | (apply All2.cons; (· first | exact Rd_pre hpi (Rd_bD _) | exact rdX))))); simp only [unow, unowC, List.map, vnw, vnC]))) | ((with_reducible refine k_dop ?_); refine d_step (by first | exact Or.inl rfl | exact Or.inr rfl) ?_) | (with_reducible refine d_back ?_) | ((with_reducible refine k_br ?_); (first | (with_reducible first | refine Br_dec ?_ | refine Br_not ?_ | refine Br_eqF ?_ | refine Br_and ?_ | refine Br_or ?_ | refine Br_neg ?_ | refine Br_band ?_ | refine Br_bor ?_ | refine Br_beq ?_) | (refine Br_t (by first | with_reducible rfl | omega | assumption | rfl) ?_) | (refine Br_f (by first | omega | assumption | decide) ?_) | (with_reducible apply Br_sb <;> intro hbr <;> (first | subst hbr | simp only [hbr] | skip)) | (with_reducible apply Br_s <;> intro hbr))) | ((first | (with_reducible apply q_eqL) | (with_reducible apply q_eqO)); (first | exact liL | exact liO)))
    all_goals first | (exfalso; omega) | skip
    have q1 := hoth16 kO _ (upd_sub hk15 _ _ ho) H.fO.2.2.1
    repeat' (first | (with_reducible first | refine W_seq ?_ | refine then_n ?_ | refine W_block ?_ | refine blk_n ?_ | refine blk_r ?_ | refine blk_e ?_ | refine W_skip ?_ | refine W_ret ?_ | refine then_r ?_ | refine W_exit ?_ | refine then_e ?_) | ((with_reducible refine k_nil ?_); (with_reducible apply s_nil hK); (· exact nmX); clear hK; clear K) | ((with_reducible refine k_store ?_); ((with_reducible apply s_store0); (· rfl); (· rfl); (· rfl); (· (exact hpX)); (· (exact ⟨rfl, by first | exact Nat.le_of_ble_eq_true rfl | omega | (simp; omega)⟩)); (· ((first | exact liL | exact liO))); (· (first | exact upd_upd | rfl)))))
    all_goals exact ⟨trivial, _, rfl, hQ _ _ _ (ImH.out (H.mono (upd_sub hk15)) hn16 hk16 hoth16)⟩
  | r + 1, block, im, O, dO, dI, h, Q, hb, him, hib, hn, H, hQ => by
    refine con_of_W mixed Try.func42 A42k A42c (by simp [A42]) ?_
    simp only [A42, argEnv]
    have hlt : block < C.length := by omega
    have hd : C.drop block = C[block] :: C.drop (block + 1) := List.drop_eq_getElem_cons hlt
    have ha := H.a
    have hs := H.s
    have ho := H.o
    have hii := H.i
    have g1 : (C.map bsD)[block]? = some (bsD C[block]) := by rw [List.getElem?_map, List.getElem?_eq_getElem hlt]; rfl
    obtain ⟨hc1, hc2⟩ := hC1 C[block] (List.getElem_mem hlt)
    rw [hd] at hQ hn
    have ih := choose_con hCl hC1 (kA := kA) (kS := kS) (kO := kO) (kI := kI) (kF := kF) r (block + 1)
    generalize C[block] = c at *
    have hal := bs_len c
    repeat' (first | (with_reducible first | refine W_seq ?_ | refine then_n ?_ | refine W_block ?_ | refine blk_n ?_ | refine blk_r ?_ | refine blk_e ?_ | refine W_skip ?_ | refine W_ret ?_ | refine then_r ?_ | refine W_exit ?_ | refine then_e ?_) | ((with_reducible refine s_reg ?_); intro K hK) | ((with_reducible refine k_nil ?_); (with_reducible apply s_nil hK); (· exact nmX); clear hK; clear K) | ((with_reducible refine k_cond ?_); (first | ((with_reducible apply s_condT); (· rfl); (· exact nmX)) | ((with_reducible apply s_condF); (· rfl); (· exact nmX)) | ((with_reducible apply s_condS); (· rfl); (· exact nmX); (· exact nmX)))) | ((with_reducible refine k_mv ?_); (refine s_mv rfl ?_)) | ((with_reducible refine k_len ?_); (first | (refine s_len rfl rfl ?_) | ((with_reducible apply s_len); (· rfl); (· exact SlOwn.len (by assumption))) | ((with_reducible apply s_len); (· rfl); (· assumption)))) | ((with_reducible refine k_eql ?_); (first | (refine s_eql rfl rfl ?_) | (refine s_strEq rfl rfl ?_))) | ((with_reducible refine k_iaddr ?_); (first | ((with_reducible apply s_iaddrV); (· rfl); (· rfl); (· (first | omega | exact ⟨rfl, by omega⟩ | skip))) | ((with_reducible apply s_iaddrO); (· rfl); (· rfl); (· (first | omega | exact ⟨rfl, by omega⟩ | skip)); (· (exact hpX))) | ((with_reducible apply s_iaddrSO); (· rfl); (· assumption); (· rfl); (· (first | omega | exact ⟨rfl, by omega⟩ | skip)); (· (first | (simp (disch := omega) only [w64, wu8, wu16, wu32, wu64, tm_nn, td_nn, fd_nn, Int.reduceAdd, Int.reduceSub, Int.reduceMul, Int.reduceDiv, Int.reduceMod, Int.reduceNeg, Int.reduceToNat, Int.toNat_natCast, Int.toNat_zero, Int.zero_add, Int.add_zero, Int.one_mul, Int.reducePow, Nat.mul_one, Nat.zero_add, Nat.add_zero, Nat.zero_mul, Nat.reduceAdd, Nat.reduceMul, Nat.reduceSub, Nat.min_eq_left, IntKind.bits, Nat.sub_zero, g1]; try rfl; done) | rfl)); intro ks hks))) | ((with_reducible refine k_load ?_); (first | ((with_reducible apply s_loadV); (· rfl)) | ((with_reducible apply s_loadP); (· rfl); (· (exact hpX))))) | ((with_reducible refine k_br ?_); (first | (with_reducible first | refine Br_dec ?_ | refine Br_not ?_ | refine Br_eqF ?_ | refine Br_and ?_ | refine Br_or ?_ | refine Br_neg ?_ | refine Br_band ?_ | refine Br_bor ?_ | refine Br_beq ?_) | (refine Br_t (by first | with_reducible rfl | omega | assumption | rfl) ?_) | (refine Br_f (by first | omega | assumption | decide) ?_) | (with_reducible apply Br_sb <;> intro hbr <;> (first | subst hbr | simp only [hbr] | skip)) | (with_reducible apply Br_s <;> intro hbr))) | ((first | (with_reducible apply q_eqI) | (with_reducible apply q_eqN)); (first | (simp (disch := omega) only [w64, wu8, wu16, wu32, wu64, tm_nn, td_nn, fd_nn, Int.reduceAdd, Int.reduceSub, Int.reduceMul, Int.reduceDiv, Int.reduceMod, Int.reduceNeg, Int.reduceToNat, Int.toNat_natCast, Int.toNat_zero, Int.zero_add, Int.add_zero, Int.one_mul, Int.reducePow, Nat.mul_one, Nat.zero_add, Nat.add_zero, Nat.zero_mul, Nat.reduceAdd, Nat.reduceMul, Nat.reduceSub, Nat.min_eq_left, IntKind.bits, Nat.sub_zero, g1]; try rfl; done) | rfl)) | ((first | (with_reducible apply q_eqL) | (with_reducible apply q_eqO)); (first | (simp (disch := omega) only [upd_self, upd_ne, upd_upd, rep, splice, List.take_succ_cons, List.take_zero, List.drop_succ_cons, List.drop_zero, List.cons_append, List.nil_append, List.append_nil, List.length_cons, List.length_nil, List.reduceReplicate, List.flatten_cons, List.flatten_nil, Nat.reduceAdd, Nat.reduceMul, Nat.reduceSub, Nat.zero_add, Nat.add_zero, List.getElem?_cons_zero, List.getElem?_cons_succ, g1]; try rfl; done) | rfl)))
    all_goals first | (exfalso; omega) | skip
    have e0 : ((block + 1 : Nat) : Int) = (block : Int) + 1 := by omega
    simp only [e0] at ih
    have hpp : preP (c :: C.drop (block + 1)) = c.length * preP (C.drop (block + 1)) := rfl
    rw [hpp] at hn
    have hpl := prodF_len (C.drop (block + 1))
    have e2 : ∀ i (hi : i < c.length), (c.take (i + 1)).flatMap (fun x => (prodF (C.drop (block + 1))).map (im ++ [x] ++ ·)) = (c.take i).flatMap (fun x => (prodF (C.drop (block + 1))).map (im ++ [x] ++ ·)) ++ (prodF (C.drop (block + 1))).map (im ++ [c[i]] ++ ·) := fun i hi => by
      rw [List.take_add_one, List.getElem?_eq_getElem hi, List.flatMap_append]; simp
    have e3 : ∀ i, ((c.take i).flatMap (fun x => (prodF (C.drop (block + 1))).map (im ++ [x] ++ ·))).length = (c.take i).length * preP (C.drop (block + 1)) := fun i => by
      rw [← hpl]
      generalize c.take i = z
      induction z with
      | nil => simp
      | cons x z ih => rw [List.flatMap_cons, List.length_append, ih, List.length_map, List.length_cons, Nat.add_mul, Nat.one_mul, Nat.add_comm]
    have e4 : (prodF (c :: C.drop (block + 1))).map (im ++ ·) = c.flatMap (fun x => (prodF (C.drop (block + 1))).map (im ++ [x] ++ ·)) := by
      rw [prodF, List.map_flatMap]
      congr 1
      funext x
      rw [List.map_map]
      congr 1
      funext z
      simp
    rw [e4] at hQ
    clear e4
    generalize prodF (C.drop (block + 1)) = R at *
    generalize preP (C.drop (block + 1)) = pr at *
    refine W_for c.length (fun i st => ∃ h', st = ⟨[(0, .int .i64 block), (3, .pt kI 0), (4, .pt kF 0), (20, bsD c), (21, .int .i64 c.length), (22, .int .i64 i)], h'⟩ ∧ ∃ dO2 dI2, ImH h' kA kS kO kI kF C (O ++ (c.take i).flatMap (fun x => R.map (im ++ [x] ++ ·))) im dO2 dI2) ⟨_, rfl, dO, dI, by simpa using H⟩ ?_ ?_
    · rintro i e' h' hi ⟨h1, he, dO2, dI2, H2⟩
      cases he
      have g2 := bsg hi
      have hx := hc2 c[i] (List.getElem_mem hi)
      rw [e2 i hi, ← List.append_assoc]
      have hO2 : (O ++ (c.take i).flatMap (fun x => R.map (im ++ [x] ++ ·))).length + pr ≤ 64 := by
        rw [List.length_append, e3, List.length_take, Nat.min_eq_left (by omega)]
        have : (i + 1) * pr ≤ c.length * pr := Nat.mul_le_mul_right _ (by omega)
        rw [Nat.add_mul] at this
        omega
      generalize O ++ (c.take i).flatMap (fun x => R.map (im ++ [x] ++ ·)) = O2 at *
      generalize c[i] = x at *
      have hi2 := H2.i
      have hf2 := H2.f
      have hp2 := H2.pi
      repeat' (first | (with_reducible first | refine W_seq ?_ | refine then_n ?_ | refine W_block ?_ | refine blk_n ?_ | refine blk_r ?_ | refine blk_e ?_ | refine W_skip ?_ | refine W_ret ?_ | refine then_r ?_ | refine W_exit ?_ | refine then_e ?_) | ((with_reducible refine s_reg ?_); intro K hK) | ((with_reducible refine k_nil ?_); (with_reducible apply s_nil hK); (· exact nmX); clear hK; clear K) | ((with_reducible refine k_cond ?_); (first | ((with_reducible apply s_condT); (· rfl); (· exact nmX)) | ((with_reducible apply s_condF); (· rfl); (· exact nmX)) | ((with_reducible apply s_condS); (· rfl); (· exact nmX); (· exact nmX)))) | ((with_reducible refine k_mv ?_); (refine s_mv rfl ?_)) | ((with_reducible refine k_lss ?_); (refine s_lss rfl rfl ?_)) | ((with_reducible refine k_iaddr ?_); (first | ((with_reducible apply s_iaddrV); (· rfl); (· rfl); (· (first | omega | exact ⟨rfl, by omega⟩ | skip))) | ((with_reducible apply s_iaddrO); (· rfl); (· rfl); (· (first | omega | exact ⟨rfl, by omega⟩ | skip)); (· (exact hpX))) | ((with_reducible apply s_iaddrSO); (· rfl); (· assumption); (· rfl); (· (first | omega | exact ⟨rfl, by omega⟩ | skip)); (· (first | (simp (disch := omega) only [w64, wu8, wu16, wu32, wu64, tm_nn, td_nn, fd_nn, Int.reduceAdd, Int.reduceSub, Int.reduceMul, Int.reduceDiv, Int.reduceMod, Int.reduceNeg, Int.reduceToNat, Int.toNat_natCast, Int.toNat_zero, Int.zero_add, Int.add_zero, Int.one_mul, Int.reducePow, Nat.mul_one, Nat.zero_add, Nat.add_zero, Nat.zero_mul, Nat.reduceAdd, Nat.reduceMul, Nat.reduceSub, Nat.min_eq_left, IntKind.bits, Nat.sub_zero, g2]; try rfl; done) | rfl)); intro ks hks))) | ((with_reducible refine k_load ?_); (first | ((with_reducible apply s_loadV); (· rfl)) | ((with_reducible apply s_loadP); (· rfl); (· (exact hpX))))) | ((with_reducible refine k_buildS (dst := some 28) ?_); ((with_reducible apply s_buildS); (· rfl); (· (exact ⟨rfl, by decide⟩)); (· (first | (simp only [fillB, rep, splice, List.reduceReplicate, List.flatten_cons, List.flatten_nil, List.cons_append, List.nil_append, List.append_nil, List.length_cons, List.length_nil, Nat.reduceAdd, Nat.reduceMul, Nat.reduceLeDiff, Nat.reduceEqDiff, eq_self, Nat.le_refl, Nat.zero_add, and_self, and_true, true_and, if_true, List.take_zero, List.take_succ_cons, List.drop_zero, List.drop_succ_cons, List.drop_nil, List.take_nil]; rfl) | rfl)); intro k28 hk28; (try simp only [upd_none] at hk28))) | ((with_reducible refine k_br ?_); (first | (with_reducible first | refine Br_dec ?_ | refine Br_not ?_ | refine Br_eqF ?_ | refine Br_and ?_ | refine Br_or ?_ | refine Br_neg ?_ | refine Br_band ?_ | refine Br_bor ?_ | refine Br_beq ?_) | (refine Br_t (by first | with_reducible rfl | omega | assumption | rfl) ?_) | (refine Br_f (by first | omega | assumption | decide) ?_) | (with_reducible apply Br_sb <;> intro hbr <;> (first | subst hbr | simp only [hbr] | skip)) | (with_reducible apply Br_s <;> intro hbr))) | ((first | (with_reducible apply q_eqI) | (with_reducible apply q_eqN)); (first | (simp (disch := omega) only [w64, wu8, wu16, wu32, wu64, tm_nn, td_nn, fd_nn, Int.reduceAdd, Int.reduceSub, Int.reduceMul, Int.reduceDiv, Int.reduceMod, Int.reduceNeg, Int.reduceToNat, Int.toNat_natCast, Int.toNat_zero, Int.zero_add, Int.add_zero, Int.one_mul, Int.reducePow, Nat.mul_one, Nat.zero_add, Nat.add_zero, Nat.zero_mul, Nat.reduceAdd, Nat.reduceMul, Nat.reduceSub, Nat.min_eq_left, IntKind.bits, Nat.sub_zero, g2]; try rfl; done) | rfl)) | ((first | (with_reducible apply q_eqL) | (with_reducible apply q_eqO)); (first | (simp (disch := omega) only [upd_self, upd_ne, upd_upd, rep, splice, List.take_succ_cons, List.take_zero, List.drop_succ_cons, List.drop_zero, List.cons_append, List.nil_append, List.append_nil, List.length_cons, List.length_nil, List.reduceReplicate, List.flatten_cons, List.flatten_nil, Nat.reduceAdd, Nat.reduceMul, Nat.reduceSub, Nat.zero_add, Nat.add_zero, List.getElem?_cons_zero, List.getElem?_cons_succ, g2]; try rfl; done) | rfl)))
      all_goals first | (exfalso; omega) | skip
      refine s_appP rfl rfl (hp2.mono fun j c hj _ => upd_sub hk28 j c hj) rfl (srcD_sl upd_self rfl) ⟨rfl, by decide⟩ (by rw [room_n]; omega) fun da ha hso hoth => ?_
      have H3 := (H2.mono (upd_sub hk28)).put hso fun j c hj hf => hoth j c hj hf
      obtain ⟨ka, tl, t, rfl, hO, ht⟩ := hso.pos (by omega)
      have q1 := (hoth kI _ (upd_sub hk28 _ _ hi2) H2.fI.2.2.2.1).1
      repeat' (first | (with_reducible first | refine W_seq ?_ | refine then_n ?_ | refine W_block ?_ | refine blk_n ?_ | refine blk_r ?_ | refine blk_e ?_ | refine W_skip ?_ | refine W_ret ?_ | refine then_r ?_ | refine W_exit ?_ | refine then_e ?_) | ((with_reducible refine s_reg ?_); intro K hK) | ((with_reducible refine k_nil ?_); (with_reducible apply s_nil hK); (· exact nmX); clear hK; clear K) | ((with_reducible refine k_store ?_); ((with_reducible apply s_store0); (· rfl); (· rfl); (· rfl); (· (exact hpX)); (· (exact ⟨rfl, by first | exact Nat.le_of_ble_eq_true rfl | omega | (simp; omega)⟩)); (· ((first | exact liL | exact liO))); (· (first | exact upd_upd | rfl)))))
      all_goals first | (exfalso; omega) | skip
      have hf3 := H3.f
      have hi3 := H3.i
      have ih2 := fun {Q : D → Heap → Prop} q => ih (im ++ [x]) O2 dO2 _ _ Q (by omega) (by simp; omega) (fun b hb => by rcases List.mem_append.1 hb with h1 | h1; exact hib b h1; rw [List.mem_singleton.1 h1]; exact hx) hO2 H3 q
      repeat' (first | (with_reducible first | refine W_seq ?_ | refine then_n ?_ | refine W_block ?_ | refine blk_n ?_ | refine blk_r ?_ | refine blk_e ?_ | refine W_skip ?_ | refine W_ret ?_ | refine then_r ?_ | refine W_exit ?_ | refine then_e ?_) | ((with_reducible refine s_reg ?_); intro K hK) | ((with_reducible refine k_nil ?_); (with_reducible apply s_nil hK); (· exact nmX); clear hK; clear K) | ((with_reducible refine k_mv ?_); (refine s_mv rfl ?_)) | ((with_reducible refine k_load ?_); (first | ((with_reducible apply s_loadV); (· rfl)) | ((with_reducible apply s_loadP); (· rfl); (· (exact hpX))))) | ((with_reducible refine k_add ?_); ((with_reducible apply s_add); (· rfl); (· rfl))) | ((with_reducible refine k_store ?_); ((with_reducible apply s_store0); (· rfl); (· rfl); (· rfl); (· (exact hpX)); (· (exact ⟨rfl, by first | exact Nat.le_of_ble_eq_true rfl | omega | (simp; omega)⟩)); (· ((first | exact liL | exact liO))); (· (first | exact upd_upd | rfl)))) | ((with_reducible refine k_slice ?_); (first | ((with_reducible apply s_sliceV); (· rfl); (· (first | exact b_none | (apply b_some; (· rfl); (· omega); (· (first | exact nuI | exact nuN))))); (· (first | exact b_none | (apply b_some; (· rfl); (· omega); (· (first | exact nuI | exact nuN))))); (· (first | omega | exact ⟨rfl, by omega⟩ | skip))) | ((with_reducible apply s_sliceO); (· rfl); (· (first | exact b_none | (apply b_some; (· rfl); (· omega); (· (first | exact nuI | exact nuN))))); (· (first | exact b_none | (apply b_some; (· rfl); (· omega); (· (first | exact nuI | exact nuN))))); (· (first | omega | exact ⟨rfl, by omega⟩ | skip))) | ((with_reducible apply s_sliceN); (· rfl); (· (first | exact b_none | (apply b_some; (· rfl); (· omega); (· (first | exact nuI | exact nuN))))); (· (first | exact b_none | (apply b_some; (· rfl); (· omega); (· (first | exact nuI | exact nuN))))); (· (first | omega | exact ⟨rfl, by omega⟩ | skip))))) | ((with_reducible refine k_callT ?_); ((with_reducible apply s_callt); (· rfl); (· rfl); (· rfl))) | ((with_reducible refine k_con ?_); (first | (refine ih2 ?_; intro h5 dO5 dI5 H5; have hi5 := H5.i; obtain ⟨k5, e5, H6, cs5, hk5, hl5⟩ := H5.cut; subst e5))) | ((first | (with_reducible apply q_eqI) | (with_reducible apply q_eqN)); (first | exact nuI | exact nuN)) | ((first | (with_reducible apply q_eqL) | (with_reducible apply q_eqO)); (first | exact liL | exact liO)))
      all_goals first | (exfalso; omega) | skip
      rw [him] at H6
      exact ⟨_, rfl, _, _, H6⟩
    · rintro e' h' ⟨h1, he, dO2, dI2, H2⟩
      cases he
      rw [List.take_length] at H2
      repeat' (first | (with_reducible first | refine W_seq ?_ | refine then_n ?_ | refine W_block ?_ | refine blk_n ?_ | refine blk_r ?_ | refine blk_e ?_ | refine W_skip ?_ | refine W_ret ?_ | refine then_r ?_ | refine W_exit ?_ | refine then_e ?_) | ((with_reducible refine s_reg ?_); intro K hK) | ((with_reducible refine k_nil ?_); (with_reducible apply s_nil hK); (· exact nmX); clear hK; clear K) | ((with_reducible refine k_cond ?_); (first | ((with_reducible apply s_condT); (· rfl); (· exact nmX)) | ((with_reducible apply s_condF); (· rfl); (· exact nmX)) | ((with_reducible apply s_condS); (· rfl); (· exact nmX); (· exact nmX)))) | ((with_reducible refine k_lss ?_); (refine s_lss rfl rfl ?_)) | ((with_reducible refine k_br ?_); (first | (with_reducible first | refine Br_dec ?_ | refine Br_not ?_ | refine Br_eqF ?_ | refine Br_and ?_ | refine Br_or ?_ | refine Br_neg ?_ | refine Br_band ?_ | refine Br_bor ?_ | refine Br_beq ?_) | (refine Br_t (by first | with_reducible rfl | omega | assumption | rfl) ?_) | (refine Br_f (by first | omega | assumption | decide) ?_) | (with_reducible apply Br_sb <;> intro hbr <;> (first | subst hbr | simp only [hbr] | skip)) | (with_reducible apply Br_s <;> intro hbr))))
      all_goals first | (exfalso; omega) | exact ⟨trivial, _, rfl, hQ _ _ _ H2⟩
end Go.Proofs.Ythblalidmmbcoaa
end
section
/- min -/
/- Images. -/
set_option linter.unusedSimpArgs false
set_option linter.unusedVariables false
namespace Go.Proofs.Ythblalidmmbcoaa
open Go.AM Classical
set_option maxRecDepth 100000
set_option maxHeartbeats 4000000
def chL (B : List Bs) (l : List Ev) : List (List Bs) := (List.range B.length).map (chF B l)
theorem chL_len (B : List Bs) (l : List Ev) : (chL B l).length = B.length := by simp [chL]
theorem chL_get {B : List Bs} {l : List Ev} {i : Nat} (h : i < (chL B l).length) : (chL B l)[i] = chF B l i := by simp [chL]
def limI (C : List (List Bs)) : Prop := ∃ i < C.length, 64 < preP (C.take (i + 1))
noncomputable def imR (B : List Bs) (l : List Ev) : D := if chkR B l = 0 then (if limI (chL B l) then .tup [.vs 1 [] 0, .int .i64 9] else .tup [.vs 1 ((prodF (chL B l)).map bsD) (prodF (chL B l)).length, .int .i64 0]) else .tup [.vs 1 [] 0, .int .i64 (chkR B l)]
theorem imV_rn {h : Heap} (L : List (List Bs)) : All2 (Rn h) (L.map imV) (L.map bsD) := by
  refine ⟨by simp, fun i c d hc hd => ?_⟩
  rw [List.getElem?_map] at hc hd
  cases hb : L[i]? with
  | none => rw [hb] at hd; cases hd
  | some b => rw [hb] at hc hd; injection hc with hc; injection hd with hd; subst hc; subst hd; exact Rn_vn
def allC (C : List (List Bs)) (i : Nat) : List D := (C.take i).map bsD ++ List.replicate (C.length - i) .nil
theorem allC_len (C : List (List Bs)) {i : Nat} (h : i ≤ C.length) : (allC C i).length = C.length := by
  unfold allC; rw [List.length_append, List.length_map, List.length_take, List.length_replicate]; omega
theorem allC_set {C : List (List Bs)} {i : Nat} (h : i < C.length) : splice (allC C i) i [bsD C[i]] = allC C (i + 1) := by
  have hl := allC_len C (Nat.le_of_lt h)
  have hm : ((C.take i).map bsD).length = i := by rw [List.length_map, List.length_take]; omega
  unfold splice allC
  rw [List.take_left' hm, List.length_singleton]
  rw [show C.length - i = (C.length - (i + 1)) + 1 by omega, List.replicate_succ, List.drop_append, List.drop_eq_nil_of_le (by omega), hm]
  rw [List.take_add_one, List.getElem?_eq_getElem h, List.map_append]
  simp
theorem allC_get {C : List (List Bs)} {i : Nat} (h : i < C.length) : (allC C (i + 1))[i]? = some (bsD C[i]) := by
  have hm : ((C.take (i + 1)).map bsD).length = i + 1 := by rw [List.length_map, List.length_take]; omega
  unfold allC
  rw [List.getElem?_append_left (by omega), List.getElem?_map, List.getElem?_take, if_pos (by omega), List.getElem?_eq_getElem h]
  rfl
theorem allC_end (C : List (List Bs)) : allC C C.length = C.map bsD := by unfold allC; simp
theorem rep_nil (n : Nat) : rep n [D.nil] = List.replicate n .nil := by
  unfold rep; induction n with
  | zero => rfl
  | succ n ih => rw [List.replicate_succ, List.flatten_cons, ih, List.replicate_succ]; rfl
theorem dimages_c {B : List Bs} {l : List Ev} (Ho : HOk B l) : PCon Try.prog 18 [bsD B, evD l] (imR B l) := by
  refine A18p (by simp [A18]) ?_
  simp only [A18, argEnv]
  unfold imR
  have hB := Ho.nB
  have hL := Ho.nL
  have hal := bs_len B
  have hlen := chL_len B l
  by_cases hc : chkR B l = 0
  · rw [if_pos hc]
    repeat' (first | (with_reducible first | refine W_seq ?_ | refine then_n ?_ | refine W_block ?_ | refine blk_n ?_ | refine blk_r ?_ | refine blk_e ?_ | refine W_skip ?_ | refine W_ret ?_ | refine then_r ?_ | refine W_exit ?_ | refine then_e ?_) | ((with_reducible refine s_reg ?_); intro K hK) | ((with_reducible refine k_nil ?_); (with_reducible apply s_nil hK); (· exact nmX); clear hK; clear K) | ((with_reducible refine k_cond ?_); (first | ((with_reducible apply s_condT); (· rfl); (· exact nmX)) | ((with_reducible apply s_condF); (· rfl); (· exact nmX)) | ((with_reducible apply s_condS); (· rfl); (· exact nmX); (· exact nmX)))) | ((with_reducible refine k_mv ?_); (refine s_mv rfl ?_)) | ((with_reducible refine k_extract ?_); (refine s_extract rfl rfl ?_)) | ((with_reducible refine k_len ?_); (first | (refine s_len rfl rfl ?_) | ((with_reducible apply s_len); (· rfl); (· exact SlOwn.len (by assumption))) | ((with_reducible apply s_len); (· rfl); (· assumption)))) | ((with_reducible refine k_neq ?_); (first | (refine s_neq rfl rfl ?_) | (refine s_strNe rfl rfl ?_))) | ((with_reducible refine k_mkslice (dst := some 25) ?_); ((with_reducible apply s_mkslice); (· rfl); (· rfl); (· (exact ⟨rfl, by decide, by omega, by omega, by (rw [room_i]; omega), by omega⟩)); (· ((first | exact nuI | exact nuN))); intro k25 hk25; (try simp only [upd_none] at hk25))) | ((with_reducible refine k_store ?_); ((with_reducible apply s_store0); (· rfl); (· rfl); (· rfl); (· (exact hpX)); (· (exact ⟨rfl, by first | exact Nat.le_of_ble_eq_true rfl | omega | (simp; omega)⟩)); (· ((first | exact liL | exact liO))); (· (first | exact upd_upd | rfl)))) | ((with_reducible refine k_alloc (dst := some 8) ?_); ((with_reducible apply s_alloc); intro k8 hk8; (try simp only [upd_none] at hk8))) | ((with_reducible refine k_callF ?_); (first | ((with_reducible apply s_call1); (· rfl)) | ((with_reducible apply s_calln); (· rfl)))) | ((with_reducible refine k_con ?_); (first | (refine after_ok hB hL Ho.id hc ?_; intro h2 k kF kC dO H hh))) | ((with_reducible refine k_br ?_); (first | (with_reducible first | refine Br_dec ?_ | refine Br_not ?_ | refine Br_eqF ?_ | refine Br_and ?_ | refine Br_or ?_ | refine Br_neg ?_ | refine Br_band ?_ | refine Br_bor ?_ | refine Br_beq ?_) | (refine Br_t (by first | with_reducible rfl | omega | assumption | rfl) ?_) | (refine Br_f (by first | omega | assumption | decide) ?_) | (with_reducible apply Br_sb <;> intro hbr <;> (first | subst hbr | simp only [hbr] | skip)) | (with_reducible apply Br_s <;> intro hbr))))
    all_goals first | (exfalso; omega) | skip
    have hle : ∀ i (hi : i < (chL B l).length), ((chL B l)[i]).length ≤ 902 := fun i hi => by rw [chL_get]; have := ch_len (B := B) (l := l) (b := i); omega
    have h32 : ∀ i (hi : i < (chL B l).length), ∀ b ∈ (chL B l)[i], b.length = 32 := fun i hi b hb => by rw [chL_get] at hb; exact ch_32 hc (by omega) hb
    have pk : ∀ {h : Heap} (hs : ∀ j c, h2 j = some c → h j = some c) (i : Nat) (hi : i < (chL B l).length), PK Try.prog h [.pt k 0, .int .i64 i] 41 (bsD (chL B l)[i]) := fun hs i hi => by rw [chL_get]; exact stch_pk Ho hc (H.mono hs) i (by omega)
    generalize hC : chL B l = C at *
    have hCB : C.length ≤ 1000000 := by omega
    rw [← hlen]
    have hps : ∀ i (hi : i < C.length), preP (C.take (i + 1)) = preP (C.take i) * (C[i]).length := fun i hi => by rw [List.take_add_one, List.getElem?_eq_getElem hi]; exact preP_snoc _ _
    refine W_for C.length (fun i st => ∃ h', st = ⟨[(6, .pt k 0), (8, .pt k8 0), (9, .int .i64 (preP (C.take i) : Nat)), (27, .int .i64 C.length), (28, .int .i64 i)], h'⟩ ∧ h' k8 = some [.sl k25 1 0 C.length] ∧ h' k25 = some (allC C i) ∧ (∀ j c, h2 j = some c → h' j = some c) ∧ (preP (C.take i) ≤ 64 ∧ ∀ t, t < i → preP (C.take (t + 1)) ≤ 64)) ⟨_, rfl, upd_self, ?_, fun j c hj => upd_sub (by rw [upd_ne hk8.1]; exact hk8.2) j c (upd_sub hk25 j c hj), by simp [preP], fun t ht => by omega⟩ ?_ ?_
    · rw [upd_ne hk8.1.symm, upd_self, rep_nil]; simp [allC]
    · rintro i e' h' hi ⟨h1, he, q1, q2, hs, hp, ht⟩
      cases he
      have hb0 := hle i hi
      have p1 := pk hs i hi
      have hcl := allC_len C (Nat.le_of_lt hi)
      have hst := allC_set hi
      have hgt := allC_get hi
      have hlim : 64 < preP (C.take (i + 1)) → limI C := fun h => ⟨i, hi, h⟩
      have hmul : ((preP (C.take i) : Nat) : Int) * ((C[i]).length : Nat) = (preP (C.take (i + 1)) : Nat) := by rw [hps i hi]; simp
      have hpb : preP (C.take (i + 1)) ≤ 64 * 902 := by rw [hps i hi]; exact Nat.mul_le_mul hp hb0
      have hal2 := bs_len C[i]
      generalize C[i] = c at *
      generalize preP (C.take i) = pi at *
      generalize hpj : preP (C.take (i + 1)) = pj at *
      generalize allC C i = A at *
      generalize allC C (i + 1) = A2 at *
      unfold splice at hst
      rw [List.length_singleton] at hst
      repeat' (first | (with_reducible first | refine W_seq ?_ | refine then_n ?_ | refine W_block ?_ | refine blk_n ?_ | refine blk_r ?_ | refine blk_e ?_ | refine W_skip ?_ | refine W_ret ?_ | refine then_r ?_ | refine W_exit ?_ | refine then_e ?_) | ((with_reducible refine s_reg ?_); intro K hK) | ((with_reducible refine k_nil ?_); (with_reducible apply s_nil hK); (· exact nmX); clear hK; clear K) | ((with_reducible refine k_cond ?_); (first | ((with_reducible apply s_condT); (· rfl); (· exact nmX)) | ((with_reducible apply s_condF); (· rfl); (· exact nmX)) | ((with_reducible apply s_condS); (· rfl); (· exact nmX); (· exact nmX)))) | ((with_reducible refine k_mv ?_); (refine s_mv rfl ?_)) | ((with_reducible refine k_len ?_); (first | (refine s_len rfl rfl ?_) | ((with_reducible apply s_len); (· rfl); (· exact SlOwn.len (by assumption))) | ((with_reducible apply s_len); (· rfl); (· assumption)))) | ((with_reducible refine k_lss ?_); (refine s_lss rfl rfl ?_)) | ((with_reducible refine k_gtr ?_); (refine s_gtr rfl rfl ?_)) | ((with_reducible refine k_iaddr ?_); (first | ((with_reducible apply s_iaddrV); (· rfl); (· rfl); (· (first | omega | exact ⟨rfl, by omega⟩ | skip))) | ((with_reducible apply s_iaddrO); (· rfl); (· rfl); (· (first | omega | exact ⟨rfl, by omega⟩ | skip)); (· (exact hpX))) | ((with_reducible apply s_iaddrSO); (· rfl); (· assumption); (· rfl); (· (first | omega | exact ⟨rfl, by omega⟩ | skip)); (· (first | (simp (disch := omega) only [w64, wu8, wu16, wu32, wu64, tm_nn, td_nn, fd_nn, Int.reduceAdd, Int.reduceSub, Int.reduceMul, Int.reduceDiv, Int.reduceMod, Int.reduceNeg, Int.reduceToNat, Int.toNat_natCast, Int.toNat_zero, Int.zero_add, Int.add_zero, Int.one_mul, Int.reducePow, Nat.mul_one, Nat.zero_add, Nat.add_zero, Nat.zero_mul, Nat.reduceAdd, Nat.reduceMul, Nat.reduceSub, Nat.min_eq_left, IntKind.bits, Nat.sub_zero, hst, hgt, hmul]; try rfl; done) | rfl)); intro ks hks))) | ((with_reducible refine k_load ?_); (first | ((with_reducible apply s_loadV); (· rfl)) | ((with_reducible apply s_loadP); (· rfl); (· (exact hpX))))) | ((with_reducible refine k_add ?_); ((with_reducible apply s_add); (· rfl); (· rfl))) | ((with_reducible refine k_mul ?_); ((with_reducible apply s_mul); (· rfl); (· rfl))) | ((with_reducible refine k_store ?_); ((with_reducible apply s_store0); (· rfl); (· rfl); (· rfl); (· (exact hpX)); (· (exact ⟨rfl, by first | exact Nat.le_of_ble_eq_true rfl | omega | (simp [hst, hgt, hmul]; omega)⟩)); (· ((first | (simp (disch := omega) only [upd_self, upd_ne, upd_upd, rep, splice, List.take_succ_cons, List.take_zero, List.drop_succ_cons, List.drop_zero, List.cons_append, List.nil_append, List.append_nil, List.length_cons, List.length_nil, List.reduceReplicate, List.flatten_cons, List.flatten_nil, Nat.reduceAdd, Nat.reduceMul, Nat.reduceSub, Nat.zero_add, Nat.add_zero, List.getElem?_cons_zero, List.getElem?_cons_succ, hst, hgt, hmul]; try rfl; done) | rfl))); (· (first | exact upd_upd | rfl)))) | ((with_reducible refine k_dreg ?_); refine s_dregS (pre := A18d10p) rfl rfl rfl ?_; intro K hK) | (with_reducible refine d_nilS ?_) | ((with_reducible refine k_dcall ?_); (first | ((with_reducible apply d_callK); (· rfl); (· exact p1); (· rfl)))) | ((with_reducible refine k_dop ?_); refine d_step (by first | exact Or.inl rfl | exact Or.inr rfl) ?_) | (with_reducible refine d_back ?_) | ((with_reducible refine k_br ?_); (first | (with_reducible first | refine Br_dec ?_ | refine Br_not ?_ | refine Br_eqF ?_ | refine Br_and ?_ | refine Br_or ?_ | refine Br_neg ?_ | refine Br_band ?_ | refine Br_bor ?_ | refine Br_beq ?_) | (refine Br_t (by first | with_reducible rfl | omega | assumption | rfl) ?_) | (refine Br_f (by first | omega | assumption | decide) ?_) | (with_reducible apply Br_sb <;> intro hbr <;> (first | subst hbr | simp only [hbr] | skip)) | (with_reducible apply Br_s <;> intro hbr))) | ((first | (with_reducible apply q_eqI) | (with_reducible apply q_eqN)); (first | (simp (disch := omega) only [w64, wu8, wu16, wu32, wu64, tm_nn, td_nn, fd_nn, Int.reduceAdd, Int.reduceSub, Int.reduceMul, Int.reduceDiv, Int.reduceMod, Int.reduceNeg, Int.reduceToNat, Int.toNat_natCast, Int.toNat_zero, Int.zero_add, Int.add_zero, Int.one_mul, Int.reducePow, Nat.mul_one, Nat.zero_add, Nat.add_zero, Nat.zero_mul, Nat.reduceAdd, Nat.reduceMul, Nat.reduceSub, Nat.min_eq_left, IntKind.bits, Nat.sub_zero, hst, hgt, hmul]; try rfl; done) | rfl)) | ((first | (with_reducible apply q_eqL) | (with_reducible apply q_eqO)); (first | (simp (disch := omega) only [upd_self, upd_ne, upd_upd, rep, splice, List.take_succ_cons, List.take_zero, List.drop_succ_cons, List.drop_zero, List.cons_append, List.nil_append, List.append_nil, List.length_cons, List.length_nil, List.reduceReplicate, List.flatten_cons, List.flatten_nil, Nat.reduceAdd, Nat.reduceMul, Nat.reduceSub, Nat.zero_add, Nat.add_zero, List.getElem?_cons_zero, List.getElem?_cons_succ, hst, hgt, hmul]; try rfl; done) | rfl)))
      all_goals first | (exfalso; omega) | skip
      · rw [if_pos (hlim (by omega))]
        exact Fin_tupN trivial rfl (All2.cons Rn_nil (All2.cons (Rn_scal rfl) All2.nil)) rfl
      · refine ⟨_, rfl, ?_, upd_self, fun j c hj => ?_, by omega, fun t ht2 => ?_⟩
        · rw [upd_ne hk8.1]; exact q1
        · rw [upd_ne (fun e => by rw [e, hk25] at hj; cases hj)]; exact hs j c hj
        · rcases Nat.lt_succ_iff_lt_or_eq.1 ht2 with h3 | rfl
          · exact ht t h3
          · rw [hpj]; omega
    · rintro e' h' ⟨h1, he, q1, q2, hs, hp, ht⟩
      cases he
      rw [if_neg (fun ⟨i, hi, h⟩ => by have := ht i hi; omega)]
      rw [allC_end] at q2
      clear hps
      rw [List.take_length] at hp
      repeat' (first | (with_reducible first | refine W_seq ?_ | refine then_n ?_ | refine W_block ?_ | refine blk_n ?_ | refine blk_r ?_ | refine blk_e ?_ | refine W_skip ?_ | refine W_ret ?_ | refine then_r ?_ | refine W_exit ?_ | refine then_e ?_) | ((with_reducible refine s_reg ?_); intro K hK) | ((with_reducible refine k_nil ?_); (with_reducible apply s_nil hK); (· exact nmX); clear hK; clear K) | ((with_reducible refine k_cond ?_); (first | ((with_reducible apply s_condT); (· rfl); (· exact nmX)) | ((with_reducible apply s_condF); (· rfl); (· exact nmX)) | ((with_reducible apply s_condS); (· rfl); (· exact nmX); (· exact nmX)))) | ((with_reducible refine k_lss ?_); (refine s_lss rfl rfl ?_)) | ((with_reducible refine k_load ?_); (first | ((with_reducible apply s_loadV); (· rfl)) | ((with_reducible apply s_loadP); (· rfl); (· (exact hpX))))) | ((with_reducible refine k_store ?_); ((with_reducible apply s_store0); (· rfl); (· rfl); (· rfl); (· (exact hpX)); (· (exact ⟨rfl, by first | exact Nat.le_of_ble_eq_true rfl | omega | (simp; omega)⟩)); (· ((first | exact liL | exact liO))); (· (first | exact upd_upd | rfl)))) | ((with_reducible refine k_alloc (dst := some 11) ?_); ((with_reducible apply s_alloc); intro k11 hk11; (try simp only [upd_none] at hk11))) | ((with_reducible refine k_alloc (dst := some 12) ?_); ((with_reducible apply s_alloc); intro k12 hk12; (try simp only [upd_none] at hk12))) | ((with_reducible refine k_alloc (dst := some 13) ?_); ((with_reducible apply s_alloc); intro k13 hk13; (try simp only [upd_none] at hk13))) | ((with_reducible refine k_mkfn ?_); ((with_reducible apply s_mkfn); (· rfl); (· rfl))) | ((with_reducible refine k_callT ?_); ((with_reducible apply s_callt); (· rfl); (· rfl); (· rfl))) | ((with_reducible refine k_br ?_); (first | (with_reducible first | refine Br_dec ?_ | refine Br_not ?_ | refine Br_eqF ?_ | refine Br_and ?_ | refine Br_or ?_ | refine Br_neg ?_ | refine Br_band ?_ | refine Br_bor ?_ | refine Br_beq ?_) | (refine Br_t (by first | with_reducible rfl | omega | assumption | rfl) ?_) | (refine Br_f (by first | omega | assumption | decide) ?_) | (with_reducible apply Br_sb <;> intro hbr <;> (first | subst hbr | simp only [hbr] | skip)) | (with_reducible apply Br_s <;> intro hbr))) | ((first | (with_reducible apply q_eqL) | (with_reducible apply q_eqO)); (first | exact liL | exact liO)))
      all_goals first | (exfalso; omega) | skip
      have hC1 : ∀ c ∈ C, c.length ≤ 1000000 ∧ ∀ b ∈ c, b.length ≤ 1000000 := fun c hcm => by
        obtain ⟨i, hi, rfl⟩ := List.mem_iff_getElem.1 hcm
        refine ⟨by have := hle i hi; omega, fun b hb => ?_⟩
        have h32 := h32 i hi b hb
        omega
      refine choose_con hCB hC1 (kA := k8) (kS := k25) C.length 0 [] [] .nil .nil _ _ (by omega) rfl (by simp) (by simpa using hp) ?_ (fun h5 dO5 dI5 H5 => ?_)
      · have n8 : ∀ {j}, h' j = none → k8 ≠ j := fun hj e => by rw [← e, q1] at hj; cases hj
        have n25 : ∀ {j}, h' j = none → k25 ≠ j := fun hj e => by rw [← e, q2] at hj; cases hj
        obtain ⟨a1, a2⟩ := hk12
        obtain ⟨b1, b2, b3⟩ := hk13
        refine ⟨?_, ?_, ?_, SlOwn.nil, ?_, SlPre.nil, upd_self, ⟨⟨n8 hk11, n8 a2⟩, ⟨n25 hk11, n25 a2⟩, Ne.symm a1, b2, b1⟩, ⟨Fr.nil, Fr.nil, Fr.nil, Fr.nil, Fr.nil⟩, ⟨Fr.nil, Fr.nil, Fr.nil, Fr.nil, Fr.nil⟩, fun j => .inl Fr.nil⟩
        · rw [upd_ne (n8 b3), upd_ne (n8 a2), upd_ne (n8 hk11)]; exact q1
        · rw [upd_ne (n25 b3), upd_ne (n25 a2), upd_ne (n25 hk11)]; exact q2
        · rw [upd_ne (Ne.symm b2), upd_ne (Ne.symm a1)]; exact upd_self
        · rw [upd_ne (Ne.symm b1)]; exact upd_self
      · have ho5 := H5.o
        have so5 := H5.so
        repeat' (first | (with_reducible first | refine W_seq ?_ | refine then_n ?_ | refine W_block ?_ | refine blk_n ?_ | refine blk_r ?_ | refine blk_e ?_ | refine W_skip ?_ | refine W_ret ?_ | refine then_r ?_ | refine W_exit ?_ | refine then_e ?_) | ((with_reducible refine s_reg ?_); intro K hK) | ((with_reducible refine k_nil ?_); (with_reducible apply s_nil hK); (· exact nmX); clear hK; clear K) | ((with_reducible refine k_mv ?_); (refine s_mv rfl ?_)) | ((with_reducible refine k_load ?_); (first | ((with_reducible apply s_loadV); (· rfl)) | ((with_reducible apply s_loadP); (· rfl); (· (exact hpX))))) | ((first | (with_reducible apply q_eqL) | (with_reducible apply q_eqO)); (first | exact liL | exact liO)))
        all_goals first | (exfalso; omega) | skip
        have e5 : [] ++ (prodF (C.drop 0)).map ([] ++ ·) = prodF C := by simp
        rw [e5] at so5
        exact Fin_tupN trivial rfl (All2.cons (Rn_so so5 (imV_rn _)) (All2.cons (Rn_scal rfl) All2.nil)) rfl
  · rw [if_neg hc]
    have c1 := fun {h : Heap} {Q : D → Heap → Prop} q => after_no (h := h) (Q := Q) hB hL Ho.id hc q
    generalize chkR B l = e at *
    repeat' (first | (with_reducible first | refine W_seq ?_ | refine then_n ?_ | refine W_block ?_ | refine blk_n ?_ | refine blk_r ?_ | refine blk_e ?_ | refine W_skip ?_ | refine W_ret ?_ | refine then_r ?_ | refine W_exit ?_ | refine then_e ?_) | ((with_reducible refine s_reg ?_); intro K hK) | ((with_reducible refine k_nil ?_); (with_reducible apply s_nil hK); (· exact nmX); clear hK; clear K) | ((with_reducible refine k_cond ?_); (first | ((with_reducible apply s_condT); (· rfl); (· exact nmX)) | ((with_reducible apply s_condF); (· rfl); (· exact nmX)) | ((with_reducible apply s_condS); (· rfl); (· exact nmX); (· exact nmX)))) | ((with_reducible refine k_mv ?_); (refine s_mv rfl ?_)) | ((with_reducible refine k_extract ?_); (refine s_extract rfl rfl ?_)) | ((with_reducible refine k_neq ?_); (first | (refine s_neq rfl rfl ?_) | (refine s_strNe rfl rfl ?_))) | ((with_reducible refine k_callF ?_); (first | ((with_reducible apply s_call1); (· rfl)) | ((with_reducible apply s_calln); (· rfl)))) | ((with_reducible refine k_con ?_); (first | (refine c1 ?_; intro h2 hh))) | ((with_reducible refine k_br ?_); (first | (with_reducible first | refine Br_dec ?_ | refine Br_not ?_ | refine Br_eqF ?_ | refine Br_and ?_ | refine Br_or ?_ | refine Br_neg ?_ | refine Br_band ?_ | refine Br_bor ?_ | refine Br_beq ?_) | (refine Br_t (by first | with_reducible rfl | omega | assumption | rfl) ?_) | (refine Br_f (by first | omega | assumption | decide) ?_) | (with_reducible apply Br_sb <;> intro hbr <;> (first | subst hbr | simp only [hbr] | skip)) | (with_reducible apply Br_s <;> intro hbr))))
    all_goals first | (exfalso; omega) | exact Fin_tupN trivial rfl (All2.cons Rn_nil (All2.cons (Rn_scal rfl) All2.nil)) rfl
end Go.Proofs.Ythblalidmmbcoaa
end
section
/- min -/
/- The reference: Images. -/
set_option linter.unusedSimpArgs false
set_option linter.unusedVariables false
namespace Go.Proofs.Ythblalidmmbcoaa
open Go.AM Classical
set_option maxRecDepth 100000
set_option maxHeartbeats 4000000
def IM (h : Heap) (cs : List D) (O : List (List Bs)) : Prop := All2 (fun c im => ∃ k, c = .sl k 1 0 im.length ∧ h k = some (im.map vD)) cs O
theorem IM.mono {h h2 : Heap} {cs : List D} {O : List (List Bs)} (H : IM h cs O) (hh : ∀ j c, h j = some c → h2 j = some c) : IM h2 cs O :=
  ⟨H.1, fun i c im hc hm => by obtain ⟨k, h1, h3⟩ := H.2 i c im hc hm; exact ⟨k, h1, hh _ _ h3⟩⟩
theorem IM.step {h h2 h3 : Heap} {d : D} {cs : List D} {O : List (List Bs)} {n : Nat} (H : IM h cs O) (ho : SlOwn h d 1 cs n) (h12 : ∀ k c, h k = some c → h2 k = some c) (h23 : ∀ j c, h2 j = some c → (∀ sz off n, d ≠ .sl j sz off n) → h3 j = some c) : IM h3 cs O := by
  refine ⟨H.1, fun i c im hc hm => ?_⟩
  obtain ⟨k, rfl, hk⟩ := H.2 i c im hc hm
  refine ⟨k, rfl, h23 _ _ (h12 _ _ hk) fun sz off m hd => ?_⟩
  obtain ⟨-, ⟨-, h0 | h0⟩ | ⟨k2, h0, hk2⟩⟩ := ho
  · rw [h0] at hd; cases hd
  · rw [h0] at hd; cases hd
  · rw [h0] at hd
    injection hd with hd
    subst hd
    rw [hk] at hk2
    injection hk2 with hk2
    rw [← hk2, List.getElem?_map] at hc
    cases hb : im[i]? with
    | none => rw [hb] at hc; cases hc
    | some b => rw [hb] at hc; injection hc with hc; cases hc
theorem IM.snoc {h : Heap} {cs : List D} {O : List (List Bs)} (H : IM h cs O) {k : Nat} {im : List Bs} (hk : h k = some (im.map vD)) : IM h (cs ++ [.sl k 1 0 im.length]) (O ++ [im]) := H.append (All2.cons ⟨k, rfl, hk⟩ All2.nil)
theorem IM.rn {h : Heap} {cs : List D} {O : List (List Bs)} (H : IM h cs O) : All2 (Rn h) cs (O.map bsD) := by
  refine ⟨by rw [List.length_map]; exact H.1, fun i c d hc hd => ?_⟩
  rw [List.getElem?_map] at hd
  cases hb : O[i]? with
  | none => rw [hb] at hd; cases hd
  | some im =>
    rw [hb] at hd; injection hd with hd; subst hd
    obtain ⟨k, rfl, hk⟩ := H.2 i c im hc hb
    exact Rn_sl hk (by simp) (vs_rn _)
theorem IM.get {h : Heap} {cs : List D} {O : List (List Bs)} (H : IM h cs O) {i : Nat} (hi : i < O.length) : ∃ k, cs[i]? = some (.sl k 1 0 (O[i]).length) ∧ h k = some ((O[i]).map vD) := by
  have h1 := H.1
  obtain ⟨k, h2, h3⟩ := H.2 i _ _ (List.getElem?_eq_getElem (by omega : i < cs.length)) (List.getElem?_eq_getElem hi)
  exact ⟨k, by rw [List.getElem?_eq_getElem (by omega), h2], h3⟩
end Go.Proofs.Ythblalidmmbcoaa
end
section
/- Drawn regions: makers, then a call. -/
set_option linter.unusedSimpArgs false
set_option linter.unusedVariables false
namespace Go.AM
open Classical
set_option maxRecDepth 100000
set_option maxHeartbeats 4000000
def madeS : List Nat → Nat → List AIns → List Nat
  | made, _, [] => made
  | made, i, o :: r => madeS (if makes o.op then i :: made else made) (i + 1) r
theorem Wmid_run {P : Program} {ops : List AIns} {bef : List (List Nat)} (hbl : bef.length = ops.length) {N : Nat} {rs : Nat → D} : ∀ (l : List AIns) (i : Nat) (made : List Nat) (e : Env) (h : Heap) (K : Env → Heap → Prop), (∃ tail, ops.drop i = l ++ tail) → okS bef made i l = true → Wops P l e h K →
    (∀ k, N ≤ k → h k ≠ none → ∃ m ∈ made, k = N + m) → (∀ m ∈ made, m < i) → ∃ e' h', dRun P N ops.length rs ops bef (List.range' i l.length) (get e) h = some (get e', h') ∧ K e' h' ∧ (∀ k, N ≤ k → h' k ≠ none → ∃ m ∈ madeS made i l, k = N + m) ∧ ∀ m ∈ madeS made i l, m < i + l.length
  | [], i, _, e, h, K, _, _, hw, hN, hm => ⟨e, h, by simp [dRun], hw, hN, hm⟩
  | o :: r, i, made, e, h, K, ⟨tail, hd⟩, hok, hw, hN, hm => by
    have hoi : ops[i]? = some o := by
      have : (ops.drop i)[0]? = some o := by rw [hd]; rfl
      rw [List.getElem?_drop] at this
      simpa using this
    have hil : i < ops.length := by
      rcases Nat.lt_or_ge i ops.length with h' | h'
      · exact h'
      · simp [List.getElem?_eq_none h'] at hoi
    have hbi : bef[i]? = some (befAt bef i) := by
      unfold befAt
      have : i < bef.length := by omega
      simp [this]
    have hdr : ∃ tail, ops.drop (i + 1) = r ++ tail := ⟨tail, by rw [← List.drop_drop, hd]; rfl⟩
    simp only [okS, Bool.and_eq_true] at hok
    obtain ⟨⟨⟨hg, hnc⟩, hcl⟩, hokr⟩ := hok
    have hg : o.guard = none := by simpa using hg
    have hkey : h (N + i) = none := by
      refine Classical.byContradiction fun hne => ?_
      obtain ⟨m, h1, h2⟩ := hN (N + i) (by omega) hne
      have := hm m h1
      omega
    -- the operation on the whole heap
    have key : ∀ d h1, evOp (get e) h (N + i) o.op = some (d, h1) → Wops P r (put o.dst d e) h1 K → (∀ k, N ≤ k → h1 k ≠ none → k = N + i → makes o.op = true) → ∃ e' h', dRun P N ops.length rs ops bef (List.range' i (o :: r).length) (get e) h = some (get e', h') ∧ K e' h' ∧ (∀ k, N ≤ k → h' k ≠ none → ∃ m ∈ madeS made i (o :: r), k = N + m) ∧ ∀ m ∈ madeS made i (o :: r), m < i + (o :: r).length := by
      intro d h1 hev hw1 hmk
      have hres : dRes P N ops.length rs i (befAt bef i) o (get e) h = some (d, h1) := by
        have hgv : guardV o.guard (get e) = some true := by rw [hg]; rfl
        have hcase : (match evOp (get e) (hide (hidF N ops.length (befAt bef i) i) h) (N + i) o.op with | some (d, h1) => some (d, unhide (hidF N ops.length (befAt bef i) i) h h1) | none => none) = some (d, h1) := by
          by_cases hc0 : cls o.op = 0
          · obtain ⟨e1, e2⟩ := cls0 hc0 hev
            rw [e2 _ _, e1]
            simp only [unhide_hide]
          · by_cases hc2 : cls o.op = 2
            · obtain ⟨c, e1, e2⟩ := cls2 hc2 hev
              rw [e2 _, e1]
              simp only [unhide_upd hid_own]
            have hid : hide (hidF N ops.length (befAt bef i) i) h = h := by
              funext k
              simp only [hide]
              split
              · rename_i hk
                refine Classical.byContradiction fun hne => ?_
                simp only [hidF, Bool.and_eq_true, decide_eq_true_eq, Bool.not_eq_true'] at hk
                obtain ⟨m, h3, h4⟩ := hN k hk.1.1.1 (fun h5 => hne h5.symm)
                have h5 : made.all (fun m => (befAt bef i).contains m) = true := by
                  rcases Bool.or_eq_true _ _ ▸ hcl with h6 | h6
                  · rcases (by simpa using h6 : cls o.op = 0 ∨ cls o.op = 2) with h7 | h7
                    · exact absurd h7 hc0
                    · exact absurd h7 hc2
                  · exact h6
                have h6 := List.all_eq_true.1 h5 m h3
                rw [h4, Nat.add_sub_cancel_left] at hk
                rw [h6] at hk
                exact absurd hk.2 (by simp)
              · rfl
            rw [hid, hev]
            simp only
            rw [evOp_fix hid_own hid hev]
        unfold dRes
        rw [hgv]
        simp only
        cases hop : o.op <;> rw [hop] at hcase hnc <;> first | exact hcase | (simp [notCall] at hnc; done)
      have hinv : ∀ k, N ≤ k → h1 k ≠ none → ∃ m ∈ (if makes o.op then i :: made else made), k = N + m := by
        intro k hk hne
        by_cases hki : k = N + i
        · rw [if_pos (hmk k hk hne hki)]
          exact ⟨i, by simp, hki⟩
        · obtain ⟨m, h3, h4⟩ := hN k hk (fun h0 => hne (evOp_none hev h0 hki))
          refine ⟨m, ?_, h4⟩
          split
          · simp [h3]
          · exact h3
      obtain ⟨e', h', h2, h3, h4, h5⟩ := Wmid_run hbl (N := N) (rs := rs) r (i + 1) _ (put o.dst d e) h1 K hdr hokr hw1 hinv (by
        intro m hm2
        split at hm2
        · rcases List.mem_cons.1 hm2 with rfl | hm2
          · omega
          · have := hm m hm2; omega
        · have := hm m hm2; omega)
      refine ⟨e', h', ?_, h3, h4, fun m hm => by have := h5 m hm; rw [List.length_cons]; omega⟩
      simp only [List.length_cons, List.range'_succ, dRun, hoi, hbi, hres]
      rw [← get_put]
      exact h2
    simp only [Wops, Wins, hg, runIns] at hw
    split at hw
    · rename_i hop
      rw [hop] at hnc
      simp [notCall] at hnc
    · split at hw
      · rename_i hmk
        have h1 := hw (N + i) hkey
        split at h1
        · rename_i d h' hev
          exact key d h' hev h1 (fun _ _ _ _ => hmk)
        · exact h1.elim
      · rename_i hmk
        have hmk : makes o.op = false := by simpa using hmk
        split at hw
        · rename_i d h' hev
          rw [key_any hmk 0 (N + i)] at hev
          refine key d h' hev hw (fun k hk hne hki => ?_)
          subst hki
          rw [key_any hmk (N + i) (N + i + 1)] at hev
          exact absurd (evOp_none hev hkey (by omega)) hne
        · obtain ⟨⟨g, x, sz, c, hop, _⟩, _⟩ := hw
          rw [hop] at hnc
          simp [notCall] at hnc
def WcV (P : Program) (rc : D) (c : AIns) (suf : List AIns) (e : Env) (h : Heap) (K : Env → Heap → Prop) : Prop :=
  match c.op with
  | .call f args => match evO (get e) f, evOs (get e) args with
    | some (.fn g fst caps), some ds => PC P h (fst ++ ds ++ caps) g rc ∧ Wops P suf (put c.dst rc e) h K
    | _, _ => False
  | _ => False
theorem W_dregMC {P : Program} {Q : X → St → Prop} {e : Env} {h : Heap} {pre mid suf ops : List AIns} {c : AIns} {bef : List (List Nat)} {keep : List Nat} {rc : D} (hs : pre ++ (mid ++ (c :: suf)) = ops) (hbl : bef.length = ops.length) (hro : pre.all readsOnly = true) (hcg : c.guard = none) (hokm : okS bef [] pre.length mid = true) (hokc : ((madeS [] pre.length mid).all fun m => (befAt bef (pre.length + mid.length)).contains m) = true) (hok : okS bef (madeS [] pre.length mid) (pre.length + mid.length + 1) suf = true) (how : owOf rc = none) (hth : ∀ k, thaw k rc = rc)
    (hw : ∀ K : Env → Heap → Prop, (∀ e1 h1 e2, norm keep e1 = e2 → Q .normal ⟨e2, h1⟩ → K e1 h1) → WdR P pre e h fun e' => Wops P mid e' h fun e2 h2 => WcV P rc c suf e2 h2 K) : W P (.dreg ops bef keep) Q ⟨e, h⟩ := by
  (try refine Or.inl ?_)
  subst hs
  obtain ⟨rs0, e1, hm, hr⟩ := WdR_run (ops := pre ++ (mid ++ (c :: suf))) hbl pre 0 ⟨mid ++ (c :: suf), by simp⟩ hro e h _ (hw (fun e' h' => Q .normal ⟨norm keep e', h'⟩) fun _ _ _ h1 h2 => by rw [h1]; exact h2)
  refine ⟨fun j => if j = pre.length + mid.length then rc else rs0 j, fun N hN => ?_⟩
  have hN : ∀ k, N ≤ k → h k = none := hN
  have hlen : (pre ++ (mid ++ (c :: suf))).length = pre.length + (mid.length + (1 + suf.length)) := by simp; omega
  have h1 := hr N hN
  rw [dRun_congr (rs' := fun j => if j = pre.length + mid.length then rc else rs0 j) _ _ _ (fun j hj => by have := List.mem_range'_1.1 hj; show rs0 j = if j = pre.length + mid.length then rc else rs0 j; rw [if_neg (by omega)])] at h1
  generalize hrs : (fun j => if j = pre.length + mid.length then rc else rs0 j) = rs at *
  have hrsi : rs (pre.length + mid.length) = rc := by rw [← hrs]; simp
  have hci : (pre ++ (mid ++ (c :: suf)))[pre.length + mid.length]? = some c := by simp
  have hbi : bef[pre.length + mid.length]? = some (befAt bef (pre.length + mid.length)) := by
    unfold befAt
    have : pre.length + mid.length < bef.length := by omega
    simp [this]
  obtain ⟨e2, h2, hm1, hc, hN2, hm2⟩ := Wmid_run (ops := pre ++ (mid ++ (c :: suf))) hbl (N := N) (rs := rs) mid pre.length [] e1 h _ ⟨c :: suf, by simp⟩ hokm hm (fun k hk hne => absurd (hN k hk) hne) (by simp)
  unfold WcV at hc
  split at hc
  · rename_i f args hop
    split at hc
    · rename_i g fst caps ds hf ha
      obtain ⟨hpc, hk⟩ := hc
      have hid : hide (hidF N (pre ++ (mid ++ (c :: suf))).length (befAt bef (pre.length + mid.length)) (pre.length + mid.length)) h2 = h2 := by
        funext k
        simp only [hide]
        split
        · rename_i hk2
          refine Classical.byContradiction fun hne => ?_
          simp only [hidF, Bool.and_eq_true, decide_eq_true_eq, Bool.not_eq_true'] at hk2
          obtain ⟨m, h3, h4⟩ := hN2 k hk2.1.1.1 (fun h5 => hne h5.symm)
          have h6 := List.all_eq_true.1 hokc m h3
          rw [h4, Nat.add_sub_cancel_left] at hk2
          rw [h6] at hk2
          exact absurd hk2.2 (by simp)
        · rfl
      have hres : dRes P N (pre ++ (mid ++ (c :: suf))).length rs (pre.length + mid.length) (befAt bef (pre.length + mid.length)) c (get e2) h2 = some (rc, h2) := by
        unfold dRes
        rw [hcg, hop]
        simp only [guardV, hf, ha, hrsi]
        rw [hid, if_pos hpc, hth, thawH_none how]
      obtain ⟨e4, h', h5, h6⟩ := Wsuf_run (ops := pre ++ (mid ++ (c :: suf))) hbl (N := N) (rs := rs) suf (pre.length + mid.length + 1) (madeS [] pre.length mid) _ _ _ (by
          have : (pre ++ (mid ++ (c :: suf))) = (pre ++ (mid ++ [c])) ++ suf := by simp
          rw [this, List.drop_append_of_le_length (by simp; omega)]
          rw [List.drop_eq_nil_of_le (by simp; omega)]; rfl) hok hk hN2 (fun m hm => by have := hm2 m hm; omega)
      refine ⟨(get e4, h'), ?_, ?_⟩
      · rw [hlen, List.range_eq_range', ← List.range'_append_1, dRun_append]
        rw [hlen] at h1 hm1 h5 hres
        rw [h1]
        simp only [Option.bind_some, Nat.zero_add]
        rw [← List.range'_append_1, dRun_append, hm1]
        simp only [Option.bind_some]
        rw [← List.range'_append_1, dRun_append]
        have hr1 : List.range' (pre.length + mid.length) 1 = [pre.length + mid.length] := rfl
        rw [hr1]
        simp only [dRun, hci, hbi, hres, Option.bind_some]
        rw [← get_put]
        exact h5
      · rw [norm_get] at h6
        exact h6
    · exact hc.elim
  · exact hc.elim
end Go.AM
end
section
/- min -/
/- awake. -/
set_option linter.unusedSimpArgs false
set_option linter.unusedVariables false
namespace Go.Proofs.Ythblalidmmbcoaa
open Go.AM Classical
set_option maxRecDepth 100000
set_option maxHeartbeats 4000000
instance (c : Bs) : Decidable (byB c) := inferInstanceAs (Decidable (∀ a ∈ c, 0 ≤ a ∧ a ≤ 255))
def pg (c : Int) : Bs := List.replicate 32 c
def wB : List Bs := [pg 65, pg 66]
def wL : List Ev := [⟨1, 1, 0, pg 67⟩, ⟨2, 1, 0, []⟩, ⟨1, 2, 0, pg 68⟩]
def wM : List Ev := [⟨1, 1, 0, pg 67⟩, ⟨2, 1, 0, []⟩, ⟨3, 0, 0, []⟩, ⟨1, 2, 0, pg 68⟩]
theorem wB_ok {l : List Ev} (h : l = wL ∨ l = wL.take 1 ∨ l = wL.drop 1 ∨ l = wM) : HOk wB l := by
  rcases h with rfl | rfl | rfl | rfl
  all_goals refine ⟨by decide, by decide, by decide, by decide, by decide⟩
theorem w1 : chkR wB wL = 0 := by decide
theorem w2 : chF wB wL 0 = [pg 65, pg 67, pg 68] := by decide
theorem w3 : allF wB wL 3 = [pg 67, pg 66] := by decide
theorem w4 : chkR wB (wL.drop 1) = 6 := by decide
theorem w5 : chkR wB (wL.take 1) = 0 := by decide
theorem w6 : chL wB (wL.take 1) = [[pg 65, pg 67], [pg 66]] := by decide
theorem w7 : chkR wB wM = 0 := by decide
theorem w8 : choR wB wL 0 = .tup [bsD [pg 65, pg 67, pg 68], .int .i64 0] := by
  unfold choR
  rw [if_pos w1, if_neg (by decide)]
  show D.tup [bsD (chF wB wL 0), _] = _
  rw [w2]
theorem w9 : conR wB wL (allF wB wL wL.length) = .tup [bsD [pg 67, pg 66], .int .i64 0] := by
  unfold conR
  rw [if_pos w1]
  show D.tup [bsD (allF wB wL 3), _] = _
  rw [w3]
theorem w10 : imR wB (wL.take 1) = .tup [.vs 1 [bsD [pg 65, pg 66], bsD [pg 67, pg 66]] 2, .int .i64 0] := by
  unfold imR
  rw [if_pos w5, w6, if_neg]
  · rfl
  · rintro ⟨i, hi, h⟩
    have : i = 0 ∨ i = 1 := by simp at hi; omega
    rcases this with rfl | rfl <;> simp [preP] at h
theorem w11 : ordR wB wM 1 2 = .tup [.bool true, .int .i64 0] := by
  unfold ordR
  rw [if_pos w7, if_neg (by decide)]
  have : (0 ≤ comF wM wM.length 1 ∧ sepF wM (comF wM wM.length 1) (subF wM wM.length 2) = true) := ⟨by decide, decide_eq_true ⟨2, by decide, by decide, by decide, by decide⟩⟩
  rw [decide_eq_true this]
theorem pg_len (c : Int) : (pg c).length = 32 := List.length_replicate
theorem pg_by {a : Int} (h : 0 ≤ a ∧ a ≤ 255) : byB (pg a) := fun x hx => by rw [List.eq_of_mem_replicate hx]; exact h
theorem page_v (a : Int) : PCon Try.prog 38 [.int .u8 a] (bD (pg a)) := by
  have := pcon_unow (page_c a)
  rw [bD, pg_len]
  exact this
theorem Rd_slO {h : Heap} {k sz off len : Nat} {c c' : List D} (hk : h k = some c) (hr : All2 (Rd h) c c') (hl : off + len * sz ≤ c'.length) : Rd h (.sl k sz off len) (.vs sz ((c'.drop off).take (len * sz)) len) := by
  intro s v H hv
  obtain ⟨_, ad, cap, rfl, hna, hlc, hq⟩ := hv.inv_sl
  obtain ⟨_, x, hx, hxn, _⟩ := H.own k c hk
  obtain ⟨hcc, hcap⟩ := hq x _ hx
  have hlen := hr.1
  rcases hcap with h0 | ⟨b, cs, e, rfl, rfl, hb, hs⟩
  · obtain rfl : len = 0 := by omega
    simpa using RP.vs0 ad cap sz
  · obtain ⟨hbl, cs2, e2, hh, hl2, hat, hall⟩ := own_cellsR H hk hr hx
    have hall2 := All2.slice hall off (len * sz)
    refine .vs b off cap sz len _ (((cs2.toList.take c'.length).drop off).take (len * sz)) (by simp; omega) hlc hbl hall2.1 ?_ ?_ ?_
    · intro v hv'
      have h1 := List.mem_of_mem_drop (List.mem_of_mem_take hv')
      obtain ⟨i, hi⟩ := List.mem_iff_getElem?.1 h1
      have hlt : i < c'.length := by
        rcases Nat.lt_or_ge i (cs2.toList.take c'.length).length with h' | h'
        · rw [hall.1] at h'; exact h'
        · simp [List.getElem?_eq_none h'] at hi
      exact (hall.2 i v _ hi (List.getElem?_eq_getElem hlt)).2
    · have := hat.sub off (len * sz)
      rw [Nat.zero_add] at this
      exact this
    · intro i v d hv' hd
      exact (hall2.2 i v d hv' hd).1
attribute [irreducible] pg
abbrev wc : List D := [.int .i64 1, .int .i64 1, .int .i64 0, bD (pg 67), .int .i64 2, .int .i64 1, .int .i64 0, .nil, .int .i64 1, .int .i64 2, .int .i64 0, bD (pg 68)]
theorem wc_rd {h : Heap} : All2 (Rd h) wc (wL.flatMap Ev.cells) := by
  show All2 (Rd h) wc [.int .i64 1, .int .i64 1, .int .i64 0, bD (pg 67), .int .i64 2, .int .i64 1, .int .i64 0, bD [], .int .i64 1, .int .i64 2, .int .i64 0, bD (pg 68)]
  repeat (first | exact All2.nil | (apply All2.cons; (· first | exact Rd_int | exact Rd_vs | exact Rd_nil)))
theorem wBc_rd {h : Heap} : All2 (Rd h) [bD (pg 65), bD (pg 66)] (wB.map bD) := All2.cons Rd_vs (All2.cons Rd_vs All2.nil)
abbrev wMc : List D := [.int .i64 1, .int .i64 1, .int .i64 0, bD (pg 67), .int .i64 2, .int .i64 1, .int .i64 0, .nil, .int .i64 3, .int .i64 0, .int .i64 0, .nil, .int .i64 1, .int .i64 2, .int .i64 0, bD (pg 68)]
theorem wMc_rd {h : Heap} : All2 (Rd h) wMc (wM.flatMap Ev.cells) := by
  show All2 (Rd h) wMc [.int .i64 1, .int .i64 1, .int .i64 0, bD (pg 67), .int .i64 2, .int .i64 1, .int .i64 0, bD [], .int .i64 3, .int .i64 0, .int .i64 0, bD [], .int .i64 1, .int .i64 2, .int .i64 0, bD (pg 68)]
  repeat (first | exact All2.nil | (apply All2.cons; (· first | exact Rd_int | exact Rd_vs | exact Rd_nil)))
abbrev awM : List AIns := [⟨(some 51), (.buildS 4 [(.int .i64 0), (.int .i64 0), (.int .i64 0), .nil] 4 [(0, (4, (.tmp 43))), (4, (4, (.tmp 46))), (8, (4, (.tmp 47))), (12, (4, (.tmp 50)))]), none⟩]
abbrev awC : AIns := ⟨(some 52), (.call (.fnc 21) [(.tmp 40), (.tmp 51), (.cst (.int .i64 1)), (.cst (.int .i64 2))]), none⟩
abbrev awS : List AIns := [⟨(some 39), (.mv (.tmp 52)), none⟩, ⟨(some 53), (.extract 0 (.tmp 39)), none⟩, ⟨(some 54), (.extract 1 (.tmp 39)), none⟩, ⟨(some 9), (.mv (.tmp 53)), none⟩, ⟨(some 10), (.mv (.tmp 54)), none⟩]
theorem awake_c : PCon Try.prog 15 [] (.bool true) := by
  refine A15p (by simp [A15]) ?_
  simp only [A15, argEnv]
  have p1 := page_v 65
  have p2 := page_v 66
  have p3 := page_v 67
  have p4 := page_v 68
  repeat' (first | (with_reducible first | refine W_seq ?_ | refine then_n ?_ | refine W_skip ?_ | refine W_ret ?_ | refine then_r ?_) | ((with_reducible refine s_reg ?_); intro K hK) | ((with_reducible refine k_nil ?_); (with_reducible apply s_nil hK); (· exact nmX); clear hK; clear K) | ((with_reducible refine k_mv ?_); (refine s_mv rfl ?_)) | ((with_reducible refine k_build ?_); ((with_reducible apply s_build); (· rfl); (· rfl))) | ((with_reducible refine k_buildS (dst := some 13) ?_); ((with_reducible apply s_buildS); (· rfl); (· (exact ⟨rfl, by decide⟩)); (· (first | (simp only [fillB, rep, splice, List.reduceReplicate, List.flatten_cons, List.flatten_nil, List.cons_append, List.nil_append, List.append_nil, List.length_cons, List.length_nil, Nat.reduceAdd, Nat.reduceMul, Nat.reduceLeDiff, Nat.reduceEqDiff, eq_self, Nat.le_refl, Nat.zero_add, and_self, and_true, true_and, if_true, List.take_zero, List.take_succ_cons, List.drop_zero, List.drop_succ_cons, List.drop_nil, List.take_nil]; rfl) | rfl)); intro k13 hk13; (try simp only [upd_none] at hk13))) | ((with_reducible refine k_buildS (dst := some 19) ?_); ((with_reducible apply s_buildS); (· rfl); (· (exact ⟨rfl, by decide⟩)); (· (first | (simp only [fillB, rep, splice, List.reduceReplicate, List.flatten_cons, List.flatten_nil, List.cons_append, List.nil_append, List.append_nil, List.length_cons, List.length_nil, Nat.reduceAdd, Nat.reduceMul, Nat.reduceLeDiff, Nat.reduceEqDiff, eq_self, Nat.le_refl, Nat.zero_add, and_self, and_true, true_and, if_true, List.take_zero, List.take_succ_cons, List.drop_zero, List.drop_succ_cons, List.drop_nil, List.take_nil]; rfl) | rfl)); intro k19 hk19; (try simp only [upd_none] at hk19))) | ((with_reducible refine k_callF ?_); (first | ((with_reducible apply s_call1); (· rfl)) | ((with_reducible apply s_calln); (· rfl)))) | ((with_reducible refine k_con ?_); (first | ((with_reducible apply con_val (p1)); (· (exact agX)); (· rfl); (· exact fun _ => rfl)) | ((with_reducible apply con_val (p2)); (· (exact agX)); (· rfl); (· exact fun _ => rfl)) | ((with_reducible apply con_val (p3)); (· (exact agX)); (· rfl); (· exact fun _ => rfl)) | ((with_reducible apply con_val (p4)); (· (exact agX)); (· rfl); (· exact fun _ => rfl)))))
  all_goals first | (exfalso; omega) | skip
  have e13 : upd (upd (fun _ => none) k13 [bD (pg 65), bD (pg 66)]) k19 wc k13 = some [bD (pg 65), bD (pg 66)] := by rw [upd_ne (Ne.symm hk19.1)]; exact upd_self
  have e19 : upd (upd (fun _ => none) k13 [bD (pg 65), bD (pg 66)]) k19 wc k19 = some wc := upd_self
  show Con _ _ _ (upd (upd (fun _ => none) k13 [bD (pg 65), bD (pg 66)]) k19 wc) _
  generalize (upd (upd (fun _ => none) k13 [bD (pg 65), bD (pg 66)]) k19 wc : Heap) = h0 at *
  have rB : Rd h0 (.sl k13 1 0 2) (bsD wB) := Rd_slR e13 wBc_rd rfl
  have rL : Rd h0 (.sl k19 4 0 3) (evD wL) := Rd_slR e19 wc_rd rfl
  have rL1 : Rd h0 (.sl k19 4 0 1) (evD (wL.take 1)) := Rd_slO (off := 0) (len := 1) e19 wc_rd (by decide)
  have rL2 : Rd h0 (.sl k19 4 4 2) (evD (wL.drop 1)) := Rd_slO (off := 4) (len := 2) e19 wc_rd (by decide)
  have c1 := dchoices_c (wB_ok (l := wL) (.inl rfl)) 0
  have c2 := dlatest_c wB wL (by decide) (by decide) (wB_ok (l := wL) (.inl rfl)).id
  have c3 := dimages_c (wB_ok (l := wL.take 1) (.inr (.inl rfl)))
  have c4 := dordered_c wB wM (by decide) (by decide) (wB_ok (l := wM) (.inr (.inr (.inr rfl)))).id 1 2
  have c5 := dcheck_c wB (wL.drop 1) (by decide) (by decide) (wB_ok (l := wL.drop 1) (.inr (.inr (.inl rfl)))).id
  rw [show choR wB wL 0 = .tup [bsD [pg 65, pg 67, pg 68], .int .i64 0] from w8] at c1
  rw [show conR wB wL (allF wB wL wL.length) = .tup [bsD [pg 67, pg 66], .int .i64 0] from w9] at c2
  rw [w10] at c3
  rw [w11] at c4
  rw [w4] at c5
  repeat' (first | (with_reducible first | refine W_seq ?_ | refine then_n ?_ | refine W_skip ?_ | refine W_ret ?_ | refine then_r ?_) | ((with_reducible refine s_reg ?_); intro K hK) | ((with_reducible refine k_nil ?_); (with_reducible apply s_nil hK); (· exact nmX); clear hK; clear K) | ((with_reducible refine k_mv ?_); (refine s_mv rfl ?_)) | ((with_reducible refine k_extract ?_); (refine s_extract rfl rfl ?_)) | ((with_reducible refine k_slice ?_); (first | ((with_reducible apply s_sliceV); (· rfl); (· (first | exact b_none | (apply b_some; (· rfl); (· omega); (· (first | exact nuI | exact nuN))))); (· (first | exact b_none | (apply b_some; (· rfl); (· omega); (· (first | exact nuI | exact nuN))))); (· (first | omega | exact ⟨rfl, by omega⟩ | skip))) | ((with_reducible apply s_sliceO); (· rfl); (· (first | exact b_none | (apply b_some; (· rfl); (· omega); (· (first | exact nuI | exact nuN))))); (· (first | exact b_none | (apply b_some; (· rfl); (· omega); (· (first | exact nuI | exact nuN))))); (· (first | omega | exact ⟨rfl, by omega⟩ | skip))) | ((with_reducible apply s_sliceN); (· rfl); (· (first | exact b_none | (apply b_some; (· rfl); (· omega); (· (first | exact nuI | exact nuN))))); (· (first | exact b_none | (apply b_some; (· rfl); (· omega); (· (first | exact nuI | exact nuN))))); (· (first | omega | exact ⟨rfl, by omega⟩ | skip))))) | ((with_reducible refine k_callF ?_); (first | ((with_reducible apply s_call1); (· rfl)) | ((with_reducible apply s_calln); (· rfl)))) | ((with_reducible refine k_con ?_); (first | ((with_reducible apply con_val (p1)); (· (repeat (first | exact All2.nil | (apply All2.cons; (· first | exact rB | exact rL | exact rL1 | exact rL2 | exact rdX))))); (· rfl); (· exact fun _ => rfl)) | ((with_reducible apply con_val (p2)); (· (repeat (first | exact All2.nil | (apply All2.cons; (· first | exact rB | exact rL | exact rL1 | exact rL2 | exact rdX))))); (· rfl); (· exact fun _ => rfl)) | ((with_reducible apply con_val (p3)); (· (repeat (first | exact All2.nil | (apply All2.cons; (· first | exact rB | exact rL | exact rL1 | exact rL2 | exact rdX))))); (· rfl); (· exact fun _ => rfl)) | ((with_reducible apply con_val (p4)); (· (repeat (first | exact All2.nil | (apply All2.cons; (· first | exact rB | exact rL | exact rL1 | exact rL2 | exact rdX))))); (· rfl); (· exact fun _ => rfl)) | ((with_reducible apply con_val (c1)); (· (repeat (first | exact All2.nil | (apply All2.cons; (· first | exact rB | exact rL | exact rL1 | exact rL2 | exact rdX))))); (· rfl); (· exact fun _ => rfl)) | ((with_reducible apply con_val (c2)); (· (repeat (first | exact All2.nil | (apply All2.cons; (· first | exact rB | exact rL | exact rL1 | exact rL2 | exact rdX))))); (· rfl); (· exact fun _ => rfl)) | ((with_reducible apply con_val (c3)); (· (repeat (first | exact All2.nil | (apply All2.cons; (· first | exact rB | exact rL | exact rL1 | exact rL2 | exact rdX))))); (· rfl); (· exact fun _ => rfl)) | ((with_reducible apply con_val (c4)); (· (repeat (first | exact All2.nil | (apply All2.cons; (· first | exact rB | exact rL | exact rL1 | exact rL2 | exact rdX))))); (· rfl); (· exact fun _ => rfl)) | ((with_reducible apply con_val (c5)); (· (repeat (first | exact All2.nil | (apply All2.cons; (· first | exact rB | exact rL | exact rL1 | exact rL2 | exact rdX))))); (· rfl); (· exact fun _ => rfl)))) | ((first | (with_reducible apply q_eqI) | (with_reducible apply q_eqN)); (first | exact nuI | exact nuN)))
  all_goals first | (exfalso; omega) | skip
  with_reducible refine k_dreg ?_
  refine W_dregMC (pre := A15d7a) (mid := awM) (c := awC) (suf := awS) (rc := .tup [.bool true, .int .i64 0]) rfl rfl rfl rfl rfl rfl rfl rfl (fun _ => rfl) ?_
  intro K hK
  repeat' (first | ((with_reducible refine k_mv ?_); (refine s_mv rfl ?_)) | ((with_reducible refine k_iaddr ?_); (first | ((with_reducible apply s_iaddrV); (· rfl); (· rfl); (· (first | omega | exact ⟨rfl, by omega⟩ | skip))) | ((with_reducible apply s_iaddrO); (· rfl); (· rfl); (· (first | omega | exact ⟨rfl, by omega⟩ | skip)); (· (exact hpX))) | ((with_reducible apply s_iaddrSO); (· rfl); (· assumption); (· rfl); (· (first | omega | exact ⟨rfl, by omega⟩ | skip)); (· (first | (simp (disch := omega) only [w64, wu8, wu16, wu32, wu64, tm_nn, td_nn, fd_nn, Int.reduceAdd, Int.reduceSub, Int.reduceMul, Int.reduceDiv, Int.reduceMod, Int.reduceNeg, Int.reduceToNat, Int.toNat_natCast, Int.toNat_zero, Int.zero_add, Int.add_zero, Int.one_mul, Int.reducePow, Nat.mul_one, Nat.zero_add, Nat.add_zero, Nat.zero_mul, Nat.reduceAdd, Nat.reduceMul, Nat.reduceSub, Nat.min_eq_left, IntKind.bits, Nat.sub_zero, e19]; try rfl; done) | rfl)); intro ks hks))) | ((with_reducible refine k_loadA ?_); (first | ((with_reducible apply s_loadAV); (· rfl); (· (first | exact Nat.le_of_ble_eq_true rfl | decide | omega | (simp; done) | (simp; omega) | skip))) | ((with_reducible apply s_loadAP); (· rfl); (· (exact hpX)); (· (first | exact Nat.le_of_ble_eq_true rfl | decide | omega | (simp; done) | (simp; omega) | skip))))) | ((with_reducible refine k_build ?_); ((with_reducible apply s_build); (· rfl); (· rfl))) | ((with_reducible refine k_buildS (dst := some 51) ?_); ((with_reducible apply s_buildS); (· rfl); (· (exact ⟨rfl, by decide⟩)); (· (first | (simp only [fillB, rep, splice, List.reduceReplicate, List.flatten_cons, List.flatten_nil, List.cons_append, List.nil_append, List.append_nil, List.length_cons, List.length_nil, Nat.reduceAdd, Nat.reduceMul, Nat.reduceLeDiff, Nat.reduceEqDiff, eq_self, Nat.le_refl, Nat.zero_add, and_self, and_true, true_and, if_true, List.take_zero, List.take_succ_cons, List.drop_zero, List.drop_succ_cons, List.drop_nil, List.take_nil]; rfl) | rfl)); intro k51 hk51; (try simp only [upd_none] at hk51))) | (with_reducible refine d_nilS ?_) | ((with_reducible refine k_dop ?_); refine d_step (by first | exact Or.inl rfl | exact Or.inr rfl) ?_) | (with_reducible refine d_back ?_) | ((first | (with_reducible apply q_eqI) | (with_reducible apply q_eqN)); (first | (simp (disch := omega) only [w64, wu8, wu16, wu32, wu64, tm_nn, td_nn, fd_nn, Int.reduceAdd, Int.reduceSub, Int.reduceMul, Int.reduceDiv, Int.reduceMod, Int.reduceNeg, Int.reduceToNat, Int.toNat_natCast, Int.toNat_zero, Int.zero_add, Int.add_zero, Int.one_mul, Int.reducePow, Nat.mul_one, Nat.zero_add, Nat.add_zero, Nat.zero_mul, Nat.reduceAdd, Nat.reduceMul, Nat.reduceSub, Nat.min_eq_left, IntKind.bits, Nat.sub_zero, e19]; try rfl; done) | rfl)) | ((first | (with_reducible apply q_eqL) | (with_reducible apply q_eqO)); (first | (simp (disch := omega) only [upd_self, upd_ne, upd_upd, rep, splice, List.take_succ_cons, List.take_zero, List.drop_succ_cons, List.drop_zero, List.cons_append, List.nil_append, List.append_nil, List.length_cons, List.length_nil, List.reduceReplicate, List.flatten_cons, List.flatten_nil, Nat.reduceAdd, Nat.reduceMul, Nat.reduceSub, Nat.zero_add, Nat.add_zero, List.getElem?_cons_zero, List.getElem?_cons_succ, e19]; try rfl; done) | rfl)))
  have f13 := upd_sub (x := wMc) hk51 _ _ e13
  have f19 := upd_sub (x := wMc) hk51 _ _ e19
  have rM : Rd (upd h0 k51 wMc) (.sl k51 4 0 4) (evD wM) := Rd_slR upd_self wMc_rd rfl
  have rB2 : Rd (upd h0 k51 wMc) (.sl k13 1 0 2) (bsD wB) := Rd_slR f13 wBc_rd rfl
  show PC Try.prog (upd h0 k51 wMc) ([] ++ [.sl k13 1 0 2, .sl k51 4 0 4, .int .i64 1, .int .i64 2] ++ []) _ _ ∧ Wops Try.prog awS _ (upd h0 k51 wMc) K
  refine ⟨.inl ⟨_, All2.cons rB2 (All2.cons rM (All2.cons Rd_int (All2.cons Rd_int All2.nil))), c4⟩, ?_⟩
  clear rM rB rL rL1 rL2 e13 e19
  generalize (upd h0 k51 wMc : Heap) = h1 at *
  have rL2 : Rd h1 (.sl k19 4 4 2) (evD (wL.drop 1)) := Rd_slO (off := 4) (len := 2) f19 wc_rd (by decide)
  have y1 : ∀ c ∈ [pg 65, pg 67, pg 68], byB c := by
    intro c hc; simp only [List.mem_cons, List.not_mem_nil, or_false] at hc; rcases hc with rfl | rfl | rfl <;> exact pg_by (by decide)
  have y2 : ∀ c ∈ [pg 67, pg 66], byB c := by
    intro c hc; simp only [List.mem_cons, List.not_mem_nil, or_false] at hc; rcases hc with rfl | rfl <;> exact pg_by (by decide)
  have s1 := rsame_c [pg 65, pg 67, pg 68] [pg 65, pg 67, pg 68] (by decide) (by decide) y1 y1
  have s2 := rsame_c [pg 67, pg 66] [pg 67, pg 66] (by decide) (by decide) y2 y2
  rw [decide_eq_true rfl] at s1 s2
  show Wops Try.prog awS ((_, D.tup [D.bool true, D.int IntKind.i64 0]) :: _) h1 K
  clear c1 c2 c3 c4
  repeat' (first | (with_reducible first | refine W_seq ?_ | refine then_n ?_ | refine W_skip ?_ | refine W_ret ?_ | refine then_r ?_) | ((with_reducible refine s_reg ?_); intro K hK) | ((with_reducible refine k_nil ?_); (with_reducible apply s_nil hK); (· exact nmX); clear hK; clear K) | ((with_reducible refine k_guard ?_); (first | (refine s_gt rfl ?_) | (refine s_gf1 rfl ?_) | (refine s_gfn rfl ?_) | (refine s_gx1 rfl ?_) | (refine s_gxn rfl ?_) | (refine s_gs rfl ?_))) | ((with_reducible refine k_mv ?_); (refine s_mv rfl ?_)) | ((with_reducible refine k_extract ?_); (refine s_extract rfl rfl ?_)) | ((with_reducible refine k_len ?_); (first | (refine s_len rfl rfl ?_) | ((with_reducible apply s_len); (· rfl); (· exact SlOwn.len (by assumption))) | ((with_reducible apply s_len); (· rfl); (· assumption)))) | ((with_reducible refine k_pick ?_); (first | (refine s_pickT rfl rfl ?_) | (refine s_pickF rfl rfl ?_))) | ((with_reducible refine k_eql ?_); (first | (refine s_eql rfl rfl ?_) | (refine s_strEq rfl rfl ?_))) | ((with_reducible refine k_slice ?_); (first | ((with_reducible apply s_sliceV); (· rfl); (· (first | exact b_none | (apply b_some; (· rfl); (· omega); (· (first | exact nuI | exact nuN))))); (· (first | exact b_none | (apply b_some; (· rfl); (· omega); (· (first | exact nuI | exact nuN))))); (· (first | omega | exact ⟨rfl, by omega⟩ | skip))) | ((with_reducible apply s_sliceO); (· rfl); (· (first | exact b_none | (apply b_some; (· rfl); (· omega); (· (first | exact nuI | exact nuN))))); (· (first | exact b_none | (apply b_some; (· rfl); (· omega); (· (first | exact nuI | exact nuN))))); (· (first | omega | exact ⟨rfl, by omega⟩ | skip))) | ((with_reducible apply s_sliceN); (· rfl); (· (first | exact b_none | (apply b_some; (· rfl); (· omega); (· (first | exact nuI | exact nuN))))); (· (first | exact b_none | (apply b_some; (· rfl); (· omega); (· (first | exact nuI | exact nuN))))); (· (first | omega | exact ⟨rfl, by omega⟩ | skip))))) | ((with_reducible refine k_buildS (dst := some 82) ?_); ((with_reducible apply s_buildS); (· rfl); (· (exact ⟨rfl, by decide⟩)); (· (first | (simp only [fillB, rep, splice, List.reduceReplicate, List.flatten_cons, List.flatten_nil, List.cons_append, List.nil_append, List.append_nil, List.length_cons, List.length_nil, Nat.reduceAdd, Nat.reduceMul, Nat.reduceLeDiff, Nat.reduceEqDiff, eq_self, Nat.le_refl, Nat.zero_add, and_self, and_true, true_and, if_true, List.take_zero, List.take_succ_cons, List.drop_zero, List.drop_succ_cons, List.drop_nil, List.take_nil]; rfl) | rfl)); intro k82 hk82; (try simp only [upd_none] at hk82))) | ((with_reducible refine k_buildS (dst := some 89) ?_); ((with_reducible apply s_buildS); (· rfl); (· (exact ⟨rfl, by decide⟩)); (· (first | (simp only [fillB, rep, splice, List.reduceReplicate, List.flatten_cons, List.flatten_nil, List.cons_append, List.nil_append, List.append_nil, List.length_cons, List.length_nil, Nat.reduceAdd, Nat.reduceMul, Nat.reduceLeDiff, Nat.reduceEqDiff, eq_self, Nat.le_refl, Nat.zero_add, and_self, and_true, true_and, if_true, List.take_zero, List.take_succ_cons, List.drop_zero, List.drop_succ_cons, List.drop_nil, List.take_nil]; rfl) | rfl)); intro k89 hk89; (try simp only [upd_none] at hk89))) | ((with_reducible refine k_callF ?_); (first | ((with_reducible apply s_call1); (· rfl)) | ((with_reducible apply s_calln); (· rfl)))) | ((with_reducible refine k_con ?_); (first | ((with_reducible apply con_val (p1)); (· (repeat (first | exact All2.nil | (apply All2.cons; (· first | exact rB2 | exact rL2 | exact (Rd_slR upd_self (All2.cons Rd_vs (All2.cons Rd_vs (All2.cons Rd_vs All2.nil))) rfl) | exact (Rd_slR upd_self (All2.cons Rd_vs (All2.cons Rd_vs All2.nil)) rfl) | exact (Rd_slR (upd_sub (by assumption) _ _ f13) wBc_rd rfl) | exact rdX))))); (· rfl); (· exact fun _ => rfl)) | ((with_reducible apply con_val (p2)); (· (repeat (first | exact All2.nil | (apply All2.cons; (· first | exact rB2 | exact rL2 | exact (Rd_slR upd_self (All2.cons Rd_vs (All2.cons Rd_vs (All2.cons Rd_vs All2.nil))) rfl) | exact (Rd_slR upd_self (All2.cons Rd_vs (All2.cons Rd_vs All2.nil)) rfl) | exact (Rd_slR (upd_sub (by assumption) _ _ f13) wBc_rd rfl) | exact rdX))))); (· rfl); (· exact fun _ => rfl)) | ((with_reducible apply con_val (p3)); (· (repeat (first | exact All2.nil | (apply All2.cons; (· first | exact rB2 | exact rL2 | exact (Rd_slR upd_self (All2.cons Rd_vs (All2.cons Rd_vs (All2.cons Rd_vs All2.nil))) rfl) | exact (Rd_slR upd_self (All2.cons Rd_vs (All2.cons Rd_vs All2.nil)) rfl) | exact (Rd_slR (upd_sub (by assumption) _ _ f13) wBc_rd rfl) | exact rdX))))); (· rfl); (· exact fun _ => rfl)) | ((with_reducible apply con_val (p4)); (· (repeat (first | exact All2.nil | (apply All2.cons; (· first | exact rB2 | exact rL2 | exact (Rd_slR upd_self (All2.cons Rd_vs (All2.cons Rd_vs (All2.cons Rd_vs All2.nil))) rfl) | exact (Rd_slR upd_self (All2.cons Rd_vs (All2.cons Rd_vs All2.nil)) rfl) | exact (Rd_slR (upd_sub (by assumption) _ _ f13) wBc_rd rfl) | exact rdX))))); (· rfl); (· exact fun _ => rfl)) | ((with_reducible apply con_val (s1)); (· (repeat (first | exact All2.nil | (apply All2.cons; (· first | exact rB2 | exact rL2 | exact (Rd_slR upd_self (All2.cons Rd_vs (All2.cons Rd_vs (All2.cons Rd_vs All2.nil))) rfl) | exact (Rd_slR upd_self (All2.cons Rd_vs (All2.cons Rd_vs All2.nil)) rfl) | exact (Rd_slR (upd_sub (by assumption) _ _ f13) wBc_rd rfl) | exact rdX))))); (· rfl); (· exact fun _ => rfl)) | ((with_reducible apply con_val (s2)); (· (repeat (first | exact All2.nil | (apply All2.cons; (· first | exact rB2 | exact rL2 | exact (Rd_slR upd_self (All2.cons Rd_vs (All2.cons Rd_vs (All2.cons Rd_vs All2.nil))) rfl) | exact (Rd_slR upd_self (All2.cons Rd_vs (All2.cons Rd_vs All2.nil)) rfl) | exact (Rd_slR (upd_sub (by assumption) _ _ f13) wBc_rd rfl) | exact rdX))))); (· rfl); (· exact fun _ => rfl)) | ((with_reducible apply con_val (c5)); (· (repeat (first | exact All2.nil | (apply All2.cons; (· first | exact rB2 | exact rL2 | exact (Rd_slR upd_self (All2.cons Rd_vs (All2.cons Rd_vs (All2.cons Rd_vs All2.nil))) rfl) | exact (Rd_slR upd_self (All2.cons Rd_vs (All2.cons Rd_vs All2.nil)) rfl) | exact (Rd_slR (upd_sub (by assumption) _ _ f13) wBc_rd rfl) | exact rdX))))); (· rfl); (· exact fun _ => rfl)))) | ((with_reducible refine k_br ?_); (first | (with_reducible first | refine Br_dec ?_ | refine Br_not ?_ | refine Br_eqF ?_ | refine Br_and ?_ | refine Br_or ?_ | refine Br_neg ?_ | refine Br_band ?_ | refine Br_bor ?_ | refine Br_beq ?_) | (refine Br_t (by first | with_reducible rfl | omega | assumption | rfl) ?_) | (refine Br_f (by first | omega | assumption | decide) ?_) | (with_reducible apply Br_sb <;> intro hbr <;> (first | subst hbr | simp only [hbr] | skip)) | (with_reducible apply Br_s <;> intro hbr))) | ((first | (with_reducible apply q_eqI) | (with_reducible apply q_eqN)); (first | exact nuI | exact nuN)))
  have z : ∀ j c, h1 j = some c → upd (upd h1 k82 [bD (pg 65), bD (pg 67), bD (pg 68)]) k89 [bD (pg 67), bD (pg 66)] j = some c := fun j c hj => upd_sub (by rw [upd_ne hk89.1]; exact hk89.2) j c (upd_sub hk82 j c hj)
  have rB3 := Rd_slR (sz := 1) (len := 2) (z _ _ f13) wBc_rd rfl
  have rL3 : Rd (upd (upd h1 k82 [bD (pg 65), bD (pg 67), bD (pg 68)]) k89 [bD (pg 67), bD (pg 66)]) (.sl k19 4 4 2) (evD (wL.drop 1)) := Rd_slO (off := 4) (len := 2) (z _ _ f19) wc_rd (by decide)
  repeat' (first | (with_reducible first | refine W_seq ?_ | refine then_n ?_ | refine W_skip ?_ | refine W_ret ?_ | refine then_r ?_) | ((with_reducible refine k_nil ?_); (with_reducible apply s_nil hK); (· exact nmX); clear hK; clear K) | ((with_reducible refine k_guard ?_); (first | (refine s_gt rfl ?_) | (refine s_gf1 rfl ?_) | (refine s_gfn rfl ?_) | (refine s_gx1 rfl ?_) | (refine s_gxn rfl ?_) | (refine s_gs rfl ?_))) | ((with_reducible refine k_mv ?_); (refine s_mv rfl ?_)) | ((with_reducible refine k_pick ?_); (first | (refine s_pickT rfl rfl ?_) | (refine s_pickF rfl rfl ?_))) | ((with_reducible refine k_eql ?_); (first | (refine s_eql rfl rfl ?_) | (refine s_strEq rfl rfl ?_))) | ((with_reducible refine k_con ?_); (first | ((with_reducible apply con_val (c5)); (· (repeat (first | exact All2.nil | (apply All2.cons; (· first | exact rB3 | exact rL3 | exact rdX))))); (· rfl); (· exact fun _ => rfl)))) | ((with_reducible refine k_br ?_); (first | (with_reducible first | refine Br_dec ?_ | refine Br_not ?_ | refine Br_eqF ?_ | refine Br_and ?_ | refine Br_or ?_ | refine Br_neg ?_ | refine Br_band ?_ | refine Br_bor ?_ | refine Br_beq ?_) | (refine Br_t (by first | with_reducible rfl | omega | assumption | rfl) ?_) | (refine Br_f (by first | omega | assumption | decide) ?_) | (with_reducible apply Br_sb <;> intro hbr <;> (first | subst hbr | simp only [hbr] | skip)) | (with_reducible apply Br_s <;> intro hbr))))
  all_goals first | exact Fin_flat trivial rfl rfl | (refine Fin_tup trivial rfl ?_ (Nat.le_of_ble_eq_true rfl); (repeat (first | exact All2.nil | (apply All2.cons; (· first | exact exc_n | exact exc_e | exact exc_v rfl rfl | exact exc_o upd_self rfl rfl)))); done) | (refine Fin_own trivial rfl upd_self ?_ (Nat.le_of_ble_eq_true rfl); (repeat (first | exact All2.nil | (apply All2.cons; (· first | exact exc_n | exact exc_e | exact exc_v rfl rfl | exact exc_o upd_self rfl rfl)))); done) | exact Fin_nil trivial rfl | exact Fin_sl trivial rfl upd_self rfl rfl
end Go.Proofs.Ythblalidmmbcoaa
end
section
/- The laws: arguments. -/
set_option linter.unusedSimpArgs false
set_option linter.unusedVariables false
namespace Go.Proofs.Ythblalidmmbcoaa
open Go.AM Classical
set_option maxRecDepth 100000
set_option maxHeartbeats 4000000
theorem maxLen_le {n : Nat} (h : n ≤ maxLen) : n ≤ 9223372036854775807 := by
  unfold maxLen at h; omega
theorem typed_by {n : Nat} {d : List D} (h : Typed Try.prog (n + 2) 36 d) : ∃ c : Bs, d = [bD c] ∧ byB c := by
  obtain ⟨ps, rfl, h1, h2⟩ := typed_slice' Try.underlying36 h
  obtain ⟨l, rfl, h3⟩ := all_map (f := fun x => [D.int .u8 x]) (q := fun x => (Lit.int .u8 x).wf = true) (fun p hp => typed_int' Try.underlying5 (h2 p hp))
  refine ⟨l, ?_, fun x hx => wf_u8 (h3 x hx)⟩
  rw [flat_one, List.length_map, show Try.prog.cellsOf 5 = 1 by kernel_rfl]
theorem typed_bs {n : Nat} {d : List D} (h : Typed Try.prog (n + 3) 22 d) : ∃ B : List Bs, d = [bsD B] ∧ B.length ≤ maxLen ∧ ∀ b ∈ B, byB b := by
  obtain ⟨ps, rfl, h1, h2⟩ := typed_slice' Try.underlying22 h
  obtain ⟨B, rfl, h3⟩ := all_map (f := fun c => [bD c]) (q := byB) (fun p hp => typed_by (h2 p hp))
  refine ⟨B, ?_, by simpa using h1, h3⟩
  rw [flat_one, List.length_map, show Try.prog.cellsOf 36 = 1 by kernel_rfl]
def EvIn (x : Ev) : Prop := (-9223372036854775808 ≤ x.id ∧ x.id ≤ 9223372036854775807) ∧ byB x.data
theorem typed_ev {n : Nat} {d : List D} (h : Typed Try.prog (n + 4) 38 d) : ∃ x : Ev, d = x.cells ∧ EvIn x := by
  obtain ⟨ps, rfl, h1⟩ := typed_struct' Try.underlying38 h
  match ps, h1.1 with
  | [a, b, c, e], _ =>
    obtain ⟨x, rfl, hx⟩ := typed_int' Try.underlying3 (h1.2 0 _ a rfl rfl)
    obtain ⟨y, rfl, hy⟩ := typed_int' Try.underlying3 (h1.2 1 _ b rfl rfl)
    obtain ⟨z, rfl, hz⟩ := typed_int' Try.underlying3 (h1.2 2 _ c rfl rfl)
    obtain ⟨w, rfl, hw⟩ := typed_by (h1.2 3 _ e rfl rfl)
    exact ⟨⟨x, y, z, w⟩, rfl, wf_i64 hy, hw⟩
theorem typed_evs {n : Nat} {d : List D} (h : Typed Try.prog (n + 5) 23 d) : ∃ l : List Ev, d = [evD l] ∧ l.length ≤ maxLen ∧ ∀ x ∈ l, EvIn x := by
  obtain ⟨ps, rfl, h1, h2⟩ := typed_slice' Try.underlying23 h
  obtain ⟨l, rfl, h3⟩ := all_map (f := Ev.cells) (q := EvIn) (fun p hp => typed_ev (h2 p hp))
  refine ⟨l, ?_, by simpa using h1, h3⟩
  rw [List.length_map, ← List.flatMap_def, show Try.prog.cellsOf 38 = 4 by kernel_rfl]
theorem typed_hist {d : D} (h : TypedA Try.prog 25 d) : ∃ (B : List Bs) (l : List Ev), d = .agg [bsD B, evD l] ∧ B.length ≤ 9223372036854775807 ∧ l.length ≤ 9223372036854775807 ∧ (∀ b ∈ B, byB b) ∧ ∀ x ∈ l, EvIn x := by
  obtain ⟨ds, rfl, hc2⟩ := typed_agg (agg_yes Try.underlying25 rfl) h
  obtain ⟨ps, rfl, h1⟩ := typed_struct' Try.underlying25 hc2
  match ps, h1.1 with
  | [a, b], _ =>
    obtain ⟨B, rfl, hB, hB2⟩ := typed_bs (h1.2 0 _ a rfl rfl)
    obtain ⟨l, rfl, hl, hl2⟩ := typed_evs (h1.2 1 _ b rfl rfl)
    exact ⟨B, l, rfl, maxLen_le hB, maxLen_le hl, hB2, hl2⟩
theorem FewP.ok {B : List Bs} {l : List Ev} (h : FewP B l 6 24) (h1 : ∀ b ∈ B, byB b) (h2 : ∀ x ∈ l, EvIn x) : HOk B l :=
  ⟨by have := h.1; omega, by have := h.2.1; omega, fun x hx => (h2 x hx).1, h1, fun x hx => (h2 x hx).2⟩
end Go.Proofs.Ythblalidmmbcoaa
end
section
/- min -/
/- The laws: checks, orders. -/
set_option linter.unusedSimpArgs false
set_option linter.unusedVariables false
namespace Go.Proofs.Ythblalidmmbcoaa
open Go.AM Classical
set_option maxRecDepth 100000
set_option maxHeartbeats 4000000
end Go.Proofs.Ythblalidmmbcoaa
end
section
/- min -/
/- The laws: contents, images, allows. -/
set_option linter.unusedSimpArgs false
set_option linter.unusedVariables false
namespace Go.Proofs.Ythblalidmmbcoaa
open Go.AM Classical
set_option maxRecDepth 100000
set_option maxHeartbeats 4000000
theorem allF_by {B : List Bs} {l : List Ev} (Ho : HOk B l) (n : Nat) : ∀ c ∈ allF B l n, byB c := by
  intro c hc
  unfold allF at hc
  obtain ⟨i, hi, rfl⟩ := List.mem_map.1 hc
  exact Ho.upto n (List.mem_range.1 hi)
end Go.Proofs.Ythblalidmmbcoaa
end
section
/- Histories: the images are the product of the possible contents. No program. -/
set_option linter.unusedSimpArgs false
set_option linter.unusedVariables false
namespace Go.Proofs.Ythblalidmmbcoaa
open Go.AM Classical
end Go.Proofs.Ythblalidmmbcoaa
end
section
/- Histories: all outstanding writes complete, and then a flush does. No program. -/
set_option linter.unusedSimpArgs false
set_option linter.unusedVariables false
namespace Go.Proofs.Ythblalidmmbcoaa
open Go.AM Classical
def hasW (l : List Ev) (i : Int) : Prop := ∃ x ∈ l, x.kind = 1 ∧ x.id = i
def hasD (l : List Ev) (i : Int) : Prop := ∃ x ∈ l, x.kind = 2 ∧ x.id = i
theorem sub_has {l : List Ev} {i : Int} : 0 ≤ subF l l.length i ↔ hasW l i := by
  unfold subF hasW
  rw [List.take_length, firstI_nn]
  simp only [isW, decide_eq_true_eq]
theorem com_has {l : List Ev} {i : Int} : 0 ≤ comF l l.length i ↔ hasD l i := by
  unfold comF hasD
  rw [List.take_length, firstI_nn]
  simp only [isD, decide_eq_true_eq]
theorem subF_app {l r : List Ev} {n : Nat} (h : n ≤ l.length) (i : Int) : subF (l ++ r) n i = subF l n i := by
  unfold subF; rw [List.take_append_of_le_length h]
theorem comF_app {l r : List Ev} {n : Nat} (h : n ≤ l.length) (i : Int) : comF (l ++ r) n i = comF l n i := by
  unfold comF; rw [List.take_append_of_le_length h]
theorem evE_app {l r : List Ev} {nb i : Nat} (h : i < l.length) : evE (l ++ r) nb i = evE l nb i := by
  unfold evE
  rw [dif_pos h, dif_pos (by rw [List.length_append]; omega), List.getElem_append_left h, subF_app (Nat.le_of_lt h), comF_app (Nat.le_of_lt h)]
theorem chk_snoc {B : List Bs} {l : List Ev} {x : Ev} (h : chkR B l = 0) (hx : evE (l ++ [x]) B.length l.length = 0) : chkR B (l ++ [x]) = 0 := by
  unfold chkR at h ⊢
  split at h
  · rename_i hb
    rw [if_pos hb, fE_zero]
    intro i hi
    rw [List.length_append, List.length_singleton] at hi
    rcases Nat.lt_succ_iff_lt_or_eq.1 hi with h1 | rfl
    · rw [evE_app h1]; exact fE_zero.1 h i h1
    · exact hx
  · cases h
theorem evE_done {l : List Ev} {x : Ev} {nb : Nat} (hk : x.kind = 2) (hb : x.block = 0) (hd : x.data = []) (hw : hasW l x.id) (hn : ¬ hasD l x.id) : evE (l ++ [x]) nb l.length = 0 := by
  have h1 := sub_has.2 hw
  have h2 : ¬ 0 ≤ comF l l.length x.id := fun h => hn (com_has.1 h)
  unfold evE
  rw [dif_pos (by simp)]
  have e : (l ++ [x])[l.length]'(by simp) = x := by simp
  rw [e, if_neg (by omega), if_pos hk, if_neg (by rw [hb, hd]; simp), subF_app (Nat.le_refl _), comF_app (Nat.le_refl _), if_neg (by omega)]
theorem evE_flush {l : List Ev} {x : Ev} {nb : Nat} (hk : x.kind = 3) (hi : x.id = 0) (hb : x.block = 0) (hd : x.data = []) : evE (l ++ [x]) nb l.length = 0 := by
  unfold evE
  rw [dif_pos (by simp)]
  have e : (l ++ [x])[l.length]'(by simp) = x := by simp
  rw [e, if_neg (by omega), if_neg (by omega), if_pos hk, if_neg (by rw [hi, hb, hd]; simp)]
def doneP (l : List Ev) (i : Nat) (id : Int) : Prop := ∃ k, ∃ h : k < l.length, i ≤ k ∧ l[k].kind = 2 ∧ l[k].id = id
def dnE (id : Int) : Ev := ⟨2, id, 0, []⟩
def flE : Ev := ⟨3, 0, 0, []⟩
noncomputable def dnF (l : List Ev) : Nat → List Ev
  | 0 => []
  | i + 1 => dnF l i ++ (match l[i]? with | some x => if x.kind = 1 ∧ ¬ doneP l i x.id then [dnE x.id] else [] | none => [])
theorem dnF_s {l : List Ev} {i : Nat} (h : i < l.length) : dnF l (i + 1) = dnF l i ++ if l[i].kind = 1 ∧ ¬ doneP l i l[i].id then [dnE l[i].id] else [] := by
  rw [dnF, List.getElem?_eq_getElem h]
theorem dnF_len (l : List Ev) : ∀ i, (dnF l i).length ≤ i
  | 0 => Nat.le_refl _
  | i + 1 => by
    have := dnF_len l i
    unfold dnF
    rw [List.length_append]
    split
    · split <;> simp <;> omega
    · simp; omega
theorem dnF_mem {l : List Ev} {x : Ev} : ∀ {i}, x ∈ dnF l i → ∃ y ∈ l, x = dnE y.id
  | 0, h => by simp [dnF] at h
  | i + 1, h => by
    unfold dnF at h
    rcases List.mem_append.1 h with h | h
    · exact dnF_mem h
    · split at h
      · rename_i y hy
        split at h
        · exact ⟨y, List.mem_of_getElem? hy, by simpa using h⟩
        · cases h
      · cases h
theorem flu_step {B : List Bs} {l : List Ev} (hc : chkR B l = 0) : ∀ {i}, i ≤ l.length → chkR B (l ++ dnF l i) = 0 ∧ (∀ id, hasW (l ++ dnF l i) id ↔ hasW l id) ∧ (∀ id, hasD (l ++ dnF l i) id ↔ (hasD l id ∨ ∃ p, ∃ h : p < l.length, p < i ∧ l[p].kind = 1 ∧ l[p].id = id))
  | 0, _ => by
    refine ⟨by simpa [dnF] using hc, fun id => by simp [dnF], fun id => ?_⟩
    simp only [dnF, List.append_nil]
    constructor
    · exact .inl
    · rintro (h | ⟨p, hp, h, _⟩)
      · exact h
      · omega
  | i + 1, h => by
    have hi : i < l.length := h
    obtain ⟨h1, h2, h3⟩ := flu_step hc (i := i) (by omega)
    obtain ⟨-, I⟩ := chk_inv hc
    have hdp : l[i].kind = 1 → (doneP l i l[i].id ↔ hasD l l[i].id) := fun hk => by
      constructor
      · rintro ⟨k, hk, -, a, b⟩; exact ⟨l[k], List.getElem_mem hk, a, b⟩
      · rintro ⟨x, hx, a, b⟩
        obtain ⟨k, hk2, rfl⟩ := List.mem_iff_getElem.1 hx
        refine ⟨k, hk2, ?_, a, b⟩
        -- the completion's write stands before it
        have he := chk_zero hc k hk2
        have I2 := inv_n (B := B) (l := l) (n := k) (by omega) fun j hj => chk_zero hc j (by omega)
        obtain ⟨hs, hs0, -, hw1, hw2, -⟩ := done_at I2 hk2 a he
        have hsk := (subF_sp hs0).2.1
        have := I.uniq i _ hi hs hi hs hk hw1 (by rw [hw2, b])
        omega
    rw [dnF_s hi, ← List.append_assoc]
    by_cases hq : l[i].kind = 1 ∧ ¬ doneP l i l[i].id
    · rw [if_pos hq]
      have hnd : ¬ hasD l l[i].id := fun hh => hq.2 ((hdp hq.1).2 hh)
      have hw : hasW l l[i].id := ⟨l[i], List.getElem_mem hi, hq.1, rfl⟩
      have hnd2 : ¬ hasD (l ++ dnF l i) l[i].id := fun hh => by
        rcases (h3 _).1 hh with hh | ⟨p, hp, hpi, hp1, hp2⟩
        · exact hnd hh
        · have := I.uniq p i hp hi hp hi hp1 hq.1 hp2; omega
      refine ⟨chk_snoc h1 (evE_done rfl rfl rfl ((h2 _).2 hw) hnd2), fun id => ?_, fun id => ?_⟩
      · rw [← h2]
        constructor
        · rintro ⟨x, hx, a, b⟩
          rcases List.mem_append.1 hx with hx | hx
          · exact ⟨x, hx, a, b⟩
          · simp at hx; subst hx; cases a
        · rintro ⟨x, hx, a, b⟩; exact ⟨x, List.mem_append_left _ hx, a, b⟩
      · constructor
        · rintro ⟨x, hx, a, b⟩
          rcases List.mem_append.1 hx with hx | hx
          · rcases (h3 id).1 ⟨x, hx, a, b⟩ with hh | ⟨p, hp, hpi, hh⟩
            · exact .inl hh
            · exact .inr ⟨p, hp, by omega, hh⟩
          · simp at hx; subst hx
            exact .inr ⟨i, hi, by omega, hq.1, b⟩
        · rintro (hh | ⟨p, hp, hpi, hp1, hp2⟩)
          · obtain ⟨x, hx, a⟩ := (h3 id).2 (.inl hh); exact ⟨x, List.mem_append_left _ hx, a⟩
          · by_cases hpe : p = i
            · subst hpe
              exact ⟨dnE l[p].id, List.mem_append_right _ (by simp), rfl, hp2⟩
            · obtain ⟨x, hx, a⟩ := (h3 id).2 (.inr ⟨p, hp, by omega, hp1, hp2⟩); exact ⟨x, List.mem_append_left _ hx, a⟩
    · rw [if_neg hq, List.append_nil]
      refine ⟨h1, h2, fun id => ?_⟩
      rw [h3]
      constructor
      · rintro (hh | ⟨p, hp, hpi, hh⟩)
        · exact .inl hh
        · exact .inr ⟨p, hp, by omega, hh⟩
      · rintro (hh | ⟨p, hp, hpi, hp1, hp2⟩)
        · exact .inl hh
        · by_cases hpe : p = i
          · subst hpe
            have : doneP l p l[p].id := Classical.byContradiction fun hh => hq ⟨hp1, hh⟩
            have := (hdp hp1).1 this
            rw [hp2] at this
            exact .inl this
          · exact .inr ⟨p, hp, by omega, hp1, hp2⟩
noncomputable def fluL (l : List Ev) : List Ev := l ++ dnF l l.length ++ [flE]
theorem prodF_one (A : List Bs) : prodF (A.map fun b => [b]) = [A] := by
  induction A with
  | nil => rfl
  | cons a r ih => rw [List.map_cons, prodF, ih]; rfl
theorem flu_law {B : List Bs} {l : List Ev} (hc : chkR B l = 0) : chkR B (fluL l) = 0 ∧ fluF (fluL l) (fluL l).length = (fluL l).length ∧ chL B (fluL l) = (allF B (fluL l) (fluL l).length).map fun b => [b] := by
  obtain ⟨h1, h2, h3⟩ := flu_step hc (i := l.length) (Nat.le_refl _)
  have c1 : chkR B (fluL l) = 0 := chk_snoc h1 (evE_flush rfl rfl rfl rfl)
  have c2 : fluF (fluL l) (fluL l).length = (fluL l).length := by
    unfold fluL
    rw [List.length_append, List.length_singleton, fluF_s (by simp)]
    have e : (l ++ dnF l l.length ++ [flE])[(l ++ dnF l l.length).length]'(by simp) = flE := by simp
    rw [e, if_pos (by rfl)]
  have c3 : ∀ b, outF (fluL l) (fluL l).length b = [] := by
    intro b
    unfold outF
    rw [List.map_eq_nil_iff, List.filter_eq_nil_iff, List.take_length]
    intro x hx hd
    obtain ⟨a1, -, a3⟩ := of_decide_eq_true hd
    have hx2 : x ∈ l ++ dnF l l.length := by
      rcases List.mem_append.1 (show x ∈ (l ++ dnF l l.length) ++ [flE] from hx) with h | h
      · exact h
      · simp at h; subst h; cases a1
    obtain ⟨y, hy, b1, b2⟩ := (h2 x.id).1 ⟨x, hx2, a1, rfl⟩
    obtain ⟨p, hp, rfl⟩ := List.mem_iff_getElem.1 hy
    obtain ⟨z, hz, z1, z2⟩ := (h3 x.id).2 (.inr ⟨p, hp, hp, b1, b2⟩)
    have : 0 ≤ comF (fluL l) (fluL l).length x.id := com_has.2 ⟨z, List.mem_append_left _ hz, z1, z2⟩
    omega
  refine ⟨c1, c2, ?_⟩
  unfold chL allF
  rw [List.map_map]
  apply List.map_congr_left
  intro b _
  unfold chF
  rw [c2, c3, List.append_nil]
  simp [ddF, putB, Function.comp]
theorem flu_im {B : List Bs} {l : List Ev} (hc : chkR B l = 0) : imR B (fluL l) = .tup [.vs 1 [bsD (allF B (fluL l) (fluL l).length)] 1, .int .i64 0] := by
  obtain ⟨c1, c2, c3⟩ := flu_law hc
  have hn : ¬ limI (chL B (fluL l)) := by
    have hp : ∀ A : List Bs, preP (A.map fun b => [b]) = 1 := by
      intro A
      induction A with
      | nil => rfl
      | cons a r ih => unfold preP at ih ⊢; simp only [List.map_cons, List.foldr_cons, ih]; rfl
    rintro ⟨i, hi, h⟩
    rw [c3, ← List.map_take, hp] at h
    omega
  unfold imR
  rw [if_pos c1, if_neg hn, c3, prodF_one]
  rfl
end Go.Proofs.Ythblalidmmbcoaa
end
section
/- Histories: a flush separates two writes. No program. -/
set_option linter.unusedSimpArgs false
set_option linter.unusedVariables false
namespace Go.Proofs.Ythblalidmmbcoaa
open Go.AM Classical
def earP (l : List Ev) (id : Int) (i t : Nat) : Prop := ∃ k, ∃ h : k < l.length, i ≤ k ∧ k < t ∧ l[k].kind = 2 ∧ l[k].id = id
end Go.Proofs.Ythblalidmmbcoaa
end
section
/- min -/
/- The law DurableOrdered: settled, and the law. -/
set_option linter.unusedSimpArgs false
set_option linter.unusedVariables false
namespace Go.Proofs.Ythblalidmmbcoaa
open Go.AM Classical
set_option maxRecDepth 100000
set_option maxHeartbeats 4000000
theorem earP_0 {l : List Ev} {id : Int} {i t : Nat} (h : t ≤ i) : ¬ earP l id i t := by rintro ⟨k, hk, h1, h2, _⟩; omega
theorem earP_s {l : List Ev} {id : Int} {i k : Nat} (hk : k < l.length) (hi : i ≤ k) : earP l id i (k + 1) ↔ (earP l id i k ∨ (l[k].kind = 2 ∧ l[k].id = id)) := by
  constructor
  · rintro ⟨j, hj, h1, h2, h3⟩
    rcases Nat.lt_succ_iff_lt_or_eq.1 h2 with h4 | rfl
    · exact .inl ⟨j, hj, h1, h4, h3⟩
    · exact .inr h3
  · rintro (⟨j, hj, h1, h2, h3⟩ | h3)
    · exact ⟨j, hj, h1, by omega, h3⟩
    · exact ⟨k, hk, hi, by omega, h3⟩
end Go.Proofs.Ythblalidmmbcoaa
end
