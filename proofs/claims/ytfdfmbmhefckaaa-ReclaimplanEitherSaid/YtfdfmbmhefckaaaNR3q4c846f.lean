import Derived.Test.YtfdfmbmhefckaaaNA2qfcdc6e
import Derived.Test.YtfdfmbmhefckaaaNAmZ3q0bf57a
section
/- Accounts: the error of a list. -/
set_option linter.unusedSimpArgs false
set_option linter.unusedVariables false
namespace Go.Proofs.Ytfdfmbmhefckaaa
open Go.AM
set_option maxRecDepth 100000
set_option maxHeartbeats 4000000
def firstI {α : Type} (p : α → Bool) (l : List α) : Int := if l.findIdx p < l.length then (l.findIdx p : Nat) else -1
theorem firstI_at {α : Type} {p : α → Bool} {l : List α} {i : Nat} (hi : i < l.length) (h : p l[i] = true) (hb : ∀ j (hj : j < i), p (l[j]'(by omega)) = false) : firstI p l = i := by
  have : l.findIdx p = i := (List.findIdx_eq hi).2 ⟨h, hb⟩
  rw [firstI, this, if_pos hi]
theorem firstI_no {α : Type} {p : α → Bool} {l : List α} (hb : ∀ j (hj : j < l.length), p l[j] = false) : firstI p l = -1 := by
  have : l.findIdx p = l.length := List.findIdx_eq_length.2 fun x hx => by
    obtain ⟨i, hi, rfl⟩ := List.mem_iff_getElem.1 hx
    exact hb i hi
  rw [firstI, this, if_neg (by omega)]
theorem firstI_nn {α : Type} {p : α → Bool} {l : List α} : 0 ≤ firstI p l ↔ ∃ x ∈ l, p x = true := by
  unfold firstI
  rw [← List.findIdx_lt_length]
  split <;> omega
theorem idxf_c (l : List Acct) (hl : l.length ≤ 1000000) (g : Nat) (p : Acct → Bool) (hp : ∀ a ∈ l, PCon Try.prog g [.agg a.cells] (.bool (p a))) :
    PCon Try.prog 83 [accs l, .fn g [] []] (.int .i64 (firstI p l)) := by
  refine A83p (by simp [A83]) ?_
  simp only [A83, argEnv]
  have hal := accs_len l
  repeat' (first | (with_reducible first | refine W_seq ?_ | refine then_n ?_ | refine W_block ?_ | refine blk_n ?_ | refine blk_r ?_ | refine blk_e ?_ | refine W_skip ?_ | refine W_ret ?_ | refine then_r ?_ | refine W_exit ?_ | refine then_e ?_) | (refine blk_j (by decide) ?_) | ((with_reducible refine s_reg ?_); intro K hK) | ((with_reducible refine k_nil ?_); (with_reducible apply s_nil hK); (· exact nmX); clear hK; clear K) | ((with_reducible refine k_cond ?_); (first | ((with_reducible apply s_condT); (· rfl); (· exact nmX)) | ((with_reducible apply s_condF); (· rfl); (· exact nmX)) | ((with_reducible apply s_condS); (· rfl); (· exact nmX); (· exact nmX)))) | ((with_reducible refine k_guard ?_); (first | (refine s_gt rfl ?_) | (refine s_gf1 rfl ?_) | (refine s_gfn rfl ?_) | (refine s_gx1 rfl ?_) | (refine s_gxn rfl ?_) | (refine s_gs rfl ?_))) | ((with_reducible refine k_mv ?_); (refine s_mv rfl ?_)) | ((with_reducible refine k_len ?_); (first | (refine s_len rfl rfl ?_) | ((with_reducible apply s_len); (· rfl); (· exact SlOwn.len (by assumption))))) | ((with_reducible refine k_lss ?_); (refine s_lss rfl rfl ?_)) | ((with_reducible refine k_iaddr ?_); (first | ((with_reducible apply s_iaddrV); (· rfl); (· rfl); (· (first | omega | exact ⟨rfl, by omega⟩ | skip))) | ((with_reducible apply s_iaddrO); (· rfl); (· rfl); (· (first | omega | exact ⟨rfl, by omega⟩ | skip)); (· (exact hpX))) | ((with_reducible apply s_iaddrSO); (· rfl); (· assumption); (· rfl); (· (first | omega | exact ⟨rfl, by omega⟩ | skip)); (· (first | exact nuI | exact nuN)); intro ks hks))) | ((with_reducible refine k_loadA ?_); (first | ((with_reducible apply s_loadAV); (· rfl); (· (first | exact Nat.le_of_ble_eq_true rfl | decide | omega | (simp; done) | (simp; omega) | skip))) | ((with_reducible apply s_loadAP); (· rfl); (· (exact hpX)); (· (first | exact Nat.le_of_ble_eq_true rfl | decide | omega | (simp; done) | (simp; omega) | skip))))) | ((with_reducible refine k_add ?_); ((with_reducible apply s_add); (· rfl); (· rfl))) | ((with_reducible refine k_callT ?_); ((with_reducible apply s_callt); (· rfl); (· rfl); (· rfl))) | ((with_reducible refine k_br ?_); (first | (with_reducible first | refine Br_dec ?_ | refine Br_not ?_ | refine Br_eqF ?_ | refine Br_and ?_ | refine Br_or ?_ | refine Br_neg ?_ | refine Br_band ?_ | refine Br_bor ?_ | refine Br_beq ?_) | (refine Br_t (by first | omega | assumption | rfl) ?_) | (refine Br_f (by first | omega | assumption | decide) ?_) | (with_reducible apply Br_sb <;> intro hbr <;> (first | subst hbr | simp only [hbr] | skip)) | (with_reducible apply Br_s <;> intro hbr))) | (with_reducible refine WN_succ ?_) | ((first | (with_reducible apply q_eqI) | (with_reducible apply q_eqN)); (first | exact nuI | exact nuN)) | ((first | (with_reducible apply q_eqL) | (with_reducible apply q_eqO)); (first | exact liL | exact liO)))
  refine W_for l.length (fun i st => (∀ j (hj : j < i) (h : j < l.length), p l[j] = false) ∧ st = ⟨[(0, accs l), (1, .fn g [] []), (7, .int .i64 l.length), (8, .int .i64 i)], fun _ => none⟩) ⟨fun j hj => by omega, rfl⟩ ?_ ?_
  · rintro i e' h' hi ⟨ht, he⟩
    cases he
    have hpi := hp l[i] (List.getElem_mem hi)
    simp only [Acct.cells] at hpi
    cases hpb : p l[i] with
    | true =>
      rw [hpb] at hpi
      repeat' (first | (with_reducible first | refine W_seq ?_ | refine then_n ?_ | refine W_block ?_ | refine blk_n ?_ | refine blk_r ?_ | refine blk_e ?_ | refine W_skip ?_ | refine W_ret ?_ | refine then_r ?_ | refine W_exit ?_ | refine then_e ?_) | (refine blk_j (by decide) ?_) | ((with_reducible refine s_reg ?_); intro K hK) | ((with_reducible refine k_nil ?_); (with_reducible apply s_nil hK); (· exact nmX); clear hK; clear K) | ((with_reducible refine k_cond ?_); (first | ((with_reducible apply s_condT); (· rfl); (· exact nmX)) | ((with_reducible apply s_condF); (· rfl); (· exact nmX)) | ((with_reducible apply s_condS); (· rfl); (· exact nmX); (· exact nmX)))) | ((with_reducible refine k_guard ?_); (first | (refine s_gt rfl ?_) | (refine s_gf1 rfl ?_) | (refine s_gfn rfl ?_) | (refine s_gx1 rfl ?_) | (refine s_gxn rfl ?_) | (refine s_gs rfl ?_))) | ((with_reducible refine k_mv ?_); (refine s_mv rfl ?_)) | ((with_reducible refine k_len ?_); (first | (refine s_len rfl rfl ?_) | ((with_reducible apply s_len); (· rfl); (· exact SlOwn.len (by assumption))))) | ((with_reducible refine k_lss ?_); (refine s_lss rfl rfl ?_)) | ((with_reducible refine k_iaddr ?_); (first | ((with_reducible apply s_iaddrV); (· rfl); (· rfl); (· (first | omega | exact ⟨rfl, by omega⟩ | skip))) | ((with_reducible apply s_iaddrO); (· rfl); (· rfl); (· (first | omega | exact ⟨rfl, by omega⟩ | skip)); (· (exact hpX))) | ((with_reducible apply s_iaddrSO); (· rfl); (· assumption); (· rfl); (· (first | omega | exact ⟨rfl, by omega⟩ | skip)); (· (first | (simp (disch := omega) only [w64, wu8, wu16, wu32, wu64, tm_nn, td_nn, fd_nn, Int.reduceAdd, Int.reduceSub, Int.reduceMul, Int.reduceDiv, Int.reduceMod, Int.reduceNeg, Int.reduceToNat, Int.toNat_natCast, Int.toNat_zero, Int.zero_add, Int.add_zero, Int.one_mul, Int.reducePow, Nat.mul_one, Nat.zero_add, Nat.add_zero, Nat.zero_mul, Nat.reduceAdd, Nat.reduceMul, Nat.reduceSub, Nat.min_eq_left, IntKind.bits, Nat.sub_zero, acr]; try rfl; done) | rfl)); intro ks hks))) | ((with_reducible refine k_loadA ?_); (first | ((with_reducible apply s_loadAV); (· rfl); (· (first | exact Nat.le_of_ble_eq_true rfl | decide | omega | (simp; done) | (simp; omega) | skip))) | ((with_reducible apply s_loadAP); (· rfl); (· (exact hpX)); (· (first | exact Nat.le_of_ble_eq_true rfl | decide | omega | (simp; done) | (simp; omega) | skip))))) | ((with_reducible refine k_add ?_); ((with_reducible apply s_add); (· rfl); (· rfl))) | ((with_reducible refine k_callT ?_); ((with_reducible apply s_callt); (· rfl); (· rfl); (· rfl))) | ((with_reducible refine k_con ?_); (first | ((with_reducible apply con_val (hpi)); (· (repeat (first | exact All2.nil | (apply All2.cons; (· first | ((apply Rd_sl0); (· exact hpX); (· first | rfl | exact scal_i | exact scal_b | assumption); (· first | rfl | assumption | (simp [acr]; done) | (simp [acr]; omega))) | exact rdX))))); (· rfl); (· exact fun _ => rfl)))) | ((with_reducible refine k_br ?_); (first | (with_reducible first | refine Br_dec ?_ | refine Br_not ?_ | refine Br_eqF ?_ | refine Br_and ?_ | refine Br_or ?_ | refine Br_neg ?_ | refine Br_band ?_ | refine Br_bor ?_ | refine Br_beq ?_) | (refine Br_t (by first | omega | assumption | rfl) ?_) | (refine Br_f (by first | omega | assumption | decide) ?_) | (with_reducible apply Br_sb <;> intro hbr <;> (first | subst hbr | simp only [hbr] | skip)) | (with_reducible apply Br_s <;> intro hbr))) | (with_reducible refine WN_succ ?_) | ((first | (with_reducible apply q_eqI) | (with_reducible apply q_eqN)); (first | (simp (disch := omega) only [w64, wu8, wu16, wu32, wu64, tm_nn, td_nn, fd_nn, Int.reduceAdd, Int.reduceSub, Int.reduceMul, Int.reduceDiv, Int.reduceMod, Int.reduceNeg, Int.reduceToNat, Int.toNat_natCast, Int.toNat_zero, Int.zero_add, Int.add_zero, Int.one_mul, Int.reducePow, Nat.mul_one, Nat.zero_add, Nat.add_zero, Nat.zero_mul, Nat.reduceAdd, Nat.reduceMul, Nat.reduceSub, Nat.min_eq_left, IntKind.bits, Nat.sub_zero, acr]; try rfl; done) | rfl)) | ((first | (with_reducible apply q_eqL) | (with_reducible apply q_eqO)); (first | (simp (disch := omega) only [upd_self, upd_ne, upd_upd, rep, splice, List.take_succ_cons, List.take_zero, List.drop_succ_cons, List.drop_zero, List.cons_append, List.nil_append, List.append_nil, List.length_cons, List.length_nil, List.reduceReplicate, List.flatten_cons, List.flatten_nil, Nat.reduceAdd, Nat.reduceMul, Nat.reduceSub, Nat.zero_add, Nat.add_zero, List.getElem?_cons_zero, List.getElem?_cons_succ, acr]; try rfl; done) | rfl)))
      rw [firstI_at hi hpb (fun j hj => ht j hj (by omega))]
      first | exact Fin_flat trivial rfl rfl | (refine Fin_tup trivial rfl ?_ (Nat.le_of_ble_eq_true rfl); (repeat (first | exact All2.nil | (apply All2.cons; (· first | exact exc_n | exact exc_e | exact exc_v rfl rfl | exact exc_o upd_self rfl rfl)))); done) | (refine Fin_own trivial rfl upd_self ?_ (Nat.le_of_ble_eq_true rfl); (repeat (first | exact All2.nil | (apply All2.cons; (· first | exact exc_n | exact exc_e | exact exc_v rfl rfl | exact exc_o upd_self rfl rfl)))); done) | exact Fin_nil trivial rfl | exact Fin_sl trivial rfl upd_self rfl rfl
    | false =>
      rw [hpb] at hpi
      repeat' (first | (with_reducible first | refine W_seq ?_ | refine then_n ?_ | refine W_block ?_ | refine blk_n ?_ | refine blk_r ?_ | refine blk_e ?_ | refine W_skip ?_ | refine W_ret ?_ | refine then_r ?_ | refine W_exit ?_ | refine then_e ?_) | (refine blk_j (by decide) ?_) | ((with_reducible refine s_reg ?_); intro K hK) | ((with_reducible refine k_nil ?_); (with_reducible apply s_nil hK); (· exact nmX); clear hK; clear K) | ((with_reducible refine k_cond ?_); (first | ((with_reducible apply s_condT); (· rfl); (· exact nmX)) | ((with_reducible apply s_condF); (· rfl); (· exact nmX)) | ((with_reducible apply s_condS); (· rfl); (· exact nmX); (· exact nmX)))) | ((with_reducible refine k_guard ?_); (first | (refine s_gt rfl ?_) | (refine s_gf1 rfl ?_) | (refine s_gfn rfl ?_) | (refine s_gx1 rfl ?_) | (refine s_gxn rfl ?_) | (refine s_gs rfl ?_))) | ((with_reducible refine k_mv ?_); (refine s_mv rfl ?_)) | ((with_reducible refine k_len ?_); (first | (refine s_len rfl rfl ?_) | ((with_reducible apply s_len); (· rfl); (· exact SlOwn.len (by assumption))))) | ((with_reducible refine k_lss ?_); (refine s_lss rfl rfl ?_)) | ((with_reducible refine k_iaddr ?_); (first | ((with_reducible apply s_iaddrV); (· rfl); (· rfl); (· (first | omega | exact ⟨rfl, by omega⟩ | skip))) | ((with_reducible apply s_iaddrO); (· rfl); (· rfl); (· (first | omega | exact ⟨rfl, by omega⟩ | skip)); (· (exact hpX))) | ((with_reducible apply s_iaddrSO); (· rfl); (· assumption); (· rfl); (· (first | omega | exact ⟨rfl, by omega⟩ | skip)); (· (first | (simp (disch := omega) only [w64, wu8, wu16, wu32, wu64, tm_nn, td_nn, fd_nn, Int.reduceAdd, Int.reduceSub, Int.reduceMul, Int.reduceDiv, Int.reduceMod, Int.reduceNeg, Int.reduceToNat, Int.toNat_natCast, Int.toNat_zero, Int.zero_add, Int.add_zero, Int.one_mul, Int.reducePow, Nat.mul_one, Nat.zero_add, Nat.add_zero, Nat.zero_mul, Nat.reduceAdd, Nat.reduceMul, Nat.reduceSub, Nat.min_eq_left, IntKind.bits, Nat.sub_zero, acr]; try rfl; done) | rfl)); intro ks hks))) | ((with_reducible refine k_loadA ?_); (first | ((with_reducible apply s_loadAV); (· rfl); (· (first | exact Nat.le_of_ble_eq_true rfl | decide | omega | (simp; done) | (simp; omega) | skip))) | ((with_reducible apply s_loadAP); (· rfl); (· (exact hpX)); (· (first | exact Nat.le_of_ble_eq_true rfl | decide | omega | (simp; done) | (simp; omega) | skip))))) | ((with_reducible refine k_add ?_); ((with_reducible apply s_add); (· rfl); (· rfl))) | ((with_reducible refine k_callT ?_); ((with_reducible apply s_callt); (· rfl); (· rfl); (· rfl))) | ((with_reducible refine k_con ?_); (first | ((with_reducible apply con_val (hpi)); (· (repeat (first | exact All2.nil | (apply All2.cons; (· first | ((apply Rd_sl0); (· exact hpX); (· first | rfl | exact scal_i | exact scal_b | assumption); (· first | rfl | assumption | (simp [acr]; done) | (simp [acr]; omega))) | exact rdX))))); (· rfl); (· exact fun _ => rfl)))) | ((with_reducible refine k_br ?_); (first | (with_reducible first | refine Br_dec ?_ | refine Br_not ?_ | refine Br_eqF ?_ | refine Br_and ?_ | refine Br_or ?_ | refine Br_neg ?_ | refine Br_band ?_ | refine Br_bor ?_ | refine Br_beq ?_) | (refine Br_t (by first | omega | assumption | rfl) ?_) | (refine Br_f (by first | omega | assumption | decide) ?_) | (with_reducible apply Br_sb <;> intro hbr <;> (first | subst hbr | simp only [hbr] | skip)) | (with_reducible apply Br_s <;> intro hbr))) | (with_reducible refine WN_succ ?_) | ((first | (with_reducible apply q_eqI) | (with_reducible apply q_eqN)); (first | (simp (disch := omega) only [w64, wu8, wu16, wu32, wu64, tm_nn, td_nn, fd_nn, Int.reduceAdd, Int.reduceSub, Int.reduceMul, Int.reduceDiv, Int.reduceMod, Int.reduceNeg, Int.reduceToNat, Int.toNat_natCast, Int.toNat_zero, Int.zero_add, Int.add_zero, Int.one_mul, Int.reducePow, Nat.mul_one, Nat.zero_add, Nat.add_zero, Nat.zero_mul, Nat.reduceAdd, Nat.reduceMul, Nat.reduceSub, Nat.min_eq_left, IntKind.bits, Nat.sub_zero, acr]; try rfl; done) | rfl)) | ((first | (with_reducible apply q_eqL) | (with_reducible apply q_eqO)); (first | (simp (disch := omega) only [upd_self, upd_ne, upd_upd, rep, splice, List.take_succ_cons, List.take_zero, List.drop_succ_cons, List.drop_zero, List.cons_append, List.nil_append, List.append_nil, List.length_cons, List.length_nil, List.reduceReplicate, List.flatten_cons, List.flatten_nil, Nat.reduceAdd, Nat.reduceMul, Nat.reduceSub, Nat.zero_add, Nat.add_zero, List.getElem?_cons_zero, List.getElem?_cons_succ, acr]; try rfl; done) | rfl)))
      refine ⟨fun j hj h => ?_, rfl⟩
      rcases Nat.lt_succ_iff_lt_or_eq.1 hj with h1 | rfl
      · exact ht j h1 h
      · exact hpb
  · rintro e' h' ⟨ht, he⟩
    cases he
    repeat' (first | (with_reducible first | refine W_seq ?_ | refine then_n ?_ | refine W_block ?_ | refine blk_n ?_ | refine blk_r ?_ | refine blk_e ?_ | refine W_skip ?_ | refine W_ret ?_ | refine then_r ?_ | refine W_exit ?_ | refine then_e ?_) | (refine blk_j (by decide) ?_) | ((with_reducible refine s_reg ?_); intro K hK) | ((with_reducible refine k_nil ?_); (with_reducible apply s_nil hK); (· exact nmX); clear hK; clear K) | ((with_reducible refine k_cond ?_); (first | ((with_reducible apply s_condT); (· rfl); (· exact nmX)) | ((with_reducible apply s_condF); (· rfl); (· exact nmX)) | ((with_reducible apply s_condS); (· rfl); (· exact nmX); (· exact nmX)))) | ((with_reducible refine k_guard ?_); (first | (refine s_gt rfl ?_) | (refine s_gf1 rfl ?_) | (refine s_gfn rfl ?_) | (refine s_gx1 rfl ?_) | (refine s_gxn rfl ?_) | (refine s_gs rfl ?_))) | ((with_reducible refine k_mv ?_); (refine s_mv rfl ?_)) | ((with_reducible refine k_len ?_); (first | (refine s_len rfl rfl ?_) | ((with_reducible apply s_len); (· rfl); (· exact SlOwn.len (by assumption))))) | ((with_reducible refine k_lss ?_); (refine s_lss rfl rfl ?_)) | ((with_reducible refine k_iaddr ?_); (first | ((with_reducible apply s_iaddrV); (· rfl); (· rfl); (· (first | omega | exact ⟨rfl, by omega⟩ | skip))) | ((with_reducible apply s_iaddrO); (· rfl); (· rfl); (· (first | omega | exact ⟨rfl, by omega⟩ | skip)); (· (exact hpX))) | ((with_reducible apply s_iaddrSO); (· rfl); (· assumption); (· rfl); (· (first | omega | exact ⟨rfl, by omega⟩ | skip)); (· (first | exact nuI | exact nuN)); intro ks hks))) | ((with_reducible refine k_loadA ?_); (first | ((with_reducible apply s_loadAV); (· rfl); (· (first | exact Nat.le_of_ble_eq_true rfl | decide | omega | (simp; done) | (simp; omega) | skip))) | ((with_reducible apply s_loadAP); (· rfl); (· (exact hpX)); (· (first | exact Nat.le_of_ble_eq_true rfl | decide | omega | (simp; done) | (simp; omega) | skip))))) | ((with_reducible refine k_add ?_); ((with_reducible apply s_add); (· rfl); (· rfl))) | ((with_reducible refine k_callT ?_); ((with_reducible apply s_callt); (· rfl); (· rfl); (· rfl))) | ((with_reducible refine k_br ?_); (first | (with_reducible first | refine Br_dec ?_ | refine Br_not ?_ | refine Br_eqF ?_ | refine Br_and ?_ | refine Br_or ?_ | refine Br_neg ?_ | refine Br_band ?_ | refine Br_bor ?_ | refine Br_beq ?_) | (refine Br_t (by first | omega | assumption | rfl) ?_) | (refine Br_f (by first | omega | assumption | decide) ?_) | (with_reducible apply Br_sb <;> intro hbr <;> (first | subst hbr | simp only [hbr] | skip)) | (with_reducible apply Br_s <;> intro hbr))) | (with_reducible refine WN_succ ?_) | ((first | (with_reducible apply q_eqI) | (with_reducible apply q_eqN)); (first | exact nuI | exact nuN)) | ((first | (with_reducible apply q_eqL) | (with_reducible apply q_eqO)); (first | exact liL | exact liO)))
    rw [firstI_no (fun j hj => ht j hj hj)]
    first | exact Fin_flat trivial rfl rfl | (refine Fin_tup trivial rfl ?_ (Nat.le_of_ble_eq_true rfl); (repeat (first | exact All2.nil | (apply All2.cons; (· first | exact exc_n | exact exc_e | exact exc_v rfl rfl | exact exc_o upd_self rfl rfl)))); done) | (refine Fin_own trivial rfl upd_self ?_ (Nat.le_of_ble_eq_true rfl); (repeat (first | exact All2.nil | (apply All2.cons; (· first | exact exc_n | exact exc_e | exact exc_v rfl rfl | exact exc_o upd_self rfl rfl)))); done) | exact Fin_nil trivial rfl | exact Fin_sl trivial rfl upd_self rfl rfl
theorem contf_c (l : List Acct) (hl : l.length ≤ 1000000) (g : Nat) (p : Acct → Bool) (hp : ∀ a ∈ l, PCon Try.prog g [.agg a.cells] (.bool (p a))) :
    PCon Try.prog 66 [accs l, .fn g [] []] (.bool (decide (0 ≤ firstI p l))) := by
  refine A66p (by simp [A66]) ?_
  simp only [A66, argEnv]
  have c1 := idxf_c l hl g p hp
  repeat' (first | (with_reducible first | refine W_seq ?_ | refine then_n ?_ | refine W_skip ?_ | refine W_ret ?_ | refine then_r ?_) | ((with_reducible refine s_reg ?_); intro K hK) | ((with_reducible refine k_nil ?_); (with_reducible apply s_nil hK); (· exact nmX); clear hK; clear K) | ((with_reducible refine k_guard ?_); (first | (refine s_gt rfl ?_) | (refine s_gf1 rfl ?_) | (refine s_gfn rfl ?_) | (refine s_gx1 rfl ?_) | (refine s_gxn rfl ?_) | (refine s_gs rfl ?_))) | ((with_reducible refine k_mv ?_); (refine s_mv rfl ?_)) | ((with_reducible refine k_geq ?_); (refine s_geq rfl rfl ?_)) | ((with_reducible refine k_callF ?_); (first | ((with_reducible apply s_call1); (· rfl)) | ((with_reducible apply s_calln); (· rfl)))) | ((with_reducible refine k_con ?_); (first | ((with_reducible apply con_val (c1)); (· (exact agX)); (· rfl); (· exact fun _ => rfl)))) | ((with_reducible refine k_br ?_); (first | (with_reducible first | refine Br_dec ?_ | refine Br_not ?_ | refine Br_eqF ?_ | refine Br_and ?_ | refine Br_or ?_ | refine Br_neg ?_ | refine Br_band ?_ | refine Br_bor ?_ | refine Br_beq ?_) | (refine Br_t (by first | omega | assumption | rfl) ?_) | (refine Br_f (by first | omega | assumption | decide) ?_) | (with_reducible apply Br_sb <;> intro hbr <;> (first | subst hbr | simp only [hbr] | skip)) | (with_reducible apply Br_s <;> intro hbr))) | (with_reducible refine WN_succ ?_) | ((first | (with_reducible apply q_eqI) | (with_reducible apply q_eqN)); (first | exact nuI | exact nuN)) | ((first | (with_reducible apply q_eqL) | (with_reducible apply q_eqO)); (first | exact liL | exact liO)))
  all_goals first | exact Fin_bt trivial rfl (by omega) | exact Fin_bf trivial rfl (by omega)
def overM (a : Acct) : Bool := decide (a.max < a.usage)
theorem chk1_c (a : Acct) : PCon Try.prog 67 [.agg a.cells] (.bool (overM a)) := by
  refine A67p (by simp [A67]) ?_
  simp only [A67, argEnv, Acct.cells]
  unfold overM
  repeat' (first | (with_reducible first | refine W_seq ?_ | refine then_n ?_ | refine W_skip ?_ | refine W_ret ?_ | refine then_r ?_) | ((with_reducible refine s_reg ?_); intro K hK) | ((with_reducible refine k_nil ?_); (with_reducible apply s_nil hK); (· exact nmX); clear hK; clear K) | ((with_reducible refine k_guard ?_); (first | (refine s_gt rfl ?_) | (refine s_gf1 rfl ?_) | (refine s_gfn rfl ?_) | (refine s_gx1 rfl ?_) | (refine s_gxn rfl ?_) | (refine s_gs rfl ?_))) | ((with_reducible refine k_mv ?_); (refine s_mv rfl ?_)) | ((with_reducible refine k_gtr ?_); (refine s_gtr rfl rfl ?_)) | ((with_reducible refine k_load ?_); (first | ((with_reducible apply s_loadV); (· rfl)) | ((with_reducible apply s_loadP); (· rfl); (· (exact hpX))))) | ((with_reducible refine k_faddr ?_); (first | ((with_reducible apply s_faddrV); (· rfl); (· rfl)) | ((with_reducible apply s_faddrP); (· rfl); (· rfl)))) | ((with_reducible refine k_box (dst := some 1) ?_); ((with_reducible apply s_box); (· rfl); (· rfl); intro k1 hk1; (try simp only [upd_none] at hk1))) | ((with_reducible refine k_br ?_); (first | (with_reducible first | refine Br_dec ?_ | refine Br_not ?_ | refine Br_eqF ?_ | refine Br_and ?_ | refine Br_or ?_ | refine Br_neg ?_ | refine Br_band ?_ | refine Br_bor ?_ | refine Br_beq ?_) | (refine Br_t (by first | omega | assumption | rfl) ?_) | (refine Br_f (by first | omega | assumption | decide) ?_) | (with_reducible apply Br_sb <;> intro hbr <;> (first | subst hbr | simp only [hbr] | skip)) | (with_reducible apply Br_s <;> intro hbr))) | (with_reducible refine WN_succ ?_) | ((first | (with_reducible apply q_eqI) | (with_reducible apply q_eqN)); (first | exact nuI | exact nuN)) | ((first | (with_reducible apply q_eqL) | (with_reducible apply q_eqO)); (first | exact liL | exact liO)))
  all_goals first | exact Fin_bt trivial rfl (by omega) | exact Fin_bf trivial rfl (by omega)
def maxP (l : List Acct) : Prop := ∀ a ∈ l, a.usage ≤ a.max
def sumP (l : List Acct) : Prop := ∀ i, i < l.length → kids l i ≤ us l i
open Classical in
noncomputable def chkF (l : List Acct) : Int :=
  if l.length < 1 ∨ 8 < l.length then 9 else if treeP l then (if amtP l then (if maxP l then (if sumP l then 0 else 11) else 17) else 2) else 1
open Classical in
theorem check_c (l : List Acct) (hL : l.length ≤ 9223372036854775807) : PCon Try.prog 41 [accs l] (.int .i64 (chkF l)) := by
  unfold chkF
  refine A41p (by simp [A41]) ?_
  simp only [A41, argEnv]
  by_cases h9 : l.length < 1 ∨ 8 < l.length
  · rw [if_pos h9]
    repeat' (first | (with_reducible first | refine W_seq ?_ | refine then_n ?_ | refine W_block ?_ | refine blk_n ?_ | refine blk_r ?_ | refine blk_e ?_ | refine W_skip ?_ | refine W_ret ?_ | refine then_r ?_) | (refine blk_j (by decide) ?_) | ((with_reducible refine s_reg ?_); intro K hK) | ((with_reducible refine k_nil ?_); (with_reducible apply s_nil hK); (· exact nmX); clear hK; clear K) | ((with_reducible refine k_cond ?_); (first | ((with_reducible apply s_condT); (· rfl); (· exact nmX)) | ((with_reducible apply s_condF); (· rfl); (· exact nmX)) | ((with_reducible apply s_condS); (· rfl); (· exact nmX); (· exact nmX)))) | ((with_reducible refine k_guard ?_); (first | (refine s_gt rfl ?_) | (refine s_gf1 rfl ?_) | (refine s_gfn rfl ?_) | (refine s_gx1 rfl ?_) | (refine s_gxn rfl ?_) | (refine s_gs rfl ?_))) | ((with_reducible refine k_mv ?_); (refine s_mv rfl ?_)) | ((with_reducible refine k_len ?_); (first | (refine s_len rfl rfl ?_) | ((with_reducible apply s_len); (· rfl); (· exact SlOwn.len (by assumption))))) | ((with_reducible refine k_pick ?_); (first | (refine s_pickT rfl rfl ?_) | (refine s_pickF rfl rfl ?_))) | ((with_reducible refine k_not ?_); (refine s_not rfl (by first | exact Bool.not_true | exact Bool.not_false | rfl) ?_)) | ((with_reducible refine k_lss ?_); (refine s_lss rfl rfl ?_)) | ((with_reducible refine k_gtr ?_); (refine s_gtr rfl rfl ?_)) | ((with_reducible refine k_callF ?_); (first | ((with_reducible apply s_call1); (· rfl)) | ((with_reducible apply s_calln); (· rfl)))) | ((with_reducible refine k_br ?_); (first | (with_reducible first | refine Br_dec ?_ | refine Br_not ?_ | refine Br_eqF ?_ | refine Br_and ?_ | refine Br_or ?_ | refine Br_neg ?_ | refine Br_band ?_ | refine Br_bor ?_ | refine Br_beq ?_) | (refine Br_t (by first | omega | assumption | rfl) ?_) | (refine Br_f (by first | omega | assumption | decide) ?_) | (with_reducible apply Br_sb <;> intro hbr <;> (first | subst hbr | simp only [hbr] | skip)) | (with_reducible apply Br_s <;> intro hbr))) | (with_reducible refine WN_succ ?_) | ((first | (with_reducible apply q_eqI) | (with_reducible apply q_eqN)); (first | exact nuI | exact nuN)) | ((first | (with_reducible apply q_eqL) | (with_reducible apply q_eqO)); (first | exact liL | exact liO)))
    all_goals first | exact Fin_flat trivial rfl rfl | (refine Fin_tup trivial rfl ?_ (Nat.le_of_ble_eq_true rfl); (repeat (first | exact All2.nil | (apply All2.cons; (· first | exact exc_n | exact exc_e | exact exc_v rfl rfl | exact exc_o upd_self rfl rfl)))); done) | (refine Fin_own trivial rfl upd_self ?_ (Nat.le_of_ble_eq_true rfl); (repeat (first | exact All2.nil | (apply All2.cons; (· first | exact exc_n | exact exc_e | exact exc_v rfl rfl | exact exc_o upd_self rfl rfl)))); done) | exact Fin_nil trivial rfl | exact Fin_sl trivial rfl upd_self rfl rfl
  · rw [if_neg h9]
    have ct := tree_c l (by omega)
    by_cases h1 : treeP l
    · rw [if_pos h1]
      rw [decide_eq_true h1] at ct
      have ca := amounts_c l (by omega) (by omega)
      by_cases h2 : amtP l
      · rw [if_pos h2]
        rw [decide_eq_true h2] at ca
        have co := contf_c l (by omega) 67 overM (fun a _ => chk1_c a)
        have hm : (0 ≤ firstI overM l) ↔ ¬ maxP l := by
          rw [firstI_nn]
          unfold maxP overM
          simp
        by_cases h3 : maxP l
        · rw [if_pos h3]
          rw [decide_eq_false (by rw [hm]; exact fun h => h h3)] at co
          have cw := own_c l (by omega) h1 h2.1
          have cm := min_c (ownL l) (by intro h; have := ownL_len l; rw [h] at this; simp at this; omega) (by rw [ownL_len]; omega)
          rw [ownL_len] at cm
          have hs : minL (ownL l) < 0 ↔ ¬ sumP l := by
            rw [minL_neg (by intro h; have := ownL_len l; rw [h] at this; simp at this; omega)]
            unfold sumP
            constructor
            · rintro ⟨x, hx, h⟩ hh
              obtain ⟨i, hi, rfl⟩ := List.mem_iff_getElem.1 hx
              have := hh i (by rwa [ownL_len] at hi)
              rw [ownL_at hi] at h
              omega
            · intro h
              obtain ⟨i, h⟩ := Classical.not_forall.1 h
              obtain ⟨hi, h⟩ := Classical.not_imp.1 h
              have hi' : i < (ownL l).length := by rw [ownL_len]; exact hi
              exact ⟨_, List.getElem_mem hi', by rw [ownL_at hi']; omega⟩
          by_cases h4 : sumP l
          · rw [if_pos h4]
            have h5 : ¬ minL (ownL l) < 0 := fun h => hs.1 h h4
            repeat' (first | (with_reducible first | refine W_seq ?_ | refine then_n ?_ | refine W_block ?_ | refine blk_n ?_ | refine blk_r ?_ | refine blk_e ?_ | refine W_skip ?_ | refine W_ret ?_ | refine then_r ?_) | (refine blk_j (by decide) ?_) | ((with_reducible refine s_reg ?_); intro K hK) | ((with_reducible refine k_nil ?_); (with_reducible apply s_nil hK); (· exact nmX); clear hK; clear K) | ((with_reducible refine k_cond ?_); (first | ((with_reducible apply s_condT); (· rfl); (· exact nmX)) | ((with_reducible apply s_condF); (· rfl); (· exact nmX)) | ((with_reducible apply s_condS); (· rfl); (· exact nmX); (· exact nmX)))) | ((with_reducible refine k_guard ?_); (first | (refine s_gt rfl ?_) | (refine s_gf1 rfl ?_) | (refine s_gfn rfl ?_) | (refine s_gx1 rfl ?_) | (refine s_gxn rfl ?_) | (refine s_gs rfl ?_))) | ((with_reducible refine k_mv ?_); (refine s_mv rfl ?_)) | ((with_reducible refine k_len ?_); (first | (refine s_len rfl rfl ?_) | ((with_reducible apply s_len); (· rfl); (· exact SlOwn.len (by assumption))))) | ((with_reducible refine k_pick ?_); (first | (refine s_pickT rfl rfl ?_) | (refine s_pickF rfl rfl ?_))) | ((with_reducible refine k_not ?_); (refine s_not rfl (by first | exact Bool.not_true | exact Bool.not_false | rfl) ?_)) | ((with_reducible refine k_lss ?_); (refine s_lss rfl rfl ?_)) | ((with_reducible refine k_gtr ?_); (refine s_gtr rfl rfl ?_)) | ((with_reducible refine k_callF ?_); (first | ((with_reducible apply s_call1); (· rfl)) | ((with_reducible apply s_calln); (· rfl)))) | ((with_reducible refine k_con ?_); (first | ((with_reducible apply con_val (ct)); (· (repeat (first | exact All2.nil | (apply All2.cons; (· first | ((apply Rd_sl0); (· exact hpX); (· first | rfl | exact scal_i | exact scal_b | assumption); (· first | rfl | assumption | (simp [ownL_len]; done) | (simp [ownL_len]; omega))) | exact rdX))))); (· rfl); (· exact fun _ => rfl)) | ((with_reducible apply con_val (ca)); (· (repeat (first | exact All2.nil | (apply All2.cons; (· first | ((apply Rd_sl0); (· exact hpX); (· first | rfl | exact scal_i | exact scal_b | assumption); (· first | rfl | assumption | (simp [ownL_len]; done) | (simp [ownL_len]; omega))) | exact rdX))))); (· rfl); (· exact fun _ => rfl)) | ((with_reducible apply con_val (co)); (· (repeat (first | exact All2.nil | (apply All2.cons; (· first | ((apply Rd_sl0); (· exact hpX); (· first | rfl | exact scal_i | exact scal_b | assumption); (· first | rfl | assumption | (simp [ownL_len]; done) | (simp [ownL_len]; omega))) | exact rdX))))); (· rfl); (· exact fun _ => rfl)) | ((with_reducible apply con_of_pcon (cw)); (· (repeat (first | exact All2.nil | (apply All2.cons; (· first | ((apply Rd_sl0); (· exact hpX); (· first | rfl | exact scal_i | exact scal_b | assumption); (· first | rfl | assumption | (simp [ownL_len]; done) | (simp [ownL_len]; omega))) | exact rdX))))); intro kO hkO; (try simp only [upd_none] at hkO); simp only [thaw, thawC, List.map, thawH, owOf, owL]) | ((with_reducible apply con_val (cm)); (· (repeat (first | exact All2.nil | (apply All2.cons; (· first | ((apply Rd_sl0); (· exact hpX); (· first | rfl | exact scal_i | exact scal_b | assumption); (· first | rfl | assumption | (simp [ownL_len]; done) | (simp [ownL_len]; omega))) | exact rdX))))); (· rfl); (· exact fun _ => rfl)))) | ((with_reducible refine k_br ?_); (first | (with_reducible first | refine Br_dec ?_ | refine Br_not ?_ | refine Br_eqF ?_ | refine Br_and ?_ | refine Br_or ?_ | refine Br_neg ?_ | refine Br_band ?_ | refine Br_bor ?_ | refine Br_beq ?_) | (refine Br_t (by first | omega | assumption | rfl) ?_) | (refine Br_f (by first | omega | assumption | decide) ?_) | (with_reducible apply Br_sb <;> intro hbr <;> (first | subst hbr | simp only [hbr] | skip)) | (with_reducible apply Br_s <;> intro hbr))) | (with_reducible refine WN_succ ?_) | ((first | (with_reducible apply q_eqI) | (with_reducible apply q_eqN)); (first | (simp (disch := omega) only [w64, wu8, wu16, wu32, wu64, tm_nn, td_nn, fd_nn, Int.reduceAdd, Int.reduceSub, Int.reduceMul, Int.reduceDiv, Int.reduceMod, Int.reduceNeg, Int.reduceToNat, Int.toNat_natCast, Int.toNat_zero, Int.zero_add, Int.add_zero, Int.one_mul, Int.reducePow, Nat.mul_one, Nat.zero_add, Nat.add_zero, Nat.zero_mul, Nat.reduceAdd, Nat.reduceMul, Nat.reduceSub, Nat.min_eq_left, IntKind.bits, Nat.sub_zero, ownL_len]; try rfl; done) | rfl)) | ((first | (with_reducible apply q_eqL) | (with_reducible apply q_eqO)); (first | (simp (disch := omega) only [upd_self, upd_ne, upd_upd, rep, splice, List.take_succ_cons, List.take_zero, List.drop_succ_cons, List.drop_zero, List.cons_append, List.nil_append, List.append_nil, List.length_cons, List.length_nil, List.reduceReplicate, List.flatten_cons, List.flatten_nil, Nat.reduceAdd, Nat.reduceMul, Nat.reduceSub, Nat.zero_add, Nat.add_zero, List.getElem?_cons_zero, List.getElem?_cons_succ, ownL_len]; try rfl; done) | rfl)))
            all_goals first | (exfalso; omega) | (first | exact Fin_flat trivial rfl rfl | (refine Fin_tup trivial rfl ?_ (Nat.le_of_ble_eq_true rfl); (repeat (first | exact All2.nil | (apply All2.cons; (· first | exact exc_n | exact exc_e | exact exc_v rfl rfl | exact exc_o upd_self rfl rfl)))); done) | (refine Fin_own trivial rfl upd_self ?_ (Nat.le_of_ble_eq_true rfl); (repeat (first | exact All2.nil | (apply All2.cons; (· first | exact exc_n | exact exc_e | exact exc_v rfl rfl | exact exc_o upd_self rfl rfl)))); done) | exact Fin_nil trivial rfl | exact Fin_sl trivial rfl upd_self rfl rfl)
          · rw [if_neg h4]
            have h5 := hs.2 h4
            repeat' (first | (with_reducible first | refine W_seq ?_ | refine then_n ?_ | refine W_block ?_ | refine blk_n ?_ | refine blk_r ?_ | refine blk_e ?_ | refine W_skip ?_ | refine W_ret ?_ | refine then_r ?_) | (refine blk_j (by decide) ?_) | ((with_reducible refine s_reg ?_); intro K hK) | ((with_reducible refine k_nil ?_); (with_reducible apply s_nil hK); (· exact nmX); clear hK; clear K) | ((with_reducible refine k_cond ?_); (first | ((with_reducible apply s_condT); (· rfl); (· exact nmX)) | ((with_reducible apply s_condF); (· rfl); (· exact nmX)) | ((with_reducible apply s_condS); (· rfl); (· exact nmX); (· exact nmX)))) | ((with_reducible refine k_guard ?_); (first | (refine s_gt rfl ?_) | (refine s_gf1 rfl ?_) | (refine s_gfn rfl ?_) | (refine s_gx1 rfl ?_) | (refine s_gxn rfl ?_) | (refine s_gs rfl ?_))) | ((with_reducible refine k_mv ?_); (refine s_mv rfl ?_)) | ((with_reducible refine k_len ?_); (first | (refine s_len rfl rfl ?_) | ((with_reducible apply s_len); (· rfl); (· exact SlOwn.len (by assumption))))) | ((with_reducible refine k_pick ?_); (first | (refine s_pickT rfl rfl ?_) | (refine s_pickF rfl rfl ?_))) | ((with_reducible refine k_not ?_); (refine s_not rfl (by first | exact Bool.not_true | exact Bool.not_false | rfl) ?_)) | ((with_reducible refine k_lss ?_); (refine s_lss rfl rfl ?_)) | ((with_reducible refine k_gtr ?_); (refine s_gtr rfl rfl ?_)) | ((with_reducible refine k_callF ?_); (first | ((with_reducible apply s_call1); (· rfl)) | ((with_reducible apply s_calln); (· rfl)))) | ((with_reducible refine k_con ?_); (first | ((with_reducible apply con_val (ct)); (· (repeat (first | exact All2.nil | (apply All2.cons; (· first | ((apply Rd_sl0); (· exact hpX); (· first | rfl | exact scal_i | exact scal_b | assumption); (· first | rfl | assumption | (simp [ownL_len]; done) | (simp [ownL_len]; omega))) | exact rdX))))); (· rfl); (· exact fun _ => rfl)) | ((with_reducible apply con_val (ca)); (· (repeat (first | exact All2.nil | (apply All2.cons; (· first | ((apply Rd_sl0); (· exact hpX); (· first | rfl | exact scal_i | exact scal_b | assumption); (· first | rfl | assumption | (simp [ownL_len]; done) | (simp [ownL_len]; omega))) | exact rdX))))); (· rfl); (· exact fun _ => rfl)) | ((with_reducible apply con_val (co)); (· (repeat (first | exact All2.nil | (apply All2.cons; (· first | ((apply Rd_sl0); (· exact hpX); (· first | rfl | exact scal_i | exact scal_b | assumption); (· first | rfl | assumption | (simp [ownL_len]; done) | (simp [ownL_len]; omega))) | exact rdX))))); (· rfl); (· exact fun _ => rfl)) | ((with_reducible apply con_of_pcon (cw)); (· (repeat (first | exact All2.nil | (apply All2.cons; (· first | ((apply Rd_sl0); (· exact hpX); (· first | rfl | exact scal_i | exact scal_b | assumption); (· first | rfl | assumption | (simp [ownL_len]; done) | (simp [ownL_len]; omega))) | exact rdX))))); intro kO hkO; (try simp only [upd_none] at hkO); simp only [thaw, thawC, List.map, thawH, owOf, owL]) | ((with_reducible apply con_val (cm)); (· (repeat (first | exact All2.nil | (apply All2.cons; (· first | ((apply Rd_sl0); (· exact hpX); (· first | rfl | exact scal_i | exact scal_b | assumption); (· first | rfl | assumption | (simp [ownL_len]; done) | (simp [ownL_len]; omega))) | exact rdX))))); (· rfl); (· exact fun _ => rfl)))) | ((with_reducible refine k_br ?_); (first | (with_reducible first | refine Br_dec ?_ | refine Br_not ?_ | refine Br_eqF ?_ | refine Br_and ?_ | refine Br_or ?_ | refine Br_neg ?_ | refine Br_band ?_ | refine Br_bor ?_ | refine Br_beq ?_) | (refine Br_t (by first | omega | assumption | rfl) ?_) | (refine Br_f (by first | omega | assumption | decide) ?_) | (with_reducible apply Br_sb <;> intro hbr <;> (first | subst hbr | simp only [hbr] | skip)) | (with_reducible apply Br_s <;> intro hbr))) | (with_reducible refine WN_succ ?_) | ((first | (with_reducible apply q_eqI) | (with_reducible apply q_eqN)); (first | (simp (disch := omega) only [w64, wu8, wu16, wu32, wu64, tm_nn, td_nn, fd_nn, Int.reduceAdd, Int.reduceSub, Int.reduceMul, Int.reduceDiv, Int.reduceMod, Int.reduceNeg, Int.reduceToNat, Int.toNat_natCast, Int.toNat_zero, Int.zero_add, Int.add_zero, Int.one_mul, Int.reducePow, Nat.mul_one, Nat.zero_add, Nat.add_zero, Nat.zero_mul, Nat.reduceAdd, Nat.reduceMul, Nat.reduceSub, Nat.min_eq_left, IntKind.bits, Nat.sub_zero, ownL_len]; try rfl; done) | rfl)) | ((first | (with_reducible apply q_eqL) | (with_reducible apply q_eqO)); (first | (simp (disch := omega) only [upd_self, upd_ne, upd_upd, rep, splice, List.take_succ_cons, List.take_zero, List.drop_succ_cons, List.drop_zero, List.cons_append, List.nil_append, List.append_nil, List.length_cons, List.length_nil, List.reduceReplicate, List.flatten_cons, List.flatten_nil, Nat.reduceAdd, Nat.reduceMul, Nat.reduceSub, Nat.zero_add, Nat.add_zero, List.getElem?_cons_zero, List.getElem?_cons_succ, ownL_len]; try rfl; done) | rfl)))
            all_goals first | (exfalso; omega) | (first | exact Fin_flat trivial rfl rfl | (refine Fin_tup trivial rfl ?_ (Nat.le_of_ble_eq_true rfl); (repeat (first | exact All2.nil | (apply All2.cons; (· first | exact exc_n | exact exc_e | exact exc_v rfl rfl | exact exc_o upd_self rfl rfl)))); done) | (refine Fin_own trivial rfl upd_self ?_ (Nat.le_of_ble_eq_true rfl); (repeat (first | exact All2.nil | (apply All2.cons; (· first | exact exc_n | exact exc_e | exact exc_v rfl rfl | exact exc_o upd_self rfl rfl)))); done) | exact Fin_nil trivial rfl | exact Fin_sl trivial rfl upd_self rfl rfl)
        · rw [if_neg h3]
          rw [decide_eq_true (hm.2 h3)] at co
          repeat' (first | (with_reducible first | refine W_seq ?_ | refine then_n ?_ | refine W_block ?_ | refine blk_n ?_ | refine blk_r ?_ | refine blk_e ?_ | refine W_skip ?_ | refine W_ret ?_ | refine then_r ?_) | (refine blk_j (by decide) ?_) | ((with_reducible refine s_reg ?_); intro K hK) | ((with_reducible refine k_nil ?_); (with_reducible apply s_nil hK); (· exact nmX); clear hK; clear K) | ((with_reducible refine k_cond ?_); (first | ((with_reducible apply s_condT); (· rfl); (· exact nmX)) | ((with_reducible apply s_condF); (· rfl); (· exact nmX)) | ((with_reducible apply s_condS); (· rfl); (· exact nmX); (· exact nmX)))) | ((with_reducible refine k_guard ?_); (first | (refine s_gt rfl ?_) | (refine s_gf1 rfl ?_) | (refine s_gfn rfl ?_) | (refine s_gx1 rfl ?_) | (refine s_gxn rfl ?_) | (refine s_gs rfl ?_))) | ((with_reducible refine k_mv ?_); (refine s_mv rfl ?_)) | ((with_reducible refine k_len ?_); (first | (refine s_len rfl rfl ?_) | ((with_reducible apply s_len); (· rfl); (· exact SlOwn.len (by assumption))))) | ((with_reducible refine k_pick ?_); (first | (refine s_pickT rfl rfl ?_) | (refine s_pickF rfl rfl ?_))) | ((with_reducible refine k_not ?_); (refine s_not rfl (by first | exact Bool.not_true | exact Bool.not_false | rfl) ?_)) | ((with_reducible refine k_lss ?_); (refine s_lss rfl rfl ?_)) | ((with_reducible refine k_gtr ?_); (refine s_gtr rfl rfl ?_)) | ((with_reducible refine k_callF ?_); (first | ((with_reducible apply s_call1); (· rfl)) | ((with_reducible apply s_calln); (· rfl)))) | ((with_reducible refine k_con ?_); (first | ((with_reducible apply con_val (ct)); (· (exact agX)); (· rfl); (· exact fun _ => rfl)) | ((with_reducible apply con_val (ca)); (· (exact agX)); (· rfl); (· exact fun _ => rfl)) | ((with_reducible apply con_val (co)); (· (exact agX)); (· rfl); (· exact fun _ => rfl)))) | ((with_reducible refine k_br ?_); (first | (with_reducible first | refine Br_dec ?_ | refine Br_not ?_ | refine Br_eqF ?_ | refine Br_and ?_ | refine Br_or ?_ | refine Br_neg ?_ | refine Br_band ?_ | refine Br_bor ?_ | refine Br_beq ?_) | (refine Br_t (by first | omega | assumption | rfl) ?_) | (refine Br_f (by first | omega | assumption | decide) ?_) | (with_reducible apply Br_sb <;> intro hbr <;> (first | subst hbr | simp only [hbr] | skip)) | (with_reducible apply Br_s <;> intro hbr))) | (with_reducible refine WN_succ ?_) | ((first | (with_reducible apply q_eqI) | (with_reducible apply q_eqN)); (first | exact nuI | exact nuN)) | ((first | (with_reducible apply q_eqL) | (with_reducible apply q_eqO)); (first | exact liL | exact liO)))
          all_goals first | (exfalso; omega) | (first | exact Fin_flat trivial rfl rfl | (refine Fin_tup trivial rfl ?_ (Nat.le_of_ble_eq_true rfl); (repeat (first | exact All2.nil | (apply All2.cons; (· first | exact exc_n | exact exc_e | exact exc_v rfl rfl | exact exc_o upd_self rfl rfl)))); done) | (refine Fin_own trivial rfl upd_self ?_ (Nat.le_of_ble_eq_true rfl); (repeat (first | exact All2.nil | (apply All2.cons; (· first | exact exc_n | exact exc_e | exact exc_v rfl rfl | exact exc_o upd_self rfl rfl)))); done) | exact Fin_nil trivial rfl | exact Fin_sl trivial rfl upd_self rfl rfl)
      · rw [if_neg h2]
        rw [decide_eq_false h2] at ca
        repeat' (first | (with_reducible first | refine W_seq ?_ | refine then_n ?_ | refine W_block ?_ | refine blk_n ?_ | refine blk_r ?_ | refine blk_e ?_ | refine W_skip ?_ | refine W_ret ?_ | refine then_r ?_) | (refine blk_j (by decide) ?_) | ((with_reducible refine s_reg ?_); intro K hK) | ((with_reducible refine k_nil ?_); (with_reducible apply s_nil hK); (· exact nmX); clear hK; clear K) | ((with_reducible refine k_cond ?_); (first | ((with_reducible apply s_condT); (· rfl); (· exact nmX)) | ((with_reducible apply s_condF); (· rfl); (· exact nmX)) | ((with_reducible apply s_condS); (· rfl); (· exact nmX); (· exact nmX)))) | ((with_reducible refine k_guard ?_); (first | (refine s_gt rfl ?_) | (refine s_gf1 rfl ?_) | (refine s_gfn rfl ?_) | (refine s_gx1 rfl ?_) | (refine s_gxn rfl ?_) | (refine s_gs rfl ?_))) | ((with_reducible refine k_mv ?_); (refine s_mv rfl ?_)) | ((with_reducible refine k_len ?_); (first | (refine s_len rfl rfl ?_) | ((with_reducible apply s_len); (· rfl); (· exact SlOwn.len (by assumption))))) | ((with_reducible refine k_pick ?_); (first | (refine s_pickT rfl rfl ?_) | (refine s_pickF rfl rfl ?_))) | ((with_reducible refine k_not ?_); (refine s_not rfl (by first | exact Bool.not_true | exact Bool.not_false | rfl) ?_)) | ((with_reducible refine k_lss ?_); (refine s_lss rfl rfl ?_)) | ((with_reducible refine k_gtr ?_); (refine s_gtr rfl rfl ?_)) | ((with_reducible refine k_callF ?_); (first | ((with_reducible apply s_call1); (· rfl)) | ((with_reducible apply s_calln); (· rfl)))) | ((with_reducible refine k_con ?_); (first | ((with_reducible apply con_val (ct)); (· (exact agX)); (· rfl); (· exact fun _ => rfl)) | ((with_reducible apply con_val (ca)); (· (exact agX)); (· rfl); (· exact fun _ => rfl)))) | ((with_reducible refine k_br ?_); (first | (with_reducible first | refine Br_dec ?_ | refine Br_not ?_ | refine Br_eqF ?_ | refine Br_and ?_ | refine Br_or ?_ | refine Br_neg ?_ | refine Br_band ?_ | refine Br_bor ?_ | refine Br_beq ?_) | (refine Br_t (by first | omega | assumption | rfl) ?_) | (refine Br_f (by first | omega | assumption | decide) ?_) | (with_reducible apply Br_sb <;> intro hbr <;> (first | subst hbr | simp only [hbr] | skip)) | (with_reducible apply Br_s <;> intro hbr))) | (with_reducible refine WN_succ ?_) | ((first | (with_reducible apply q_eqI) | (with_reducible apply q_eqN)); (first | exact nuI | exact nuN)) | ((first | (with_reducible apply q_eqL) | (with_reducible apply q_eqO)); (first | exact liL | exact liO)))
        all_goals first | (exfalso; omega) | (first | exact Fin_flat trivial rfl rfl | (refine Fin_tup trivial rfl ?_ (Nat.le_of_ble_eq_true rfl); (repeat (first | exact All2.nil | (apply All2.cons; (· first | exact exc_n | exact exc_e | exact exc_v rfl rfl | exact exc_o upd_self rfl rfl)))); done) | (refine Fin_own trivial rfl upd_self ?_ (Nat.le_of_ble_eq_true rfl); (repeat (first | exact All2.nil | (apply All2.cons; (· first | exact exc_n | exact exc_e | exact exc_v rfl rfl | exact exc_o upd_self rfl rfl)))); done) | exact Fin_nil trivial rfl | exact Fin_sl trivial rfl upd_self rfl rfl)
    · rw [if_neg h1]
      rw [decide_eq_false h1] at ct
      repeat' (first | (with_reducible first | refine W_seq ?_ | refine then_n ?_ | refine W_block ?_ | refine blk_n ?_ | refine blk_r ?_ | refine blk_e ?_ | refine W_skip ?_ | refine W_ret ?_ | refine then_r ?_) | (refine blk_j (by decide) ?_) | ((with_reducible refine s_reg ?_); intro K hK) | ((with_reducible refine k_nil ?_); (with_reducible apply s_nil hK); (· exact nmX); clear hK; clear K) | ((with_reducible refine k_cond ?_); (first | ((with_reducible apply s_condT); (· rfl); (· exact nmX)) | ((with_reducible apply s_condF); (· rfl); (· exact nmX)) | ((with_reducible apply s_condS); (· rfl); (· exact nmX); (· exact nmX)))) | ((with_reducible refine k_guard ?_); (first | (refine s_gt rfl ?_) | (refine s_gf1 rfl ?_) | (refine s_gfn rfl ?_) | (refine s_gx1 rfl ?_) | (refine s_gxn rfl ?_) | (refine s_gs rfl ?_))) | ((with_reducible refine k_mv ?_); (refine s_mv rfl ?_)) | ((with_reducible refine k_len ?_); (first | (refine s_len rfl rfl ?_) | ((with_reducible apply s_len); (· rfl); (· exact SlOwn.len (by assumption))))) | ((with_reducible refine k_pick ?_); (first | (refine s_pickT rfl rfl ?_) | (refine s_pickF rfl rfl ?_))) | ((with_reducible refine k_not ?_); (refine s_not rfl (by first | exact Bool.not_true | exact Bool.not_false | rfl) ?_)) | ((with_reducible refine k_lss ?_); (refine s_lss rfl rfl ?_)) | ((with_reducible refine k_gtr ?_); (refine s_gtr rfl rfl ?_)) | ((with_reducible refine k_callF ?_); (first | ((with_reducible apply s_call1); (· rfl)) | ((with_reducible apply s_calln); (· rfl)))) | ((with_reducible refine k_con ?_); (first | ((with_reducible apply con_val (ct)); (· (exact agX)); (· rfl); (· exact fun _ => rfl)))) | ((with_reducible refine k_br ?_); (first | (with_reducible first | refine Br_dec ?_ | refine Br_not ?_ | refine Br_eqF ?_ | refine Br_and ?_ | refine Br_or ?_ | refine Br_neg ?_ | refine Br_band ?_ | refine Br_bor ?_ | refine Br_beq ?_) | (refine Br_t (by first | omega | assumption | rfl) ?_) | (refine Br_f (by first | omega | assumption | decide) ?_) | (with_reducible apply Br_sb <;> intro hbr <;> (first | subst hbr | simp only [hbr] | skip)) | (with_reducible apply Br_s <;> intro hbr))) | (with_reducible refine WN_succ ?_) | ((first | (with_reducible apply q_eqI) | (with_reducible apply q_eqN)); (first | exact nuI | exact nuN)) | ((first | (with_reducible apply q_eqL) | (with_reducible apply q_eqO)); (first | exact liL | exact liO)))
      all_goals first | (exfalso; omega) | (first | exact Fin_flat trivial rfl rfl | (refine Fin_tup trivial rfl ?_ (Nat.le_of_ble_eq_true rfl); (repeat (first | exact All2.nil | (apply All2.cons; (· first | exact exc_n | exact exc_e | exact exc_v rfl rfl | exact exc_o upd_self rfl rfl)))); done) | (refine Fin_own trivial rfl upd_self ?_ (Nat.le_of_ble_eq_true rfl); (repeat (first | exact All2.nil | (apply All2.cons; (· first | exact exc_n | exact exc_e | exact exc_v rfl rfl | exact exc_o upd_self rfl rfl)))); done) | exact Fin_nil trivial rfl | exact Fin_sl trivial rfl upd_self rfl rfl)
end Go.Proofs.Ytfdfmbmhefckaaa
end
section
/- Accounts: the reference's error of a list. -/
set_option linter.unusedSimpArgs false
set_option linter.unusedVariables false
namespace Go.Proofs.Ytfdfmbmhefckaaa
open Go.AM
set_option maxRecDepth 100000
set_option maxHeartbeats 4000000
end Go.Proofs.Ytfdfmbmhefckaaa
end
section
/- Accounts: paths, scopes, own usages, totals. -/
set_option linter.unusedSimpArgs false
set_option linter.unusedVariables false
namespace Go.Proofs.Ytfdfmbmhefckaaa
open Go.AM Classical
set_option maxRecDepth 100000
set_option maxHeartbeats 4000000
theorem chk_ok {l : List Acct} (h : chkF l = 0) : (0 < l.length ∧ l.length ≤ 8) ∧ treeP l ∧ amtP l ∧ maxP l ∧ sumP l := by
  unfold chkF at h
  split at h
  · omega
  · split at h
    · split at h
      · split at h
        · split at h
          · exact ⟨by omega, by assumption, by assumption, by assumption, by assumption⟩
          · omega
        · omega
      · omega
    · omega
theorem chk_mk {l : List Acct} (h : 0 < l.length ∧ l.length ≤ 8) (h1 : treeP l) (h2 : amtP l) (h3 : maxP l) (h4 : sumP l) : chkF l = 0 := by
  unfold chkF
  rw [if_neg (by omega), if_pos h1, if_pos h2, if_pos h3, if_pos h4]
def isP (l : List Acct) (a : Int) : Prop := chkF l = 0 ∧ 0 ≤ a ∧ a < l.length
theorem is_c (l : List Acct) (hL : l.length ≤ 9223372036854775807) (a : Int) : PCon Try.prog 84 [accs l, .int .i64 a] (.bool (decide (isP l a))) := by
  refine A84p (by simp [A84]) ?_
  simp only [A84, argEnv]
  have c1 := check_c l hL
  repeat' (first | (with_reducible first | refine W_seq ?_ | refine then_n ?_ | refine W_skip ?_ | refine W_ret ?_ | refine then_r ?_) | ((with_reducible refine s_reg ?_); intro K hK) | ((with_reducible refine k_nil ?_); (with_reducible apply s_nil hK); (· exact nmX); clear hK; clear K) | ((with_reducible refine k_guard ?_); (first | (refine s_gt rfl ?_) | (refine s_gf1 rfl ?_) | (refine s_gfn rfl ?_) | (refine s_gx1 rfl ?_) | (refine s_gxn rfl ?_) | (refine s_gs rfl ?_))) | ((with_reducible refine k_mv ?_); (refine s_mv rfl ?_)) | ((with_reducible refine k_len ?_); (first | (refine s_len rfl rfl ?_) | ((with_reducible apply s_len); (· rfl); (· exact SlOwn.len (by assumption))))) | ((with_reducible refine k_pick ?_); (first | (refine s_pickT rfl rfl ?_) | (refine s_pickF rfl rfl ?_))) | ((with_reducible refine k_eql ?_); (first | (refine s_eql rfl rfl ?_) | (refine s_strEq rfl rfl ?_))) | ((with_reducible refine k_lss ?_); (refine s_lss rfl rfl ?_)) | ((with_reducible refine k_geq ?_); (refine s_geq rfl rfl ?_)) | ((with_reducible refine k_callF ?_); (first | ((with_reducible apply s_call1); (· rfl)) | ((with_reducible apply s_calln); (· rfl)))) | ((with_reducible refine k_con ?_); (first | ((with_reducible apply con_val (c1)); (· (exact agX)); (· rfl); (· exact fun _ => rfl)))) | ((with_reducible refine k_br ?_); (first | (with_reducible first | refine Br_dec ?_ | refine Br_not ?_ | refine Br_eqF ?_ | refine Br_and ?_ | refine Br_or ?_ | refine Br_neg ?_ | refine Br_band ?_ | refine Br_bor ?_ | refine Br_beq ?_) | (refine Br_t (by first | omega | assumption | rfl) ?_) | (refine Br_f (by first | omega | assumption | decide) ?_) | (with_reducible apply Br_sb <;> intro hbr <;> (first | subst hbr | simp only [hbr] | skip)) | (with_reducible apply Br_s <;> intro hbr))) | (with_reducible refine WN_succ ?_) | ((first | (with_reducible apply q_eqI) | (with_reducible apply q_eqN)); (first | exact nuI | exact nuN)) | ((first | (with_reducible apply q_eqL) | (with_reducible apply q_eqO)); (first | exact liL | exact liO)))
  all_goals first | exact Fin_bt trivial rfl (by unfold isP; omega) | exact Fin_bf trivial rfl (by unfold isP; omega)
def pathG (l : List Acct) : Nat → Int → List Int
  | 0, _ => []
  | f + 1, a => if 0 ≤ a then a :: pathG l f (pa l a.toNat) else []
noncomputable def pathF (l : List Acct) (a : Int) : List Int := if isP l a then pathG l 8 a else []
theorem pathG_len (l : List Acct) : ∀ f a, (pathG l f a).length ≤ f
  | 0, _ => by simp [pathG]
  | f + 1, a => by
    unfold pathG
    split
    · have := pathG_len l f (pa l a.toNat); simp; omega
    · simp
theorem pathF_len (l : List Acct) (a : Int) : (pathF l a).length ≤ 8 := by
  unfold pathF
  split
  · exact pathG_len l 8 a
  · simp
theorem pa_lt {l : List Acct} (ht : treeP l) {a : Int} (h : 0 ≤ a ∧ a < l.length) : -1 ≤ pa l a.toNat ∧ pa l a.toNat < a := by
  have hi : a.toNat < l.length := by omega
  have := ht a.toNat hi hi
  rw [pa_at hi]
  unfold okP at this
  omega
theorem path_c (l : List Acct) (hL : l.length ≤ 9223372036854775807) (a : Int) : PCon Try.prog 86 [accs l, .int .i64 a] (.ow 1 ((pathF l a).map (.int .i64)) (pathF l a).length) := by
  have c1 := is_c l hL a
  refine A86p (by simp [A86]) ?_
  simp only [A86, argEnv]
  have hal := accs_len l
  by_cases h : isP l a
  · have e1 : pathF l a = pathG l 8 a := if_pos h
    obtain ⟨h0, ht, _⟩ := chk_ok h.1
    have ha := h.2
    rw [decide_eq_true h] at c1
    rw [e1]
    have hpl := pathG_len l 8 a
    repeat' (first | (with_reducible first | refine W_seq ?_ | refine then_n ?_ | refine W_block ?_ | refine blk_n ?_ | refine blk_r ?_ | refine blk_e ?_ | refine W_skip ?_ | refine W_ret ?_ | refine then_r ?_ | refine W_exit ?_ | refine then_e ?_) | (refine blk_j (by decide) ?_) | ((with_reducible refine s_reg ?_); intro K hK) | ((with_reducible refine k_nil ?_); (with_reducible apply s_nil hK); (· exact nmX); clear hK; clear K) | ((with_reducible refine k_cond ?_); (first | ((with_reducible apply s_condT); (· rfl); (· exact nmX)) | ((with_reducible apply s_condF); (· rfl); (· exact nmX)) | ((with_reducible apply s_condS); (· rfl); (· exact nmX); (· exact nmX)))) | ((with_reducible refine k_guard ?_); (first | (refine s_gt rfl ?_) | (refine s_gf1 rfl ?_) | (refine s_gfn rfl ?_) | (refine s_gx1 rfl ?_) | (refine s_gxn rfl ?_) | (refine s_gs rfl ?_))) | ((with_reducible refine k_mv ?_); (refine s_mv rfl ?_)) | ((with_reducible refine k_not ?_); (refine s_not rfl (by first | exact Bool.not_true | exact Bool.not_false | rfl) ?_)) | ((with_reducible refine k_geq ?_); (refine s_geq rfl rfl ?_)) | ((with_reducible refine k_iaddr ?_); (first | ((with_reducible apply s_iaddrV); (· rfl); (· rfl); (· (first | omega | exact ⟨rfl, by omega⟩ | skip))) | ((with_reducible apply s_iaddrO); (· rfl); (· rfl); (· (first | omega | exact ⟨rfl, by omega⟩ | skip)); (· (exact hpX))) | ((with_reducible apply s_iaddrSO); (· rfl); (· assumption); (· rfl); (· (first | omega | exact ⟨rfl, by omega⟩ | skip)); (· (first | exact nuI | exact nuN)); intro ks hks))) | ((with_reducible refine k_load ?_); (first | ((with_reducible apply s_loadV); (· rfl)) | ((with_reducible apply s_loadP); (· rfl); (· (exact hpX))))) | ((with_reducible refine k_faddr ?_); (first | ((with_reducible apply s_faddrV); (· rfl); (· rfl)) | ((with_reducible apply s_faddrP); (· rfl); (· rfl)))) | ((with_reducible refine k_buildS (dst := some 21) ?_); ((with_reducible apply s_buildS); (· rfl); (· (exact ⟨rfl, by decide⟩)); (· (first | (simp only [fillB, rep, splice, List.reduceReplicate, List.flatten_cons, List.flatten_nil, List.cons_append, List.nil_append, List.append_nil, List.length_cons, List.length_nil, Nat.reduceAdd, Nat.reduceMul, Nat.reduceLeDiff, Nat.reduceEqDiff, eq_self, Nat.le_refl, Nat.zero_add, and_self, and_true, true_and, if_true, List.take_zero, List.take_succ_cons, List.drop_zero, List.drop_succ_cons, List.drop_nil, List.take_nil]; rfl) | rfl)); intro k21 hk21; (try simp only [upd_none] at hk21))) | ((with_reducible refine k_append (dst := some 22) ?_); ((with_reducible apply s_app); (· rfl); (· rfl); (· first | assumption | exact SlOwn.nil | exact SlOwn.emp | exact SlOwn.sl upd_self rfl | ((repeat' (first | assumption | (with_reducible apply SlOwn.upd) | (simp only [upd_none]; assumption))); done) | ((apply SlOwn.sl); (· (exact hpX)); (· first | rfl | assumption))); (· rfl); (· first | exact srcD_sl upd_self rfl | (exact srcD_vs (by first | assumption | simp)) | ((apply srcD_sl); (· (exact hpX)); (· rfl))); (· exact ⟨by first | rfl | assumption | simp, by decide⟩); (· first | (rw [room_n]; omega) | skip); intro da22 ha22 hso22 hoth22)) | ((with_reducible refine k_callF ?_); (first | ((with_reducible apply s_call1); (· rfl)) | ((with_reducible apply s_calln); (· rfl)))) | ((with_reducible refine k_con ?_); (first | ((with_reducible apply con_val (c1)); (· (exact agX)); (· rfl); (· exact fun _ => rfl)))) | ((with_reducible refine k_br ?_); (first | (with_reducible first | refine Br_dec ?_ | refine Br_not ?_ | refine Br_eqF ?_ | refine Br_and ?_ | refine Br_or ?_ | refine Br_neg ?_ | refine Br_band ?_ | refine Br_bor ?_ | refine Br_beq ?_) | (refine Br_t (by first | omega | assumption | rfl) ?_) | (refine Br_f (by first | omega | assumption | decide) ?_) | (with_reducible apply Br_sb <;> intro hbr <;> (first | subst hbr | simp only [hbr] | skip)) | (with_reducible apply Br_s <;> intro hbr))) | (with_reducible refine WN_succ ?_) | ((first | (with_reducible apply q_eqI) | (with_reducible apply q_eqN)); (first | exact nuI | exact nuN)) | ((first | (with_reducible apply q_eqL) | (with_reducible apply q_eqO)); (first | exact liL | exact liO)))
    refine W_down 8 (fun f st => ∃ pre x d h', st = ⟨[(0, accs l), (5, d), (6, .int .i64 x)], h'⟩ ∧ SlOwn h' d 1 (pre.map (.int .i64)) pre.length ∧ pre ++ pathG l f x = pathG l 8 a ∧ x < f ∧ -1 ≤ x ∧ x < l.length) ⟨[], a, .nil, _, rfl, SlOwn.nil, rfl, by omega, by omega, by omega⟩ ?_
    rintro f e' h' ⟨pre, x, d, h1, he, ho, hp, hx⟩
    cases he
    have hpre : pre.length ≤ 8 := by have := congrArg List.length hp; rw [List.length_append] at this; omega
    by_cases hx0 : 0 ≤ x
    · obtain ⟨f, rfl⟩ : ∃ g, f = g + 1 := ⟨f - 1, by omega⟩
      have hxl : x.toNat < l.length := by omega
      have hpx := pa_lt ht (a := x) (by omega)
      have hpe := pa_at hxl
      repeat' (first | (with_reducible first | refine W_seq ?_ | refine then_n ?_ | refine W_block ?_ | refine blk_n ?_ | refine blk_r ?_ | refine blk_e ?_ | refine W_skip ?_ | refine W_ret ?_ | refine then_r ?_ | refine W_exit ?_ | refine then_e ?_) | (refine blk_j (by decide) ?_) | ((with_reducible refine s_reg ?_); intro K hK) | ((with_reducible refine k_nil ?_); (with_reducible apply s_nil hK); (· exact nmX); clear hK; clear K) | ((with_reducible refine k_cond ?_); (first | ((with_reducible apply s_condT); (· rfl); (· exact nmX)) | ((with_reducible apply s_condF); (· rfl); (· exact nmX)) | ((with_reducible apply s_condS); (· rfl); (· exact nmX); (· exact nmX)))) | ((with_reducible refine k_guard ?_); (first | (refine s_gt rfl ?_) | (refine s_gf1 rfl ?_) | (refine s_gfn rfl ?_) | (refine s_gx1 rfl ?_) | (refine s_gxn rfl ?_) | (refine s_gs rfl ?_))) | ((with_reducible refine k_mv ?_); (refine s_mv rfl ?_)) | ((with_reducible refine k_not ?_); (refine s_not rfl (by first | exact Bool.not_true | exact Bool.not_false | rfl) ?_)) | ((with_reducible refine k_geq ?_); (refine s_geq rfl rfl ?_)) | ((with_reducible refine k_iaddr ?_); (first | ((with_reducible apply s_iaddrV); (· rfl); (· rfl); (· (first | omega | exact ⟨rfl, by omega⟩ | skip))) | ((with_reducible apply s_iaddrO); (· rfl); (· rfl); (· (first | omega | exact ⟨rfl, by omega⟩ | skip)); (· (exact hpX))) | ((with_reducible apply s_iaddrSO); (· rfl); (· assumption); (· rfl); (· (first | omega | exact ⟨rfl, by omega⟩ | skip)); (· (first | (simp (disch := omega) only [w64, wu8, wu16, wu32, wu64, tm_nn, td_nn, fd_nn, Int.reduceAdd, Int.reduceSub, Int.reduceMul, Int.reduceDiv, Int.reduceMod, Int.reduceNeg, Int.reduceToNat, Int.toNat_natCast, Int.toNat_zero, Int.zero_add, Int.add_zero, Int.one_mul, Int.reducePow, Nat.mul_one, Nat.zero_add, Nat.add_zero, Nat.zero_mul, Nat.reduceAdd, Nat.reduceMul, Nat.reduceSub, Nat.min_eq_left, IntKind.bits, Nat.sub_zero, ac0, ← hpe]; try rfl; done) | rfl)); intro ks hks))) | ((with_reducible refine k_load ?_); (first | ((with_reducible apply s_loadV); (· rfl)) | ((with_reducible apply s_loadP); (· rfl); (· (exact hpX))))) | ((with_reducible refine k_faddr ?_); (first | ((with_reducible apply s_faddrV); (· rfl); (· rfl)) | ((with_reducible apply s_faddrP); (· rfl); (· rfl)))) | ((with_reducible refine k_buildS (dst := some 21) ?_); ((with_reducible apply s_buildS); (· rfl); (· (exact ⟨rfl, by decide⟩)); (· (first | (simp only [fillB, rep, splice, List.reduceReplicate, List.flatten_cons, List.flatten_nil, List.cons_append, List.nil_append, List.append_nil, List.length_cons, List.length_nil, Nat.reduceAdd, Nat.reduceMul, Nat.reduceLeDiff, Nat.reduceEqDiff, eq_self, Nat.le_refl, Nat.zero_add, and_self, and_true, true_and, if_true, List.take_zero, List.take_succ_cons, List.drop_zero, List.drop_succ_cons, List.drop_nil, List.take_nil]; rfl) | rfl)); intro k21 hk21; (try simp only [upd_none] at hk21))) | ((with_reducible refine k_append (dst := some 22) ?_); ((with_reducible apply s_app); (· rfl); (· rfl); (· first | assumption | exact SlOwn.nil | exact SlOwn.emp | exact SlOwn.sl upd_self rfl | ((repeat' (first | assumption | (with_reducible apply SlOwn.upd) | (simp only [upd_none]; assumption))); done) | ((apply SlOwn.sl); (· (exact hpX)); (· first | rfl | assumption))); (· rfl); (· first | exact srcD_sl upd_self rfl | (exact srcD_vs (by first | assumption | simp)) | ((apply srcD_sl); (· (exact hpX)); (· rfl))); (· exact ⟨by first | rfl | assumption | simp, by decide⟩); (· first | (rw [room_n]; omega) | skip); intro da22 ha22 hso22 hoth22)) | ((with_reducible refine k_callF ?_); (first | ((with_reducible apply s_call1); (· rfl)) | ((with_reducible apply s_calln); (· rfl)))) | ((with_reducible refine k_br ?_); (first | (with_reducible first | refine Br_dec ?_ | refine Br_not ?_ | refine Br_eqF ?_ | refine Br_and ?_ | refine Br_or ?_ | refine Br_neg ?_ | refine Br_band ?_ | refine Br_bor ?_ | refine Br_beq ?_) | (refine Br_t (by first | omega | assumption | rfl) ?_) | (refine Br_f (by first | omega | assumption | decide) ?_) | (with_reducible apply Br_sb <;> intro hbr <;> (first | subst hbr | simp only [hbr] | skip)) | (with_reducible apply Br_s <;> intro hbr))) | (with_reducible refine WN_succ ?_) | ((first | (with_reducible apply q_eqI) | (with_reducible apply q_eqN)); (first | (simp (disch := omega) only [w64, wu8, wu16, wu32, wu64, tm_nn, td_nn, fd_nn, Int.reduceAdd, Int.reduceSub, Int.reduceMul, Int.reduceDiv, Int.reduceMod, Int.reduceNeg, Int.reduceToNat, Int.toNat_natCast, Int.toNat_zero, Int.zero_add, Int.add_zero, Int.one_mul, Int.reducePow, Nat.mul_one, Nat.zero_add, Nat.add_zero, Nat.zero_mul, Nat.reduceAdd, Nat.reduceMul, Nat.reduceSub, Nat.min_eq_left, IntKind.bits, Nat.sub_zero, ac0, ← hpe]; try rfl; done) | rfl)) | ((first | (with_reducible apply q_eqL) | (with_reducible apply q_eqO)); (first | (simp (disch := omega) only [upd_self, upd_ne, upd_upd, rep, splice, List.take_succ_cons, List.take_zero, List.drop_succ_cons, List.drop_zero, List.cons_append, List.nil_append, List.append_nil, List.length_cons, List.length_nil, List.reduceReplicate, List.flatten_cons, List.flatten_nil, Nat.reduceAdd, Nat.reduceMul, Nat.reduceSub, Nat.zero_add, Nat.add_zero, List.getElem?_cons_zero, List.getElem?_cons_succ, ac0, ← hpe]; try rfl; done) | rfl)))
      refine ⟨f, by omega, pre ++ [x], pa l x.toNat, _, _, rfl, ?_, ?_, by omega, by omega, by omega⟩
      · rw [List.length_append]; exact map_snoc hso22
      · rw [← hp, pathG, if_pos hx0]; simp
    · repeat' (first | (with_reducible first | refine W_seq ?_ | refine then_n ?_ | refine W_block ?_ | refine blk_n ?_ | refine blk_r ?_ | refine blk_e ?_ | refine W_skip ?_ | refine W_ret ?_ | refine then_r ?_ | refine W_exit ?_ | refine then_e ?_) | (refine blk_j (by decide) ?_) | ((with_reducible refine s_reg ?_); intro K hK) | ((with_reducible refine k_nil ?_); (with_reducible apply s_nil hK); (· exact nmX); clear hK; clear K) | ((with_reducible refine k_cond ?_); (first | ((with_reducible apply s_condT); (· rfl); (· exact nmX)) | ((with_reducible apply s_condF); (· rfl); (· exact nmX)) | ((with_reducible apply s_condS); (· rfl); (· exact nmX); (· exact nmX)))) | ((with_reducible refine k_guard ?_); (first | (refine s_gt rfl ?_) | (refine s_gf1 rfl ?_) | (refine s_gfn rfl ?_) | (refine s_gx1 rfl ?_) | (refine s_gxn rfl ?_) | (refine s_gs rfl ?_))) | ((with_reducible refine k_mv ?_); (refine s_mv rfl ?_)) | ((with_reducible refine k_not ?_); (refine s_not rfl (by first | exact Bool.not_true | exact Bool.not_false | rfl) ?_)) | ((with_reducible refine k_geq ?_); (refine s_geq rfl rfl ?_)) | ((with_reducible refine k_iaddr ?_); (first | ((with_reducible apply s_iaddrV); (· rfl); (· rfl); (· (first | omega | exact ⟨rfl, by omega⟩ | skip))) | ((with_reducible apply s_iaddrO); (· rfl); (· rfl); (· (first | omega | exact ⟨rfl, by omega⟩ | skip)); (· (exact hpX))) | ((with_reducible apply s_iaddrSO); (· rfl); (· assumption); (· rfl); (· (first | omega | exact ⟨rfl, by omega⟩ | skip)); (· (first | exact nuI | exact nuN)); intro ks hks))) | ((with_reducible refine k_load ?_); (first | ((with_reducible apply s_loadV); (· rfl)) | ((with_reducible apply s_loadP); (· rfl); (· (exact hpX))))) | ((with_reducible refine k_faddr ?_); (first | ((with_reducible apply s_faddrV); (· rfl); (· rfl)) | ((with_reducible apply s_faddrP); (· rfl); (· rfl)))) | ((with_reducible refine k_buildS (dst := some 21) ?_); ((with_reducible apply s_buildS); (· rfl); (· (exact ⟨rfl, by decide⟩)); (· (first | (simp only [fillB, rep, splice, List.reduceReplicate, List.flatten_cons, List.flatten_nil, List.cons_append, List.nil_append, List.append_nil, List.length_cons, List.length_nil, Nat.reduceAdd, Nat.reduceMul, Nat.reduceLeDiff, Nat.reduceEqDiff, eq_self, Nat.le_refl, Nat.zero_add, and_self, and_true, true_and, if_true, List.take_zero, List.take_succ_cons, List.drop_zero, List.drop_succ_cons, List.drop_nil, List.take_nil]; rfl) | rfl)); intro k21 hk21; (try simp only [upd_none] at hk21))) | ((with_reducible refine k_append (dst := some 22) ?_); ((with_reducible apply s_app); (· rfl); (· rfl); (· first | assumption | exact SlOwn.nil | exact SlOwn.emp | exact SlOwn.sl upd_self rfl | ((repeat' (first | assumption | (with_reducible apply SlOwn.upd) | (simp only [upd_none]; assumption))); done) | ((apply SlOwn.sl); (· (exact hpX)); (· first | rfl | assumption))); (· rfl); (· first | exact srcD_sl upd_self rfl | (exact srcD_vs (by first | assumption | simp)) | ((apply srcD_sl); (· (exact hpX)); (· rfl))); (· exact ⟨by first | rfl | assumption | simp, by decide⟩); (· first | (rw [room_n]; omega) | skip); intro da22 ha22 hso22 hoth22)) | ((with_reducible refine k_callF ?_); (first | ((with_reducible apply s_call1); (· rfl)) | ((with_reducible apply s_calln); (· rfl)))) | ((with_reducible refine k_br ?_); (first | (with_reducible first | refine Br_dec ?_ | refine Br_not ?_ | refine Br_eqF ?_ | refine Br_and ?_ | refine Br_or ?_ | refine Br_neg ?_ | refine Br_band ?_ | refine Br_bor ?_ | refine Br_beq ?_) | (refine Br_t (by first | omega | assumption | rfl) ?_) | (refine Br_f (by first | omega | assumption | decide) ?_) | (with_reducible apply Br_sb <;> intro hbr <;> (first | subst hbr | simp only [hbr] | skip)) | (with_reducible apply Br_s <;> intro hbr))) | (with_reducible refine WN_succ ?_) | ((first | (with_reducible apply q_eqI) | (with_reducible apply q_eqN)); (first | exact nuI | exact nuN)) | ((first | (with_reducible apply q_eqL) | (with_reducible apply q_eqO)); (first | exact liL | exact liO)))
      have e2 : pathG l f x = [] := by cases f with | zero => rfl | succ f => rw [pathG, if_neg hx0]
      rw [e2, List.append_nil] at hp
      subst hp
      exact Fin_so trivial rfl ho scal_i
  · have e1 : pathF l a = [] := if_neg h
    rw [decide_eq_false h] at c1
    rw [e1]
    repeat' (first | (with_reducible first | refine W_seq ?_ | refine then_n ?_ | refine W_block ?_ | refine blk_n ?_ | refine blk_r ?_ | refine blk_e ?_ | refine W_skip ?_ | refine W_ret ?_ | refine then_r ?_ | refine W_exit ?_ | refine then_e ?_) | (refine blk_j (by decide) ?_) | ((with_reducible refine s_reg ?_); intro K hK) | ((with_reducible refine k_nil ?_); (with_reducible apply s_nil hK); (· exact nmX); clear hK; clear K) | ((with_reducible refine k_cond ?_); (first | ((with_reducible apply s_condT); (· rfl); (· exact nmX)) | ((with_reducible apply s_condF); (· rfl); (· exact nmX)) | ((with_reducible apply s_condS); (· rfl); (· exact nmX); (· exact nmX)))) | ((with_reducible refine k_guard ?_); (first | (refine s_gt rfl ?_) | (refine s_gf1 rfl ?_) | (refine s_gfn rfl ?_) | (refine s_gx1 rfl ?_) | (refine s_gxn rfl ?_) | (refine s_gs rfl ?_))) | ((with_reducible refine k_mv ?_); (refine s_mv rfl ?_)) | ((with_reducible refine k_not ?_); (refine s_not rfl (by first | exact Bool.not_true | exact Bool.not_false | rfl) ?_)) | ((with_reducible refine k_geq ?_); (refine s_geq rfl rfl ?_)) | ((with_reducible refine k_iaddr ?_); (first | ((with_reducible apply s_iaddrV); (· rfl); (· rfl); (· (first | omega | exact ⟨rfl, by omega⟩ | skip))) | ((with_reducible apply s_iaddrO); (· rfl); (· rfl); (· (first | omega | exact ⟨rfl, by omega⟩ | skip)); (· (exact hpX))) | ((with_reducible apply s_iaddrSO); (· rfl); (· assumption); (· rfl); (· (first | omega | exact ⟨rfl, by omega⟩ | skip)); (· (first | exact nuI | exact nuN)); intro ks hks))) | ((with_reducible refine k_load ?_); (first | ((with_reducible apply s_loadV); (· rfl)) | ((with_reducible apply s_loadP); (· rfl); (· (exact hpX))))) | ((with_reducible refine k_faddr ?_); (first | ((with_reducible apply s_faddrV); (· rfl); (· rfl)) | ((with_reducible apply s_faddrP); (· rfl); (· rfl)))) | ((with_reducible refine k_buildS (dst := some 21) ?_); ((with_reducible apply s_buildS); (· rfl); (· (exact ⟨rfl, by decide⟩)); (· (first | (simp only [fillB, rep, splice, List.reduceReplicate, List.flatten_cons, List.flatten_nil, List.cons_append, List.nil_append, List.append_nil, List.length_cons, List.length_nil, Nat.reduceAdd, Nat.reduceMul, Nat.reduceLeDiff, Nat.reduceEqDiff, eq_self, Nat.le_refl, Nat.zero_add, and_self, and_true, true_and, if_true, List.take_zero, List.take_succ_cons, List.drop_zero, List.drop_succ_cons, List.drop_nil, List.take_nil]; rfl) | rfl)); intro k21 hk21; (try simp only [upd_none] at hk21))) | ((with_reducible refine k_append (dst := some 22) ?_); ((with_reducible apply s_app); (· rfl); (· rfl); (· first | assumption | exact SlOwn.nil | exact SlOwn.emp | exact SlOwn.sl upd_self rfl | ((repeat' (first | assumption | (with_reducible apply SlOwn.upd) | (simp only [upd_none]; assumption))); done) | ((apply SlOwn.sl); (· (exact hpX)); (· first | rfl | assumption))); (· rfl); (· first | exact srcD_sl upd_self rfl | (exact srcD_vs (by first | assumption | simp)) | ((apply srcD_sl); (· (exact hpX)); (· rfl))); (· exact ⟨by first | rfl | assumption | simp, by decide⟩); (· first | (rw [room_n]; omega) | skip); intro da22 ha22 hso22 hoth22)) | ((with_reducible refine k_callF ?_); (first | ((with_reducible apply s_call1); (· rfl)) | ((with_reducible apply s_calln); (· rfl)))) | ((with_reducible refine k_con ?_); (first | ((with_reducible apply con_val (c1)); (· (exact agX)); (· rfl); (· exact fun _ => rfl)))) | ((with_reducible refine k_br ?_); (first | (with_reducible first | refine Br_dec ?_ | refine Br_not ?_ | refine Br_eqF ?_ | refine Br_and ?_ | refine Br_or ?_ | refine Br_neg ?_ | refine Br_band ?_ | refine Br_bor ?_ | refine Br_beq ?_) | (refine Br_t (by first | omega | assumption | rfl) ?_) | (refine Br_f (by first | omega | assumption | decide) ?_) | (with_reducible apply Br_sb <;> intro hbr <;> (first | subst hbr | simp only [hbr] | skip)) | (with_reducible apply Br_s <;> intro hbr))) | (with_reducible refine WN_succ ?_) | ((first | (with_reducible apply q_eqI) | (with_reducible apply q_eqN)); (first | exact nuI | exact nuN)) | ((first | (with_reducible apply q_eqL) | (with_reducible apply q_eqO)); (first | exact liL | exact liO)))
    all_goals first | exact Fin_flat trivial rfl rfl | (refine Fin_tup trivial rfl ?_ (Nat.le_of_ble_eq_true rfl); (repeat (first | exact All2.nil | (apply All2.cons; (· first | exact exc_n | exact exc_e | exact exc_v rfl rfl | exact exc_o upd_self rfl rfl)))); done) | (refine Fin_own trivial rfl upd_self ?_ (Nat.le_of_ble_eq_true rfl); (repeat (first | exact All2.nil | (apply All2.cons; (· first | exact exc_n | exact exc_e | exact exc_v rfl rfl | exact exc_o upd_self rfl rfl)))); done) | exact Fin_nil trivial rfl | exact Fin_sl trivial rfl upd_self rfl rfl
theorem index_c (l : List Int) (hl : l.length ≤ 1000000) (v : Int) : PCon Try.prog 92 [.vs 1 (l.map (.int .i64)) l.length, .int .i64 v] (.int .i64 (firstI (fun x => decide (v = x)) l)) := by
  refine A92p (by simp [A92]) ?_
  simp only [A92, argEnv]
  repeat' (first | (with_reducible first | refine W_seq ?_ | refine then_n ?_ | refine W_block ?_ | refine blk_n ?_ | refine blk_r ?_ | refine blk_e ?_ | refine W_skip ?_ | refine W_ret ?_ | refine then_r ?_ | refine W_exit ?_ | refine then_e ?_) | (refine blk_j (by decide) ?_) | ((with_reducible refine s_reg ?_); intro K hK) | ((with_reducible refine k_nil ?_); (with_reducible apply s_nil hK); (· exact nmX); clear hK; clear K) | ((with_reducible refine k_cond ?_); (first | ((with_reducible apply s_condT); (· rfl); (· exact nmX)) | ((with_reducible apply s_condF); (· rfl); (· exact nmX)) | ((with_reducible apply s_condS); (· rfl); (· exact nmX); (· exact nmX)))) | ((with_reducible refine k_guard ?_); (first | (refine s_gt rfl ?_) | (refine s_gf1 rfl ?_) | (refine s_gfn rfl ?_) | (refine s_gx1 rfl ?_) | (refine s_gxn rfl ?_) | (refine s_gs rfl ?_))) | ((with_reducible refine k_mv ?_); (refine s_mv rfl ?_)) | ((with_reducible refine k_len ?_); (first | (refine s_len rfl rfl ?_) | ((with_reducible apply s_len); (· rfl); (· exact SlOwn.len (by assumption))))) | ((with_reducible refine k_eql ?_); (first | (refine s_eql rfl rfl ?_) | (refine s_strEq rfl rfl ?_))) | ((with_reducible refine k_lss ?_); (refine s_lss rfl rfl ?_)) | ((with_reducible refine k_iaddr ?_); (first | ((with_reducible apply s_iaddrV); (· rfl); (· rfl); (· (first | omega | exact ⟨rfl, by omega⟩ | skip))) | ((with_reducible apply s_iaddrO); (· rfl); (· rfl); (· (first | omega | exact ⟨rfl, by omega⟩ | skip)); (· (exact hpX))) | ((with_reducible apply s_iaddrSO); (· rfl); (· assumption); (· rfl); (· (first | omega | exact ⟨rfl, by omega⟩ | skip)); (· (first | exact nuI | exact nuN)); intro ks hks))) | ((with_reducible refine k_load ?_); (first | ((with_reducible apply s_loadV); (· rfl)) | ((with_reducible apply s_loadP); (· rfl); (· (exact hpX))))) | ((with_reducible refine k_add ?_); ((with_reducible apply s_add); (· rfl); (· rfl))) | ((with_reducible refine k_br ?_); (first | (with_reducible first | refine Br_dec ?_ | refine Br_not ?_ | refine Br_eqF ?_ | refine Br_and ?_ | refine Br_or ?_ | refine Br_neg ?_ | refine Br_band ?_ | refine Br_bor ?_ | refine Br_beq ?_) | (refine Br_t (by first | omega | assumption | rfl) ?_) | (refine Br_f (by first | omega | assumption | decide) ?_) | (with_reducible apply Br_sb <;> intro hbr <;> (first | subst hbr | simp only [hbr] | skip)) | (with_reducible apply Br_s <;> intro hbr))) | (with_reducible refine WN_succ ?_) | ((first | (with_reducible apply q_eqI) | (with_reducible apply q_eqN)); (first | exact nuI | exact nuN)) | ((first | (with_reducible apply q_eqL) | (with_reducible apply q_eqO)); (first | exact liL | exact liO)))
  refine W_for l.length (fun i st => (∀ j (hj : j < i) (h : j < l.length), v ≠ l[j]) ∧ st = ⟨[(0, .vs 1 (l.map (.int .i64)) l.length), (1, .int .i64 v), (7, .int .i64 l.length), (8, .int .i64 i)], fun _ => none⟩) ⟨fun j hj => by omega, rfl⟩ ?_ ?_
  · rintro i e' h' hi ⟨ht, he⟩
    cases he
    repeat' (first | (with_reducible first | refine W_seq ?_ | refine then_n ?_ | refine W_block ?_ | refine blk_n ?_ | refine blk_r ?_ | refine blk_e ?_ | refine W_skip ?_ | refine W_ret ?_ | refine then_r ?_ | refine W_exit ?_ | refine then_e ?_) | (refine blk_j (by decide) ?_) | ((with_reducible refine s_reg ?_); intro K hK) | ((with_reducible refine k_nil ?_); (with_reducible apply s_nil hK); (· exact nmX); clear hK; clear K) | ((with_reducible refine k_cond ?_); (first | ((with_reducible apply s_condT); (· rfl); (· exact nmX)) | ((with_reducible apply s_condF); (· rfl); (· exact nmX)) | ((with_reducible apply s_condS); (· rfl); (· exact nmX); (· exact nmX)))) | ((with_reducible refine k_guard ?_); (first | (refine s_gt rfl ?_) | (refine s_gf1 rfl ?_) | (refine s_gfn rfl ?_) | (refine s_gx1 rfl ?_) | (refine s_gxn rfl ?_) | (refine s_gs rfl ?_))) | ((with_reducible refine k_mv ?_); (refine s_mv rfl ?_)) | ((with_reducible refine k_len ?_); (first | (refine s_len rfl rfl ?_) | ((with_reducible apply s_len); (· rfl); (· exact SlOwn.len (by assumption))))) | ((with_reducible refine k_eql ?_); (first | (refine s_eql rfl rfl ?_) | (refine s_strEq rfl rfl ?_))) | ((with_reducible refine k_lss ?_); (refine s_lss rfl rfl ?_)) | ((with_reducible refine k_iaddr ?_); (first | ((with_reducible apply s_iaddrV); (· rfl); (· rfl); (· (first | omega | exact ⟨rfl, by omega⟩ | skip))) | ((with_reducible apply s_iaddrO); (· rfl); (· rfl); (· (first | omega | exact ⟨rfl, by omega⟩ | skip)); (· (exact hpX))) | ((with_reducible apply s_iaddrSO); (· rfl); (· assumption); (· rfl); (· (first | omega | exact ⟨rfl, by omega⟩ | skip)); (· (first | (simp (disch := omega) only [w64, wu8, wu16, wu32, wu64, tm_nn, td_nn, fd_nn, Int.reduceAdd, Int.reduceSub, Int.reduceMul, Int.reduceDiv, Int.reduceMod, Int.reduceNeg, Int.reduceToNat, Int.toNat_natCast, Int.toNat_zero, Int.zero_add, Int.add_zero, Int.one_mul, Int.reducePow, Nat.mul_one, Nat.zero_add, Nat.add_zero, Nat.zero_mul, Nat.reduceAdd, Nat.reduceMul, Nat.reduceSub, Nat.min_eq_left, IntKind.bits, Nat.sub_zero, gm]; try rfl; done) | rfl)); intro ks hks))) | ((with_reducible refine k_load ?_); (first | ((with_reducible apply s_loadV); (· rfl)) | ((with_reducible apply s_loadP); (· rfl); (· (exact hpX))))) | ((with_reducible refine k_add ?_); ((with_reducible apply s_add); (· rfl); (· rfl))) | ((with_reducible refine k_br ?_); (first | (with_reducible first | refine Br_dec ?_ | refine Br_not ?_ | refine Br_eqF ?_ | refine Br_and ?_ | refine Br_or ?_ | refine Br_neg ?_ | refine Br_band ?_ | refine Br_bor ?_ | refine Br_beq ?_) | (refine Br_t (by first | omega | assumption | rfl) ?_) | (refine Br_f (by first | omega | assumption | decide) ?_) | (with_reducible apply Br_sb <;> intro hbr <;> (first | subst hbr | simp only [hbr] | skip)) | (with_reducible apply Br_s <;> intro hbr))) | (with_reducible refine WN_succ ?_) | ((first | (with_reducible apply q_eqI) | (with_reducible apply q_eqN)); (first | (simp (disch := omega) only [w64, wu8, wu16, wu32, wu64, tm_nn, td_nn, fd_nn, Int.reduceAdd, Int.reduceSub, Int.reduceMul, Int.reduceDiv, Int.reduceMod, Int.reduceNeg, Int.reduceToNat, Int.toNat_natCast, Int.toNat_zero, Int.zero_add, Int.add_zero, Int.one_mul, Int.reducePow, Nat.mul_one, Nat.zero_add, Nat.add_zero, Nat.zero_mul, Nat.reduceAdd, Nat.reduceMul, Nat.reduceSub, Nat.min_eq_left, IntKind.bits, Nat.sub_zero, gm]; try rfl; done) | rfl)) | ((first | (with_reducible apply q_eqL) | (with_reducible apply q_eqO)); (first | (simp (disch := omega) only [upd_self, upd_ne, upd_upd, rep, splice, List.take_succ_cons, List.take_zero, List.drop_succ_cons, List.drop_zero, List.cons_append, List.nil_append, List.append_nil, List.length_cons, List.length_nil, List.reduceReplicate, List.flatten_cons, List.flatten_nil, Nat.reduceAdd, Nat.reduceMul, Nat.reduceSub, Nat.zero_add, Nat.add_zero, List.getElem?_cons_zero, List.getElem?_cons_succ, gm]; try rfl; done) | rfl)))
    · rw [firstI_at hi (by simpa using hbr) (fun j hj => by simpa using ht j hj (by omega))]
      first | exact Fin_flat trivial rfl rfl | (refine Fin_tup trivial rfl ?_ (Nat.le_of_ble_eq_true rfl); (repeat (first | exact All2.nil | (apply All2.cons; (· first | exact exc_n | exact exc_e | exact exc_v rfl rfl | exact exc_o upd_self rfl rfl)))); done) | (refine Fin_own trivial rfl upd_self ?_ (Nat.le_of_ble_eq_true rfl); (repeat (first | exact All2.nil | (apply All2.cons; (· first | exact exc_n | exact exc_e | exact exc_v rfl rfl | exact exc_o upd_self rfl rfl)))); done) | exact Fin_nil trivial rfl | exact Fin_sl trivial rfl upd_self rfl rfl
    · refine ⟨fun j hj h => ?_, rfl⟩
      rcases Nat.lt_succ_iff_lt_or_eq.1 hj with h1 | rfl
      · exact ht j h1 h
      · exact hbr
  · rintro e' h' ⟨ht, he⟩
    cases he
    repeat' (first | (with_reducible first | refine W_seq ?_ | refine then_n ?_ | refine W_block ?_ | refine blk_n ?_ | refine blk_r ?_ | refine blk_e ?_ | refine W_skip ?_ | refine W_ret ?_ | refine then_r ?_ | refine W_exit ?_ | refine then_e ?_) | (refine blk_j (by decide) ?_) | ((with_reducible refine s_reg ?_); intro K hK) | ((with_reducible refine k_nil ?_); (with_reducible apply s_nil hK); (· exact nmX); clear hK; clear K) | ((with_reducible refine k_cond ?_); (first | ((with_reducible apply s_condT); (· rfl); (· exact nmX)) | ((with_reducible apply s_condF); (· rfl); (· exact nmX)) | ((with_reducible apply s_condS); (· rfl); (· exact nmX); (· exact nmX)))) | ((with_reducible refine k_guard ?_); (first | (refine s_gt rfl ?_) | (refine s_gf1 rfl ?_) | (refine s_gfn rfl ?_) | (refine s_gx1 rfl ?_) | (refine s_gxn rfl ?_) | (refine s_gs rfl ?_))) | ((with_reducible refine k_mv ?_); (refine s_mv rfl ?_)) | ((with_reducible refine k_len ?_); (first | (refine s_len rfl rfl ?_) | ((with_reducible apply s_len); (· rfl); (· exact SlOwn.len (by assumption))))) | ((with_reducible refine k_eql ?_); (first | (refine s_eql rfl rfl ?_) | (refine s_strEq rfl rfl ?_))) | ((with_reducible refine k_lss ?_); (refine s_lss rfl rfl ?_)) | ((with_reducible refine k_iaddr ?_); (first | ((with_reducible apply s_iaddrV); (· rfl); (· rfl); (· (first | omega | exact ⟨rfl, by omega⟩ | skip))) | ((with_reducible apply s_iaddrO); (· rfl); (· rfl); (· (first | omega | exact ⟨rfl, by omega⟩ | skip)); (· (exact hpX))) | ((with_reducible apply s_iaddrSO); (· rfl); (· assumption); (· rfl); (· (first | omega | exact ⟨rfl, by omega⟩ | skip)); (· (first | exact nuI | exact nuN)); intro ks hks))) | ((with_reducible refine k_load ?_); (first | ((with_reducible apply s_loadV); (· rfl)) | ((with_reducible apply s_loadP); (· rfl); (· (exact hpX))))) | ((with_reducible refine k_add ?_); ((with_reducible apply s_add); (· rfl); (· rfl))) | ((with_reducible refine k_br ?_); (first | (with_reducible first | refine Br_dec ?_ | refine Br_not ?_ | refine Br_eqF ?_ | refine Br_and ?_ | refine Br_or ?_ | refine Br_neg ?_ | refine Br_band ?_ | refine Br_bor ?_ | refine Br_beq ?_) | (refine Br_t (by first | omega | assumption | rfl) ?_) | (refine Br_f (by first | omega | assumption | decide) ?_) | (with_reducible apply Br_sb <;> intro hbr <;> (first | subst hbr | simp only [hbr] | skip)) | (with_reducible apply Br_s <;> intro hbr))) | (with_reducible refine WN_succ ?_) | ((first | (with_reducible apply q_eqI) | (with_reducible apply q_eqN)); (first | exact nuI | exact nuN)) | ((first | (with_reducible apply q_eqL) | (with_reducible apply q_eqO)); (first | exact liL | exact liO)))
    rw [firstI_no (fun j hj => by simpa using ht j hj hj)]
    first | exact Fin_flat trivial rfl rfl | (refine Fin_tup trivial rfl ?_ (Nat.le_of_ble_eq_true rfl); (repeat (first | exact All2.nil | (apply All2.cons; (· first | exact exc_n | exact exc_e | exact exc_v rfl rfl | exact exc_o upd_self rfl rfl)))); done) | (refine Fin_own trivial rfl upd_self ?_ (Nat.le_of_ble_eq_true rfl); (repeat (first | exact All2.nil | (apply All2.cons; (· first | exact exc_n | exact exc_e | exact exc_v rfl rfl | exact exc_o upd_self rfl rfl)))); done) | exact Fin_nil trivial rfl | exact Fin_sl trivial rfl upd_self rfl rfl
theorem contains_c (l : List Int) (hl : l.length ≤ 1000000) (v : Int) : PCon Try.prog 85 [.vs 1 (l.map (.int .i64)) l.length, .int .i64 v] (.bool (decide (v ∈ l))) := by
  refine A85p (by simp [A85]) ?_
  simp only [A85, argEnv]
  have c1 := index_c l hl v
  have hq : 0 ≤ firstI (fun x => decide (v = x)) l ↔ v ∈ l := by
    rw [firstI_nn]; simp
  repeat' (first | (with_reducible first | refine W_seq ?_ | refine then_n ?_ | refine W_skip ?_ | refine W_ret ?_ | refine then_r ?_) | ((with_reducible refine s_reg ?_); intro K hK) | ((with_reducible refine k_nil ?_); (with_reducible apply s_nil hK); (· exact nmX); clear hK; clear K) | ((with_reducible refine k_guard ?_); (first | (refine s_gt rfl ?_) | (refine s_gf1 rfl ?_) | (refine s_gfn rfl ?_) | (refine s_gx1 rfl ?_) | (refine s_gxn rfl ?_) | (refine s_gs rfl ?_))) | ((with_reducible refine k_mv ?_); (refine s_mv rfl ?_)) | ((with_reducible refine k_geq ?_); (refine s_geq rfl rfl ?_)) | ((with_reducible refine k_callF ?_); (first | ((with_reducible apply s_call1); (· rfl)) | ((with_reducible apply s_calln); (· rfl)))) | ((with_reducible refine k_con ?_); (first | ((with_reducible apply con_val (c1)); (· (exact agX)); (· rfl); (· exact fun _ => rfl)))) | ((with_reducible refine k_br ?_); (first | (with_reducible first | refine Br_dec ?_ | refine Br_not ?_ | refine Br_eqF ?_ | refine Br_and ?_ | refine Br_or ?_ | refine Br_neg ?_ | refine Br_band ?_ | refine Br_bor ?_ | refine Br_beq ?_) | (refine Br_t (by first | omega | assumption | rfl) ?_) | (refine Br_f (by first | omega | assumption | decide) ?_) | (with_reducible apply Br_sb <;> intro hbr <;> (first | subst hbr | simp only [hbr] | skip)) | (with_reducible apply Br_s <;> intro hbr))) | (with_reducible refine WN_succ ?_) | ((first | (with_reducible apply q_eqI) | (with_reducible apply q_eqN)); (first | exact nuI | exact nuN)) | ((first | (with_reducible apply q_eqL) | (with_reducible apply q_eqO)); (first | exact liL | exact liO)))
  all_goals first | exact Fin_bt trivial rfl (hq.1 (by omega)) | exact Fin_bf trivial rfl (fun h => by have := hq.2 h; omega)
def insP (l : List Acct) (a s : Int) : Prop := isP l a ∧ (s = -1 ∨ s ∈ pathF l a)
theorem inside_c (l : List Acct) (hL : l.length ≤ 9223372036854775807) (a s : Int) : PCon Try.prog 70 [accs l, .int .i64 a, .int .i64 s] (.bool (decide (insP l a s))) := by
  have c1 := is_c l hL a
  have c2 := path_c l hL a
  have c3 := contains_c (pathF l a) (by have := pathF_len l a; omega) s
  refine A70p (by simp [A70]) ?_
  simp only [A70, argEnv]
  repeat' (first | (with_reducible first | refine W_seq ?_ | refine then_n ?_ | refine W_skip ?_ | refine W_ret ?_ | refine then_r ?_) | ((with_reducible refine s_reg ?_); intro K hK) | ((with_reducible refine k_nil ?_); (with_reducible apply s_nil hK); (· exact nmX); clear hK; clear K) | ((with_reducible refine k_guard ?_); (first | (refine s_gt rfl ?_) | (refine s_gf1 rfl ?_) | (refine s_gfn rfl ?_) | (refine s_gx1 rfl ?_) | (refine s_gxn rfl ?_) | (refine s_gs rfl ?_))) | ((with_reducible refine k_mv ?_); (refine s_mv rfl ?_)) | ((with_reducible refine k_pick ?_); (first | (refine s_pickT rfl rfl ?_) | (refine s_pickF rfl rfl ?_))) | ((with_reducible refine k_eql ?_); (first | (refine s_eql rfl rfl ?_) | (refine s_strEq rfl rfl ?_))) | ((with_reducible refine k_callF ?_); (first | ((with_reducible apply s_call1); (· rfl)) | ((with_reducible apply s_calln); (· rfl)))) | ((with_reducible refine k_con ?_); (first | ((with_reducible apply con_valB (c1)); (· (exact agX))) | ((with_reducible apply con_of_pcon (c2)); (· (exact agX)); intro kO hkO; (try simp only [upd_none] at hkO); simp only [thaw, thawC, List.map, thawH, owOf, owL]) | ((with_reducible apply con_valB (c3)); (· (exact agX))))) | ((with_reducible refine k_br ?_); (first | (with_reducible first | refine Br_dec ?_ | refine Br_not ?_ | refine Br_eqF ?_ | refine Br_and ?_ | refine Br_or ?_ | refine Br_neg ?_ | refine Br_band ?_ | refine Br_bor ?_ | refine Br_beq ?_) | (refine Br_t (by first | omega | assumption | rfl) ?_) | (refine Br_f (by first | omega | assumption | decide) ?_) | (with_reducible apply Br_sb <;> intro hbr <;> (first | subst hbr | simp only [hbr] | skip)) | (with_reducible apply Br_s <;> intro hbr))) | (with_reducible refine WN_succ ?_) | ((first | (with_reducible apply q_eqI) | (with_reducible apply q_eqN)); (first | exact nuI | exact nuN)) | ((first | (with_reducible apply q_eqL) | (with_reducible apply q_eqO)); (first | exact liL | exact liO)))
  all_goals first | exact Fin_bt trivial rfl (by unfold insP; simp only [*, true_or, or_true, and_self]) | exact Fin_bf trivial rfl (by unfold insP; simp only [*, false_or, false_and, and_false, or_self, not_false_eq_true])
end Go.Proofs.Ytfdfmbmhefckaaa
end
section
/- Accounts: margins, charges. -/
set_option linter.unusedSimpArgs false
set_option linter.unusedVariables false
namespace Go.Proofs.Ytfdfmbmhefckaaa
open Go.AM Classical
set_option maxRecDepth 100000
set_option maxHeartbeats 4000000
def mx (l : List Acct) (j : Nat) : Int := if h : j < l.length then l[j].max else 0
theorem pathG_in {l : List Acct} (ht : treeP l) : ∀ (f : Nat) (a : Int), a < l.length → ∀ x ∈ pathG l f a, 0 ≤ x ∧ x < l.length ∧ x ≤ a
  | 0, _, _, x, hx => by simp [pathG] at hx
  | f + 1, a, ha, x, hx => by
    unfold pathG at hx
    split at hx
    · rename_i h0
      rcases List.mem_cons.1 hx with rfl | hx
      · exact ⟨h0, ha, Int.le_refl _⟩
      · have := pa_lt ht (a := a) ⟨h0, ha⟩
        have := pathG_in ht f (pa l a.toNat) (by omega) x hx
        omega
    · simp at hx
theorem pathF_in {l : List Acct} {a : Int} {x : Int} (hx : x ∈ pathF l a) : 0 ≤ x ∧ x < l.length := by
  unfold pathF at hx
  split at hx
  · rename_i h
    have := pathG_in (chk_ok h.1).2.1 8 a h.2.2 x hx
    omega
  · simp at hx
end Go.Proofs.Ytfdfmbmhefckaaa
end
section
/- Accounts: paths, sums. -/
set_option linter.unusedSimpArgs false
set_option linter.unusedVariables false
namespace Go.Proofs.Ytfdfmbmhefckaaa
open Go.AM Classical
set_option maxRecDepth 100000
set_option maxHeartbeats 4000000
theorem pathF_is {l : List Acct} {a : Int} (h : isP l a) : pathF l a = pathG l 8 a := if_pos h
theorem pathG_self {l : List Acct} {f : Nat} {a : Int} (h : 0 ≤ a) : a ∈ pathG l (f + 1) a := by
  rw [pathG, if_pos h]; simp
theorem pathF_self {l : List Acct} {a : Int} (h : isP l a) : a ∈ pathF l a := by rw [pathF_is h]; exact pathG_self h.2.1
theorem pathG_mem {l : List Acct} (ht : treeP l) : ∀ (f : Nat) (a : Int), a < l.length → a < f → ∀ x ∈ pathG l f a, (0 ≤ pa l x.toNat → pa l x.toNat ∈ pathG l f a) ∧ (x ≠ a → ∃ c ∈ pathG l f a, 0 < c ∧ pa l c.toNat = x)
  | 0, _, _, _, x, hx => by simp [pathG] at hx
  | f + 1, a, ha, hf, x, hx => by
    unfold pathG at hx ⊢
    split at hx
    · rename_i h0
      rw [if_pos h0]
      have h1 := pa_lt ht (a := a) ⟨h0, ha⟩
      have ih := pathG_mem ht f (pa l a.toNat) (by omega) (by omega)
      rcases List.mem_cons.1 hx with rfl | hx
      · refine ⟨fun h => List.mem_cons_of_mem _ ?_, fun h => absurd rfl h⟩
        obtain ⟨g, rfl⟩ : ∃ g, f = g + 1 := ⟨f - 1, by omega⟩
        exact pathG_self h
      · obtain ⟨i1, i2⟩ := ih x hx
        refine ⟨fun h => List.mem_cons_of_mem _ (i1 h), fun h => ?_⟩
        have hx2 := pathG_in ht f _ (by omega) x hx
        by_cases hxp : x = pa l a.toNat
        · exact ⟨a, by simp, by omega, hxp.symm⟩
        · obtain ⟨c, hc, h2⟩ := i2 hxp
          exact ⟨c, List.mem_cons_of_mem _ hc, h2⟩
    · simp at hx
theorem pathG_gap {l : List Acct} (ht : treeP l) : ∀ (f : Nat) (a : Int), a < l.length → ∀ x ∈ pathG l f a, ∀ y ∈ pathG l f a, y < x → y ≤ pa l x.toNat
  | 0, _, _, x, hx, _, _, _ => by simp [pathG] at hx
  | f + 1, a, ha, x, hx, y, hy, hyx => by
    unfold pathG at hx hy
    split at hx
    · rename_i h0
      rw [if_pos h0] at hy
      have h1 := pa_lt ht (a := a) ⟨h0, ha⟩
      rcases List.mem_cons.1 hx with rfl | hx
      · rcases List.mem_cons.1 hy with rfl | hy
        · omega
        · exact (pathG_in ht f _ (by omega) y hy).2.2
      · have hx2 := pathG_in ht f _ (by omega) x hx
        rcases List.mem_cons.1 hy with rfl | hy
        · omega
        · exact pathG_gap ht f _ (by omega) x hx y hy hyx
    · simp at hx
theorem pathF_up {l : List Acct} {a x : Int} (h : isP l a) (hx : x ∈ pathF l a) (h0 : 0 ≤ pa l x.toNat) : pa l x.toNat ∈ pathF l a := by
  obtain ⟨hl, ht, _⟩ := chk_ok h.1
  have h2 := h.2
  rw [pathF_is h] at hx ⊢
  exact (pathG_mem ht 8 a h2.2 (by omega) x hx).1 h0
theorem pathF_down {l : List Acct} {a x : Int} (h : isP l a) (hx : x ∈ pathF l a) (h0 : x ≠ a) : ∃ c ∈ pathF l a, 0 < c ∧ pa l c.toNat = x := by
  obtain ⟨hl, ht, _⟩ := chk_ok h.1
  have h2 := h.2
  rw [pathF_is h] at hx ⊢
  exact (pathG_mem ht 8 a h2.2 (by omega) x hx).2 h0
theorem pathF_gap {l : List Acct} {a x y : Int} (h : isP l a) (hx : x ∈ pathF l a) (hy : y ∈ pathF l a) (hyx : y < x) : y ≤ pa l x.toNat := by
  obtain ⟨hl, ht, _⟩ := chk_ok h.1
  rw [pathF_is h] at hx hy
  exact pathG_gap ht 8 a h.2.2 x hx y hy hyx
theorem pathF_le {l : List Acct} {a x : Int} (h : isP l a) (hx : x ∈ pathF l a) : x ≤ a := by
  obtain ⟨hl, ht, _⟩ := chk_ok h.1
  rw [pathF_is h] at hx
  exact (pathG_in ht 8 a h.2.2 x hx).2.2
end Go.Proofs.Ytfdfmbmhefckaaa
end
section
/- Protection: sums over the tree, effective guarantees, who is guarded. -/
set_option linter.unusedSimpArgs false
set_option linter.unusedVariables false
namespace Go.Proofs.Ytfdfmbmhefckaaa
open Go.AM Classical
set_option maxRecDepth 100000
set_option maxHeartbeats 4000000
def kT (l : List Acct) (f : Nat → Int) (j : Int) : Nat → Int
  | 0 => 0
  | c + 1 => kT l f j c + (if 0 < c ∧ pa l c = j then f c else 0)
theorem kT_s (l : List Acct) (f : Nat → Int) (j : Int) (c : Nat) : kT l f j (c + 1) = kT l f j c + (if 0 < c ∧ pa l c = j then f c else 0) := rfl
theorem kT_zero {l : List Acct} (ht : treeP l) {f : Nat → Int} {j : Nat} : ∀ {n : Nat}, n ≤ j + 1 → n ≤ l.length → kT l f j n = 0
  | 0, _, _ => rfl
  | n + 1, hn, hl => by
    rw [kT_s, kT_zero ht (by omega) (by omega), if_neg, Int.add_zero]
    rintro ⟨h0, h1⟩
    have h2 := ht n (by omega) (by omega)
    unfold okP at h2
    rw [pa_at (by omega)] at h1
    omega
theorem kT_in {l : List Acct} {f : Nat → Int} {b : Int} (hf : ∀ c, 0 ≤ f c ∧ f c ≤ b) (j : Int) : ∀ n : Nat, 0 ≤ kT l f j n ∧ kT l f j n ≤ n * b
  | 0 => by simp [kT]
  | n + 1 => by
    have := kT_in (l := l) hf j n
    have := hf n
    have e : ((n + 1 : Nat) : Int) * b = n * b + b := by rw [Int.natCast_succ, Int.add_mul, Int.one_mul]
    rw [kT_s]
    split <;> omega
theorem kT_add {l : List Acct} {f g : Nat → Int} (j : Int) : ∀ n : Nat, kT l (fun c => f c + g c) j n = kT l f j n + kT l g j n
  | 0 => rfl
  | n + 1 => by
    rw [kT_s, kT_s, kT_s, kT_add j n]; split <;> omega
theorem kT_path {l : List Acct} {a : Int} (h : isP l a) (w : Int) (j : Nat) : ∀ c, c ≤ l.length → kT l (fun k => if (k : Int) ∈ pathG l 8 a then w else 0) j c = (if ∃ d : Nat, d < c ∧ 0 < d ∧ (d : Int) ∈ pathG l 8 a ∧ pa l d = j then w else 0)
  | 0, _ => by
    rw [if_neg (by rintro ⟨d, h, _⟩; omega)]; rfl
  | c + 1, hc => by
    rw [kT_s, kT_path h w j c (by omega)]
    by_cases h1 : 0 < c ∧ pa l c = j
    · rw [if_pos h1]
      by_cases h2 : (c : Int) ∈ pathG l 8 a
      · have hR : ∃ d : Nat, d < c + 1 ∧ 0 < d ∧ (d : Int) ∈ pathG l 8 a ∧ pa l d = j := ⟨c, by omega, h1.1, h2, h1.2⟩
        have hL : ¬ ∃ d : Nat, d < c ∧ 0 < d ∧ (d : Int) ∈ pathG l 8 a ∧ pa l d = j := by
          rintro ⟨d, hd, hd0, hdm, hdp⟩
          have := pathF_gap h (x := (c : Int)) (by rw [pathF_is h]; exact h2) (y := (d : Int)) (by rw [pathF_is h]; exact hdm) (by omega)
          rw [Int.toNat_natCast, h1.2] at this
          have h3 := pa_lt (chk_ok h.1).2.1 (a := (d : Int)) (by omega)
          rw [Int.toNat_natCast, hdp] at h3
          omega
        rw [if_pos h2, if_pos hR, if_neg hL]; omega
      · rw [if_neg h2, Int.add_zero]
        congr 1
        refine propext ⟨fun ⟨d, hd, r⟩ => ⟨d, by omega, r⟩, fun ⟨d, hd, r⟩ => ?_⟩
        rcases Nat.lt_succ_iff_lt_or_eq.1 hd with h3 | rfl
        · exact ⟨d, h3, r⟩
        · exact absurd r.2.1 h2
    · rw [if_neg h1, Int.add_zero]
      congr 1
      refine propext ⟨fun ⟨d, hd, r⟩ => ⟨d, by omega, r⟩, fun ⟨d, hd, r⟩ => ?_⟩
      rcases Nat.lt_succ_iff_lt_or_eq.1 hd with h3 | rfl
      · exact ⟨d, h3, r⟩
      · exact absurd ⟨r.1, r.2.2⟩ h1
def insN (l : List Acct) (v : Nat → Int) (x : Int) : Nat → Int
  | 0 => 0
  | c + 1 => insN l v x c + (if x ∈ pathG l 8 (c : Int) then v c else 0)
theorem insN_s (l : List Acct) (v : Nat → Int) (x : Int) (c : Nat) : insN l v x (c + 1) = insN l v x c + (if x ∈ pathG l 8 (c : Int) then v c else 0) := rfl
def insF (l : List Acct) (v : Nat → Int) (x : Int) : Int := insN l v x l.length
theorem insN_in {l : List Acct} {v : Nat → Int} {b : Int} (hv : ∀ c, 0 ≤ v c ∧ v c ≤ b) (x : Int) : ∀ n : Nat, 0 ≤ insN l v x n ∧ insN l v x n ≤ n * b
  | 0 => by simp [insN]
  | n + 1 => by
    have := insN_in (l := l) hv x n
    have := hv n
    have e : ((n + 1 : Nat) : Int) * b = n * b + b := by rw [Int.natCast_succ, Int.add_mul, Int.one_mul]
    rw [insN_s]
    split <;> omega
theorem isP_mk {l : List Acct} (hc : chkF l = 0) {c : Nat} (h : c < l.length) : isP l (c : Int) := ⟨hc, by omega, by omega⟩
theorem insN_rec {l : List Acct} (hc : chkF l = 0) (v : Nat → Int) {x : Nat} (hx : x < l.length) : ∀ n : Nat, n ≤ l.length → insN l v x n = (if x < n then v x else 0) + kT l (fun k => insN l v k n) x l.length
  | 0, _ => by
    have : ∀ m, kT l (fun k => insN l v k 0) x m = 0 := by
      intro m
      induction m with
      | zero => rfl
      | succ m ih => rw [kT_s, ih]; simp [insN]
    rw [this]; rfl
  | c + 1, hn => by
    have hp := isP_mk hc (c := c) (by omega)
    have ih := insN_rec hc v hx c (by omega)
    have e1 : kT l (fun k => insN l v k (c + 1)) x l.length = kT l (fun k => insN l v k c) x l.length + kT l (fun k => if (k : Int) ∈ pathG l 8 (c : Int) then v c else 0) x l.length := kT_add _ _
    rw [e1, kT_path hp _ _ _ (Nat.le_refl _)]
    rw [insN_s, ih]
    have hpx : (x : Int) ∈ pathG l 8 (c : Int) ↔ x = c ∨ ∃ d : Nat, d < l.length ∧ 0 < d ∧ (d : Int) ∈ pathG l 8 (c : Int) ∧ pa l d = x := by
      rw [← pathF_is hp]
      constructor
      · intro h
        by_cases h1 : x = c
        · exact .inl h1
        · obtain ⟨d, h2, h3, h4⟩ := pathF_down hp h (by omega)
          have h5 := pathF_in h2
          exact .inr ⟨d.toNat, by omega, by omega, by rwa [Int.toNat_of_nonneg (by omega)], h4⟩
      · rintro (rfl | ⟨d, _, h0, hd, hpd⟩)
        · exact pathF_self hp
        · have := pathF_up hp hd (by rw [Int.toNat_natCast, hpd]; omega)
          rwa [Int.toNat_natCast, hpd] at this
    by_cases h1 : ∃ d : Nat, d < l.length ∧ 0 < d ∧ (d : Int) ∈ pathG l 8 (c : Int) ∧ pa l d = x
    · have hxc : x ≠ c := by
        rintro rfl
        obtain ⟨d, h2, h3, h4, h5⟩ := h1
        have h6 := pathF_le hp (by rw [pathF_is hp]; exact h4)
        have h7 := pa_lt (chk_ok hc).2.1 (a := (d : Int)) (by omega)
        rw [Int.toNat_natCast, h5] at h7
        omega
      rw [if_pos (hpx.2 (.inr h1)), if_pos h1]
      by_cases h2 : x < c
      · rw [if_pos h2, if_pos (by omega)]; omega
      · rw [if_neg h2, if_neg (by omega)]; omega
    · rw [if_neg h1]
      by_cases h2 : x = c
      · subst h2
        rw [if_pos (hpx.2 (.inl rfl)), if_neg (by omega), if_pos (by omega)]; omega
      · rw [if_neg (fun h : (x : Int) ∈ pathG l 8 (c : Int) => (hpx.1 h).elim h2 h1)]
        by_cases h3 : x < c
        · rw [if_pos h3, if_pos (by omega)]; omega
        · rw [if_neg h3, if_neg (by omega)]; omega
theorem ins_rec {l : List Acct} (hc : chkF l = 0) (v : Nat → Int) {x : Nat} (hx : x < l.length) : insF l v x = v x + kT l (fun k => insF l v k) x l.length := by
  have := insN_rec hc v hx l.length (Nat.le_refl _)
  rwa [if_pos hx] at this
def downTo (l : List Acct) (v g : Nat → Int) (m : Nat) : List Int := (List.range l.length).map fun j => (if m ≤ j then v j else 0) + (kT l g j l.length - kT l g j m)
theorem downTo_len (l : List Acct) (v g : Nat → Int) (m : Nat) : (downTo l v g m).length = l.length := by simp [downTo]
theorem downTo_at {l : List Acct} {v g : Nat → Int} {m j : Nat} (h : j < (downTo l v g m).length) : (downTo l v g m)[j] = (if m ≤ j then v j else 0) + (kT l g j l.length - kT l g j m) := by simp [downTo]
theorem downTo_end (l : List Acct) (v g : Nat → Int) : downTo l v g l.length = (List.replicate l.length 0 : List Int) := by
  apply List.ext_getElem (by simp [downTo])
  intro j h1 h2
  rw [downTo_at h1, if_neg (by rw [downTo_len] at h1; omega)]
  simp
theorem downTo_g {l : List Acct} {v g : Nat → Int} {m j : Nat} (h : j < l.length) : (downTo l v g m)[j]? = some ((if m ≤ j then v j else 0) + (kT l g j l.length - kT l g j m)) := by
  rw [List.getElem?_eq_getElem (by rw [downTo_len]; exact h), downTo_at]
theorem downTo_d {l : List Acct} {v g : Nat → Int} {m j : Nat} (h : j < l.length) : (downTo l v g m).getD j 0 = (if m ≤ j then v j else 0) + (kT l g j l.length - kT l g j m) := by
  rw [List.getD_eq_getElem?_getD, downTo_g h]; rfl
theorem downTo_step {l : List Acct} (ht : treeP l) (v g : Nat → Int) {m : Nat} (hm : m < l.length) :
    downTo l v g m = (if 0 < m then ((downTo l v g (m + 1)).set m ((downTo l v g (m + 1)).getD m 0 + v m)).set (pa l m).toNat ((downTo l v g (m + 1)).getD (pa l m).toNat 0 + g m) else (downTo l v g (m + 1)).set m ((downTo l v g (m + 1)).getD m 0 + v m)) := by
  have hp := ht m hm hm
  unfold okP at hp
  rw [← pa_at hm] at hp
  apply List.ext_getElem?
  intro j
  by_cases hj : j < l.length
  · have hk : ∀ i : Int, kT l g i (m + 1) = kT l g i m + (if 0 < m ∧ pa l m = i then g m else 0) := fun i => rfl
    rw [downTo_g hj]
    by_cases h0 : 0 < m
    · rw [if_pos h0]
      have hpp : 0 ≤ pa l m ∧ pa l m < m := by rcases hp with h | h <;> omega
      by_cases hjp : j = (pa l m).toNat
      · subst hjp
        rw [List.getElem?_set_self (by rw [List.length_set, downTo_len]; exact hj), downTo_d hj, hk, if_neg (show ¬ m ≤ (pa l m).toNat by omega), if_neg (show ¬ m + 1 ≤ (pa l m).toNat by omega), if_pos (show 0 < m ∧ pa l m = ((pa l m).toNat : Int) by omega)]
        congr 1; omega
      · rw [List.getElem?_set_ne (by omega)]
        by_cases hji : j = m
        · subst hji
          rw [List.getElem?_set_self (by rw [downTo_len]; exact hj), downTo_d hj, if_pos (Nat.le_refl _), if_neg (by omega), hk, if_neg (by omega)]
          congr 1; try omega
        · rw [List.getElem?_set_ne (by omega), downTo_g hj, hk, if_neg (by omega : ¬(0 < m ∧ pa l m = j))]
          congr 1
          by_cases h3 : m ≤ j
          · rw [if_pos h3, if_pos (by omega)]; try omega
          · rw [if_neg h3, if_neg (by omega)]; try omega
    · rw [if_neg h0]
      obtain rfl : m = 0 := by omega
      by_cases hji : j = 0
      · subst hji
        rw [List.getElem?_set_self (by rw [downTo_len]; exact hj), downTo_d hj, if_pos (Nat.le_refl _), if_neg (by omega), hk, if_neg (by omega)]
        congr 1; try omega
      · rw [List.getElem?_set_ne (by omega), downTo_g hj, hk, if_pos (by omega), if_pos (by omega), if_neg (by omega)]
        congr 1; try omega
  · have e : ∀ x : List Int, x.length = l.length → x[j]? = none := fun x hx => List.getElem?_eq_none (by omega)
    rw [e _ (downTo_len _ _ _ _)]
    split <;> rw [e _ (by simp [downTo_len])]
def mn (l : List Acct) (j : Nat) : Int := if h : j < l.length then l[j].min else 0
def lw (l : List Acct) (j : Nat) : Int := if h : j < l.length then l[j].low else 0
theorem mn_at {l : List Acct} {j : Nat} (h : j < l.length) : mn l j = l[j].min := dif_pos h
theorem lw_at {l : List Acct} {j : Nat} (h : j < l.length) : lw l j = l[j].low := dif_pos h
def flr (l : List Acct) (low : Bool) (x : Nat) : Int := if low then lw l x else mn l x
def vF (v : List Int) (j : Nat) : Int := v.getD j 0
def valP (l : List Acct) (v : List Int) : Prop := chkF l = 0 ∧ v.length = l.length ∧ ∀ x ∈ v, inR x
theorem vF_in {l : List Acct} {v : List Int} (h : valP l v) (j : Nat) : 0 ≤ vF v j ∧ vF v j ≤ 1048576 := by
  unfold vF
  by_cases hj : j < v.length
  · rw [List.getD_eq_getElem?_getD, List.getElem?_eq_getElem hj]; exact h.2.2 _ (List.getElem_mem hj)
  · rw [List.getD_eq_getElem?_getD, List.getElem?_eq_none (by omega)]; simp
def stuckP (l : List Acct) (v : List Int) (a s : Int) (low : Bool) : Prop := ∃ x ∈ pathG l 8 a, 0 < x ∧ s < x ∧ us l x.toNat - insF l (vF v) x ≤ flr l low x.toNat
def askP (l : List Acct) (v : List Int) (a s : Int) : Prop := valP l v ∧ (0 ≤ a ∧ a < l.length) ∧ (-1 ≤ s ∧ s < l.length)
def grdP (l : List Acct) (v : List Int) (a s : Int) (low : Bool) : Prop := ¬ (askP l v a s ∧ (s = -1 ∨ s ∈ pathG l 8 a)) ∨ stuckP l v a s low
noncomputable def insL (l : List Acct) (v : List Int) : List Int := (List.range l.length).map fun (j : Nat) => insF l (vF v) (j : Int)
end Go.Proofs.Ytfdfmbmhefckaaa
end
section
/- Protection: plain laws. -/
set_option linter.unusedSimpArgs false
set_option linter.unusedVariables false
namespace Go.Proofs.Ytfdfmbmhefckaaa
open Go.AM Classical
set_option maxRecDepth 100000
set_option maxHeartbeats 4000000
theorem pathG_fuel {l : List Acct} (ht : treeP l) : ∀ (f g : Nat) (a : Int), a < f → a < g → a < l.length → pathG l f a = pathG l g a
  | 0, 0, _, _, _, _ => rfl
  | 0, g + 1, a, h, _, _ => by rw [pathG, pathG, if_neg (by omega)]
  | f + 1, 0, a, _, h, _ => by rw [pathG, pathG, if_neg (by omega)]
  | f + 1, g + 1, a, h1, h2, h3 => by
    rw [pathG, pathG]
    by_cases h0 : 0 ≤ a
    · have hp := pa_lt ht (a := a) ⟨h0, h3⟩
      rw [if_pos h0, if_pos h0, pathG_fuel ht f g _ (by omega) (by omega) (by omega)]
    · rw [if_neg h0, if_neg h0]
theorem path_mem {l : List Acct} {a : Int} (h : isP l a) {y : Int} : y ∈ pathG l 8 a ↔ y = a ∨ y ∈ pathG l 8 (pa l a.toNat) := by
  obtain ⟨hl, ht, _⟩ := chk_ok h.1
  have hp := pa_lt ht h.2
  have h2 := h.2
  rw [show pathG l 8 a = pathG l (7 + 1) a from rfl, pathG, if_pos h.2.1, List.mem_cons, pathG_fuel ht 7 8 _ (by omega) (by omega) (by omega)]
theorem path_self {l : List Acct} {a : Int} (h : isP l a) : a ∈ pathG l 8 a := (path_mem h).2 (.inl rfl)
theorem path_range {l : List Acct} {a y : Int} (h : isP l a) (hy : y ∈ pathG l 8 a) : 0 ≤ y ∧ y < l.length ∧ y ≤ a :=
  pathG_in (chk_ok h.1).2.1 8 a h.2.2 y hy
end Go.Proofs.Ytfdfmbmhefckaaa
end
section
/- Protection: contracts of the program's functions. -/
set_option linter.unusedSimpArgs false
set_option linter.unusedVariables false
namespace Go.Proofs.Ytfdfmbmhefckaaa
open Go.AM Classical
set_option maxRecDepth 100000
set_option maxHeartbeats 4000000
abbrev ints (v : List Int) : D := .vs 1 (v.map (.int .i64)) v.length
theorem valid_c (l : List Acct) (hL : l.length ≤ 9223372036854775807) (v : List Int) : PCon Try.prog 80 [accs l, ints v] (.bool (decide (valP l v))) := by
  have c1 := check_c l hL
  refine A80p (by simp [A80]) ?_
  simp only [A80, argEnv]
  by_cases h : chkF l = 0
  · rw [h] at c1
    obtain ⟨hl, _⟩ := chk_ok h
    repeat' (first | (with_reducible first | refine W_seq ?_ | refine then_n ?_ | refine W_block ?_ | refine blk_n ?_ | refine blk_r ?_ | refine blk_e ?_ | refine W_skip ?_ | refine W_ret ?_ | refine then_r ?_ | refine W_exit ?_ | refine then_e ?_) | (refine blk_j (by decide) ?_) | ((with_reducible refine s_reg ?_); intro K hK) | ((with_reducible refine k_nil ?_); (with_reducible apply s_nil hK); (· exact nmX); clear hK; clear K) | ((with_reducible refine k_cond ?_); (first | ((with_reducible apply s_condT); (· rfl); (· exact nmX)) | ((with_reducible apply s_condF); (· rfl); (· exact nmX)) | ((with_reducible apply s_condS); (· rfl); (· exact nmX); (· exact nmX)))) | ((with_reducible refine k_guard ?_); (first | (refine s_gt rfl ?_) | (refine s_gf1 rfl ?_) | (refine s_gfn rfl ?_) | (refine s_gx1 rfl ?_) | (refine s_gxn rfl ?_) | (refine s_gs rfl ?_))) | ((with_reducible refine k_mv ?_); (refine s_mv rfl ?_)) | ((with_reducible refine k_len ?_); (first | (refine s_len rfl rfl ?_) | ((with_reducible apply s_len); (· rfl); (· exact SlOwn.len (by assumption))))) | ((with_reducible refine k_pick ?_); (first | (refine s_pickT rfl rfl ?_) | (refine s_pickF rfl rfl ?_))) | ((with_reducible refine k_neq ?_); (first | (refine s_neq rfl rfl ?_) | (refine s_strNe rfl rfl ?_))) | ((with_reducible refine k_callF ?_); (first | ((with_reducible apply s_call1); (· rfl)) | ((with_reducible apply s_calln); (· rfl)))) | ((with_reducible refine k_con ?_); (first | ((with_reducible apply con_val (c1)); (· (exact agX)); (· rfl); (· exact fun _ => rfl)))) | ((with_reducible refine k_br ?_); (first | (with_reducible first | refine Br_dec ?_ | refine Br_not ?_ | refine Br_eqF ?_ | refine Br_and ?_ | refine Br_or ?_ | refine Br_neg ?_ | refine Br_band ?_ | refine Br_bor ?_ | refine Br_beq ?_) | (refine Br_t (by first | omega | assumption | rfl) ?_) | (refine Br_f (by first | omega | assumption | decide) ?_) | (with_reducible apply Br_sb <;> intro hbr <;> (first | subst hbr | simp only [hbr] | skip)) | (with_reducible apply Br_s <;> intro hbr))) | (with_reducible refine WN_succ ?_) | ((first | (with_reducible apply q_eqI) | (with_reducible apply q_eqN)); (first | exact nuI | exact nuN)) | ((first | (with_reducible apply q_eqL) | (with_reducible apply q_eqO)); (first | exact liL | exact liO)))
    all_goals first | exact Fin_bf trivial rfl (by rintro ⟨_, h2, _⟩; omega) | skip
    refine W_for v.length (fun i st => (∀ j (hj : j < v.length), j < i → inR v[j]) ∧ st = ⟨[(17, ints v), (18, .int .i64 v.length), (19, .int .i64 i)], fun _ => none⟩) ⟨fun j _ h => by omega, rfl⟩ ?_ ?_
    · rintro i e' h' hi ⟨hj, he⟩
      cases he
      have hg := map_g (k := .i64) hi
      rw [← getD_at hi] at hg
      generalize hx : v[i] = x at hg
      repeat' (first | (with_reducible first | refine W_seq ?_ | refine then_n ?_ | refine W_block ?_ | refine blk_n ?_ | refine blk_r ?_ | refine blk_e ?_ | refine W_skip ?_ | refine W_ret ?_ | refine then_r ?_ | refine W_exit ?_ | refine then_e ?_) | (refine blk_j (by decide) ?_) | ((with_reducible refine s_reg ?_); intro K hK) | ((with_reducible refine k_nil ?_); (with_reducible apply s_nil hK); (· exact nmX); clear hK; clear K) | ((with_reducible refine k_cond ?_); (first | ((with_reducible apply s_condT); (· rfl); (· exact nmX)) | ((with_reducible apply s_condF); (· rfl); (· exact nmX)) | ((with_reducible apply s_condS); (· rfl); (· exact nmX); (· exact nmX)))) | ((with_reducible refine k_guard ?_); (first | (refine s_gt rfl ?_) | (refine s_gf1 rfl ?_) | (refine s_gfn rfl ?_) | (refine s_gx1 rfl ?_) | (refine s_gxn rfl ?_) | (refine s_gs rfl ?_))) | ((with_reducible refine k_mv ?_); (refine s_mv rfl ?_)) | ((with_reducible refine k_pick ?_); (first | (refine s_pickT rfl rfl ?_) | (refine s_pickF rfl rfl ?_))) | ((with_reducible refine k_lss ?_); (refine s_lss rfl rfl ?_)) | ((with_reducible refine k_gtr ?_); (refine s_gtr rfl rfl ?_)) | ((with_reducible refine k_iaddr ?_); (first | ((with_reducible apply s_iaddrV); (· rfl); (· rfl); (· (first | omega | exact ⟨rfl, by omega⟩ | skip))) | ((with_reducible apply s_iaddrO); (· rfl); (· rfl); (· (first | omega | exact ⟨rfl, by omega⟩ | skip)); (· (exact hpX))) | ((with_reducible apply s_iaddrSO); (· rfl); (· assumption); (· rfl); (· (first | omega | exact ⟨rfl, by omega⟩ | skip)); (· (first | (simp (disch := omega) only [w64, wu8, wu16, wu32, wu64, tm_nn, td_nn, fd_nn, Int.reduceAdd, Int.reduceSub, Int.reduceMul, Int.reduceDiv, Int.reduceMod, Int.reduceNeg, Int.reduceToNat, Int.toNat_natCast, Int.toNat_zero, Int.zero_add, Int.add_zero, Int.one_mul, Int.reducePow, Nat.mul_one, Nat.zero_add, Nat.add_zero, Nat.zero_mul, Nat.reduceAdd, Nat.reduceMul, Nat.reduceSub, Nat.min_eq_left, IntKind.bits, Nat.sub_zero, hg]; try rfl; done) | rfl)); intro ks hks))) | ((with_reducible refine k_load ?_); (first | ((with_reducible apply s_loadV); (· rfl)) | ((with_reducible apply s_loadP); (· rfl); (· (exact hpX))))) | ((with_reducible refine k_add ?_); ((with_reducible apply s_add); (· rfl); (· rfl))) | ((with_reducible refine k_br ?_); (first | (with_reducible first | refine Br_dec ?_ | refine Br_not ?_ | refine Br_eqF ?_ | refine Br_and ?_ | refine Br_or ?_ | refine Br_neg ?_ | refine Br_band ?_ | refine Br_bor ?_ | refine Br_beq ?_) | (refine Br_t (by first | omega | assumption | rfl) ?_) | (refine Br_f (by first | omega | assumption | decide) ?_) | (with_reducible apply Br_sb <;> intro hbr <;> (first | subst hbr | simp only [hbr] | skip)) | (with_reducible apply Br_s <;> intro hbr))) | (with_reducible refine WN_succ ?_) | ((first | (with_reducible apply q_eqI) | (with_reducible apply q_eqN)); (first | (simp (disch := omega) only [w64, wu8, wu16, wu32, wu64, tm_nn, td_nn, fd_nn, Int.reduceAdd, Int.reduceSub, Int.reduceMul, Int.reduceDiv, Int.reduceMod, Int.reduceNeg, Int.reduceToNat, Int.toNat_natCast, Int.toNat_zero, Int.zero_add, Int.add_zero, Int.one_mul, Int.reducePow, Nat.mul_one, Nat.zero_add, Nat.add_zero, Nat.zero_mul, Nat.reduceAdd, Nat.reduceMul, Nat.reduceSub, Nat.min_eq_left, IntKind.bits, Nat.sub_zero, hg]; try rfl; done) | rfl)) | ((first | (with_reducible apply q_eqL) | (with_reducible apply q_eqO)); (first | (simp (disch := omega) only [upd_self, upd_ne, upd_upd, rep, splice, List.take_succ_cons, List.take_zero, List.drop_succ_cons, List.drop_zero, List.cons_append, List.nil_append, List.append_nil, List.length_cons, List.length_nil, List.reduceReplicate, List.flatten_cons, List.flatten_nil, Nat.reduceAdd, Nat.reduceMul, Nat.reduceSub, Nat.zero_add, Nat.add_zero, List.getElem?_cons_zero, List.getElem?_cons_succ, hg]; try rfl; done) | rfl)))
      all_goals first
        | exact Fin_bf trivial rfl (fun h2 => by have := h2.2.2 _ (List.getElem_mem hi); rw [hx] at this; unfold inR at this; omega)
        | (refine ⟨fun j h2 h3 => ?_, rfl⟩
           rcases Nat.lt_succ_iff_lt_or_eq.1 h3 with h4 | rfl
           · exact hj j h2 h4
           · rw [hx]; unfold inR; omega)
    · rintro e' h' ⟨hj, he⟩
      cases he
      repeat' (first | (with_reducible first | refine W_seq ?_ | refine then_n ?_ | refine W_block ?_ | refine blk_n ?_ | refine blk_r ?_ | refine blk_e ?_ | refine W_skip ?_ | refine W_ret ?_ | refine then_r ?_ | refine W_exit ?_ | refine then_e ?_) | (refine blk_j (by decide) ?_) | ((with_reducible refine s_reg ?_); intro K hK) | ((with_reducible refine k_nil ?_); (with_reducible apply s_nil hK); (· exact nmX); clear hK; clear K) | ((with_reducible refine k_cond ?_); (first | ((with_reducible apply s_condT); (· rfl); (· exact nmX)) | ((with_reducible apply s_condF); (· rfl); (· exact nmX)) | ((with_reducible apply s_condS); (· rfl); (· exact nmX); (· exact nmX)))) | ((with_reducible refine k_guard ?_); (first | (refine s_gt rfl ?_) | (refine s_gf1 rfl ?_) | (refine s_gfn rfl ?_) | (refine s_gx1 rfl ?_) | (refine s_gxn rfl ?_) | (refine s_gs rfl ?_))) | ((with_reducible refine k_mv ?_); (refine s_mv rfl ?_)) | ((with_reducible refine k_lss ?_); (refine s_lss rfl rfl ?_)) | ((with_reducible refine k_br ?_); (first | (with_reducible first | refine Br_dec ?_ | refine Br_not ?_ | refine Br_eqF ?_ | refine Br_and ?_ | refine Br_or ?_ | refine Br_neg ?_ | refine Br_band ?_ | refine Br_bor ?_ | refine Br_beq ?_) | (refine Br_t (by first | omega | assumption | rfl) ?_) | (refine Br_f (by first | omega | assumption | decide) ?_) | (with_reducible apply Br_sb <;> intro hbr <;> (first | subst hbr | simp only [hbr] | skip)) | (with_reducible apply Br_s <;> intro hbr))) | (with_reducible refine WN_succ ?_) | ((first | (with_reducible apply q_eqI) | (with_reducible apply q_eqN)); (first | exact nuI | exact nuN)) | ((first | (with_reducible apply q_eqL) | (with_reducible apply q_eqO)); (first | exact liL | exact liO)))
      exact Fin_bt trivial rfl ⟨h, by omega, fun x hx => by obtain ⟨j, h2, rfl⟩ := List.getElem_of_mem hx; exact hj j h2 h2⟩
  · repeat' (first | (with_reducible first | refine W_seq ?_ | refine then_n ?_ | refine W_block ?_ | refine blk_n ?_ | refine blk_r ?_ | refine blk_e ?_ | refine W_skip ?_ | refine W_ret ?_ | refine then_r ?_ | refine W_exit ?_ | refine then_e ?_) | (refine blk_j (by decide) ?_) | ((with_reducible refine s_reg ?_); intro K hK) | ((with_reducible refine k_nil ?_); (with_reducible apply s_nil hK); (· exact nmX); clear hK; clear K) | ((with_reducible refine k_cond ?_); (first | ((with_reducible apply s_condT); (· rfl); (· exact nmX)) | ((with_reducible apply s_condF); (· rfl); (· exact nmX)) | ((with_reducible apply s_condS); (· rfl); (· exact nmX); (· exact nmX)))) | ((with_reducible refine k_guard ?_); (first | (refine s_gt rfl ?_) | (refine s_gf1 rfl ?_) | (refine s_gfn rfl ?_) | (refine s_gx1 rfl ?_) | (refine s_gxn rfl ?_) | (refine s_gs rfl ?_))) | ((with_reducible refine k_mv ?_); (refine s_mv rfl ?_)) | ((with_reducible refine k_len ?_); (first | (refine s_len rfl rfl ?_) | ((with_reducible apply s_len); (· rfl); (· exact SlOwn.len (by assumption))))) | ((with_reducible refine k_pick ?_); (first | (refine s_pickT rfl rfl ?_) | (refine s_pickF rfl rfl ?_))) | ((with_reducible refine k_neq ?_); (first | (refine s_neq rfl rfl ?_) | (refine s_strNe rfl rfl ?_))) | ((with_reducible refine k_callF ?_); (first | ((with_reducible apply s_call1); (· rfl)) | ((with_reducible apply s_calln); (· rfl)))) | ((with_reducible refine k_con ?_); (first | ((with_reducible apply con_val (c1)); (· (exact agX)); (· rfl); (· exact fun _ => rfl)))) | ((with_reducible refine k_br ?_); (first | (with_reducible first | refine Br_dec ?_ | refine Br_not ?_ | refine Br_eqF ?_ | refine Br_and ?_ | refine Br_or ?_ | refine Br_neg ?_ | refine Br_band ?_ | refine Br_bor ?_ | refine Br_beq ?_) | (refine Br_t (by first | omega | assumption | rfl) ?_) | (refine Br_f (by first | omega | assumption | decide) ?_) | (with_reducible apply Br_sb <;> intro hbr <;> (first | subst hbr | simp only [hbr] | skip)) | (with_reducible apply Br_s <;> intro hbr))) | (with_reducible refine WN_succ ?_) | ((first | (with_reducible apply q_eqI) | (with_reducible apply q_eqN)); (first | exact nuI | exact nuN)) | ((first | (with_reducible apply q_eqL) | (with_reducible apply q_eqO)); (first | exact liL | exact liO)))
    all_goals first | (exfalso; omega) | exact Fin_bf trivial rfl (fun h2 => h h2.1)
theorem ins_in {l : List Acct} {v : List Int} (h : valP l v) (x : Int) : 0 ≤ insF l (vF v) x ∧ insF l (vF v) x ≤ 8388608 := by
  have h1 := insN_in (l := l) (vF_in h) x l.length
  have := (chk_ok h.1).1
  unfold insF
  omega
theorem insL_len (l : List Acct) (v : List Int) : (insL l v).length = l.length := by simp [insL]
theorem insL_g {l : List Acct} {v : List Int} {i : Nat} (hi : i < l.length) : ((insL l v).map (D.int .i64))[i]? = some (.int .i64 (insF l (vF v) i)) := by
  rw [List.getElem?_map, List.getElem?_eq_getElem (by rw [insL_len]; exact hi)]; simp [insL]
theorem downTo_zero {l : List Acct} {v : List Int} (h : chkF l = 0) : downTo l (vF v) (fun k => insF l (vF v) k) 0 = insL l v := by
  apply List.ext_getElem (by simp [downTo, insL])
  intro j h1 h2
  rw [downTo_at h1]
  simp only [insL, List.getElem_map, List.getElem_range]
  rw [insL_len] at h2
  rw [if_pos (Nat.zero_le _), ins_rec h (vF v) h2]
  show _ + (_ - 0) = _
  omega
theorem inside1_c (l : List Acct) (v : List Int) (h : valP l v) : PCon Try.prog 87 [accs l, ints v] (.ow 1 ((insL l v).map (.int .i64)) l.length) := by
  obtain ⟨hl, ht, _⟩ := chk_ok h.1
  have hvl := h.2.1
  have hal := accs_len l
  have hn : ∀ m, ((downTo l (vF v) (fun k => insF l (vF v) k) m).map (D.int .i64)).length = l.length := fun m => by rw [List.length_map, downTo_len]
  refine A87p (by simp [A87]) ?_
  simp only [A87, argEnv]
  repeat' (first | (with_reducible first | refine W_seq ?_ | refine then_n ?_ | refine W_block ?_ | refine blk_n ?_ | refine blk_r ?_ | refine blk_e ?_ | refine W_skip ?_ | refine W_ret ?_ | refine then_r ?_ | refine W_exit ?_ | refine then_e ?_) | (refine blk_j (by decide) ?_) | ((with_reducible refine s_reg ?_); intro K hK) | ((with_reducible refine k_nil ?_); (with_reducible apply s_nil hK); (· exact nmX); clear hK; clear K) | ((with_reducible refine k_cond ?_); (first | ((with_reducible apply s_condT); (· rfl); (· exact nmX)) | ((with_reducible apply s_condF); (· rfl); (· exact nmX)) | ((with_reducible apply s_condS); (· rfl); (· exact nmX); (· exact nmX)))) | ((with_reducible refine k_guard ?_); (first | (refine s_gt rfl ?_) | (refine s_gf1 rfl ?_) | (refine s_gfn rfl ?_) | (refine s_gx1 rfl ?_) | (refine s_gxn rfl ?_) | (refine s_gs rfl ?_))) | ((with_reducible refine k_mv ?_); (refine s_mv rfl ?_)) | ((with_reducible refine k_len ?_); (first | (refine s_len rfl rfl ?_) | ((with_reducible apply s_len); (· rfl); (· exact SlOwn.len (by assumption))))) | ((with_reducible refine k_sub ?_); ((with_reducible apply s_sub); (· rfl); (· rfl))) | ((with_reducible refine k_mkslice (dst := some 9) ?_); ((with_reducible apply s_mkslice); (· rfl); (· rfl); (· (exact ⟨rfl, by decide, by omega, by omega, by (rw [room_i]; omega), by omega⟩)); (· ((first | exact nuI | exact nuN))); intro k9 hk9; (try simp only [upd_none] at hk9))) | ((with_reducible refine k_dreg ?_); refine s_dregS (pre := A87d6p) rfl rfl rfl ?_; intro K hK) | ((with_reducible refine k_dreg ?_); refine s_dregS (pre := A87d8p) rfl rfl rfl ?_; intro K hK) | ((with_reducible refine k_dreg ?_); refine s_dreg rfl rfl ?_; intro K hK) | (with_reducible refine d_nilS ?_) | ((with_reducible refine k_dnil ?_); (with_reducible apply d_nil hK); (· exact nmX); clear hK; clear K) | ((with_reducible refine k_dguard ?_); (first | (refine d_gt rfl ?_) | (refine d_gf rfl ?_) | (refine d_gx rfl ?_) | (refine d_gs rfl ?_))) | ((with_reducible refine k_dop ?_); refine d_step (by first | exact Or.inl rfl | exact Or.inr rfl) ?_) | (with_reducible refine d_back ?_) | ((with_reducible refine k_br ?_); (first | (with_reducible first | refine Br_dec ?_ | refine Br_not ?_ | refine Br_eqF ?_ | refine Br_and ?_ | refine Br_or ?_ | refine Br_neg ?_ | refine Br_band ?_ | refine Br_bor ?_ | refine Br_beq ?_) | (refine Br_t (by first | omega | assumption | rfl) ?_) | (refine Br_f (by first | omega | assumption | decide) ?_) | (with_reducible apply Br_sb <;> intro hbr <;> (first | subst hbr | simp only [hbr] | skip)) | (with_reducible apply Br_s <;> intro hbr))) | (with_reducible refine WN_succ ?_) | ((first | (with_reducible apply q_eqI) | (with_reducible apply q_eqN)); (first | exact nuI | exact nuN)) | ((first | (with_reducible apply q_eqL) | (with_reducible apply q_eqO)); (first | exact liL | exact liO)))
  refine W_down l.length (fun m st => ∃ h', m ≤ l.length ∧ st = ⟨[(0, accs l), (1, ints v), (5, .sl k9 1 0 l.length), (6, .int .i64 ((m : Int) - 1))], h'⟩ ∧ h' k9 = some ((downTo l (vF v) (fun k => insF l (vF v) k) m).map (.int .i64))) ⟨_, Nat.le_refl _, rfl, ?_⟩ ?_
  · rw [upd_self, downTo_end, rep_zero (xs := List.replicate l.length 0) (by simp) (by simp)]
  · rintro m e' h' ⟨h1, hm, he, hk⟩
    cases he
    cases m with
    | zero =>
      repeat' (first | (with_reducible first | refine W_seq ?_ | refine then_n ?_ | refine W_block ?_ | refine blk_n ?_ | refine blk_r ?_ | refine blk_e ?_ | refine W_skip ?_ | refine W_ret ?_ | refine then_r ?_ | refine W_exit ?_ | refine then_e ?_) | (refine blk_j (by decide) ?_) | ((with_reducible refine s_reg ?_); intro K hK) | ((with_reducible refine k_nil ?_); (with_reducible apply s_nil hK); (· exact nmX); clear hK; clear K) | ((with_reducible refine k_cond ?_); (first | ((with_reducible apply s_condT); (· rfl); (· exact nmX)) | ((with_reducible apply s_condF); (· rfl); (· exact nmX)) | ((with_reducible apply s_condS); (· rfl); (· exact nmX); (· exact nmX)))) | ((with_reducible refine k_guard ?_); (first | (refine s_gt rfl ?_) | (refine s_gf1 rfl ?_) | (refine s_gfn rfl ?_) | (refine s_gx1 rfl ?_) | (refine s_gxn rfl ?_) | (refine s_gs rfl ?_))) | ((with_reducible refine k_mv ?_); (refine s_mv rfl ?_)) | ((with_reducible refine k_geq ?_); (refine s_geq rfl rfl ?_)) | ((with_reducible refine k_dreg ?_); refine s_dregS (pre := A87d6p) rfl rfl rfl ?_; intro K hK) | ((with_reducible refine k_dreg ?_); refine s_dregS (pre := A87d8p) rfl rfl rfl ?_; intro K hK) | ((with_reducible refine k_dreg ?_); refine s_dreg rfl rfl ?_; intro K hK) | (with_reducible refine d_nilS ?_) | ((with_reducible refine k_dnil ?_); (with_reducible apply d_nil hK); (· exact nmX); clear hK; clear K) | ((with_reducible refine k_dguard ?_); (first | (refine d_gt rfl ?_) | (refine d_gf rfl ?_) | (refine d_gx rfl ?_) | (refine d_gs rfl ?_))) | ((with_reducible refine k_dop ?_); refine d_step (by first | exact Or.inl rfl | exact Or.inr rfl) ?_) | (with_reducible refine d_back ?_) | ((with_reducible refine k_br ?_); (first | (with_reducible first | refine Br_dec ?_ | refine Br_not ?_ | refine Br_eqF ?_ | refine Br_and ?_ | refine Br_or ?_ | refine Br_neg ?_ | refine Br_band ?_ | refine Br_bor ?_ | refine Br_beq ?_) | (refine Br_t (by first | omega | assumption | rfl) ?_) | (refine Br_f (by first | omega | assumption | decide) ?_) | (with_reducible apply Br_sb <;> intro hbr <;> (first | subst hbr | simp only [hbr] | skip)) | (with_reducible apply Br_s <;> intro hbr))) | (with_reducible refine WN_succ ?_) | ((first | (with_reducible apply q_eqI) | (with_reducible apply q_eqN)); (first | exact nuI | exact nuN)) | ((first | (with_reducible apply q_eqL) | (with_reducible apply q_eqO)); (first | exact liL | exact liO)))
      rw [downTo_zero h.1] at hk
      exact Fin_sl trivial rfl hk (by rw [List.length_map, insL_len]; omega) scal_i
    | succ n =>
      have hnl : n < l.length := by omega
      have e1 : ((n + 1 : Nat) : Int) - 1 = n := by omega
      rw [e1]
      have hst := downTo_step ht (vF v) (fun k => insF l (vF v) k) hnl
      have hrec := ins_rec h.1 (vF v) hnl
      have hDn := downTo_d (l := l) (v := vF v) (g := fun k => insF l (vF v) k) (m := n + 1) hnl
      rw [if_neg (by omega), kT_zero ht (Nat.le_refl _) (by omega)] at hDn
      have hI := ins_in h n
      have hv1 := vF_in h n
      have hgn := map_g (k := .i64) (xs := downTo l (vF v) (fun k => insF l (vF v) k) (n + 1)) (i := n) (by rw [downTo_len]; exact hnl)
      have hgv : (v.map (D.int .i64))[n]? = some (.int .i64 (vF v n)) := map_g (by omega)
      have hv0 : (downTo l (vF v) (fun k => insF l (vF v) k) (n + 1)).getD n 0 + vF v n = insF l (vF v) n := by omega
      have hln := hn (n + 1)
      rw [hv0] at hst
      by_cases h0 : 0 < n
      · have hp := ht n hnl hnl
        unfold okP at hp
        rw [← pa_at hnl] at hp
        have hpp : 0 ≤ pa l n ∧ pa l n < n := by rcases hp with h | h <;> omega
        have hpa : (l.flatMap Acct.cells)[n * 5]? = some (.int .i64 (pa l n)) := by rw [ac0 hnl, pa_at hnl]
        have hDp := downTo_d (l := l) (v := vF v) (g := fun k => insF l (vF v) k) (m := n + 1) (j := (pa l n).toNat) (by omega)
        rw [if_neg (by omega)] at hDp
        have hb1 := kT_in (l := l) (f := fun k => insF l (vF v) k) (b := 8388608) (fun c => ins_in h c) ((pa l n).toNat : Int) l.length
        have hb2 := kT_in (l := l) (f := fun k => insF l (vF v) k) (b := 8388608) (fun c => ins_in h c) ((pa l n).toNat : Int) (n + 1)
        rw [if_pos h0] at hst
        generalize hDD : downTo l (vF v) (fun k => insF l (vF v) k) (n + 1) = D1 at *
        have hD1 : D1.length = l.length := by rw [← hDD, downTo_len]
        have s1 := map_st (k := .i64) (xs := D1) (i := n) (v := insF l (vF v) n) (by omega) rfl
        have s2 := map_st (k := .i64) (xs := D1.set n (insF l (vF v) n)) (i := (pa l n).toNat) (by rw [List.length_set]; omega) hst.symm
        have g1 := map_g (k := .i64) (xs := D1.set n (insF l (vF v) n)) (i := n) (by rw [List.length_set]; omega)
        have g2 := map_g (k := .i64) (xs := D1.set n (insF l (vF v) n)) (i := (pa l n).toNat) (by rw [List.length_set]; omega)
        rw [List.getD_eq_getElem?_getD, List.getElem?_set_self (by omega), Option.getD_some] at g1
        rw [List.getD_eq_getElem?_getD, List.getElem?_set_ne (by omega), ← List.getD_eq_getElem?_getD] at g2
        have ls : ((D1.set n (insF l (vF v) n)).map (D.int .i64)).length = l.length := by rw [List.length_map, List.length_set, hD1]
        generalize D1.getD (pa l n).toNat 0 = P0 at *
        generalize D1.getD n 0 = N0 at *
        repeat' (first | (with_reducible first | refine W_seq ?_ | refine then_n ?_ | refine W_block ?_ | refine blk_n ?_ | refine blk_r ?_ | refine blk_e ?_ | refine W_skip ?_ | refine W_ret ?_ | refine then_r ?_ | refine W_exit ?_ | refine then_e ?_) | (refine blk_j (by decide) ?_) | ((with_reducible refine s_reg ?_); intro K hK) | ((with_reducible refine k_nil ?_); (with_reducible apply s_nil hK); (· exact nmX); clear hK; clear K) | ((with_reducible refine k_cond ?_); (first | ((with_reducible apply s_condT); (· rfl); (· exact nmX)) | ((with_reducible apply s_condF); (· rfl); (· exact nmX)) | ((with_reducible apply s_condS); (· rfl); (· exact nmX); (· exact nmX)))) | ((with_reducible refine k_guard ?_); (first | (refine s_gt rfl ?_) | (refine s_gf1 rfl ?_) | (refine s_gfn rfl ?_) | (refine s_gx1 rfl ?_) | (refine s_gxn rfl ?_) | (refine s_gs rfl ?_))) | ((with_reducible refine k_mv ?_); (refine s_mv rfl ?_)) | ((with_reducible refine k_gtr ?_); (refine s_gtr rfl rfl ?_)) | ((with_reducible refine k_geq ?_); (refine s_geq rfl rfl ?_)) | ((with_reducible refine k_iaddr ?_); (first | ((with_reducible apply s_iaddrV); (· rfl); (· rfl); (· (first | omega | exact ⟨rfl, by omega⟩ | skip))) | ((with_reducible apply s_iaddrO); (· rfl); (· rfl); (· (first | omega | exact ⟨rfl, by omega⟩ | skip)); (· (exact hpX))) | ((with_reducible apply s_iaddrSO); (· rfl); (· assumption); (· rfl); (· (first | omega | exact ⟨rfl, by omega⟩ | skip)); (· (first | (simp (disch := omega) only [w64, wu8, wu16, wu32, wu64, tm_nn, td_nn, fd_nn, Int.reduceAdd, Int.reduceSub, Int.reduceMul, Int.reduceDiv, Int.reduceMod, Int.reduceNeg, Int.reduceToNat, Int.toNat_natCast, Int.toNat_zero, Int.zero_add, Int.add_zero, Int.one_mul, Int.reducePow, Nat.mul_one, Nat.zero_add, Nat.add_zero, Nat.zero_mul, Nat.reduceAdd, Nat.reduceMul, Nat.reduceSub, Nat.min_eq_left, IntKind.bits, Nat.sub_zero, hgn, hgv, hpa, hv0, s1, s2, g1, g2]; try rfl; done) | rfl)); intro ks hks))) | ((with_reducible refine k_load ?_); (first | ((with_reducible apply s_loadV); (· rfl)) | ((with_reducible apply s_loadP); (· rfl); (· (exact hpX))))) | ((with_reducible refine k_add ?_); ((with_reducible apply s_add); (· rfl); (· rfl))) | ((with_reducible refine k_sub ?_); ((with_reducible apply s_sub); (· rfl); (· rfl))) | ((with_reducible refine k_store ?_); ((with_reducible apply s_store0); (· rfl); (· rfl); (· rfl); (· (exact hpX)); (· (exact ⟨rfl, by first | exact Nat.le_of_ble_eq_true rfl | omega | (simp [hgn, hgv, hpa, hv0, s1, s2, g1, g2]; omega)⟩)); (· ((first | (simp (disch := omega) only [upd_self, upd_ne, upd_upd, rep, splice, List.take_succ_cons, List.take_zero, List.drop_succ_cons, List.drop_zero, List.cons_append, List.nil_append, List.append_nil, List.length_cons, List.length_nil, List.reduceReplicate, List.flatten_cons, List.flatten_nil, Nat.reduceAdd, Nat.reduceMul, Nat.reduceSub, Nat.zero_add, Nat.add_zero, List.getElem?_cons_zero, List.getElem?_cons_succ, hgn, hgv, hpa, hv0, s1, s2, g1, g2]; try rfl; done) | rfl))); (· (first | exact upd_upd | rfl)))) | ((with_reducible refine k_faddr ?_); (first | ((with_reducible apply s_faddrV); (· rfl); (· rfl)) | ((with_reducible apply s_faddrP); (· rfl); (· rfl)))) | ((with_reducible refine k_dreg ?_); refine s_dregS (pre := A87d6p) rfl rfl rfl ?_; intro K hK) | ((with_reducible refine k_dreg ?_); refine s_dregS (pre := A87d8p) rfl rfl rfl ?_; intro K hK) | ((with_reducible refine k_dreg ?_); refine s_dreg rfl rfl ?_; intro K hK) | (with_reducible refine d_nilS ?_) | ((with_reducible refine k_dnil ?_); (with_reducible apply d_nil hK); (· exact nmX); clear hK; clear K) | ((with_reducible refine k_dguard ?_); (first | (refine d_gt rfl ?_) | (refine d_gf rfl ?_) | (refine d_gx rfl ?_) | (refine d_gs rfl ?_))) | ((with_reducible refine k_dop ?_); refine d_step (by first | exact Or.inl rfl | exact Or.inr rfl) ?_) | (with_reducible refine d_back ?_) | ((with_reducible refine k_br ?_); (first | (with_reducible first | refine Br_dec ?_ | refine Br_not ?_ | refine Br_eqF ?_ | refine Br_and ?_ | refine Br_or ?_ | refine Br_neg ?_ | refine Br_band ?_ | refine Br_bor ?_ | refine Br_beq ?_) | (refine Br_t (by first | omega | assumption | rfl) ?_) | (refine Br_f (by first | omega | assumption | decide) ?_) | (with_reducible apply Br_sb <;> intro hbr <;> (first | subst hbr | simp only [hbr] | skip)) | (with_reducible apply Br_s <;> intro hbr))) | (with_reducible refine WN_succ ?_) | ((first | (with_reducible apply q_eqI) | (with_reducible apply q_eqN)); (first | (simp (disch := omega) only [w64, wu8, wu16, wu32, wu64, tm_nn, td_nn, fd_nn, Int.reduceAdd, Int.reduceSub, Int.reduceMul, Int.reduceDiv, Int.reduceMod, Int.reduceNeg, Int.reduceToNat, Int.toNat_natCast, Int.toNat_zero, Int.zero_add, Int.add_zero, Int.one_mul, Int.reducePow, Nat.mul_one, Nat.zero_add, Nat.add_zero, Nat.zero_mul, Nat.reduceAdd, Nat.reduceMul, Nat.reduceSub, Nat.min_eq_left, IntKind.bits, Nat.sub_zero, hgn, hgv, hpa, hv0, s1, s2, g1, g2]; try rfl; done) | rfl)) | ((first | (with_reducible apply q_eqL) | (with_reducible apply q_eqO)); (first | (simp (disch := omega) only [upd_self, upd_ne, upd_upd, rep, splice, List.take_succ_cons, List.take_zero, List.drop_succ_cons, List.drop_zero, List.cons_append, List.nil_append, List.append_nil, List.length_cons, List.length_nil, List.reduceReplicate, List.flatten_cons, List.flatten_nil, Nat.reduceAdd, Nat.reduceMul, Nat.reduceSub, Nat.zero_add, Nat.add_zero, List.getElem?_cons_zero, List.getElem?_cons_succ, hgn, hgv, hpa, hv0, s1, s2, g1, g2]; try rfl; done) | rfl)))
        all_goals first | (exfalso; omega) | skip
        exact ⟨n, by omega, _, by omega, rfl, upd_self⟩
      · obtain rfl : n = 0 := by omega
        rw [if_neg (by omega)] at hst
        generalize hDD : downTo l (vF v) (fun k => insF l (vF v) k) (0 + 1) = D1 at *
        have hD1 : D1.length = l.length := by rw [← hDD, downTo_len]
        have s1 := map_st (k := .i64) (xs := D1) (i := 0) (by omega) hst.symm
        generalize D1.getD 0 0 = N0 at *
        repeat' (first | (with_reducible first | refine W_seq ?_ | refine then_n ?_ | refine W_block ?_ | refine blk_n ?_ | refine blk_r ?_ | refine blk_e ?_ | refine W_skip ?_ | refine W_ret ?_ | refine then_r ?_ | refine W_exit ?_ | refine then_e ?_) | (refine blk_j (by decide) ?_) | ((with_reducible refine s_reg ?_); intro K hK) | ((with_reducible refine k_nil ?_); (with_reducible apply s_nil hK); (· exact nmX); clear hK; clear K) | ((with_reducible refine k_cond ?_); (first | ((with_reducible apply s_condT); (· rfl); (· exact nmX)) | ((with_reducible apply s_condF); (· rfl); (· exact nmX)) | ((with_reducible apply s_condS); (· rfl); (· exact nmX); (· exact nmX)))) | ((with_reducible refine k_guard ?_); (first | (refine s_gt rfl ?_) | (refine s_gf1 rfl ?_) | (refine s_gfn rfl ?_) | (refine s_gx1 rfl ?_) | (refine s_gxn rfl ?_) | (refine s_gs rfl ?_))) | ((with_reducible refine k_mv ?_); (refine s_mv rfl ?_)) | ((with_reducible refine k_gtr ?_); (refine s_gtr rfl rfl ?_)) | ((with_reducible refine k_geq ?_); (refine s_geq rfl rfl ?_)) | ((with_reducible refine k_iaddr ?_); (first | ((with_reducible apply s_iaddrV); (· rfl); (· rfl); (· (first | omega | exact ⟨rfl, by omega⟩ | skip))) | ((with_reducible apply s_iaddrO); (· rfl); (· rfl); (· (first | omega | exact ⟨rfl, by omega⟩ | skip)); (· (exact hpX))) | ((with_reducible apply s_iaddrSO); (· rfl); (· assumption); (· rfl); (· (first | omega | exact ⟨rfl, by omega⟩ | skip)); (· (first | (simp (disch := omega) only [w64, wu8, wu16, wu32, wu64, tm_nn, td_nn, fd_nn, Int.reduceAdd, Int.reduceSub, Int.reduceMul, Int.reduceDiv, Int.reduceMod, Int.reduceNeg, Int.reduceToNat, Int.toNat_natCast, Int.toNat_zero, Int.zero_add, Int.add_zero, Int.one_mul, Int.reducePow, Nat.mul_one, Nat.zero_add, Nat.add_zero, Nat.zero_mul, Nat.reduceAdd, Nat.reduceMul, Nat.reduceSub, Nat.min_eq_left, IntKind.bits, Nat.sub_zero, hgn, hgv, hv0, s1]; try rfl; done) | rfl)); intro ks hks))) | ((with_reducible refine k_load ?_); (first | ((with_reducible apply s_loadV); (· rfl)) | ((with_reducible apply s_loadP); (· rfl); (· (exact hpX))))) | ((with_reducible refine k_add ?_); ((with_reducible apply s_add); (· rfl); (· rfl))) | ((with_reducible refine k_sub ?_); ((with_reducible apply s_sub); (· rfl); (· rfl))) | ((with_reducible refine k_store ?_); ((with_reducible apply s_store0); (· rfl); (· rfl); (· rfl); (· (exact hpX)); (· (exact ⟨rfl, by first | exact Nat.le_of_ble_eq_true rfl | omega | (simp [hgn, hgv, hv0, s1]; omega)⟩)); (· ((first | (simp (disch := omega) only [upd_self, upd_ne, upd_upd, rep, splice, List.take_succ_cons, List.take_zero, List.drop_succ_cons, List.drop_zero, List.cons_append, List.nil_append, List.append_nil, List.length_cons, List.length_nil, List.reduceReplicate, List.flatten_cons, List.flatten_nil, Nat.reduceAdd, Nat.reduceMul, Nat.reduceSub, Nat.zero_add, Nat.add_zero, List.getElem?_cons_zero, List.getElem?_cons_succ, hgn, hgv, hv0, s1]; try rfl; done) | rfl))); (· (first | exact upd_upd | rfl)))) | ((with_reducible refine k_faddr ?_); (first | ((with_reducible apply s_faddrV); (· rfl); (· rfl)) | ((with_reducible apply s_faddrP); (· rfl); (· rfl)))) | ((with_reducible refine k_dreg ?_); refine s_dregS (pre := A87d6p) rfl rfl rfl ?_; intro K hK) | ((with_reducible refine k_dreg ?_); refine s_dregS (pre := A87d8p) rfl rfl rfl ?_; intro K hK) | ((with_reducible refine k_dreg ?_); refine s_dreg rfl rfl ?_; intro K hK) | (with_reducible refine d_nilS ?_) | ((with_reducible refine k_dnil ?_); (with_reducible apply d_nil hK); (· exact nmX); clear hK; clear K) | ((with_reducible refine k_dguard ?_); (first | (refine d_gt rfl ?_) | (refine d_gf rfl ?_) | (refine d_gx rfl ?_) | (refine d_gs rfl ?_))) | ((with_reducible refine k_dop ?_); refine d_step (by first | exact Or.inl rfl | exact Or.inr rfl) ?_) | (with_reducible refine d_back ?_) | ((with_reducible refine k_br ?_); (first | (with_reducible first | refine Br_dec ?_ | refine Br_not ?_ | refine Br_eqF ?_ | refine Br_and ?_ | refine Br_or ?_ | refine Br_neg ?_ | refine Br_band ?_ | refine Br_bor ?_ | refine Br_beq ?_) | (refine Br_t (by first | omega | assumption | rfl) ?_) | (refine Br_f (by first | omega | assumption | decide) ?_) | (with_reducible apply Br_sb <;> intro hbr <;> (first | subst hbr | simp only [hbr] | skip)) | (with_reducible apply Br_s <;> intro hbr))) | (with_reducible refine WN_succ ?_) | ((first | (with_reducible apply q_eqI) | (with_reducible apply q_eqN)); (first | (simp (disch := omega) only [w64, wu8, wu16, wu32, wu64, tm_nn, td_nn, fd_nn, Int.reduceAdd, Int.reduceSub, Int.reduceMul, Int.reduceDiv, Int.reduceMod, Int.reduceNeg, Int.reduceToNat, Int.toNat_natCast, Int.toNat_zero, Int.zero_add, Int.add_zero, Int.one_mul, Int.reducePow, Nat.mul_one, Nat.zero_add, Nat.add_zero, Nat.zero_mul, Nat.reduceAdd, Nat.reduceMul, Nat.reduceSub, Nat.min_eq_left, IntKind.bits, Nat.sub_zero, hgn, hgv, hv0, s1]; try rfl; done) | rfl)) | ((first | (with_reducible apply q_eqL) | (with_reducible apply q_eqO)); (first | (simp (disch := omega) only [upd_self, upd_ne, upd_upd, rep, splice, List.take_succ_cons, List.take_zero, List.drop_succ_cons, List.drop_zero, List.cons_append, List.nil_append, List.append_nil, List.length_cons, List.length_nil, List.reduceReplicate, List.flatten_cons, List.flatten_nil, Nat.reduceAdd, Nat.reduceMul, Nat.reduceSub, Nat.zero_add, Nat.add_zero, List.getElem?_cons_zero, List.getElem?_cons_succ, hgn, hgv, hv0, s1]; try rfl; done) | rfl)))
        all_goals first | (exfalso; omega) | skip
        exact ⟨0, by omega, _, by omega, rfl, by rw [upd_self, ← s1]; rfl⟩
theorem guarded_c (l : List Acct) (hL : l.length ≤ 9223372036854775807) (v : List Int) (a s : Int) (low : Bool) : PCon Try.prog 71 [accs l, ints v, .int .i64 a, .int .i64 s, .bool low] (.bool (decide (grdP l v a s low))) := by
  have c1 := valid_c l hL v
  refine A71p (by simp [A71]) ?_
  simp only [A71, argEnv]
  by_cases hq : askP l v a s
  · obtain ⟨hv, ha, hs⟩ := hq
    have c2 := inside1_c l v hv
    obtain ⟨hl, ht, ham, _⟩ := chk_ok hv.1
    have hp : isP l a := ⟨hv.1, ha⟩
    have n1 : ((insL l v).map (D.int .i64)).length = l.length := by rw [List.length_map, insL_len]
    have hal := accs_len l
    rw [decide_eq_true hv] at c1
    repeat' (first | (with_reducible first | refine W_seq ?_ | refine then_n ?_ | refine W_block ?_ | refine blk_n ?_ | refine blk_r ?_ | refine blk_e ?_ | refine W_skip ?_ | refine W_ret ?_ | refine then_r ?_ | refine W_exit ?_ | refine then_e ?_) | (refine blk_j (by decide) ?_) | ((with_reducible refine s_reg ?_); intro K hK) | ((with_reducible refine k_nil ?_); (with_reducible apply s_nil hK); (· exact nmX); clear hK; clear K) | ((with_reducible refine k_cond ?_); (first | ((with_reducible apply s_condT); (· rfl); (· exact nmX)) | ((with_reducible apply s_condF); (· rfl); (· exact nmX)) | ((with_reducible apply s_condS); (· rfl); (· exact nmX); (· exact nmX)))) | ((with_reducible refine k_guard ?_); (first | (refine s_gt rfl ?_) | (refine s_gf1 rfl ?_) | (refine s_gfn rfl ?_) | (refine s_gx1 rfl ?_) | (refine s_gxn rfl ?_) | (refine s_gs rfl ?_))) | ((with_reducible refine k_mv ?_); (refine s_mv rfl ?_)) | ((with_reducible refine k_len ?_); (first | (refine s_len rfl rfl ?_) | ((with_reducible apply s_len); (· rfl); (· exact SlOwn.len (by assumption))))) | ((with_reducible refine k_pick ?_); (first | (refine s_pickT rfl rfl ?_) | (refine s_pickF rfl rfl ?_))) | ((with_reducible refine k_not ?_); (refine s_not rfl (by first | exact Bool.not_true | exact Bool.not_false | rfl) ?_)) | ((with_reducible refine k_lss ?_); (refine s_lss rfl rfl ?_)) | ((with_reducible refine k_geq ?_); (refine s_geq rfl rfl ?_)) | ((with_reducible refine k_mima ?_); ((with_reducible apply s_mima); (· rfl); (· rfl))) | ((with_reducible refine k_callF ?_); (first | ((with_reducible apply s_call1); (· rfl)) | ((with_reducible apply s_calln); (· rfl)))) | ((with_reducible refine k_con ?_); (first | ((with_reducible apply con_val (c1)); (· (exact agX)); (· rfl); (· exact fun _ => rfl)) | ((with_reducible apply con_of_pcon (c2)); (· (exact agX)); intro kI hkI; (try simp only [upd_none] at hkI); simp only [thaw, thawC, List.map, thawH, owOf, owL]))) | ((with_reducible refine k_dreg ?_); refine s_dreg rfl rfl ?_; intro K hK) | (with_reducible refine d_nilS ?_) | ((with_reducible refine k_dnil ?_); (with_reducible apply d_nil hK); (· exact nmX); clear hK; clear K) | ((with_reducible refine k_dguard ?_); (first | (refine d_gt rfl ?_) | (refine d_gf rfl ?_) | (refine d_gx rfl ?_) | (refine d_gs rfl ?_))) | ((with_reducible refine k_dop ?_); refine d_step (by first | exact Or.inl rfl | exact Or.inr rfl) ?_) | (with_reducible refine d_back ?_) | ((with_reducible refine k_br ?_); (first | (with_reducible first | refine Br_dec ?_ | refine Br_not ?_ | refine Br_eqF ?_ | refine Br_and ?_ | refine Br_or ?_ | refine Br_neg ?_ | refine Br_band ?_ | refine Br_bor ?_ | refine Br_beq ?_) | (refine Br_t (by first | omega | assumption | rfl) ?_) | (refine Br_f (by first | omega | assumption | decide) ?_) | (with_reducible apply Br_sb <;> intro hbr <;> (first | subst hbr | simp only [hbr] | skip)) | (with_reducible apply Br_s <;> intro hbr))) | (with_reducible refine WN_succ ?_) | ((first | (with_reducible apply q_eqI) | (with_reducible apply q_eqN)); (first | exact nuI | exact nuN)) | ((first | (with_reducible apply q_eqL) | (with_reducible apply q_eqO)); (first | exact liL | exact liO)))
    all_goals first | (exfalso; omega) | skip
    rw [if_pos (rfl : true = true)]
    generalize hE : (if s < 0 then (0 : Int) else s) = E
    have hE2 : 0 ≤ E ∧ (s ≤ E ∧ (E = s ∨ (E = 0 ∧ s = -1))) := by split at hE <;> omega
    refine W_down (a.toNat) (fun m st => ∃ x g, m = x.toNat ∧ x ∈ pathG l 8 a ∧ (∀ y ∈ pathG l 8 a, x < y → E < y) ∧ (g = true ↔ ∃ y ∈ pathG l 8 a, x < y ∧ us l y.toNat - insF l (vF v) y ≤ flr l low y.toNat) ∧
      st = ⟨[(0, accs l), (4, .bool low), (11, .sl kI 1 0 l.length), (12, .int .i64 E), (13, .bool g), (14, .int .i64 x)], upd (fun _ => none) kI ((insL l v).map (.int .i64))⟩) ⟨a, false, rfl, path_self hp, fun y hy h => by have := path_range hp hy; omega, ⟨(fun h => by cases h), (fun ⟨y, hy, h, _⟩ => by have := path_range hp hy; omega)⟩, rfl⟩ ?_
    rintro m e' h' ⟨x, g, rfl, hx, hxE, hg, he⟩
    cases he
    have hxr := path_range hp hx
    by_cases hxx : E < x
    · have hxl : x.toNat < l.length := by omega
      have hpx := ht x.toNat hxl hxl
      unfold okP at hpx
      rw [← pa_at hxl] at hpx
      have hpp : 0 ≤ pa l x.toNat ∧ pa l x.toNat < x := by rcases hpx with h | h <;> omega
      have hup := pathF_up hp (by rw [pathF_is hp]; exact hx) hpp.1
      rw [pathF_is hp] at hup
      have hgap : ∀ y ∈ pathG l 8 a, pa l x.toNat < y → x ≤ y := fun y hy h => by
        refine Classical.byContradiction fun h2 => ?_
        have := pathF_gap hp (by rw [pathF_is hp]; exact hx) (by rw [pathF_is hp]; exact hy) (by omega)
        omega
      have g0 : (l.flatMap Acct.cells)[x.toNat * 5]? = some (.int .i64 (pa l x.toNat)) := by rw [ac0 hxl, pa_at hxl]
      have g1 : (l.flatMap Acct.cells)[x.toNat * 5 + 1]? = some (.int .i64 (us l x.toNat)) := by rw [ac1 hxl, us_at hxl]
      have g2 : (l.flatMap Acct.cells)[x.toNat * 5 + 2]? = some (.int .i64 (mn l x.toNat)) := by rw [ac2 hxl, mn_at hxl]
      have g3 : (l.flatMap Acct.cells)[x.toNat * 5 + 3]? = some (.int .i64 (lw l x.toNat)) := by rw [ac3 hxl, lw_at hxl]
      have gI := insL_g (v := v) hxl
      rw [Int.toNat_of_nonneg hxr.1] at gI
      have hu := us_in ham.1 x.toNat
      have hi := ins_in hv x
      have hfl : flr l low x.toNat = if low then lw l x.toNat else mn l x.toNat := rfl
      have fin : ∀ g' : Bool, (g' = true ↔ (g = true ∨ us l x.toNat - insF l (vF v) x ≤ flr l low x.toNat)) → ∃ m', m' < x.toNat ∧ ∃ x' g'', m' = x'.toNat ∧ x' ∈ pathG l 8 a ∧ (∀ y ∈ pathG l 8 a, x' < y → E < y) ∧ (g'' = true ↔ ∃ y ∈ pathG l 8 a, x' < y ∧ us l y.toNat - insF l (vF v) y ≤ flr l low y.toNat) ∧
          (⟨[(0, accs l), (4, .bool low), (11, .sl kI 1 0 l.length), (12, .int .i64 E), (13, .bool g'), (14, .int .i64 (pa l x.toNat))], upd (fun _ => none) kI ((insL l v).map (.int .i64))⟩ : St) = ⟨[(0, accs l), (4, .bool low), (11, .sl kI 1 0 l.length), (12, .int .i64 E), (13, .bool g''), (14, .int .i64 x')], upd (fun _ => none) kI ((insL l v).map (.int .i64))⟩ := fun g' hg' =>
        ⟨(pa l x.toNat).toNat, by omega, pa l x.toNat, g', rfl, hup, fun y hy h => by have := hgap y hy h; omega, by
          rw [hg', hg]
          constructor
          · rintro (⟨y, hy, h, r⟩ | h)
            · exact ⟨y, hy, by omega, r⟩
            · exact ⟨x, hx, hpp.2, h⟩
          · rintro ⟨y, hy, h, r⟩
            have := hgap y hy h
            by_cases hyx : y = x
            · subst hyx; exact .inr r
            · exact .inl ⟨y, hy, by omega, r⟩, rfl⟩
      clear hg hxE hgap hup hpx
      rw [hfl] at fin
      cases low <;> cases g
      all_goals simp only [Bool.false_eq_true, if_false, if_true, false_or, true_or, iff_true] at fin
      all_goals
        repeat' (first | (with_reducible first | refine W_seq ?_ | refine then_n ?_ | refine W_block ?_ | refine blk_n ?_ | refine blk_r ?_ | refine blk_e ?_ | refine W_skip ?_ | refine W_ret ?_ | refine then_r ?_ | refine W_exit ?_ | refine then_e ?_) | (refine blk_j (by decide) ?_) | ((with_reducible refine s_reg ?_); intro K hK) | ((with_reducible refine k_nil ?_); (with_reducible apply s_nil hK); (· exact nmX); clear hK; clear K) | ((with_reducible refine k_cond ?_); (first | ((with_reducible apply s_condT); (· rfl); (· exact nmX)) | ((with_reducible apply s_condF); (· rfl); (· exact nmX)) | ((with_reducible apply s_condS); (· rfl); (· exact nmX); (· exact nmX)))) | ((with_reducible refine k_guard ?_); (first | (refine s_gt rfl ?_) | (refine s_gf1 rfl ?_) | (refine s_gfn rfl ?_) | (refine s_gx1 rfl ?_) | (refine s_gxn rfl ?_) | (refine s_gs rfl ?_))) | ((with_reducible refine k_mv ?_); (refine s_mv rfl ?_)) | ((with_reducible refine k_pick ?_); (first | (refine s_pickT rfl rfl ?_) | (refine s_pickF rfl rfl ?_))) | ((with_reducible refine k_leq ?_); (refine s_leq rfl rfl ?_)) | ((with_reducible refine k_gtr ?_); (refine s_gtr rfl rfl ?_)) | ((with_reducible refine k_iaddr ?_); (first | ((with_reducible apply s_iaddrV); (· rfl); (· rfl); (· (first | omega | exact ⟨rfl, by omega⟩ | skip))) | ((with_reducible apply s_iaddrO); (· rfl); (· rfl); (· (first | omega | exact ⟨rfl, by omega⟩ | skip)); (· (exact hpX))) | ((with_reducible apply s_iaddrSO); (· rfl); (· assumption); (· rfl); (· (first | omega | exact ⟨rfl, by omega⟩ | skip)); (· (first | (simp (disch := omega) only [w64, wu8, wu16, wu32, wu64, tm_nn, td_nn, fd_nn, Int.reduceAdd, Int.reduceSub, Int.reduceMul, Int.reduceDiv, Int.reduceMod, Int.reduceNeg, Int.reduceToNat, Int.toNat_natCast, Int.toNat_zero, Int.zero_add, Int.add_zero, Int.one_mul, Int.reducePow, Nat.mul_one, Nat.zero_add, Nat.add_zero, Nat.zero_mul, Nat.reduceAdd, Nat.reduceMul, Nat.reduceSub, Nat.min_eq_left, IntKind.bits, Nat.sub_zero, g0, g1, g2, g3, gI]; try rfl; done) | rfl)); intro ks hks))) | ((with_reducible refine k_load ?_); (first | ((with_reducible apply s_loadV); (· rfl)) | ((with_reducible apply s_loadP); (· rfl); (· (exact hpX))))) | ((with_reducible refine k_sub ?_); ((with_reducible apply s_sub); (· rfl); (· rfl))) | ((with_reducible refine k_faddr ?_); (first | ((with_reducible apply s_faddrV); (· rfl); (· rfl)) | ((with_reducible apply s_faddrP); (· rfl); (· rfl)))) | ((with_reducible refine k_dreg ?_); refine s_dreg rfl rfl ?_; intro K hK) | (with_reducible refine d_nilS ?_) | ((with_reducible refine k_dnil ?_); (with_reducible apply d_nil hK); (· exact nmX); clear hK; clear K) | ((with_reducible refine k_dguard ?_); (first | (refine d_gt rfl ?_) | (refine d_gf rfl ?_) | (refine d_gx rfl ?_) | (refine d_gs rfl ?_))) | ((with_reducible refine k_dop ?_); refine d_step (by first | exact Or.inl rfl | exact Or.inr rfl) ?_) | (with_reducible refine d_back ?_) | ((with_reducible refine k_br ?_); (first | (with_reducible first | refine Br_dec ?_ | refine Br_not ?_ | refine Br_eqF ?_ | refine Br_and ?_ | refine Br_or ?_ | refine Br_neg ?_ | refine Br_band ?_ | refine Br_bor ?_ | refine Br_beq ?_) | (refine Br_t (by first | omega | assumption | rfl) ?_) | (refine Br_f (by first | omega | assumption | decide) ?_) | (with_reducible apply Br_sb <;> intro hbr <;> (first | subst hbr | simp only [hbr] | skip)) | (with_reducible apply Br_s <;> intro hbr))) | (with_reducible refine WN_succ ?_) | ((first | (with_reducible apply q_eqI) | (with_reducible apply q_eqN)); (first | (simp (disch := omega) only [w64, wu8, wu16, wu32, wu64, tm_nn, td_nn, fd_nn, Int.reduceAdd, Int.reduceSub, Int.reduceMul, Int.reduceDiv, Int.reduceMod, Int.reduceNeg, Int.reduceToNat, Int.toNat_natCast, Int.toNat_zero, Int.zero_add, Int.add_zero, Int.one_mul, Int.reducePow, Nat.mul_one, Nat.zero_add, Nat.add_zero, Nat.zero_mul, Nat.reduceAdd, Nat.reduceMul, Nat.reduceSub, Nat.min_eq_left, IntKind.bits, Nat.sub_zero, g0, g1, g2, g3, gI]; try rfl; done) | rfl)) | ((first | (with_reducible apply q_eqL) | (with_reducible apply q_eqO)); (first | (simp (disch := omega) only [upd_self, upd_ne, upd_upd, rep, splice, List.take_succ_cons, List.take_zero, List.drop_succ_cons, List.drop_zero, List.cons_append, List.nil_append, List.append_nil, List.length_cons, List.length_nil, List.reduceReplicate, List.flatten_cons, List.flatten_nil, Nat.reduceAdd, Nat.reduceMul, Nat.reduceSub, Nat.zero_add, Nat.add_zero, List.getElem?_cons_zero, List.getElem?_cons_succ, g0, g1, g2, g3, gI]; try rfl; done) | rfl)))
      all_goals first | (exfalso; omega) | exact fin true rfl | exact fin true ⟨fun _ => by assumption, fun _ => rfl⟩ | exact fin false ⟨(fun h => by cases h), fun h => absurd h (by assumption)⟩
    · cases g
      · have hno : ∀ y ∈ pathG l 8 a, x < y → ¬ us l y.toNat - insF l (vF v) y ≤ flr l low y.toNat := fun y hy h h2 => by
          have := hg.2 ⟨y, hy, h, h2⟩
          cases this
        repeat' (first | (with_reducible first | refine W_seq ?_ | refine then_n ?_ | refine W_block ?_ | refine blk_n ?_ | refine blk_r ?_ | refine blk_e ?_ | refine W_skip ?_ | refine W_ret ?_ | refine then_r ?_ | refine W_exit ?_ | refine then_e ?_) | (refine blk_j (by decide) ?_) | ((with_reducible refine s_reg ?_); intro K hK) | ((with_reducible refine k_nil ?_); (with_reducible apply s_nil hK); (· exact nmX); clear hK; clear K) | ((with_reducible refine k_cond ?_); (first | ((with_reducible apply s_condT); (· rfl); (· exact nmX)) | ((with_reducible apply s_condF); (· rfl); (· exact nmX)) | ((with_reducible apply s_condS); (· rfl); (· exact nmX); (· exact nmX)))) | ((with_reducible refine k_guard ?_); (first | (refine s_gt rfl ?_) | (refine s_gf1 rfl ?_) | (refine s_gfn rfl ?_) | (refine s_gx1 rfl ?_) | (refine s_gxn rfl ?_) | (refine s_gs rfl ?_))) | ((with_reducible refine k_mv ?_); (refine s_mv rfl ?_)) | ((with_reducible refine k_pick ?_); (first | (refine s_pickT rfl rfl ?_) | (refine s_pickF rfl rfl ?_))) | ((with_reducible refine k_neq ?_); (first | (refine s_neq rfl rfl ?_) | (refine s_strNe rfl rfl ?_))) | ((with_reducible refine k_gtr ?_); (refine s_gtr rfl rfl ?_)) | ((with_reducible refine k_dreg ?_); refine s_dreg rfl rfl ?_; intro K hK) | (with_reducible refine d_nilS ?_) | ((with_reducible refine k_dnil ?_); (with_reducible apply d_nil hK); (· exact nmX); clear hK; clear K) | ((with_reducible refine k_dguard ?_); (first | (refine d_gt rfl ?_) | (refine d_gf rfl ?_) | (refine d_gx rfl ?_) | (refine d_gs rfl ?_))) | ((with_reducible refine k_dop ?_); refine d_step (by first | exact Or.inl rfl | exact Or.inr rfl) ?_) | (with_reducible refine d_back ?_) | ((with_reducible refine k_br ?_); (first | (with_reducible first | refine Br_dec ?_ | refine Br_not ?_ | refine Br_eqF ?_ | refine Br_and ?_ | refine Br_or ?_ | refine Br_neg ?_ | refine Br_band ?_ | refine Br_bor ?_ | refine Br_beq ?_) | (refine Br_t (by first | omega | assumption | rfl) ?_) | (refine Br_f (by first | omega | assumption | decide) ?_) | (with_reducible apply Br_sb <;> intro hbr <;> (first | subst hbr | simp only [hbr] | skip)) | (with_reducible apply Br_s <;> intro hbr))) | (with_reducible refine WN_succ ?_) | ((first | (with_reducible apply q_eqI) | (with_reducible apply q_eqN)); (first | exact nuI | exact nuN)) | ((first | (with_reducible apply q_eqL) | (with_reducible apply q_eqO)); (first | exact liL | exact liO)))
        all_goals first | (exfalso; omega) | skip
        · refine Fin_bf trivial rfl ?_
          have hxE' : x = E := by assumption
          rintro (h | ⟨y, hy, h0, hys, hf⟩)
          · refine h ⟨⟨hv, ha, hs⟩, ?_⟩
            rcases hE2.2.2 with h1 | h1
            · right; rw [← h1, ← hxE']; exact hx
            · exact .inl h1.2
          · exact hno y hy (by omega) hf
        · refine Fin_bt trivial rfl (.inl ?_)
          rintro ⟨_, h1 | h1⟩
          · omega
          · have := path_range hp h1
            have := hxE s h1 (by omega)
            omega
      · obtain ⟨y, hy, h, h2⟩ := hg.1 rfl
        have := hxE y hy h
        repeat' (first | (with_reducible first | refine W_seq ?_ | refine then_n ?_ | refine W_block ?_ | refine blk_n ?_ | refine blk_r ?_ | refine blk_e ?_ | refine W_skip ?_ | refine W_ret ?_ | refine then_r ?_ | refine W_exit ?_ | refine then_e ?_) | (refine blk_j (by decide) ?_) | ((with_reducible refine s_reg ?_); intro K hK) | ((with_reducible refine k_nil ?_); (with_reducible apply s_nil hK); (· exact nmX); clear hK; clear K) | ((with_reducible refine k_cond ?_); (first | ((with_reducible apply s_condT); (· rfl); (· exact nmX)) | ((with_reducible apply s_condF); (· rfl); (· exact nmX)) | ((with_reducible apply s_condS); (· rfl); (· exact nmX); (· exact nmX)))) | ((with_reducible refine k_guard ?_); (first | (refine s_gt rfl ?_) | (refine s_gf1 rfl ?_) | (refine s_gfn rfl ?_) | (refine s_gx1 rfl ?_) | (refine s_gxn rfl ?_) | (refine s_gs rfl ?_))) | ((with_reducible refine k_mv ?_); (refine s_mv rfl ?_)) | ((with_reducible refine k_pick ?_); (first | (refine s_pickT rfl rfl ?_) | (refine s_pickF rfl rfl ?_))) | ((with_reducible refine k_neq ?_); (first | (refine s_neq rfl rfl ?_) | (refine s_strNe rfl rfl ?_))) | ((with_reducible refine k_gtr ?_); (refine s_gtr rfl rfl ?_)) | ((with_reducible refine k_dreg ?_); refine s_dreg rfl rfl ?_; intro K hK) | (with_reducible refine d_nilS ?_) | ((with_reducible refine k_dnil ?_); (with_reducible apply d_nil hK); (· exact nmX); clear hK; clear K) | ((with_reducible refine k_dguard ?_); (first | (refine d_gt rfl ?_) | (refine d_gf rfl ?_) | (refine d_gx rfl ?_) | (refine d_gs rfl ?_))) | ((with_reducible refine k_dop ?_); refine d_step (by first | exact Or.inl rfl | exact Or.inr rfl) ?_) | (with_reducible refine d_back ?_) | ((with_reducible refine k_br ?_); (first | (with_reducible first | refine Br_dec ?_ | refine Br_not ?_ | refine Br_eqF ?_ | refine Br_and ?_ | refine Br_or ?_ | refine Br_neg ?_ | refine Br_band ?_ | refine Br_bor ?_ | refine Br_beq ?_) | (refine Br_t (by first | omega | assumption | rfl) ?_) | (refine Br_f (by first | omega | assumption | decide) ?_) | (with_reducible apply Br_sb <;> intro hbr <;> (first | subst hbr | simp only [hbr] | skip)) | (with_reducible apply Br_s <;> intro hbr))) | (with_reducible refine WN_succ ?_) | ((first | (with_reducible apply q_eqI) | (with_reducible apply q_eqN)); (first | exact nuI | exact nuN)) | ((first | (with_reducible apply q_eqL) | (with_reducible apply q_eqO)); (first | exact liL | exact liO)))
        all_goals first | (exfalso; omega) | skip
        all_goals exact Fin_bt trivial rfl (.inr ⟨y, hy, by omega, by omega, h2⟩)
  · repeat' (first | (with_reducible first | refine W_seq ?_ | refine then_n ?_ | refine W_block ?_ | refine blk_n ?_ | refine blk_r ?_ | refine blk_e ?_ | refine W_skip ?_ | refine W_ret ?_ | refine then_r ?_ | refine W_exit ?_ | refine then_e ?_) | (refine blk_j (by decide) ?_) | ((with_reducible refine s_reg ?_); intro K hK) | ((with_reducible refine k_nil ?_); (with_reducible apply s_nil hK); (· exact nmX); clear hK; clear K) | ((with_reducible refine k_cond ?_); (first | ((with_reducible apply s_condT); (· rfl); (· exact nmX)) | ((with_reducible apply s_condF); (· rfl); (· exact nmX)) | ((with_reducible apply s_condS); (· rfl); (· exact nmX); (· exact nmX)))) | ((with_reducible refine k_guard ?_); (first | (refine s_gt rfl ?_) | (refine s_gf1 rfl ?_) | (refine s_gfn rfl ?_) | (refine s_gx1 rfl ?_) | (refine s_gxn rfl ?_) | (refine s_gs rfl ?_))) | ((with_reducible refine k_mv ?_); (refine s_mv rfl ?_)) | ((with_reducible refine k_len ?_); (first | (refine s_len rfl rfl ?_) | ((with_reducible apply s_len); (· rfl); (· exact SlOwn.len (by assumption))))) | ((with_reducible refine k_pick ?_); (first | (refine s_pickT rfl rfl ?_) | (refine s_pickF rfl rfl ?_))) | ((with_reducible refine k_not ?_); (refine s_not rfl (by first | exact Bool.not_true | exact Bool.not_false | rfl) ?_)) | ((with_reducible refine k_lss ?_); (refine s_lss rfl rfl ?_)) | ((with_reducible refine k_geq ?_); (refine s_geq rfl rfl ?_)) | ((with_reducible refine k_callF ?_); (first | ((with_reducible apply s_call1); (· rfl)) | ((with_reducible apply s_calln); (· rfl)))) | ((with_reducible refine k_con ?_); (first | ((with_reducible apply con_valB (c1)); (· (exact agX))))) | ((with_reducible refine k_dreg ?_); refine s_dreg rfl rfl ?_; intro K hK) | (with_reducible refine d_nilS ?_) | ((with_reducible refine k_dnil ?_); (with_reducible apply d_nil hK); (· exact nmX); clear hK; clear K) | ((with_reducible refine k_dguard ?_); (first | (refine d_gt rfl ?_) | (refine d_gf rfl ?_) | (refine d_gx rfl ?_) | (refine d_gs rfl ?_))) | ((with_reducible refine k_dop ?_); refine d_step (by first | exact Or.inl rfl | exact Or.inr rfl) ?_) | (with_reducible refine d_back ?_) | ((with_reducible refine k_br ?_); (first | (with_reducible first | refine Br_dec ?_ | refine Br_not ?_ | refine Br_eqF ?_ | refine Br_and ?_ | refine Br_or ?_ | refine Br_neg ?_ | refine Br_band ?_ | refine Br_bor ?_ | refine Br_beq ?_) | (refine Br_t (by first | omega | assumption | rfl) ?_) | (refine Br_f (by first | omega | assumption | decide) ?_) | (with_reducible apply Br_sb <;> intro hbr <;> (first | subst hbr | simp only [hbr] | skip)) | (with_reducible apply Br_s <;> intro hbr))) | (with_reducible refine WN_succ ?_) | ((first | (with_reducible apply q_eqI) | (with_reducible apply q_eqN)); (first | exact nuI | exact nuN)) | ((first | (with_reducible apply q_eqL) | (with_reducible apply q_eqO)); (first | exact liL | exact liO)))
    all_goals first | exact Fin_bt trivial rfl (.inl fun h => hq h.1) | (exfalso; exact hq ⟨by assumption, by omega⟩)
end Go.Proofs.Ytfdfmbmhefckaaa
end
section
/- Protection: contracts of the program's functions, second part. -/
set_option linter.unusedSimpArgs false
set_option linter.unusedVariables false
namespace Go.Proofs.Ytfdfmbmhefckaaa
open Go.AM Classical
set_option maxRecDepth 100000
set_option maxHeartbeats 4000000
end Go.Proofs.Ytfdfmbmhefckaaa
end
section
/- Protection: contracts of the reference's functions. -/
set_option linter.unusedSimpArgs false
set_option linter.unusedVariables false
namespace Go.Proofs.Ytfdfmbmhefckaaa
open Go.AM Classical
set_option maxRecDepth 100000
set_option maxHeartbeats 4000000
end Go.Proofs.Ytfdfmbmhefckaaa
end
section
/- Protection: contracts of the reference's functions, second part. -/
set_option linter.unusedSimpArgs false
set_option linter.unusedVariables false
namespace Go.Proofs.Ytfdfmbmhefckaaa
open Go.AM Classical
set_option maxRecDepth 100000
set_option maxHeartbeats 4000000
end Go.Proofs.Ytfdfmbmhefckaaa
end
section
/- Accounts: lists of accounts as arguments. -/
set_option linter.unusedSimpArgs false
set_option linter.unusedVariables false
namespace Go.Proofs.Ytfdfmbmhefckaaa
open Go.AM Classical
set_option maxRecDepth 100000
set_option maxHeartbeats 4000000
theorem typed_nums {P : Program} {n : Nat} {k : IntKind} : ∀ {fs : List Field} {ps : List (List D)}, All2 (fun (f : Field) p => Typed P (n + 1) f.type p) fs ps → (∀ f ∈ fs, P.underlying f.type = some (.int k)) →
    ∃ xs : List Int, ps.flatten = xs.map (.int k) ∧ xs.length = fs.length ∧ ∀ x ∈ xs, (Lit.int k x).wf = true
  | [], ps, h, _ => by
    obtain rfl : ps = [] := by have := h.1; simpa using this.symm
    exact ⟨[], rfl, rfl, by simp⟩
  | f :: fs, [], h, _ => by have := h.1; simp at this
  | f :: fs, p :: ps, h, hf => by
    obtain ⟨x, hx, hw⟩ := typed_int' (hf f (by simp)) (h.2 0 f p rfl rfl)
    obtain ⟨xs, h1, h2, h3⟩ := typed_nums (fs := fs) (ps := ps) ⟨by have := h.1; simpa using this, fun i v d h4 h5 => h.2 (i + 1) v d (by simpa using h4) (by simpa using h5)⟩ (fun f hm => hf f (by simp [hm]))
    exact ⟨x :: xs, by simp [hx, h1], by simp [h2], by simpa using ⟨hw, h3⟩⟩
theorem typed_acct {n : Nat} {p : List D} (h : Typed Try.prog (n + 2) 44 p) : ∃ a : Acct, p = a.cells ∧ AIn a := by
  obtain ⟨ps, rfl, h1⟩ := typed_struct' Try.underlying44 h
  obtain ⟨xs, h2, h3, h4⟩ := typed_nums (k := .i64) h1 (by simp [Try.underlying3])
  match xs, h3, h2, h4 with
  | [a, b, c, d, e], _, h2, h4 =>
    refine ⟨⟨a, b, c, d, e⟩, h2, ?_⟩
    simp only [List.mem_cons, List.not_mem_nil, or_false, forall_eq_or_imp, forall_eq] at h4
    exact ⟨wf_i64 h4.1, wf_i64 h4.2.1, wf_i64 h4.2.2.1, wf_i64 h4.2.2.2.1, wf_i64 h4.2.2.2.2⟩
theorem maxLen_le {n : Nat} (h : n ≤ maxLen) : n ≤ 9223372036854775807 := by
  unfold maxLen at h; omega
end Go.Proofs.Ytfdfmbmhefckaaa
end
section
/- Reclaim plans: pages; the checks; what is leaving. -/
set_option linter.unusedSimpArgs false
set_option linter.unusedVariables false
namespace Go.Proofs.Ytfdfmbmhefckaaa
open Go.AM Classical
set_option maxRecDepth 100000
set_option maxHeartbeats 4000000
structure Pg where
  frame : Int
  account : Int
  age : Int
  reason : Int
  owner : Int
  normal : Bool
  leaving : Bool
def Pg.cells (p : Pg) : List D := [.int .i64 p.frame, .int .i64 p.account, .int .i64 p.age, .int .i64 p.reason, .int .i64 p.owner, .bool p.normal, .bool p.leaving]
theorem Pg.cells_len (p : Pg) : p.cells.length = 7 := rfl
abbrev pgs (p : List Pg) : D := .vs 7 (p.flatMap Pg.cells) p.length
theorem pgs_len (p : List Pg) : (p.flatMap Pg.cells).length = p.length * 7 := fm_len Pg.cells_len p
theorem pgs_scal (p : List Pg) : (p.flatMap Pg.cells).all scal = true := fm_scal (fun _ => rfl) p
theorem pgr {p : List Pg} {i : Nat} (h : i < p.length) : ((p.flatMap Pg.cells).drop (i * 7)).take 7 = [.int .i64 p[i].frame, .int .i64 p[i].account, .int .i64 p[i].age, .int .i64 p[i].reason, .int .i64 p[i].owner, .bool p[i].normal, .bool p[i].leaving] := fm_row Pg.cells_len h
theorem pg2 {p : List Pg} {i : Nat} (h : i < p.length) : (p.flatMap Pg.cells)[i * 7 + 2]? = some (.int .i64 p[i].age) := fm_cell (j := 2) Pg.cells_len h (by omega)
theorem pg3 {p : List Pg} {i : Nat} (h : i < p.length) : (p.flatMap Pg.cells)[i * 7 + 3]? = some (.int .i64 p[i].reason) := fm_cell (j := 3) Pg.cells_len h (by omega)
def prevF (p : List Pg) (i : Nat) : Int := if i = 0 then -1 else (if h : i - 1 < p.length then p[i - 1].frame else 0)
theorem prevF_succ {p : List Pg} {i : Nat} (h : i < p.length) : prevF p (i + 1) = p[i].frame := by
  unfold prevF; rw [if_neg (by omega), dif_pos (by omega)]; rfl
def pgE (n prev : Int) (q : Pg) : Int :=
  if q.frame < 0 ∨ 256 ≤ q.frame ∨ q.account < -1 ∨ n ≤ q.account then 2 else if q.frame ≤ prev then 10 else if q.reason < 0 ∨ 10 < q.reason ∨ q.age < -1 ∨ q.owner < -1 then 1 else if q.reason = 0 ∧ q.leaving = false ∧ q.age = -1 then 3 else 0
def errA (l : List Acct) (p : List Pg) (i : Nat) : Int := if h : i < p.length then pgE l.length (prevF p i) p[i] else 0
def fE (f : Nat → Int) : Nat → Int
  | 0 => 0
  | n + 1 => if fE f n = 0 then f n else fE f n
theorem fE_zero {f : Nat → Int} : ∀ {n}, fE f n = 0 ↔ ∀ i, i < n → f i = 0
  | 0 => by simp [fE]
  | n + 1 => by
    unfold fE
    constructor
    · intro h i hi
      split at h
      · rename_i h0
        rcases Nat.lt_succ_iff_lt_or_eq.1 hi with h1 | rfl
        · exact fE_zero.1 h0 i h1
        · exact h
      · contradiction
    · intro h
      rw [if_pos (fE_zero.2 fun i hi => h i (by omega))]
      exact h n (by omega)
theorem fE_stop {f : Nat → Int} {i e : Nat} : ∀ {n}, i < n → (∀ j, j < i → f j = 0) → f i = e → e ≠ 0 → fE f n = e
  | 0, h, _, _, _ => by omega
  | n + 1, h, hj, hf, he => by
    unfold fE
    rcases Nat.lt_succ_iff_lt_or_eq.1 h with h1 | rfl
    · rw [fE_stop h1 hj hf he, if_neg (by omega)]
    · rw [if_pos (fE_zero.2 hj), hf]
noncomputable def pchk (p : List Pg) (l : List Acct) : Int := if chkF l = 0 then fE (errA l p) p.length else chkF l
theorem pcheck_c (p : List Pg) (l : List Acct) (hL : l.length ≤ 9223372036854775807) (hP : p.length ≤ 1000000) : PCon Try.prog 17 [pgs p, accs l] (.int .i64 (pchk p l)) := by
  have c1 := check_c l hL
  refine A17p (by simp [A17]) ?_
  simp only [A17, argEnv]
  unfold pchk
  by_cases h : chkF l = 0
  · rw [h] at c1
    rw [if_pos h]
    have hpl := pgs_len p
    repeat' (first | (with_reducible first | refine W_seq ?_ | refine then_n ?_ | refine W_block ?_ | refine blk_n ?_ | refine blk_r ?_ | refine blk_e ?_ | refine W_skip ?_ | refine W_ret ?_ | refine then_r ?_ | refine W_exit ?_ | refine then_e ?_) | (refine blk_j (by decide) ?_) | ((with_reducible refine s_reg ?_); intro K hK) | ((with_reducible refine k_nil ?_); (with_reducible apply s_nil hK); (· exact nmX); clear hK; clear K) | ((with_reducible refine k_cond ?_); (first | ((with_reducible apply s_condT); (· rfl); (· exact nmX)) | ((with_reducible apply s_condF); (· rfl); (· exact nmX)) | ((with_reducible apply s_condS); (· rfl); (· exact nmX); (· exact nmX)))) | ((with_reducible refine k_guard ?_); (first | (refine s_gt rfl ?_) | (refine s_gf1 rfl ?_) | (refine s_gfn rfl ?_) | (refine s_gx1 rfl ?_) | (refine s_gxn rfl ?_) | (refine s_gs rfl ?_))) | ((with_reducible refine k_mv ?_); (refine s_mv rfl ?_)) | ((with_reducible refine k_len ?_); (first | (refine s_len rfl rfl ?_) | ((with_reducible apply s_len); (· rfl); (· exact SlOwn.len (by assumption))))) | ((with_reducible refine k_neq ?_); (first | (refine s_neq rfl rfl ?_) | (refine s_strNe rfl rfl ?_))) | ((with_reducible refine k_callF ?_); (first | ((with_reducible apply s_call1); (· rfl)) | ((with_reducible apply s_calln); (· rfl)))) | ((with_reducible refine k_con ?_); (first | ((with_reducible apply con_val (c1)); (· (exact agX)); (· rfl); (· exact fun _ => rfl)))) | ((with_reducible refine k_br ?_); (first | (with_reducible first | refine Br_dec ?_ | refine Br_not ?_ | refine Br_eqF ?_ | refine Br_and ?_ | refine Br_or ?_ | refine Br_neg ?_ | refine Br_band ?_ | refine Br_bor ?_ | refine Br_beq ?_) | (refine Br_t (by first | omega | assumption | rfl) ?_) | (refine Br_f (by first | omega | assumption | decide) ?_) | (with_reducible apply Br_sb <;> intro hbr <;> (first | subst hbr | simp only [hbr] | skip)) | (with_reducible apply Br_s <;> intro hbr))) | (with_reducible refine WN_succ ?_) | ((first | (with_reducible apply q_eqI) | (with_reducible apply q_eqN)); (first | exact nuI | exact nuN)) | ((first | (with_reducible apply q_eqL) | (with_reducible apply q_eqO)); (first | exact liL | exact liO)))
    refine W_for p.length (fun i st => ∃ h', (∀ j, j < i → errA l p j = 0) ∧ st = ⟨[(1, accs l), (6, .int .i64 (prevF p i)), (14, pgs p), (15, .int .i64 p.length), (16, .int .i64 i)], h'⟩) ⟨_, fun j h => by omega, rfl⟩ ?_ ?_
    · rintro i e' h' hi ⟨h1, hj, he⟩
      cases he
      have hrow := pgr hi
      have hstop : ∀ e : Nat, errA l p i = e → e ≠ 0 → fE (errA l p) p.length = e := fun e h2 h3 => fE_stop hi hj h2 h3
      have hnext : errA l p i = 0 → ∀ j, j < i + 1 → errA l p j = 0 := fun h2 j h3 => by
        rcases Nat.lt_succ_iff_lt_or_eq.1 h3 with h4 | rfl
        · exact hj j h4
        · exact h2
      rw [prevF_succ hi]
      have hea : errA l p i = pgE l.length (prevF p i) p[i] := dif_pos hi
      rw [hea] at hstop hnext
      clear hea hj
      generalize p[i] = q at *
      generalize prevF p i = pv at *
      obtain ⟨fr, ac, ag, re, ow, nm, lv⟩ := q
      simp only [pgE] at hstop hnext
      cases lv
      all_goals
        repeat' (first | (with_reducible first | refine W_seq ?_ | refine then_n ?_ | refine W_block ?_ | refine blk_n ?_ | refine blk_r ?_ | refine blk_e ?_ | refine W_skip ?_ | refine W_ret ?_ | refine then_r ?_ | refine W_exit ?_ | refine then_e ?_) | (refine blk_j (by decide) ?_) | ((with_reducible refine s_reg ?_); intro K hK) | ((with_reducible refine k_nil ?_); (with_reducible apply s_nil hK); (· exact nmX); clear hK; clear K) | ((with_reducible refine k_cond ?_); (first | ((with_reducible apply s_condT); (· rfl); (· exact nmX)) | ((with_reducible apply s_condF); (· rfl); (· exact nmX)) | ((with_reducible apply s_condS); (· rfl); (· exact nmX); (· exact nmX)))) | ((with_reducible refine k_guard ?_); (first | (refine s_gt rfl ?_) | (refine s_gf1 rfl ?_) | (refine s_gfn rfl ?_) | (refine s_gx1 rfl ?_) | (refine s_gxn rfl ?_) | (refine s_gs rfl ?_))) | ((with_reducible refine k_mv ?_); (refine s_mv rfl ?_)) | ((with_reducible refine k_len ?_); (first | (refine s_len rfl rfl ?_) | ((with_reducible apply s_len); (· rfl); (· exact SlOwn.len (by assumption))))) | ((with_reducible refine k_pick ?_); (first | (refine s_pickT rfl rfl ?_) | (refine s_pickF rfl rfl ?_))) | ((with_reducible refine k_not ?_); (refine s_not rfl (by first | exact Bool.not_true | exact Bool.not_false | rfl) ?_)) | ((with_reducible refine k_eql ?_); (first | (refine s_eql rfl rfl ?_) | (refine s_strEq rfl rfl ?_))) | ((with_reducible refine k_lss ?_); (refine s_lss rfl rfl ?_)) | ((with_reducible refine k_leq ?_); (refine s_leq rfl rfl ?_)) | ((with_reducible refine k_gtr ?_); (refine s_gtr rfl rfl ?_)) | ((with_reducible refine k_geq ?_); (refine s_geq rfl rfl ?_)) | ((with_reducible refine k_iaddr ?_); (first | ((with_reducible apply s_iaddrV); (· rfl); (· rfl); (· (first | omega | exact ⟨rfl, by omega⟩ | skip))) | ((with_reducible apply s_iaddrO); (· rfl); (· rfl); (· (first | omega | exact ⟨rfl, by omega⟩ | skip)); (· (exact hpX))) | ((with_reducible apply s_iaddrSO); (· rfl); (· assumption); (· rfl); (· (first | omega | exact ⟨rfl, by omega⟩ | skip)); (· (first | (simp (disch := omega) only [w64, wu8, wu16, wu32, wu64, tm_nn, td_nn, fd_nn, Int.reduceAdd, Int.reduceSub, Int.reduceMul, Int.reduceDiv, Int.reduceMod, Int.reduceNeg, Int.reduceToNat, Int.toNat_natCast, Int.toNat_zero, Int.zero_add, Int.add_zero, Int.one_mul, Int.reducePow, Nat.mul_one, Nat.zero_add, Nat.add_zero, Nat.zero_mul, Nat.reduceAdd, Nat.reduceMul, Nat.reduceSub, Nat.min_eq_left, IntKind.bits, Nat.sub_zero, hrow]; try rfl; done) | rfl)); intro ks hks))) | ((with_reducible refine k_load ?_); (first | ((with_reducible apply s_loadV); (· rfl)) | ((with_reducible apply s_loadP); (· rfl); (· (exact hpX))))) | ((with_reducible refine k_loadA ?_); (first | ((with_reducible apply s_loadAV); (· rfl); (· (first | exact Nat.le_of_ble_eq_true rfl | decide | omega | (simp; done) | (simp; omega) | skip))) | ((with_reducible apply s_loadAP); (· rfl); (· (exact hpX)); (· (first | exact Nat.le_of_ble_eq_true rfl | decide | omega | (simp; done) | (simp; omega) | skip))))) | ((with_reducible refine k_add ?_); ((with_reducible apply s_add); (· rfl); (· rfl))) | ((with_reducible refine k_store ?_); ((with_reducible apply s_store0); (· rfl); (· rfl); (· rfl); (· (exact hpX)); (· (exact ⟨rfl, by first | exact Nat.le_of_ble_eq_true rfl | omega | (simp [hrow]; omega)⟩)); (· ((first | (simp (disch := omega) only [upd_self, upd_ne, upd_upd, rep, splice, List.take_succ_cons, List.take_zero, List.drop_succ_cons, List.drop_zero, List.cons_append, List.nil_append, List.append_nil, List.length_cons, List.length_nil, List.reduceReplicate, List.flatten_cons, List.flatten_nil, Nat.reduceAdd, Nat.reduceMul, Nat.reduceSub, Nat.zero_add, Nat.add_zero, List.getElem?_cons_zero, List.getElem?_cons_succ, hrow]; try rfl; done) | rfl))); (· (first | exact upd_upd | rfl)))) | ((with_reducible refine k_faddr ?_); (first | ((with_reducible apply s_faddrV); (· rfl); (· rfl)) | ((with_reducible apply s_faddrP); (· rfl); (· rfl)))) | ((with_reducible refine k_alloc (dst := some 8) ?_); ((with_reducible apply s_alloc); intro k8 hk8; (try simp only [upd_none] at hk8))) | ((with_reducible refine k_br ?_); (first | (with_reducible first | refine Br_dec ?_ | refine Br_not ?_ | refine Br_eqF ?_ | refine Br_and ?_ | refine Br_or ?_ | refine Br_neg ?_ | refine Br_band ?_ | refine Br_bor ?_ | refine Br_beq ?_) | (refine Br_t (by first | omega | assumption | rfl) ?_) | (refine Br_f (by first | omega | assumption | decide) ?_) | (with_reducible apply Br_sb <;> intro hbr <;> (first | subst hbr | simp only [hbr] | skip)) | (with_reducible apply Br_s <;> intro hbr))) | (with_reducible refine WN_succ ?_) | ((first | (with_reducible apply q_eqI) | (with_reducible apply q_eqN)); (first | (simp (disch := omega) only [w64, wu8, wu16, wu32, wu64, tm_nn, td_nn, fd_nn, Int.reduceAdd, Int.reduceSub, Int.reduceMul, Int.reduceDiv, Int.reduceMod, Int.reduceNeg, Int.reduceToNat, Int.toNat_natCast, Int.toNat_zero, Int.zero_add, Int.add_zero, Int.one_mul, Int.reducePow, Nat.mul_one, Nat.zero_add, Nat.add_zero, Nat.zero_mul, Nat.reduceAdd, Nat.reduceMul, Nat.reduceSub, Nat.min_eq_left, IntKind.bits, Nat.sub_zero, hrow]; try rfl; done) | rfl)) | ((first | (with_reducible apply q_eqL) | (with_reducible apply q_eqO)); (first | (simp (disch := omega) only [upd_self, upd_ne, upd_upd, rep, splice, List.take_succ_cons, List.take_zero, List.drop_succ_cons, List.drop_zero, List.cons_append, List.nil_append, List.append_nil, List.length_cons, List.length_nil, List.reduceReplicate, List.flatten_cons, List.flatten_nil, Nat.reduceAdd, Nat.reduceMul, Nat.reduceSub, Nat.zero_add, Nat.add_zero, List.getElem?_cons_zero, List.getElem?_cons_succ, hrow]; try rfl; done) | rfl)))
      all_goals first
        | (rw [hstop 2 (by rw [if_pos (by omega)]; rfl) (by omega)]; exact Fin_flat trivial rfl rfl)
        | (rw [hstop 10 (by rw [if_neg (by omega), if_pos (by omega)]; rfl) (by omega)]; exact Fin_flat trivial rfl rfl)
        | (rw [hstop 1 (by rw [if_neg (by omega), if_neg (by omega), if_pos (by omega)]; rfl) (by omega)]; exact Fin_flat trivial rfl rfl)
        | (rw [hstop 3 (by rw [if_neg (by omega), if_neg (by omega), if_neg (by omega), if_pos ⟨by omega, rfl, by omega⟩]; rfl) (by omega)]; exact Fin_flat trivial rfl rfl)
        | exact ⟨_, hnext (by rw [if_neg (by omega), if_neg (by omega), if_neg (by omega), if_neg (by rintro ⟨h1, h2, h3⟩; first | omega | cases h2)]), rfl⟩
    · rintro e' h' ⟨h1, hj, he⟩
      cases he
      rw [fE_zero.2 hj]
      repeat' (first | (with_reducible first | refine W_seq ?_ | refine then_n ?_ | refine W_block ?_ | refine blk_n ?_ | refine blk_r ?_ | refine blk_e ?_ | refine W_skip ?_ | refine W_ret ?_ | refine then_r ?_ | refine W_exit ?_ | refine then_e ?_) | (refine blk_j (by decide) ?_) | ((with_reducible refine s_reg ?_); intro K hK) | ((with_reducible refine k_nil ?_); (with_reducible apply s_nil hK); (· exact nmX); clear hK; clear K) | ((with_reducible refine k_cond ?_); (first | ((with_reducible apply s_condT); (· rfl); (· exact nmX)) | ((with_reducible apply s_condF); (· rfl); (· exact nmX)) | ((with_reducible apply s_condS); (· rfl); (· exact nmX); (· exact nmX)))) | ((with_reducible refine k_guard ?_); (first | (refine s_gt rfl ?_) | (refine s_gf1 rfl ?_) | (refine s_gfn rfl ?_) | (refine s_gx1 rfl ?_) | (refine s_gxn rfl ?_) | (refine s_gs rfl ?_))) | ((with_reducible refine k_mv ?_); (refine s_mv rfl ?_)) | ((with_reducible refine k_lss ?_); (refine s_lss rfl rfl ?_)) | ((with_reducible refine k_br ?_); (first | (with_reducible first | refine Br_dec ?_ | refine Br_not ?_ | refine Br_eqF ?_ | refine Br_and ?_ | refine Br_or ?_ | refine Br_neg ?_ | refine Br_band ?_ | refine Br_bor ?_ | refine Br_beq ?_) | (refine Br_t (by first | omega | assumption | rfl) ?_) | (refine Br_f (by first | omega | assumption | decide) ?_) | (with_reducible apply Br_sb <;> intro hbr <;> (first | subst hbr | simp only [hbr] | skip)) | (with_reducible apply Br_s <;> intro hbr))) | (with_reducible refine WN_succ ?_) | ((first | (with_reducible apply q_eqI) | (with_reducible apply q_eqN)); (first | exact nuI | exact nuN)) | ((first | (with_reducible apply q_eqL) | (with_reducible apply q_eqO)); (first | exact liL | exact liO)))
      exact Fin_flat trivial rfl rfl
  · rw [if_neg h]
    repeat' (first | (with_reducible first | refine W_seq ?_ | refine then_n ?_ | refine W_block ?_ | refine blk_n ?_ | refine blk_r ?_ | refine blk_e ?_ | refine W_skip ?_ | refine W_ret ?_ | refine then_r ?_ | refine W_exit ?_ | refine then_e ?_) | (refine blk_j (by decide) ?_) | ((with_reducible refine s_reg ?_); intro K hK) | ((with_reducible refine k_nil ?_); (with_reducible apply s_nil hK); (· exact nmX); clear hK; clear K) | ((with_reducible refine k_cond ?_); (first | ((with_reducible apply s_condT); (· rfl); (· exact nmX)) | ((with_reducible apply s_condF); (· rfl); (· exact nmX)) | ((with_reducible apply s_condS); (· rfl); (· exact nmX); (· exact nmX)))) | ((with_reducible refine k_guard ?_); (first | (refine s_gt rfl ?_) | (refine s_gf1 rfl ?_) | (refine s_gfn rfl ?_) | (refine s_gx1 rfl ?_) | (refine s_gxn rfl ?_) | (refine s_gs rfl ?_))) | ((with_reducible refine k_mv ?_); (refine s_mv rfl ?_)) | ((with_reducible refine k_neq ?_); (first | (refine s_neq rfl rfl ?_) | (refine s_strNe rfl rfl ?_))) | ((with_reducible refine k_callF ?_); (first | ((with_reducible apply s_call1); (· rfl)) | ((with_reducible apply s_calln); (· rfl)))) | ((with_reducible refine k_con ?_); (first | ((with_reducible apply con_val (c1)); (· (exact agX)); (· rfl); (· exact fun _ => rfl)))) | ((with_reducible refine k_br ?_); (first | (with_reducible first | refine Br_dec ?_ | refine Br_not ?_ | refine Br_eqF ?_ | refine Br_and ?_ | refine Br_or ?_ | refine Br_neg ?_ | refine Br_band ?_ | refine Br_bor ?_ | refine Br_beq ?_) | (refine Br_t (by first | omega | assumption | rfl) ?_) | (refine Br_f (by first | omega | assumption | decide) ?_) | (with_reducible apply Br_sb <;> intro hbr <;> (first | subst hbr | simp only [hbr] | skip)) | (with_reducible apply Br_s <;> intro hbr))) | (with_reducible refine WN_succ ?_) | ((first | (with_reducible apply q_eqI) | (with_reducible apply q_eqN)); (first | exact nuI | exact nuN)) | ((first | (with_reducible apply q_eqL) | (with_reducible apply q_eqO)); (first | exact liL | exact liO)))
    all_goals first | (exfalso; omega) | exact Fin_flat trivial rfl rfl
theorem pfew_c (p : List Pg) (l : List Acct) : PCon Try.prog 16 [pgs p, accs l] (.bool (decide (p.length ≤ 300 ∧ l.length ≤ 40))) := by
  refine A16p (by simp [A16]) ?_
  simp only [A16, argEnv]
  repeat' (first | (with_reducible first | refine W_seq ?_ | refine then_n ?_ | refine W_skip ?_ | refine W_ret ?_ | refine then_r ?_) | ((with_reducible refine s_reg ?_); intro K hK) | ((with_reducible refine k_nil ?_); (with_reducible apply s_nil hK); (· exact nmX); clear hK; clear K) | ((with_reducible refine k_guard ?_); (first | (refine s_gt rfl ?_) | (refine s_gf1 rfl ?_) | (refine s_gfn rfl ?_) | (refine s_gx1 rfl ?_) | (refine s_gxn rfl ?_) | (refine s_gs rfl ?_))) | ((with_reducible refine k_mv ?_); (refine s_mv rfl ?_)) | ((with_reducible refine k_len ?_); (first | (refine s_len rfl rfl ?_) | ((with_reducible apply s_len); (· rfl); (· exact SlOwn.len (by assumption))))) | ((with_reducible refine k_pick ?_); (first | (refine s_pickT rfl rfl ?_) | (refine s_pickF rfl rfl ?_))) | ((with_reducible refine k_leq ?_); (refine s_leq rfl rfl ?_)) | ((with_reducible refine k_br ?_); (first | (with_reducible first | refine Br_dec ?_ | refine Br_not ?_ | refine Br_eqF ?_ | refine Br_and ?_ | refine Br_or ?_ | refine Br_neg ?_ | refine Br_band ?_ | refine Br_bor ?_ | refine Br_beq ?_) | (refine Br_t (by first | omega | assumption | rfl) ?_) | (refine Br_f (by first | omega | assumption | decide) ?_) | (with_reducible apply Br_sb <;> intro hbr <;> (first | subst hbr | simp only [hbr] | skip)) | (with_reducible apply Br_s <;> intro hbr))) | (with_reducible refine WN_succ ?_) | ((first | (with_reducible apply q_eqI) | (with_reducible apply q_eqN)); (first | exact nuI | exact nuN)) | ((first | (with_reducible apply q_eqL) | (with_reducible apply q_eqO)); (first | exact liL | exact liO)))
  all_goals first | exact Fin_bt trivial rfl (by omega) | exact Fin_bf trivial rfl (by omega)
def csD (p : List Pg) (l : List Acct) (s : Int) (kn : Bool) : D := .agg [pgs p, accs l, .int .i64 s, .bool kn]
theorem lfew_c (p : List Pg) (l : List Acct) (s : Int) (kn : Bool) : PCon Try.prog 19 [csD p l s kn] (.bool (decide (p.length ≤ 300 ∧ l.length ≤ 40))) := by
  have c1 := pfew_c p l
  refine A19p (by simp [A19]) ?_
  simp only [A19, argEnv, csD]
  generalize decide (p.length ≤ 300 ∧ l.length ≤ 40) = b at *
  repeat' (first | (with_reducible first | refine W_seq ?_ | refine then_n ?_ | refine W_skip ?_ | refine W_ret ?_ | refine then_r ?_) | ((with_reducible refine s_reg ?_); intro K hK) | ((with_reducible refine k_nil ?_); (with_reducible apply s_nil hK); (· exact nmX); clear hK; clear K) | ((with_reducible refine k_guard ?_); (first | (refine s_gt rfl ?_) | (refine s_gf1 rfl ?_) | (refine s_gfn rfl ?_) | (refine s_gx1 rfl ?_) | (refine s_gxn rfl ?_) | (refine s_gs rfl ?_))) | ((with_reducible refine k_mv ?_); (refine s_mv rfl ?_)) | ((with_reducible refine k_load ?_); (first | ((with_reducible apply s_loadV); (· rfl)) | ((with_reducible apply s_loadP); (· rfl); (· (exact hpX))))) | ((with_reducible refine k_faddr ?_); (first | ((with_reducible apply s_faddrV); (· rfl); (· rfl)) | ((with_reducible apply s_faddrP); (· rfl); (· rfl)))) | ((with_reducible refine k_box (dst := some 1) ?_); ((with_reducible apply s_box); (· rfl); (· rfl); intro k1 hk1; (try simp only [upd_none] at hk1))) | ((with_reducible refine k_callF ?_); (first | ((with_reducible apply s_call1); (· rfl)) | ((with_reducible apply s_calln); (· rfl)))) | ((with_reducible refine k_con ?_); (first | ((with_reducible apply con_val (c1)); (· (exact agX)); (· rfl); (· exact fun _ => rfl)))) | ((with_reducible refine k_br ?_); (first | (with_reducible first | refine Br_dec ?_ | refine Br_not ?_ | refine Br_eqF ?_ | refine Br_and ?_ | refine Br_or ?_ | refine Br_neg ?_ | refine Br_band ?_ | refine Br_bor ?_ | refine Br_beq ?_) | (refine Br_t (by first | omega | assumption | rfl) ?_) | (refine Br_f (by first | omega | assumption | decide) ?_) | (with_reducible apply Br_sb <;> intro hbr <;> (first | subst hbr | simp only [hbr] | skip)) | (with_reducible apply Br_s <;> intro hbr))) | (with_reducible refine WN_succ ?_) | ((first | (with_reducible apply q_eqI) | (with_reducible apply q_eqN)); (first | exact nuI | exact nuN)) | ((first | (with_reducible apply q_eqL) | (with_reducible apply q_eqO)); (first | exact liL | exact liO)))
  exact Fin_flat trivial rfl rfl
end Go.Proofs.Ytfdfmbmhefckaaa
end
section
/- Reclaim plans: what is leaving; reasons. -/
set_option linter.unusedSimpArgs false
set_option linter.unusedVariables false
namespace Go.Proofs.Ytfdfmbmhefckaaa
open Go.AM Classical
set_option maxRecDepth 100000
set_option maxHeartbeats 4000000
def isLv (q : Pg) (a : Int) : Int := if q.leaving = true ∧ q.account = a then 1 else 0
theorem isLv_in (q : Pg) (a : Int) : 0 ≤ isLv q a ∧ isLv q a ≤ 1 := by unfold isLv; split <;> omega
def cntA (p : List Pg) (a : Int) : Nat → Int
  | 0 => 0
  | m + 1 => cntA p a m + (if h : m < p.length then isLv p[m] a else 0)
theorem cntA_s {p : List Pg} {a : Int} {m : Nat} (h : m < p.length) : cntA p a (m + 1) = cntA p a m + isLv p[m] a := by rw [cntA, dif_pos h]
theorem cntA_in (p : List Pg) (a : Int) : ∀ m, 0 ≤ cntA p a m ∧ cntA p a m ≤ m
  | 0 => by simp [cntA]
  | m + 1 => by
    have := cntA_in p a m
    unfold cntA
    split
    · have := isLv_in p[m] a; omega
    · omega
def lvT (n : Nat) (p : List Pg) (m : Nat) : List Int := (List.range n).map fun (a : Nat) => cntA p a m
def lvL (l : List Acct) (p : List Pg) : List Int := lvT l.length p p.length
theorem lvT_len (n : Nat) (p : List Pg) (m : Nat) : (lvT n p m).length = n := by simp [lvT]
theorem lvL_len (l : List Acct) (p : List Pg) : (lvL l p).length = l.length := lvT_len _ _ _
theorem lvT_at {n : Nat} {p : List Pg} {m j : Nat} (h : j < (lvT n p m).length) : (lvT n p m)[j] = cntA p j m := by simp [lvT]
theorem lvT_g {n : Nat} {p : List Pg} {m j : Nat} (h : j < n) : ((lvT n p m).map (D.int .i64))[j]? = some (.int .i64 (cntA p j m)) := by
  rw [List.getElem?_map, List.getElem?_eq_getElem (by rw [lvT_len]; exact h), lvT_at]; rfl
theorem lvT_zero (n : Nat) (p : List Pg) : ∀ x ∈ lvT n p 0, x = 0 := by simp [lvT, cntA]
theorem lvT_yes {n : Nat} {p : List Pg} {m : Nat} (h : m < p.length) (hl : p[m].leaving = true) (ha : 0 ≤ p[m].account) : (lvT n p m).set p[m].account.toNat (cntA p p[m].account m + 1) = lvT n p (m + 1) := by
  apply List.ext_getElem (by simp [lvT_len])
  intro j h1 h2
  rw [List.getElem_set, lvT_at h2, cntA_s h]
  by_cases hj : p[m].account.toNat = j
  · subst hj
    rw [if_pos rfl, Int.toNat_of_nonneg ha, isLv, if_pos ⟨hl, rfl⟩]
  · rw [if_neg hj, lvT_at (by simpa using h1), isLv, if_neg (by rintro ⟨_, h3⟩; omega), Int.add_zero]
theorem lvT_no {n : Nat} {p : List Pg} {m : Nat} (h : m < p.length) (hl : ¬ (p[m].leaving = true ∧ 0 ≤ p[m].account)) : lvT n p m = lvT n p (m + 1) := by
  apply List.ext_getElem (by simp [lvT_len])
  intro j h1 h2
  rw [lvT_at h1, lvT_at h2, cntA_s h, isLv, if_neg (by rintro ⟨h3, h4⟩; exact hl ⟨h3, by omega⟩), Int.add_zero]
theorem errA_ok {l : List Acct} {p : List Pg} (h : pchk p l = 0) : chkF l = 0 ∧ ∀ i (hi : i < p.length), (0 ≤ p[i].frame ∧ p[i].frame < 256) ∧ (-1 ≤ p[i].account ∧ p[i].account < l.length) ∧ (0 ≤ p[i].reason ∧ p[i].reason ≤ 10) ∧ -1 ≤ p[i].age ∧ prevF p i < p[i].frame ∧ ¬ (p[i].reason = 0 ∧ p[i].leaving = false ∧ p[i].age = -1) := by
  unfold pchk at h
  split at h
  · rename_i hc
    refine ⟨hc, fun i hi => ?_⟩
    have h1 := fE_zero.1 h i hi
    unfold errA at h1
    rw [dif_pos hi] at h1
    unfold pgE at h1
    split at h1
    · omega
    · split at h1
      · omega
      · split at h1
        · omega
        · split at h1
          · omega
          · refine ⟨by omega, by omega, by omega, by omega, by omega, by assumption⟩
  · contradiction
theorem val_lv {l : List Acct} {p : List Pg} (h : chkF l = 0) (hP : p.length ≤ 1000000) : valP l (lvL l p) := by
  refine ⟨h, lvL_len _ _, fun x hx => ?_⟩
  obtain ⟨j, hj, rfl⟩ := List.getElem_of_mem hx
  have h1 : (lvL l p)[j] = cntA p j p.length := lvT_at (n := l.length) hj
  rw [h1]
  have := cntA_in p j p.length
  unfold inR
  omega
def quP (p : List Pg) (l : List Acct) (s : Int) : Prop := pchk p l = 0 ∧ -1 ≤ s ∧ s < l.length
def outP (l : List Acct) (s : Int) (q : Pg) : Prop := 0 ≤ s ∧ (q.account < 0 ∨ ¬ insP l q.account s)
def gdP (l : List Acct) (v : List Int) (s : Int) (low : Bool) (q : Pg) : Prop := 0 ≤ q.account ∧ grdP l v q.account s low
noncomputable def rsn (l : List Acct) (v : List Int) (s : Int) (kn : Bool) (q : Pg) : Int :=
  if outP l s q then 13 else if kn = true ∧ q.normal = false then 12 else if q.leaving = true then 8 else if q.reason ≠ 0 ∧ q.reason ≠ 8 then q.reason else if gdP l v s false q then 11 else q.reason
def hldP (l : List Acct) (v : List Int) (s : Int) (kn : Bool) (q : Pg) (c : Int) : Prop :=
  if c = 13 then outP l s q else if c = 12 then kn = true ∧ q.normal = false else if q.leaving = true ∨ c = 0 ∨ c = 8 then False else if c = 11 then gdP l v s false q else c = q.reason
end Go.Proofs.Ytfdfmbmhefckaaa
end
section
/- Reclaim plans: the program's questions. -/
set_option linter.unusedSimpArgs false
set_option linter.unusedVariables false
namespace Go.Proofs.Ytfdfmbmhefckaaa
open Go.AM Classical
set_option maxRecDepth 100000
set_option maxHeartbeats 4000000
def bl (f : Nat → Bool) (n : Nat) : List Bool := (List.range n).map f
theorem bl_len (f : Nat → Bool) (n : Nat) : (bl f n).length = n := by simp [bl]
theorem bl_g {f : Nat → Bool} {n i : Nat} (h : i < n) : ((bl f n).map D.bool)[i]? = some (.bool (f i)) := by
  rw [List.getElem?_map, List.getElem?_eq_getElem (by rw [bl_len]; exact h)]; simp [bl]
theorem bl_s (f : Nat → Bool) (n : Nat) : bl f (n + 1) = bl f n ++ [f n] := by simp [bl, List.range_succ]
noncomputable def inB (l : List Acct) (s : Int) (a : Nat) : Bool := decide (insP l a s)
noncomputable def gdB (l : List Acct) (v : List Int) (s : Int) (low : Bool) (a : Nat) : Bool := decide (grdP l v a s low)
abbrev blD (f : Nat → Bool) (n : Nat) : D := .vs 1 ((bl f n).map .bool) n
noncomputable def qC (p : List Pg) (l : List Acct) (s : Int) (kn : Bool) : List D := [pgs p, .int .i64 s, .bool kn, blD (inB l s) l.length, blD (gdB l (lvL l p) s false) l.length, blD (gdB l (lvL l p) s true) l.length]
noncomputable def qV (p : List Pg) (l : List Acct) (s : Int) (kn : Bool) : D := .vp (qC p l s kn) 0
def inQ (l : List Acct) (q : Pg) : Prop := q.account < l.length
theorem qoutside_c (q : Pg) (p : List Pg) (l : List Acct) (s : Int) (kn : Bool) (hq : inQ l q) : PCon Try.prog 72 [qV p l s kn, .agg q.cells] (.bool (decide (outP l s q))) := by
  refine A72p (by simp [A72]) ?_
  simp only [A72, argEnv, qV, qC]
  have hz : outP l s q ↔ (0 ≤ s ∧ (q.account < 0 ∨ ¬ insP l q.account s)) := Iff.rfl
  generalize outP l s q = Z at *
  unfold inQ at hq
  obtain ⟨fr, ac, ag, re, ow, nm, lv⟩ := q
  dsimp only [Pg.cells] at hq hz ⊢
  by_cases h0 : 0 ≤ ac
  · have hg := bl_g (f := inB l s) (n := l.length) (i := ac.toNat) (by omega)
    unfold inB at hg
    rw [Int.toNat_of_nonneg h0] at hg
    have hbn : ((bl (fun a => decide (insP l (a : Int) s)) l.length).map D.bool).length = l.length := by rw [List.length_map, bl_len]
    unfold inB
    by_cases hI : insP l ac s
    · rw [decide_eq_true hI] at hg
      repeat' (first | (with_reducible first | refine W_seq ?_ | refine then_n ?_ | refine W_skip ?_ | refine W_ret ?_ | refine then_r ?_) | ((with_reducible refine s_reg ?_); intro K hK) | ((with_reducible refine k_nil ?_); (with_reducible apply s_nil hK); (· exact nmX); clear hK; clear K) | ((with_reducible refine k_guard ?_); (first | (refine s_gt rfl ?_) | (refine s_gf1 rfl ?_) | (refine s_gfn rfl ?_) | (refine s_gx1 rfl ?_) | (refine s_gxn rfl ?_) | (refine s_gs rfl ?_))) | ((with_reducible refine k_mv ?_); (refine s_mv rfl ?_)) | ((with_reducible refine k_pick ?_); (first | (refine s_pickT rfl rfl ?_) | (refine s_pickF rfl rfl ?_))) | ((with_reducible refine k_not ?_); (refine s_not rfl (by first | exact Bool.not_true | exact Bool.not_false | rfl) ?_)) | ((with_reducible refine k_lss ?_); (refine s_lss rfl rfl ?_)) | ((with_reducible refine k_geq ?_); (refine s_geq rfl rfl ?_)) | ((with_reducible refine k_iaddr ?_); (first | ((with_reducible apply s_iaddrV); (· rfl); (· rfl); (· (first | omega | exact ⟨rfl, by omega⟩ | skip))) | ((with_reducible apply s_iaddrO); (· rfl); (· rfl); (· (first | omega | exact ⟨rfl, by omega⟩ | skip)); (· (exact hpX))) | ((with_reducible apply s_iaddrSO); (· rfl); (· assumption); (· rfl); (· (first | omega | exact ⟨rfl, by omega⟩ | skip)); (· (first | (simp (disch := omega) only [w64, wu8, wu16, wu32, wu64, tm_nn, td_nn, fd_nn, Int.reduceAdd, Int.reduceSub, Int.reduceMul, Int.reduceDiv, Int.reduceMod, Int.reduceNeg, Int.reduceToNat, Int.toNat_natCast, Int.toNat_zero, Int.zero_add, Int.add_zero, Int.one_mul, Int.reducePow, Nat.mul_one, Nat.zero_add, Nat.add_zero, Nat.zero_mul, Nat.reduceAdd, Nat.reduceMul, Nat.reduceSub, Nat.min_eq_left, IntKind.bits, Nat.sub_zero, hg]; try rfl; done) | rfl)); intro ks hks))) | ((with_reducible refine k_load ?_); (first | ((with_reducible apply s_loadV); (· rfl)) | ((with_reducible apply s_loadP); (· rfl); (· (exact hpX))))) | ((with_reducible refine k_faddr ?_); (first | ((with_reducible apply s_faddrV); (· rfl); (· rfl)) | ((with_reducible apply s_faddrP); (· rfl); (· rfl)))) | ((with_reducible refine k_box (dst := some 3) ?_); ((with_reducible apply s_box); (· rfl); (· rfl); intro k3 hk3; (try simp only [upd_none] at hk3))) | ((with_reducible refine k_nilck ?_); (first | ((with_reducible apply s_nilckV); (· rfl)) | ((with_reducible apply s_nilckP); (· rfl)) | ((with_reducible apply s_nilckF); (· rfl)))) | ((with_reducible refine k_dreg ?_); refine s_dreg rfl rfl ?_; intro K hK) | (with_reducible refine d_nilS ?_) | ((with_reducible refine k_dnil ?_); (with_reducible apply d_nil hK); (· exact nmX); clear hK; clear K) | ((with_reducible refine k_dguard ?_); (first | (refine d_gt rfl ?_) | (refine d_gf rfl ?_) | (refine d_gx rfl ?_) | (refine d_gs rfl ?_))) | ((with_reducible refine k_dop ?_); refine d_step (by first | exact Or.inl rfl | exact Or.inr rfl) ?_) | (with_reducible refine d_back ?_) | ((with_reducible refine k_br ?_); (first | (with_reducible first | refine Br_dec ?_ | refine Br_not ?_ | refine Br_eqF ?_ | refine Br_and ?_ | refine Br_or ?_ | refine Br_neg ?_ | refine Br_band ?_ | refine Br_bor ?_ | refine Br_beq ?_) | (refine Br_t (by first | omega | assumption | rfl) ?_) | (refine Br_f (by first | omega | assumption | decide) ?_) | (with_reducible apply Br_sb <;> intro hbr <;> (first | subst hbr | simp only [hbr] | skip)) | (with_reducible apply Br_s <;> intro hbr))) | (with_reducible refine WN_succ ?_) | ((first | (with_reducible apply q_eqI) | (with_reducible apply q_eqN)); (first | (simp (disch := omega) only [w64, wu8, wu16, wu32, wu64, tm_nn, td_nn, fd_nn, Int.reduceAdd, Int.reduceSub, Int.reduceMul, Int.reduceDiv, Int.reduceMod, Int.reduceNeg, Int.reduceToNat, Int.toNat_natCast, Int.toNat_zero, Int.zero_add, Int.add_zero, Int.one_mul, Int.reducePow, Nat.mul_one, Nat.zero_add, Nat.add_zero, Nat.zero_mul, Nat.reduceAdd, Nat.reduceMul, Nat.reduceSub, Nat.min_eq_left, IntKind.bits, Nat.sub_zero, hg]; try rfl; done) | rfl)) | ((first | (with_reducible apply q_eqL) | (with_reducible apply q_eqO)); (first | (simp (disch := omega) only [upd_self, upd_ne, upd_upd, rep, splice, List.take_succ_cons, List.take_zero, List.drop_succ_cons, List.drop_zero, List.cons_append, List.nil_append, List.append_nil, List.length_cons, List.length_nil, List.reduceReplicate, List.flatten_cons, List.flatten_nil, Nat.reduceAdd, Nat.reduceMul, Nat.reduceSub, Nat.zero_add, Nat.add_zero, List.getElem?_cons_zero, List.getElem?_cons_succ, hg]; try rfl; done) | rfl)))
      all_goals first | (exfalso; omega) | exact Fin_bf trivial rfl (fun h => by have := hz.1 h; omega) | exact Fin_bf trivial rfl (fun h => (hz.1 h).2.elim (fun h => by omega) (fun h => h hI))
    · rw [decide_eq_false hI] at hg
      repeat' (first | (with_reducible first | refine W_seq ?_ | refine then_n ?_ | refine W_skip ?_ | refine W_ret ?_ | refine then_r ?_) | ((with_reducible refine s_reg ?_); intro K hK) | ((with_reducible refine k_nil ?_); (with_reducible apply s_nil hK); (· exact nmX); clear hK; clear K) | ((with_reducible refine k_guard ?_); (first | (refine s_gt rfl ?_) | (refine s_gf1 rfl ?_) | (refine s_gfn rfl ?_) | (refine s_gx1 rfl ?_) | (refine s_gxn rfl ?_) | (refine s_gs rfl ?_))) | ((with_reducible refine k_mv ?_); (refine s_mv rfl ?_)) | ((with_reducible refine k_pick ?_); (first | (refine s_pickT rfl rfl ?_) | (refine s_pickF rfl rfl ?_))) | ((with_reducible refine k_not ?_); (refine s_not rfl (by first | exact Bool.not_true | exact Bool.not_false | rfl) ?_)) | ((with_reducible refine k_lss ?_); (refine s_lss rfl rfl ?_)) | ((with_reducible refine k_geq ?_); (refine s_geq rfl rfl ?_)) | ((with_reducible refine k_iaddr ?_); (first | ((with_reducible apply s_iaddrV); (· rfl); (· rfl); (· (first | omega | exact ⟨rfl, by omega⟩ | skip))) | ((with_reducible apply s_iaddrO); (· rfl); (· rfl); (· (first | omega | exact ⟨rfl, by omega⟩ | skip)); (· (exact hpX))) | ((with_reducible apply s_iaddrSO); (· rfl); (· assumption); (· rfl); (· (first | omega | exact ⟨rfl, by omega⟩ | skip)); (· (first | (simp (disch := omega) only [w64, wu8, wu16, wu32, wu64, tm_nn, td_nn, fd_nn, Int.reduceAdd, Int.reduceSub, Int.reduceMul, Int.reduceDiv, Int.reduceMod, Int.reduceNeg, Int.reduceToNat, Int.toNat_natCast, Int.toNat_zero, Int.zero_add, Int.add_zero, Int.one_mul, Int.reducePow, Nat.mul_one, Nat.zero_add, Nat.add_zero, Nat.zero_mul, Nat.reduceAdd, Nat.reduceMul, Nat.reduceSub, Nat.min_eq_left, IntKind.bits, Nat.sub_zero, hg]; try rfl; done) | rfl)); intro ks hks))) | ((with_reducible refine k_load ?_); (first | ((with_reducible apply s_loadV); (· rfl)) | ((with_reducible apply s_loadP); (· rfl); (· (exact hpX))))) | ((with_reducible refine k_faddr ?_); (first | ((with_reducible apply s_faddrV); (· rfl); (· rfl)) | ((with_reducible apply s_faddrP); (· rfl); (· rfl)))) | ((with_reducible refine k_box (dst := some 3) ?_); ((with_reducible apply s_box); (· rfl); (· rfl); intro k3 hk3; (try simp only [upd_none] at hk3))) | ((with_reducible refine k_nilck ?_); (first | ((with_reducible apply s_nilckV); (· rfl)) | ((with_reducible apply s_nilckP); (· rfl)) | ((with_reducible apply s_nilckF); (· rfl)))) | ((with_reducible refine k_dreg ?_); refine s_dreg rfl rfl ?_; intro K hK) | (with_reducible refine d_nilS ?_) | ((with_reducible refine k_dnil ?_); (with_reducible apply d_nil hK); (· exact nmX); clear hK; clear K) | ((with_reducible refine k_dguard ?_); (first | (refine d_gt rfl ?_) | (refine d_gf rfl ?_) | (refine d_gx rfl ?_) | (refine d_gs rfl ?_))) | ((with_reducible refine k_dop ?_); refine d_step (by first | exact Or.inl rfl | exact Or.inr rfl) ?_) | (with_reducible refine d_back ?_) | ((with_reducible refine k_br ?_); (first | (with_reducible first | refine Br_dec ?_ | refine Br_not ?_ | refine Br_eqF ?_ | refine Br_and ?_ | refine Br_or ?_ | refine Br_neg ?_ | refine Br_band ?_ | refine Br_bor ?_ | refine Br_beq ?_) | (refine Br_t (by first | omega | assumption | rfl) ?_) | (refine Br_f (by first | omega | assumption | decide) ?_) | (with_reducible apply Br_sb <;> intro hbr <;> (first | subst hbr | simp only [hbr] | skip)) | (with_reducible apply Br_s <;> intro hbr))) | (with_reducible refine WN_succ ?_) | ((first | (with_reducible apply q_eqI) | (with_reducible apply q_eqN)); (first | (simp (disch := omega) only [w64, wu8, wu16, wu32, wu64, tm_nn, td_nn, fd_nn, Int.reduceAdd, Int.reduceSub, Int.reduceMul, Int.reduceDiv, Int.reduceMod, Int.reduceNeg, Int.reduceToNat, Int.toNat_natCast, Int.toNat_zero, Int.zero_add, Int.add_zero, Int.one_mul, Int.reducePow, Nat.mul_one, Nat.zero_add, Nat.add_zero, Nat.zero_mul, Nat.reduceAdd, Nat.reduceMul, Nat.reduceSub, Nat.min_eq_left, IntKind.bits, Nat.sub_zero, hg]; try rfl; done) | rfl)) | ((first | (with_reducible apply q_eqL) | (with_reducible apply q_eqO)); (first | (simp (disch := omega) only [upd_self, upd_ne, upd_upd, rep, splice, List.take_succ_cons, List.take_zero, List.drop_succ_cons, List.drop_zero, List.cons_append, List.nil_append, List.append_nil, List.length_cons, List.length_nil, List.reduceReplicate, List.flatten_cons, List.flatten_nil, Nat.reduceAdd, Nat.reduceMul, Nat.reduceSub, Nat.zero_add, Nat.add_zero, List.getElem?_cons_zero, List.getElem?_cons_succ, hg]; try rfl; done) | rfl)))
      all_goals first | (exfalso; omega) | exact Fin_bt trivial rfl (hz.2 ⟨by omega, .inr hI⟩) | exact Fin_bf trivial rfl (fun h => by have := hz.1 h; omega)
  · repeat' (first | (with_reducible first | refine W_seq ?_ | refine then_n ?_ | refine W_skip ?_ | refine W_ret ?_ | refine then_r ?_) | ((with_reducible refine s_reg ?_); intro K hK) | ((with_reducible refine k_nil ?_); (with_reducible apply s_nil hK); (· exact nmX); clear hK; clear K) | ((with_reducible refine k_guard ?_); (first | (refine s_gt rfl ?_) | (refine s_gf1 rfl ?_) | (refine s_gfn rfl ?_) | (refine s_gx1 rfl ?_) | (refine s_gxn rfl ?_) | (refine s_gs rfl ?_))) | ((with_reducible refine k_mv ?_); (refine s_mv rfl ?_)) | ((with_reducible refine k_pick ?_); (first | (refine s_pickT rfl rfl ?_) | (refine s_pickF rfl rfl ?_))) | ((with_reducible refine k_not ?_); (refine s_not rfl (by first | exact Bool.not_true | exact Bool.not_false | rfl) ?_)) | ((with_reducible refine k_lss ?_); (refine s_lss rfl rfl ?_)) | ((with_reducible refine k_geq ?_); (refine s_geq rfl rfl ?_)) | ((with_reducible refine k_iaddr ?_); (first | ((with_reducible apply s_iaddrV); (· rfl); (· rfl); (· (first | omega | exact ⟨rfl, by omega⟩ | skip))) | ((with_reducible apply s_iaddrO); (· rfl); (· rfl); (· (first | omega | exact ⟨rfl, by omega⟩ | skip)); (· (exact hpX))) | ((with_reducible apply s_iaddrSO); (· rfl); (· assumption); (· rfl); (· (first | omega | exact ⟨rfl, by omega⟩ | skip)); (· (first | exact nuI | exact nuN)); intro ks hks))) | ((with_reducible refine k_load ?_); (first | ((with_reducible apply s_loadV); (· rfl)) | ((with_reducible apply s_loadP); (· rfl); (· (exact hpX))))) | ((with_reducible refine k_faddr ?_); (first | ((with_reducible apply s_faddrV); (· rfl); (· rfl)) | ((with_reducible apply s_faddrP); (· rfl); (· rfl)))) | ((with_reducible refine k_box (dst := some 3) ?_); ((with_reducible apply s_box); (· rfl); (· rfl); intro k3 hk3; (try simp only [upd_none] at hk3))) | ((with_reducible refine k_nilck ?_); (first | ((with_reducible apply s_nilckV); (· rfl)) | ((with_reducible apply s_nilckP); (· rfl)) | ((with_reducible apply s_nilckF); (· rfl)))) | ((with_reducible refine k_dreg ?_); refine s_dreg rfl rfl ?_; intro K hK) | (with_reducible refine d_nilS ?_) | ((with_reducible refine k_dnil ?_); (with_reducible apply d_nil hK); (· exact nmX); clear hK; clear K) | ((with_reducible refine k_dguard ?_); (first | (refine d_gt rfl ?_) | (refine d_gf rfl ?_) | (refine d_gx rfl ?_) | (refine d_gs rfl ?_))) | ((with_reducible refine k_dop ?_); refine d_step (by first | exact Or.inl rfl | exact Or.inr rfl) ?_) | (with_reducible refine d_back ?_) | ((with_reducible refine k_br ?_); (first | (with_reducible first | refine Br_dec ?_ | refine Br_not ?_ | refine Br_eqF ?_ | refine Br_and ?_ | refine Br_or ?_ | refine Br_neg ?_ | refine Br_band ?_ | refine Br_bor ?_ | refine Br_beq ?_) | (refine Br_t (by first | omega | assumption | rfl) ?_) | (refine Br_f (by first | omega | assumption | decide) ?_) | (with_reducible apply Br_sb <;> intro hbr <;> (first | subst hbr | simp only [hbr] | skip)) | (with_reducible apply Br_s <;> intro hbr))) | (with_reducible refine WN_succ ?_) | ((first | (with_reducible apply q_eqI) | (with_reducible apply q_eqN)); (first | exact nuI | exact nuN)) | ((first | (with_reducible apply q_eqL) | (with_reducible apply q_eqO)); (first | exact liL | exact liO)))
    all_goals first | (exfalso; omega) | exact Fin_bt trivial rfl (hz.2 ⟨by omega, .inl (by omega)⟩) | exact Fin_bf trivial rfl (fun h => by have := hz.1 h; omega)
theorem qguarded_c (q : Pg) (p : List Pg) (l : List Acct) (s : Int) (kn : Bool) (hq : inQ l q) : PCon Try.prog 73 [qV p l s kn, .agg q.cells] (.bool (decide (gdP l (lvL l p) s false q))) := by
  refine A73p (by simp [A73]) ?_
  simp only [A73, argEnv, qV, qC]
  have hz : gdP l (lvL l p) s false q ↔ (0 ≤ q.account ∧ grdP l (lvL l p) q.account s false) := Iff.rfl
  generalize gdP l (lvL l p) s false q = Z at *
  unfold inQ at hq
  obtain ⟨fr, ac, ag, re, ow, nm, lv⟩ := q
  dsimp only [Pg.cells] at hq hz ⊢
  by_cases h0 : 0 ≤ ac
  · have hg := bl_g (f := gdB l (lvL l p) s false) (n := l.length) (i := ac.toNat) (by omega)
    rw [show gdB l (lvL l p) s false ac.toNat = decide (grdP l (lvL l p) ac s false) by unfold gdB; rw [Int.toNat_of_nonneg h0]] at hg
    by_cases hI : grdP l (lvL l p) ac s false
    · rw [decide_eq_true hI] at hg
      repeat' (first | (with_reducible first | refine W_seq ?_ | refine then_n ?_ | refine W_skip ?_ | refine W_ret ?_ | refine then_r ?_) | ((with_reducible refine s_reg ?_); intro K hK) | ((with_reducible refine k_nil ?_); (with_reducible apply s_nil hK); (· exact nmX); clear hK; clear K) | ((with_reducible refine k_guard ?_); (first | (refine s_gt rfl ?_) | (refine s_gf1 rfl ?_) | (refine s_gfn rfl ?_) | (refine s_gx1 rfl ?_) | (refine s_gxn rfl ?_) | (refine s_gs rfl ?_))) | ((with_reducible refine k_mv ?_); (refine s_mv rfl ?_)) | ((with_reducible refine k_pick ?_); (first | (refine s_pickT rfl rfl ?_) | (refine s_pickF rfl rfl ?_))) | ((with_reducible refine k_geq ?_); (refine s_geq rfl rfl ?_)) | ((with_reducible refine k_iaddr ?_); (first | ((with_reducible apply s_iaddrV); (· rfl); (· rfl); (· (first | omega | exact ⟨rfl, by omega⟩ | skip))) | ((with_reducible apply s_iaddrO); (· rfl); (· rfl); (· (first | omega | exact ⟨rfl, by omega⟩ | skip)); (· (exact hpX))) | ((with_reducible apply s_iaddrSO); (· rfl); (· assumption); (· rfl); (· (first | omega | exact ⟨rfl, by omega⟩ | skip)); (· (first | (simp (disch := omega) only [w64, wu8, wu16, wu32, wu64, tm_nn, td_nn, fd_nn, Int.reduceAdd, Int.reduceSub, Int.reduceMul, Int.reduceDiv, Int.reduceMod, Int.reduceNeg, Int.reduceToNat, Int.toNat_natCast, Int.toNat_zero, Int.zero_add, Int.add_zero, Int.one_mul, Int.reducePow, Nat.mul_one, Nat.zero_add, Nat.add_zero, Nat.zero_mul, Nat.reduceAdd, Nat.reduceMul, Nat.reduceSub, Nat.min_eq_left, IntKind.bits, Nat.sub_zero, hg]; try rfl; done) | rfl)); intro ks hks))) | ((with_reducible refine k_load ?_); (first | ((with_reducible apply s_loadV); (· rfl)) | ((with_reducible apply s_loadP); (· rfl); (· (exact hpX))))) | ((with_reducible refine k_faddr ?_); (first | ((with_reducible apply s_faddrV); (· rfl); (· rfl)) | ((with_reducible apply s_faddrP); (· rfl); (· rfl)))) | ((with_reducible refine k_box (dst := some 3) ?_); ((with_reducible apply s_box); (· rfl); (· rfl); intro k3 hk3; (try simp only [upd_none] at hk3))) | ((with_reducible refine k_nilck ?_); (first | ((with_reducible apply s_nilckV); (· rfl)) | ((with_reducible apply s_nilckP); (· rfl)) | ((with_reducible apply s_nilckF); (· rfl)))) | ((with_reducible refine k_dreg ?_); refine s_dreg rfl rfl ?_; intro K hK) | (with_reducible refine d_nilS ?_) | ((with_reducible refine k_dnil ?_); (with_reducible apply d_nil hK); (· exact nmX); clear hK; clear K) | ((with_reducible refine k_dguard ?_); (first | (refine d_gt rfl ?_) | (refine d_gf rfl ?_) | (refine d_gx rfl ?_) | (refine d_gs rfl ?_))) | ((with_reducible refine k_dop ?_); refine d_step (by first | exact Or.inl rfl | exact Or.inr rfl) ?_) | (with_reducible refine d_back ?_) | ((with_reducible refine k_br ?_); (first | (with_reducible first | refine Br_dec ?_ | refine Br_not ?_ | refine Br_eqF ?_ | refine Br_and ?_ | refine Br_or ?_ | refine Br_neg ?_ | refine Br_band ?_ | refine Br_bor ?_ | refine Br_beq ?_) | (refine Br_t (by first | omega | assumption | rfl) ?_) | (refine Br_f (by first | omega | assumption | decide) ?_) | (with_reducible apply Br_sb <;> intro hbr <;> (first | subst hbr | simp only [hbr] | skip)) | (with_reducible apply Br_s <;> intro hbr))) | (with_reducible refine WN_succ ?_) | ((first | (with_reducible apply q_eqI) | (with_reducible apply q_eqN)); (first | (simp (disch := omega) only [w64, wu8, wu16, wu32, wu64, tm_nn, td_nn, fd_nn, Int.reduceAdd, Int.reduceSub, Int.reduceMul, Int.reduceDiv, Int.reduceMod, Int.reduceNeg, Int.reduceToNat, Int.toNat_natCast, Int.toNat_zero, Int.zero_add, Int.add_zero, Int.one_mul, Int.reducePow, Nat.mul_one, Nat.zero_add, Nat.add_zero, Nat.zero_mul, Nat.reduceAdd, Nat.reduceMul, Nat.reduceSub, Nat.min_eq_left, IntKind.bits, Nat.sub_zero, hg]; try rfl; done) | rfl)) | ((first | (with_reducible apply q_eqL) | (with_reducible apply q_eqO)); (first | (simp (disch := omega) only [upd_self, upd_ne, upd_upd, rep, splice, List.take_succ_cons, List.take_zero, List.drop_succ_cons, List.drop_zero, List.cons_append, List.nil_append, List.append_nil, List.length_cons, List.length_nil, List.reduceReplicate, List.flatten_cons, List.flatten_nil, Nat.reduceAdd, Nat.reduceMul, Nat.reduceSub, Nat.zero_add, Nat.add_zero, List.getElem?_cons_zero, List.getElem?_cons_succ, hg]; try rfl; done) | rfl)))
      all_goals first | (exfalso; omega) | exact Fin_bt trivial rfl (hz.2 ⟨h0, hI⟩)
    · rw [decide_eq_false hI] at hg
      repeat' (first | (with_reducible first | refine W_seq ?_ | refine then_n ?_ | refine W_skip ?_ | refine W_ret ?_ | refine then_r ?_) | ((with_reducible refine s_reg ?_); intro K hK) | ((with_reducible refine k_nil ?_); (with_reducible apply s_nil hK); (· exact nmX); clear hK; clear K) | ((with_reducible refine k_guard ?_); (first | (refine s_gt rfl ?_) | (refine s_gf1 rfl ?_) | (refine s_gfn rfl ?_) | (refine s_gx1 rfl ?_) | (refine s_gxn rfl ?_) | (refine s_gs rfl ?_))) | ((with_reducible refine k_mv ?_); (refine s_mv rfl ?_)) | ((with_reducible refine k_pick ?_); (first | (refine s_pickT rfl rfl ?_) | (refine s_pickF rfl rfl ?_))) | ((with_reducible refine k_geq ?_); (refine s_geq rfl rfl ?_)) | ((with_reducible refine k_iaddr ?_); (first | ((with_reducible apply s_iaddrV); (· rfl); (· rfl); (· (first | omega | exact ⟨rfl, by omega⟩ | skip))) | ((with_reducible apply s_iaddrO); (· rfl); (· rfl); (· (first | omega | exact ⟨rfl, by omega⟩ | skip)); (· (exact hpX))) | ((with_reducible apply s_iaddrSO); (· rfl); (· assumption); (· rfl); (· (first | omega | exact ⟨rfl, by omega⟩ | skip)); (· (first | (simp (disch := omega) only [w64, wu8, wu16, wu32, wu64, tm_nn, td_nn, fd_nn, Int.reduceAdd, Int.reduceSub, Int.reduceMul, Int.reduceDiv, Int.reduceMod, Int.reduceNeg, Int.reduceToNat, Int.toNat_natCast, Int.toNat_zero, Int.zero_add, Int.add_zero, Int.one_mul, Int.reducePow, Nat.mul_one, Nat.zero_add, Nat.add_zero, Nat.zero_mul, Nat.reduceAdd, Nat.reduceMul, Nat.reduceSub, Nat.min_eq_left, IntKind.bits, Nat.sub_zero, hg]; try rfl; done) | rfl)); intro ks hks))) | ((with_reducible refine k_load ?_); (first | ((with_reducible apply s_loadV); (· rfl)) | ((with_reducible apply s_loadP); (· rfl); (· (exact hpX))))) | ((with_reducible refine k_faddr ?_); (first | ((with_reducible apply s_faddrV); (· rfl); (· rfl)) | ((with_reducible apply s_faddrP); (· rfl); (· rfl)))) | ((with_reducible refine k_box (dst := some 3) ?_); ((with_reducible apply s_box); (· rfl); (· rfl); intro k3 hk3; (try simp only [upd_none] at hk3))) | ((with_reducible refine k_nilck ?_); (first | ((with_reducible apply s_nilckV); (· rfl)) | ((with_reducible apply s_nilckP); (· rfl)) | ((with_reducible apply s_nilckF); (· rfl)))) | ((with_reducible refine k_dreg ?_); refine s_dreg rfl rfl ?_; intro K hK) | (with_reducible refine d_nilS ?_) | ((with_reducible refine k_dnil ?_); (with_reducible apply d_nil hK); (· exact nmX); clear hK; clear K) | ((with_reducible refine k_dguard ?_); (first | (refine d_gt rfl ?_) | (refine d_gf rfl ?_) | (refine d_gx rfl ?_) | (refine d_gs rfl ?_))) | ((with_reducible refine k_dop ?_); refine d_step (by first | exact Or.inl rfl | exact Or.inr rfl) ?_) | (with_reducible refine d_back ?_) | ((with_reducible refine k_br ?_); (first | (with_reducible first | refine Br_dec ?_ | refine Br_not ?_ | refine Br_eqF ?_ | refine Br_and ?_ | refine Br_or ?_ | refine Br_neg ?_ | refine Br_band ?_ | refine Br_bor ?_ | refine Br_beq ?_) | (refine Br_t (by first | omega | assumption | rfl) ?_) | (refine Br_f (by first | omega | assumption | decide) ?_) | (with_reducible apply Br_sb <;> intro hbr <;> (first | subst hbr | simp only [hbr] | skip)) | (with_reducible apply Br_s <;> intro hbr))) | (with_reducible refine WN_succ ?_) | ((first | (with_reducible apply q_eqI) | (with_reducible apply q_eqN)); (first | (simp (disch := omega) only [w64, wu8, wu16, wu32, wu64, tm_nn, td_nn, fd_nn, Int.reduceAdd, Int.reduceSub, Int.reduceMul, Int.reduceDiv, Int.reduceMod, Int.reduceNeg, Int.reduceToNat, Int.toNat_natCast, Int.toNat_zero, Int.zero_add, Int.add_zero, Int.one_mul, Int.reducePow, Nat.mul_one, Nat.zero_add, Nat.add_zero, Nat.zero_mul, Nat.reduceAdd, Nat.reduceMul, Nat.reduceSub, Nat.min_eq_left, IntKind.bits, Nat.sub_zero, hg]; try rfl; done) | rfl)) | ((first | (with_reducible apply q_eqL) | (with_reducible apply q_eqO)); (first | (simp (disch := omega) only [upd_self, upd_ne, upd_upd, rep, splice, List.take_succ_cons, List.take_zero, List.drop_succ_cons, List.drop_zero, List.cons_append, List.nil_append, List.append_nil, List.length_cons, List.length_nil, List.reduceReplicate, List.flatten_cons, List.flatten_nil, Nat.reduceAdd, Nat.reduceMul, Nat.reduceSub, Nat.zero_add, Nat.add_zero, List.getElem?_cons_zero, List.getElem?_cons_succ, hg]; try rfl; done) | rfl)))
      all_goals first | (exfalso; omega) | exact Fin_bf trivial rfl (fun h => hI (hz.1 h).2)
  · repeat' (first | (with_reducible first | refine W_seq ?_ | refine then_n ?_ | refine W_skip ?_ | refine W_ret ?_ | refine then_r ?_) | ((with_reducible refine s_reg ?_); intro K hK) | ((with_reducible refine k_nil ?_); (with_reducible apply s_nil hK); (· exact nmX); clear hK; clear K) | ((with_reducible refine k_guard ?_); (first | (refine s_gt rfl ?_) | (refine s_gf1 rfl ?_) | (refine s_gfn rfl ?_) | (refine s_gx1 rfl ?_) | (refine s_gxn rfl ?_) | (refine s_gs rfl ?_))) | ((with_reducible refine k_mv ?_); (refine s_mv rfl ?_)) | ((with_reducible refine k_pick ?_); (first | (refine s_pickT rfl rfl ?_) | (refine s_pickF rfl rfl ?_))) | ((with_reducible refine k_geq ?_); (refine s_geq rfl rfl ?_)) | ((with_reducible refine k_iaddr ?_); (first | ((with_reducible apply s_iaddrV); (· rfl); (· rfl); (· (first | omega | exact ⟨rfl, by omega⟩ | skip))) | ((with_reducible apply s_iaddrO); (· rfl); (· rfl); (· (first | omega | exact ⟨rfl, by omega⟩ | skip)); (· (exact hpX))) | ((with_reducible apply s_iaddrSO); (· rfl); (· assumption); (· rfl); (· (first | omega | exact ⟨rfl, by omega⟩ | skip)); (· (first | exact nuI | exact nuN)); intro ks hks))) | ((with_reducible refine k_load ?_); (first | ((with_reducible apply s_loadV); (· rfl)) | ((with_reducible apply s_loadP); (· rfl); (· (exact hpX))))) | ((with_reducible refine k_faddr ?_); (first | ((with_reducible apply s_faddrV); (· rfl); (· rfl)) | ((with_reducible apply s_faddrP); (· rfl); (· rfl)))) | ((with_reducible refine k_box (dst := some 3) ?_); ((with_reducible apply s_box); (· rfl); (· rfl); intro k3 hk3; (try simp only [upd_none] at hk3))) | ((with_reducible refine k_nilck ?_); (first | ((with_reducible apply s_nilckV); (· rfl)) | ((with_reducible apply s_nilckP); (· rfl)) | ((with_reducible apply s_nilckF); (· rfl)))) | ((with_reducible refine k_dreg ?_); refine s_dreg rfl rfl ?_; intro K hK) | (with_reducible refine d_nilS ?_) | ((with_reducible refine k_dnil ?_); (with_reducible apply d_nil hK); (· exact nmX); clear hK; clear K) | ((with_reducible refine k_dguard ?_); (first | (refine d_gt rfl ?_) | (refine d_gf rfl ?_) | (refine d_gx rfl ?_) | (refine d_gs rfl ?_))) | ((with_reducible refine k_dop ?_); refine d_step (by first | exact Or.inl rfl | exact Or.inr rfl) ?_) | (with_reducible refine d_back ?_) | ((with_reducible refine k_br ?_); (first | (with_reducible first | refine Br_dec ?_ | refine Br_not ?_ | refine Br_eqF ?_ | refine Br_and ?_ | refine Br_or ?_ | refine Br_neg ?_ | refine Br_band ?_ | refine Br_bor ?_ | refine Br_beq ?_) | (refine Br_t (by first | omega | assumption | rfl) ?_) | (refine Br_f (by first | omega | assumption | decide) ?_) | (with_reducible apply Br_sb <;> intro hbr <;> (first | subst hbr | simp only [hbr] | skip)) | (with_reducible apply Br_s <;> intro hbr))) | (with_reducible refine WN_succ ?_) | ((first | (with_reducible apply q_eqI) | (with_reducible apply q_eqN)); (first | exact nuI | exact nuN)) | ((first | (with_reducible apply q_eqL) | (with_reducible apply q_eqO)); (first | exact liL | exact liO)))
    all_goals first | (exfalso; omega) | exact Fin_bf trivial rfl (fun h => h0 (hz.1 h).1)
theorem qreason_c (q : Pg) (p : List Pg) (l : List Acct) (s : Int) (kn : Bool) (hq : inQ l q) : PCon Try.prog 43 [qV p l s kn, .agg q.cells] (.int .i64 (rsn l (lvL l p) s kn q)) := by
  have c1 := qoutside_c q p l s kn hq
  have c2 := qguarded_c q p l s kn hq
  refine A43p (by simp [A43]) ?_
  simp only [A43, argEnv]
  unfold rsn
  generalize outP l s q = O at *
  generalize gdP l (lvL l p) s false q = G at *
  obtain ⟨fr, ac, ag, re, ow, nm, lv⟩ := q
  dsimp only [Pg.cells, qV, qC] at c1 c2 ⊢
  cases kn <;> cases nm <;> cases lv
  all_goals
    repeat' (first | (with_reducible first | refine W_seq ?_ | refine then_n ?_ | refine W_block ?_ | refine blk_n ?_ | refine blk_r ?_ | refine blk_e ?_ | refine W_skip ?_ | refine W_ret ?_ | refine then_r ?_) | (refine blk_j (by decide) ?_) | ((with_reducible refine s_reg ?_); intro K hK) | ((with_reducible refine k_nil ?_); (with_reducible apply s_nil hK); (· exact nmX); clear hK; clear K) | ((with_reducible refine k_cond ?_); (first | ((with_reducible apply s_condT); (· rfl); (· exact nmX)) | ((with_reducible apply s_condF); (· rfl); (· exact nmX)) | ((with_reducible apply s_condS); (· rfl); (· exact nmX); (· exact nmX)))) | ((with_reducible refine k_guard ?_); (first | (refine s_gt rfl ?_) | (refine s_gf1 rfl ?_) | (refine s_gfn rfl ?_) | (refine s_gx1 rfl ?_) | (refine s_gxn rfl ?_) | (refine s_gs rfl ?_))) | ((with_reducible refine k_mv ?_); (refine s_mv rfl ?_)) | ((with_reducible refine k_pick ?_); (first | (refine s_pickT rfl rfl ?_) | (refine s_pickF rfl rfl ?_))) | ((with_reducible refine k_not ?_); (refine s_not rfl (by first | exact Bool.not_true | exact Bool.not_false | rfl) ?_)) | ((with_reducible refine k_neq ?_); (first | (refine s_neq rfl rfl ?_) | (refine s_strNe rfl rfl ?_))) | ((with_reducible refine k_load ?_); (first | ((with_reducible apply s_loadV); (· rfl)) | ((with_reducible apply s_loadP); (· rfl); (· (exact hpX))))) | ((with_reducible refine k_loadA ?_); (first | ((with_reducible apply s_loadAV); (· rfl); (· (first | exact Nat.le_of_ble_eq_true rfl | decide | omega | (simp; done) | (simp; omega) | skip))) | ((with_reducible apply s_loadAP); (· rfl); (· (exact hpX)); (· (first | exact Nat.le_of_ble_eq_true rfl | decide | omega | (simp; done) | (simp; omega) | skip))))) | ((with_reducible refine k_faddr ?_); (first | ((with_reducible apply s_faddrV); (· rfl); (· rfl)) | ((with_reducible apply s_faddrP); (· rfl); (· rfl)))) | ((with_reducible refine k_box (dst := some 3) ?_); ((with_reducible apply s_box); (· rfl); (· rfl); intro k3 hk3; (try simp only [upd_none] at hk3))) | ((with_reducible refine k_nilck ?_); (first | ((with_reducible apply s_nilckV); (· rfl)) | ((with_reducible apply s_nilckP); (· rfl)) | ((with_reducible apply s_nilckF); (· rfl)))) | ((with_reducible refine k_callF ?_); (first | ((with_reducible apply s_call1); (· rfl)) | ((with_reducible apply s_calln); (· rfl)))) | ((with_reducible refine k_con ?_); (first | ((with_reducible apply con_valB (c1)); (· (exact agX))) | ((with_reducible apply con_valB (c2)); (· (exact agX))))) | ((with_reducible refine k_br ?_); (first | (with_reducible first | refine Br_dec ?_ | refine Br_not ?_ | refine Br_eqF ?_ | refine Br_and ?_ | refine Br_or ?_ | refine Br_neg ?_ | refine Br_band ?_ | refine Br_bor ?_ | refine Br_beq ?_) | (refine Br_t (by first | omega | assumption | rfl) ?_) | (refine Br_f (by first | omega | assumption | decide) ?_) | (with_reducible apply Br_sb <;> intro hbr <;> (first | subst hbr | simp only [hbr] | skip)) | (with_reducible apply Br_s <;> intro hbr))) | (with_reducible refine WN_succ ?_) | ((first | (with_reducible apply q_eqI) | (with_reducible apply q_eqN)); (first | exact nuI | exact nuN)) | ((first | (with_reducible apply q_eqL) | (with_reducible apply q_eqO)); (first | exact liL | exact liO)))
  all_goals (simp only [Bool.false_eq_true, reduceCtorEq, false_and, and_false, true_and, and_true, and_self, if_true, if_false])
  all_goals first
    | (rw [if_pos (by assumption)]; exact Fin_flat trivial rfl rfl)
    | (rw [if_neg (by assumption)]; exact Fin_flat trivial rfl rfl)
    | (rw [if_neg (by assumption), if_pos (by omega)]; exact Fin_flat trivial rfl rfl)
    | (rw [if_neg (by assumption), if_neg (by omega), if_pos (by assumption)]; exact Fin_flat trivial rfl rfl)
    | (rw [if_neg (by assumption), if_neg (by omega), if_neg (by assumption)]; exact Fin_flat trivial rfl rfl)
theorem qtransit_c (q : Pg) (p : List Pg) (l : List Acct) (s : Int) (kn : Bool) (hq : inQ l q) : PCon Try.prog 51 [qV p l s kn, .agg q.cells] (.bool (decide (rsn l (lvL l p) s kn q = 8))) := by
  have c1 := qreason_c q p l s kn hq
  refine A51p (by simp [A51]) ?_
  simp only [A51, argEnv]
  generalize rsn l (lvL l p) s kn q = r at *
  obtain ⟨fr, ac, ag, re, ow, nm, lv⟩ := q
  dsimp only [Pg.cells, qV, qC] at c1 ⊢
  repeat' (first | (with_reducible first | refine W_seq ?_ | refine then_n ?_ | refine W_skip ?_ | refine W_ret ?_ | refine then_r ?_) | ((with_reducible refine s_reg ?_); intro K hK) | ((with_reducible refine k_nil ?_); (with_reducible apply s_nil hK); (· exact nmX); clear hK; clear K) | ((with_reducible refine k_guard ?_); (first | (refine s_gt rfl ?_) | (refine s_gf1 rfl ?_) | (refine s_gfn rfl ?_) | (refine s_gx1 rfl ?_) | (refine s_gxn rfl ?_) | (refine s_gs rfl ?_))) | ((with_reducible refine k_mv ?_); (refine s_mv rfl ?_)) | ((with_reducible refine k_eql ?_); (first | (refine s_eql rfl rfl ?_) | (refine s_strEq rfl rfl ?_))) | ((with_reducible refine k_loadA ?_); (first | ((with_reducible apply s_loadAV); (· rfl); (· (first | exact Nat.le_of_ble_eq_true rfl | decide | omega | (simp; done) | (simp; omega) | skip))) | ((with_reducible apply s_loadAP); (· rfl); (· (exact hpX)); (· (first | exact Nat.le_of_ble_eq_true rfl | decide | omega | (simp; done) | (simp; omega) | skip))))) | ((with_reducible refine k_box (dst := some 3) ?_); ((with_reducible apply s_box); (· rfl); (· rfl); intro k3 hk3; (try simp only [upd_none] at hk3))) | ((with_reducible refine k_callF ?_); (first | ((with_reducible apply s_call1); (· rfl)) | ((with_reducible apply s_calln); (· rfl)))) | ((with_reducible refine k_con ?_); (first | ((with_reducible apply con_val (c1)); (· (exact agX)); (· rfl); (· exact fun _ => rfl)))) | ((with_reducible refine k_br ?_); (first | (with_reducible first | refine Br_dec ?_ | refine Br_not ?_ | refine Br_eqF ?_ | refine Br_and ?_ | refine Br_or ?_ | refine Br_neg ?_ | refine Br_band ?_ | refine Br_bor ?_ | refine Br_beq ?_) | (refine Br_t (by first | omega | assumption | rfl) ?_) | (refine Br_f (by first | omega | assumption | decide) ?_) | (with_reducible apply Br_sb <;> intro hbr <;> (first | subst hbr | simp only [hbr] | skip)) | (with_reducible apply Br_s <;> intro hbr))) | (with_reducible refine WN_succ ?_) | ((first | (with_reducible apply q_eqI) | (with_reducible apply q_eqN)); (first | exact nuI | exact nuN)) | ((first | (with_reducible apply q_eqL) | (with_reducible apply q_eqO)); (first | exact liL | exact liO)))
  all_goals first | exact Fin_bt trivial rfl (by assumption) | exact Fin_bf trivial rfl (by assumption) | exact Fin_bt trivial rfl rfl
theorem qholds_c (q : Pg) (p : List Pg) (l : List Acct) (s : Int) (kn : Bool) (hq : inQ l q) (c : Int) : PCon Try.prog 52 [qV p l s kn, .agg q.cells, .int .i64 c] (.bool (decide (hldP l (lvL l p) s kn q c))) := by
  have c1 := qoutside_c q p l s kn hq
  have c2 := qguarded_c q p l s kn hq
  refine A52p (by simp [A52]) ?_
  simp only [A52, argEnv]
  have hz : hldP l (lvL l p) s kn q c ↔ (if c = 13 then outP l s q else if c = 12 then kn = true ∧ q.normal = false else if q.leaving = true ∨ c = 0 ∨ c = 8 then False else if c = 11 then gdP l (lvL l p) s false q else c = q.reason) := Iff.rfl
  generalize hldP l (lvL l p) s kn q c = Z at *
  generalize outP l s q = O at *
  generalize gdP l (lvL l p) s false q = G at *
  clear hq
  obtain ⟨fr, ac, ag, re, ow, nm, lv⟩ := q
  dsimp only [Pg.cells, qV, qC] at c1 c2 hz ⊢
  rcases (show c = 13 ∨ c = 12 ∨ c = 11 ∨ c = 0 ∨ c = 8 ∨ (c ≠ 13 ∧ c ≠ 12 ∧ c ≠ 11 ∧ c ≠ 0 ∧ c ≠ 8) by omega) with rfl | rfl | rfl | rfl | rfl | ⟨h1, h2, h3, h4, h5⟩ <;> cases kn <;> cases nm <;> cases lv
  all_goals simp [*] at hz
  all_goals
    repeat' (first | (with_reducible first | refine W_seq ?_ | refine then_n ?_ | refine W_block ?_ | refine blk_n ?_ | refine blk_r ?_ | refine blk_e ?_ | refine W_skip ?_ | refine W_ret ?_ | refine then_r ?_) | (refine blk_j (by decide) ?_) | ((with_reducible refine s_reg ?_); intro K hK) | ((with_reducible refine k_nil ?_); (with_reducible apply s_nil hK); (· exact nmX); clear hK; clear K) | ((with_reducible refine k_cond ?_); (first | ((with_reducible apply s_condT); (· rfl); (· exact nmX)) | ((with_reducible apply s_condF); (· rfl); (· exact nmX)) | ((with_reducible apply s_condS); (· rfl); (· exact nmX); (· exact nmX)))) | ((with_reducible refine k_guard ?_); (first | (refine s_gt rfl ?_) | (refine s_gf1 rfl ?_) | (refine s_gfn rfl ?_) | (refine s_gx1 rfl ?_) | (refine s_gxn rfl ?_) | (refine s_gs rfl ?_))) | ((with_reducible refine k_mv ?_); (refine s_mv rfl ?_)) | ((with_reducible refine k_pick ?_); (first | (refine s_pickT rfl rfl ?_) | (refine s_pickF rfl rfl ?_))) | ((with_reducible refine k_not ?_); (refine s_not rfl (by first | exact Bool.not_true | exact Bool.not_false | rfl) ?_)) | ((with_reducible refine k_eql ?_); (first | (refine s_eql rfl rfl ?_) | (refine s_strEq rfl rfl ?_))) | ((with_reducible refine k_load ?_); (first | ((with_reducible apply s_loadV); (· rfl)) | ((with_reducible apply s_loadP); (· rfl); (· (exact hpX))))) | ((with_reducible refine k_loadA ?_); (first | ((with_reducible apply s_loadAV); (· rfl); (· (first | exact Nat.le_of_ble_eq_true rfl | decide | omega | (simp; done) | (simp; omega) | skip))) | ((with_reducible apply s_loadAP); (· rfl); (· (exact hpX)); (· (first | exact Nat.le_of_ble_eq_true rfl | decide | omega | (simp; done) | (simp; omega) | skip))))) | ((with_reducible refine k_faddr ?_); (first | ((with_reducible apply s_faddrV); (· rfl); (· rfl)) | ((with_reducible apply s_faddrP); (· rfl); (· rfl)))) | ((with_reducible refine k_box (dst := some 4) ?_); ((with_reducible apply s_box); (· rfl); (· rfl); intro k4 hk4; (try simp only [upd_none] at hk4))) | ((with_reducible refine k_nilck ?_); (first | ((with_reducible apply s_nilckV); (· rfl)) | ((with_reducible apply s_nilckP); (· rfl)) | ((with_reducible apply s_nilckF); (· rfl)))) | ((with_reducible refine k_callF ?_); (first | ((with_reducible apply s_call1); (· rfl)) | ((with_reducible apply s_calln); (· rfl)))) | ((with_reducible refine k_con ?_); (first | ((with_reducible apply con_valB (c1)); (· (exact agX))) | ((with_reducible apply con_valB (c2)); (· (exact agX))))) | ((with_reducible refine k_br ?_); (first | (with_reducible first | refine Br_dec ?_ | refine Br_not ?_ | refine Br_eqF ?_ | refine Br_and ?_ | refine Br_or ?_ | refine Br_neg ?_ | refine Br_band ?_ | refine Br_bor ?_ | refine Br_beq ?_) | (refine Br_t (by first | omega | assumption | rfl) ?_) | (refine Br_f (by first | omega | assumption | decide) ?_) | (with_reducible apply Br_sb <;> intro hbr <;> (first | subst hbr | simp only [hbr] | skip)) | (with_reducible apply Br_s <;> intro hbr))) | (with_reducible refine WN_succ ?_) | ((first | (with_reducible apply q_eqI) | (with_reducible apply q_eqN)); (first | exact nuI | exact nuN)) | ((first | (with_reducible apply q_eqL) | (with_reducible apply q_eqO)); (first | exact liL | exact liO)))
  all_goals first | exact Fin_bt trivial rfl (hz.2 (by assumption)) | exact Fin_bf trivial rfl (fun h => absurd (hz.1 h) (by assumption)) | exact Fin_bt trivial rfl (hz.2 (by omega)) | exact Fin_bf trivial rfl (fun h => by have := hz.1 h; omega) | exact Fin_bt trivial rfl (by simp [hz]) | exact Fin_bf trivial rfl (by simp [hz])
end Go.Proofs.Ytfdfmbmhefckaaa
end
