/- Accounts: copies, sums on paths, comparison. -/
import Derived.Test.YtbepjnjfnmmpaaaA6qf52b28
import Derived.Test.YtbepjnjfnmmpaaaAmZ3qd9e510
set_option linter.unusedSimpArgs false
set_option linter.unusedVariables false
namespace Go.Proofs.Ytbepjnjfnmmpaaa
open Go.AM Classical
set_option maxRecDepth 100000
set_option maxHeartbeats 4000000
theorem accs_scal (l : List Acct) : (l.flatMap Acct.cells).all scal = true := fm_scal (fun _ => rfl) l
theorem clone_c (l : List Acct) (h0 : l.length ≠ 0) (hl : l.length ≤ 1000000) : PCon Try.prog 42 [accs l] (.ow 5 (l.flatMap Acct.cells) l.length) := by
  have hal := accs_len l
  refine A42p (by simp [A42]) ?_
  simp only [A42, argEnv]
  repeat' (first | (with_reducible first | refine W_seq ?_ | refine then_n ?_ | refine W_skip ?_ | refine W_ret ?_ | refine then_r ?_) | ((with_reducible refine s_reg ?_); intro K hK) | ((with_reducible refine k_nil ?_); (with_reducible apply s_nil hK); (· exact nmX); clear hK; clear K) | ((with_reducible refine k_cond ?_); (first | ((with_reducible apply s_condT); (· rfl); (· exact nmX)) | ((with_reducible apply s_condF); (· rfl); (· exact nmX)) | ((with_reducible apply s_condS); (· rfl); (· exact nmX); (· exact nmX)))) | ((with_reducible refine k_guard ?_); (first | (refine s_gt rfl ?_) | (refine s_gf1 rfl ?_) | (refine s_gfn rfl ?_) | (refine s_gx1 rfl ?_) | (refine s_gxn rfl ?_) | (refine s_gs rfl ?_))) | ((with_reducible refine k_mv ?_); (refine s_mv rfl ?_)) | ((with_reducible refine k_eqN ?_); (first | ((with_reducible apply s_eqN); (· rfl); (· (first | rfl | exact isNil_vs (by omega) | exact isNil_sl (by omega))); (· rfl)) | ((with_reducible apply s_eqN0); (· rfl); intro b; cases b))) | ((with_reducible refine k_buildS (dst := some 5) ?_); ((with_reducible apply s_buildS); (· rfl); (· (exact ⟨rfl, by decide⟩)); (· (first | (simp only [fillB, rep, splice, List.reduceReplicate, List.flatten_cons, List.flatten_nil, List.cons_append, List.nil_append, List.append_nil, List.length_cons, List.length_nil, Nat.reduceAdd, Nat.reduceMul, Nat.reduceLeDiff, Nat.reduceEqDiff, eq_self, Nat.le_refl, Nat.zero_add, and_self, and_true, true_and, if_true, List.take_zero, List.take_succ_cons, List.drop_zero, List.drop_succ_cons, List.drop_nil, List.take_nil]; rfl) | rfl)); intro k5 hk5; (try simp only [upd_none] at hk5))) | ((with_reducible refine k_append (dst := some 7) ?_); ((with_reducible apply s_app); (· rfl); (· rfl); (· first | assumption | exact SlOwn.nil | exact SlOwn.emp | exact SlOwn.sl upd_self rfl | ((repeat' (first | assumption | (with_reducible apply SlOwn.upd) | (simp only [upd_none]; assumption))); done) | ((apply SlOwn.sl); (· (exact hpX)); (· first | rfl | assumption))); (· rfl); (· first | exact srcD_sl upd_self rfl | (exact srcD_vs (by first | assumption | simp)) | ((apply srcD_sl); (· (exact hpX)); (· rfl))); (· exact ⟨by first | rfl | assumption | simp, by decide⟩); (· first | (rw [room_n]; omega) | skip); intro da7 ha7 hso7 hoth7)) | ((with_reducible refine k_br ?_); (first | (with_reducible first | refine Br_dec ?_ | refine Br_not ?_ | refine Br_eqF ?_ | refine Br_and ?_ | refine Br_or ?_ | refine Br_neg ?_ | refine Br_band ?_ | refine Br_bor ?_ | refine Br_beq ?_) | (refine Br_t (by first | with_reducible rfl | omega | assumption | rfl) ?_) | (refine Br_f (by first | omega | assumption | decide) ?_) | (with_reducible apply Br_sb <;> intro hbr <;> (first | subst hbr | simp only [hbr] | skip)) | (with_reducible apply Br_s <;> intro hbr))) | (with_reducible refine WN_succ ?_) | ((first | (with_reducible apply q_eqI) | (with_reducible apply q_eqN)); (first | exact nuI | exact nuN)) | ((first | (with_reducible apply q_eqL) | (with_reducible apply q_eqO)); (first | exact liL | exact liO)))
  simp only [List.nil_append, Nat.zero_add] at hso7
  exact Fin_so trivial rfl hso7 (accs_scal l)
def addU (o : List Acct) (n : Int) (x : Int) : List Acct := o.modify x.toNat fun a => { a with usage := a.usage + n }
noncomputable def addF (l : List Acct) (a n : Int) : List Acct := (pathF l a).foldl (fun o x => addU o n x) l
theorem addU_len (o : List Acct) (n x : Int) : (addU o n x).length = o.length := by simp [addU]
theorem foldU_len (p : List Int) (n : Int) : ∀ o : List Acct, (p.foldl (fun o x => addU o n x) o).length = o.length := by
  induction p with
  | nil => intro o; rfl
  | cons x r ih => intro o; rw [List.foldl_cons, ih, addU_len]
theorem addF_len (l : List Acct) (a n : Int) : (addF l a n).length = l.length := foldU_len _ _ _
theorem addU_us {o : List Acct} {n x : Int} {j : Nat} (hj : j < o.length) : us (addU o n x) j = us o j + (if j = x.toNat then n else 0) := by
  rw [us_at (by rw [addU_len]; exact hj), us_at hj]
  simp only [addU, List.getElem_modify]
  by_cases h : x.toNat = j
  · rw [if_pos h, if_pos h.symm]
  · rw [if_neg h, if_neg (fun e => h e.symm), Int.add_zero]
theorem addU_cells {o : List Acct} {n : Int} {j : Nat} (hj : j < o.length) :
    List.take (j * 5 + 1) (o.flatMap Acct.cells) ++ [.int .i64 (o[j].usage + n)] ++ List.drop (j * 5 + 1 + 1) (o.flatMap Acct.cells) = (addU o n j).flatMap Acct.cells := by
  have hl := accs_len o
  rw [set_form (by omega)]
  apply List.ext_getElem?
  intro k
  have hl2 : ((addU o n (j : Int)).flatMap Acct.cells).length = o.length * 5 := by rw [accs_len, addU_len]
  by_cases hk : k < o.length * 5
  · obtain ⟨i, c, rfl, hc⟩ : ∃ i c, k = i * 5 + c ∧ c < 5 := ⟨k / 5, k % 5, by omega, by omega⟩
    have hi : i < o.length := by omega
    rw [fm_cell Acct.cells_len (l := addU o n (j : Int)) (by rw [addU_len]; exact hi) hc]
    simp only [addU, Int.toNat_natCast, List.getElem_modify]
    by_cases hij : j = i
    · subst hij
      rw [if_pos rfl]
      by_cases hc1 : c = 1
      · subst hc1
        rw [List.getElem?_set_self (by omega)]; rfl
      · rw [List.getElem?_set_ne (by omega), fm_cell Acct.cells_len hi hc]
        obtain rfl | rfl | rfl | rfl : c = 0 ∨ c = 2 ∨ c = 3 ∨ c = 4 := by omega
        all_goals rfl
    · rw [if_neg hij, List.getElem?_set_ne (by omega), fm_cell Acct.cells_len hi hc]
  · rw [List.getElem?_eq_none (by rw [List.length_set]; omega), List.getElem?_eq_none (by omega)]
theorem foldU_in {l : List Acct} {n : Int} (ha : amtTo l l.length) (hn : -1048576 ≤ n ∧ n ≤ 1048576) (p : List Int) : ∀ (i j : Nat), j < l.length → -1048576 * (i : Int) ≤ us ((p.take i).foldl (fun o x => addU o n x) l) j ∧ us ((p.take i).foldl (fun o x => addU o n x) l) j ≤ 1048576 * ((i : Int) + 1) := by
  intro i
  induction i with
  | zero => intro j hj; have := us_in ha j; simp; omega
  | succ i ih =>
    intro j hj
    have := ih j hj
    by_cases hi : i < p.length
    · rw [foldl_take hi, addU_us (by rw [foldU_len]; exact hj)]
      split <;> omega
    · rw [List.take_of_length_le (by omega)] at this ⊢
      omega
theorem add_c (l : List Acct) (hL : l.length ≤ 9223372036854775807) (a n : Int) (h : isP l a) (hn : -1048576 ≤ n ∧ n ≤ 1048576) : PCon Try.prog 65 [accs l, .int .i64 a, .int .i64 n] (.ow 5 ((addF l a n).flatMap Acct.cells) l.length) := by
  obtain ⟨h0, ht, ha, hm, hs⟩ := chk_ok h.1
  have c1 := clone_c l (by omega) (by omega)
  have c2 := path_c l hL a
  have hpl := pathF_len l a
  have hpi := fun x hx => pathF_in (l := l) (a := a) (x := x) hx
  have hfl := fun i => foldU_len ((pathF l a).take i) n l
  have hfi := foldU_in ha.1 hn (pathF l a)
  have hal := accs_len l
  refine A65p (by simp [A65]) ?_
  simp only [A65, argEnv]
  unfold addF
  generalize pathF l a = p at *
  repeat' (first | (with_reducible first | refine W_seq ?_ | refine then_n ?_ | refine W_block ?_ | refine blk_n ?_ | refine blk_r ?_ | refine blk_e ?_ | refine W_skip ?_ | refine W_ret ?_ | refine then_r ?_ | refine W_exit ?_ | refine then_e ?_) | (refine blk_j (by decide) ?_) | ((with_reducible refine s_reg ?_); intro K hK) | ((with_reducible refine k_nil ?_); (with_reducible apply s_nil hK); (· exact nmX); clear hK; clear K) | ((with_reducible refine k_cond ?_); (first | ((with_reducible apply s_condT); (· rfl); (· exact nmX)) | ((with_reducible apply s_condF); (· rfl); (· exact nmX)) | ((with_reducible apply s_condS); (· rfl); (· exact nmX); (· exact nmX)))) | ((with_reducible refine k_guard ?_); (first | (refine s_gt rfl ?_) | (refine s_gf1 rfl ?_) | (refine s_gfn rfl ?_) | (refine s_gx1 rfl ?_) | (refine s_gxn rfl ?_) | (refine s_gs rfl ?_))) | ((with_reducible refine k_mv ?_); (refine s_mv rfl ?_)) | ((with_reducible refine k_len ?_); (first | (refine s_len rfl rfl ?_) | ((with_reducible apply s_len); (· rfl); (· exact SlOwn.len (by assumption))))) | ((with_reducible refine k_callF ?_); (first | ((with_reducible apply s_call1); (· rfl)) | ((with_reducible apply s_calln); (· rfl)))) | ((with_reducible refine k_con ?_); (first | ((with_reducible apply con_of_pcon (c1)); (· (exact agX)); intro kC hkC; (try simp only [upd_none] at hkC); simp only [thaw, thawC, List.map, thawH, owOf, owL]) | ((with_reducible apply con_of_pcon (c2)); (· (exact agX)); intro kP hkP; (try simp only [upd_none] at hkP); simp only [thaw, thawC, List.map, thawH, owOf, owL]))) | ((with_reducible refine k_br ?_); (first | (with_reducible first | refine Br_dec ?_ | refine Br_not ?_ | refine Br_eqF ?_ | refine Br_and ?_ | refine Br_or ?_ | refine Br_neg ?_ | refine Br_band ?_ | refine Br_bor ?_ | refine Br_beq ?_) | (refine Br_t (by first | with_reducible rfl | omega | assumption | rfl) ?_) | (refine Br_f (by first | omega | assumption | decide) ?_) | (with_reducible apply Br_sb <;> intro hbr <;> (first | subst hbr | simp only [hbr] | skip)) | (with_reducible apply Br_s <;> intro hbr))) | (with_reducible refine WN_succ ?_) | ((first | (with_reducible apply q_eqI) | (with_reducible apply q_eqN)); (first | exact nuI | exact nuN)) | ((first | (with_reducible apply q_eqL) | (with_reducible apply q_eqO)); (first | exact liL | exact liO)))
  refine W_for p.length (fun i st => ∃ h', st = ⟨[(2, .int .i64 n), (7, .sl kC 5 0 l.length), (14, .sl kP 1 0 p.length), (15, .int .i64 p.length), (16, .int .i64 i)], h'⟩ ∧ h' kP = some (p.map (.int .i64)) ∧ h' kC = some (((p.take i).foldl (fun o x => addU o n x) l).flatMap Acct.cells)) ⟨_, rfl, upd_self, by rw [upd_ne (by omega)]; exact upd_self⟩ ?_ ?_
  · rintro i e' h' hi ⟨h1, he, hkP1, hkC1⟩
    cases he
    have hx := hpi p[i] (List.getElem_mem _)
    have hol := hfl i
    have hst := foldl_take (f := fun o x => addU o n x) (a := l) hi
    have hin := hfi i p[i].toNat (by omega)
    generalize ((p.take i).foldl (fun o x => addU o n x) l) = o at *
    have hxt : p[i].toNat < o.length := by omega
    have f1 := us_at hxt
    have hol5 := accs_len o
    rw [f1] at hin
    repeat' (first | (with_reducible first | refine W_seq ?_ | refine then_n ?_ | refine W_block ?_ | refine blk_n ?_ | refine blk_r ?_ | refine blk_e ?_ | refine W_skip ?_ | refine W_ret ?_ | refine then_r ?_ | refine W_exit ?_ | refine then_e ?_) | (refine blk_j (by decide) ?_) | ((with_reducible refine s_reg ?_); intro K hK) | ((with_reducible refine k_nil ?_); (with_reducible apply s_nil hK); (· exact nmX); clear hK; clear K) | ((with_reducible refine k_cond ?_); (first | ((with_reducible apply s_condT); (· rfl); (· exact nmX)) | ((with_reducible apply s_condF); (· rfl); (· exact nmX)) | ((with_reducible apply s_condS); (· rfl); (· exact nmX); (· exact nmX)))) | ((with_reducible refine k_guard ?_); (first | (refine s_gt rfl ?_) | (refine s_gf1 rfl ?_) | (refine s_gfn rfl ?_) | (refine s_gx1 rfl ?_) | (refine s_gxn rfl ?_) | (refine s_gs rfl ?_))) | ((with_reducible refine k_mv ?_); (refine s_mv rfl ?_)) | ((with_reducible refine k_lss ?_); (refine s_lss rfl rfl ?_)) | ((with_reducible refine k_iaddr ?_); (first | ((with_reducible apply s_iaddrV); (· rfl); (· rfl); (· (first | omega | exact ⟨rfl, by omega⟩ | skip))) | ((with_reducible apply s_iaddrO); (· rfl); (· rfl); (· (first | omega | exact ⟨rfl, by omega⟩ | skip)); (· (exact hpX))) | ((with_reducible apply s_iaddrSO); (· rfl); (· assumption); (· rfl); (· (first | omega | exact ⟨rfl, by omega⟩ | skip)); (· (first | (simp (disch := omega) only [w64, wu8, wu16, wu32, wu64, tm_nn, td_nn, fd_nn, Int.reduceAdd, Int.reduceSub, Int.reduceMul, Int.reduceDiv, Int.reduceMod, Int.reduceNeg, Int.reduceToNat, Int.toNat_natCast, Int.toNat_zero, Int.zero_add, Int.add_zero, Int.one_mul, Int.reducePow, Nat.mul_one, Nat.zero_add, Nat.add_zero, Nat.zero_mul, Nat.reduceAdd, Nat.reduceMul, Nat.reduceSub, Nat.min_eq_left, IntKind.bits, Nat.sub_zero, gm, ac1]; try rfl; done) | rfl)); intro ks hks))) | ((with_reducible refine k_load ?_); (first | ((with_reducible apply s_loadV); (· rfl)) | ((with_reducible apply s_loadP); (· rfl); (· (exact hpX))))) | ((with_reducible refine k_add ?_); ((with_reducible apply s_add); (· rfl); (· rfl))) | ((with_reducible refine k_store ?_); ((with_reducible apply s_store0); (· rfl); (· rfl); (· rfl); (· (exact hpX)); (· (exact ⟨rfl, by first | exact Nat.le_of_ble_eq_true rfl | omega | (simp [gm, ac1]; omega)⟩)); (· ((first | (simp (disch := omega) only [upd_self, upd_ne, upd_upd, rep, splice, List.take_succ_cons, List.take_zero, List.drop_succ_cons, List.drop_zero, List.cons_append, List.nil_append, List.append_nil, List.length_cons, List.length_nil, List.reduceReplicate, List.flatten_cons, List.flatten_nil, Nat.reduceAdd, Nat.reduceMul, Nat.reduceSub, Nat.zero_add, Nat.add_zero, List.getElem?_cons_zero, List.getElem?_cons_succ, gm, ac1]; try rfl; done) | rfl))); (· (first | exact upd_upd | rfl)))) | ((with_reducible refine k_faddr ?_); (first | ((with_reducible apply s_faddrV); (· rfl); (· rfl)) | ((with_reducible apply s_faddrP); (· rfl); (· rfl)))) | ((with_reducible refine k_br ?_); (first | (with_reducible first | refine Br_dec ?_ | refine Br_not ?_ | refine Br_eqF ?_ | refine Br_and ?_ | refine Br_or ?_ | refine Br_neg ?_ | refine Br_band ?_ | refine Br_bor ?_ | refine Br_beq ?_) | (refine Br_t (by first | with_reducible rfl | omega | assumption | rfl) ?_) | (refine Br_f (by first | omega | assumption | decide) ?_) | (with_reducible apply Br_sb <;> intro hbr <;> (first | subst hbr | simp only [hbr] | skip)) | (with_reducible apply Br_s <;> intro hbr))) | (with_reducible refine WN_succ ?_) | ((first | (with_reducible apply q_eqI) | (with_reducible apply q_eqN)); (first | (simp (disch := omega) only [w64, wu8, wu16, wu32, wu64, tm_nn, td_nn, fd_nn, Int.reduceAdd, Int.reduceSub, Int.reduceMul, Int.reduceDiv, Int.reduceMod, Int.reduceNeg, Int.reduceToNat, Int.toNat_natCast, Int.toNat_zero, Int.zero_add, Int.add_zero, Int.one_mul, Int.reducePow, Nat.mul_one, Nat.zero_add, Nat.add_zero, Nat.zero_mul, Nat.reduceAdd, Nat.reduceMul, Nat.reduceSub, Nat.min_eq_left, IntKind.bits, Nat.sub_zero, gm, ac1]; try rfl; done) | rfl)) | ((first | (with_reducible apply q_eqL) | (with_reducible apply q_eqO)); (first | (simp (disch := omega) only [upd_self, upd_ne, upd_upd, rep, splice, List.take_succ_cons, List.take_zero, List.drop_succ_cons, List.drop_zero, List.cons_append, List.nil_append, List.append_nil, List.length_cons, List.length_nil, List.reduceReplicate, List.flatten_cons, List.flatten_nil, Nat.reduceAdd, Nat.reduceMul, Nat.reduceSub, Nat.zero_add, Nat.add_zero, List.getElem?_cons_zero, List.getElem?_cons_succ, gm, ac1]; try rfl; done) | rfl)))
    refine ⟨_, rfl, ?_, ?_⟩
    · rw [upd_ne (by omega)]; exact hkP1
    · rw [upd_self, addU_cells hxt, hst, Int.toNat_of_nonneg hx.1]
  · rintro e' h' ⟨h1, he, hkP1, hkC1⟩
    cases he
    rw [List.take_length] at hkC1
    repeat' (first | (with_reducible first | refine W_seq ?_ | refine then_n ?_ | refine W_block ?_ | refine blk_n ?_ | refine blk_r ?_ | refine blk_e ?_ | refine W_skip ?_ | refine W_ret ?_ | refine then_r ?_ | refine W_exit ?_ | refine then_e ?_) | (refine blk_j (by decide) ?_) | ((with_reducible refine s_reg ?_); intro K hK) | ((with_reducible refine k_nil ?_); (with_reducible apply s_nil hK); (· exact nmX); clear hK; clear K) | ((with_reducible refine k_cond ?_); (first | ((with_reducible apply s_condT); (· rfl); (· exact nmX)) | ((with_reducible apply s_condF); (· rfl); (· exact nmX)) | ((with_reducible apply s_condS); (· rfl); (· exact nmX); (· exact nmX)))) | ((with_reducible refine k_guard ?_); (first | (refine s_gt rfl ?_) | (refine s_gf1 rfl ?_) | (refine s_gfn rfl ?_) | (refine s_gx1 rfl ?_) | (refine s_gxn rfl ?_) | (refine s_gs rfl ?_))) | ((with_reducible refine k_mv ?_); (refine s_mv rfl ?_)) | ((with_reducible refine k_lss ?_); (refine s_lss rfl rfl ?_)) | ((with_reducible refine k_iaddr ?_); (first | ((with_reducible apply s_iaddrV); (· rfl); (· rfl); (· (first | omega | exact ⟨rfl, by omega⟩ | skip))) | ((with_reducible apply s_iaddrO); (· rfl); (· rfl); (· (first | omega | exact ⟨rfl, by omega⟩ | skip)); (· (exact hpX))) | ((with_reducible apply s_iaddrSO); (· rfl); (· assumption); (· rfl); (· (first | omega | exact ⟨rfl, by omega⟩ | skip)); (· (first | exact nuI | exact nuN)); intro ks hks))) | ((with_reducible refine k_load ?_); (first | ((with_reducible apply s_loadV); (· rfl)) | ((with_reducible apply s_loadP); (· rfl); (· (exact hpX))))) | ((with_reducible refine k_add ?_); ((with_reducible apply s_add); (· rfl); (· rfl))) | ((with_reducible refine k_store ?_); ((with_reducible apply s_store0); (· rfl); (· rfl); (· rfl); (· (exact hpX)); (· (exact ⟨rfl, by first | exact Nat.le_of_ble_eq_true rfl | omega | (simp; omega)⟩)); (· ((first | exact liL | exact liO))); (· (first | exact upd_upd | rfl)))) | ((with_reducible refine k_faddr ?_); (first | ((with_reducible apply s_faddrV); (· rfl); (· rfl)) | ((with_reducible apply s_faddrP); (· rfl); (· rfl)))) | ((with_reducible refine k_br ?_); (first | (with_reducible first | refine Br_dec ?_ | refine Br_not ?_ | refine Br_eqF ?_ | refine Br_and ?_ | refine Br_or ?_ | refine Br_neg ?_ | refine Br_band ?_ | refine Br_bor ?_ | refine Br_beq ?_) | (refine Br_t (by first | with_reducible rfl | omega | assumption | rfl) ?_) | (refine Br_f (by first | omega | assumption | decide) ?_) | (with_reducible apply Br_sb <;> intro hbr <;> (first | subst hbr | simp only [hbr] | skip)) | (with_reducible apply Br_s <;> intro hbr))) | (with_reducible refine WN_succ ?_) | ((first | (with_reducible apply q_eqI) | (with_reducible apply q_eqN)); (first | exact nuI | exact nuN)) | ((first | (with_reducible apply q_eqL) | (with_reducible apply q_eqO)); (first | exact liL | exact liO)))
    exact Fin_sl trivial rfl hkC1 (by rw [accs_len, foldU_len]) (accs_scal _)
end Go.Proofs.Ytbepjnjfnmmpaaa
