/- Protection: contracts of the reference's functions, second part. -/
import Derived.Test.YtmelmpaiplmjmaaP6q3a7079
set_option linter.unusedSimpArgs false
set_option linter.unusedVariables false
namespace Go.Proofs.Ytmelmpaiplmjmaa
open Go.AM Classical
set_option maxRecDepth 100000
set_option maxHeartbeats 4000000
/-- The guarantees when the children of the accounts below x, and those of x below c, have theirs. -/
def effS (l : List Acct) (x c : Nat) : List Int := (List.range l.length).map fun (j : Nat) => if j = 0 ∨ pa l j < x ∨ (pa l j = x ∧ j < c) then eff l j else 0
theorem effS_len (l : List Acct) (x c : Nat) : (effS l x c).length = l.length := by simp [effS]
theorem effS_d {l : List Acct} {x c j : Nat} (h : j < l.length) : (effS l x c).getD j 0 = if j = 0 ∨ pa l j < x ∨ (pa l j = x ∧ j < c) then eff l j else 0 := by
  rw [List.getD_eq_getElem?_getD, List.getElem?_eq_getElem (by rw [effS_len]; exact h), Option.getD_some]; simp [effS]
theorem effS_ext {l : List Acct} {x c x' c' : Nat} (h : ∀ j, j < l.length → ((j = 0 ∨ pa l j < x ∨ (pa l j = x ∧ j < c)) ↔ (j = 0 ∨ pa l j < x' ∨ (pa l j = x' ∧ j < c')))) : effS l x c = effS l x' c' := by
  apply List.ext_getElem (by simp [effS_len])
  intro j h1 h2
  rw [effS_len] at h1
  simp only [effS, List.getElem_map, List.getElem_range, h j h1]
theorem effS_step {l : List Acct} {x c : Nat} (hp : pa l c = x) (hc : c < l.length) : (effS l x c).set c (eff l c) = effS l x (c + 1) := by
  apply List.ext_getElem (by simp [effS_len])
  intro j h1 h2
  rw [effS_len] at h2
  rw [List.getElem_set]
  simp only [effS, List.getElem_map, List.getElem_range]
  by_cases h : c = j
  · subst h; rw [if_pos rfl, if_pos (.inr (.inr ⟨hp, by omega⟩))]
  · rw [if_neg h]
    have : (j = 0 ∨ pa l j < x ∨ (pa l j = x ∧ j < c)) ↔ (j = 0 ∨ pa l j < x ∨ (pa l j = x ∧ j < c + 1)) := by
      constructor
      · rintro (h | h | h)
        · exact .inl h
        · exact .inr (.inl h)
        · exact .inr (.inr ⟨h.1, by omega⟩)
      · rintro (h | h | h)
        · exact .inl h
        · exact .inr (.inl h)
        · exact .inr (.inr ⟨h.1, by omega⟩)
    simp only [this]
theorem reffective_c (l : List Acct) (hL : l.length ≤ 9223372036854775807) : PCon Try.prog 14 [accs l] (effR (effF l)) := by
  have c1 := rcheck_c l hL
  refine A14p (by simp [A14]) ?_
  simp only [A14, argEnv]
  unfold effF
  by_cases h : chkF l = 0
  · rw [h] at c1
    rw [if_pos h]
    obtain ⟨hl, ht, ha, _⟩ := chk_ok h
    have hal := accs_len l
    have hpa : ∀ j, j < l.length → (j = 0 ∧ pa l j = -1) ∨ (0 < j ∧ 0 ≤ pa l j ∧ pa l j < j) := fun j hj => by
      have := ht j hj hj
      unfold okP at this
      rwa [← pa_at hj] at this
    have z1 : (l.flatMap Acct.cells)[1]? = some (.int .i64 (us l 0)) := by have := ac1 hl.1; rwa [← us_at hl.1, Nat.zero_mul, Nat.zero_add] at this
    have e0 : rep l.length [D.int .i64 0] = (List.replicate l.length (0 : Int)).map (.int .i64) := rep_zero (by simp) (by simp)
    have n0 : ((List.replicate l.length (0 : Int)).map (D.int .i64)).length = l.length := by simp
    have s0 : (List.replicate l.length (0 : Int)).set 0 (us l 0) = effS l 0 0 := by
      apply List.ext_getElem (by simp [effS_len])
      intro j h1 h2
      rw [effS_len] at h2
      rw [List.getElem_set]
      simp only [effS, List.getElem_map, List.getElem_range, List.getElem_replicate]
      by_cases h : 0 = j
      · subst h; rw [if_pos rfl, if_pos (.inl rfl), eff_zero]
      · rw [if_neg h, if_neg]
        have := hpa j h2
        rintro (h | h | h) <;> omega
    have hs0 := map_st (k := .i64) (by simpa using hl.1) s0
    rw [Nat.zero_add, List.take_zero, List.nil_append] at hs0
    repeat' (first
      | (with_reducible first | refine W_seq ?_ | refine then_n ?_ | refine W_block ?_ | refine blk_n ?_ | refine blk_r ?_ | refine blk_e ?_ | refine W_skip ?_ | refine W_ret ?_ | refine then_r ?_ | refine W_exit ?_ | refine then_e ?_)
      | (refine blk_j (by decide) ?_)
      | ((with_reducible refine s_reg ?_); intro K hK)
      | ((with_reducible refine k_nil ?_); (with_reducible apply s_nil hK); (· (repeat (first | exact norm_nil | ((with_reducible apply norm_cons); (· rfl)) | ((with_reducible apply norm_skip); (· rfl))))); clear hK; clear K)
      | ((with_reducible refine k_cond ?_); (first | ((with_reducible apply s_condT); (· rfl); (· (repeat (first | exact norm_nil | ((with_reducible apply norm_cons); (· rfl)) | ((with_reducible apply norm_skip); (· rfl)))))) | ((with_reducible apply s_condF); (· rfl); (· (repeat (first | exact norm_nil | ((with_reducible apply norm_cons); (· rfl)) | ((with_reducible apply norm_skip); (· rfl)))))) | ((with_reducible apply s_condS); (· rfl); (· (repeat (first | exact norm_nil | ((with_reducible apply norm_cons); (· rfl)) | ((with_reducible apply norm_skip); (· rfl))))); (· (repeat (first | exact norm_nil | ((with_reducible apply norm_cons); (· rfl)) | ((with_reducible apply norm_skip); (· rfl))))))))
      | ((with_reducible refine k_guard ?_); (first | (refine s_gt rfl ?_) | (refine s_gf1 rfl ?_) | (refine s_gfn rfl ?_) | (refine s_gx1 rfl ?_) | (refine s_gxn rfl ?_) | (refine s_gs rfl ?_)))
      | ((with_reducible refine k_mv ?_); (refine s_mv rfl ?_))
      | ((with_reducible refine k_len ?_); (first | (refine s_len rfl rfl ?_) | ((with_reducible apply s_len); (· rfl); (· exact SlOwn.len (by assumption)))))
      | ((with_reducible refine k_neq ?_); (first | (refine s_neq rfl rfl ?_) | (refine s_strNe rfl rfl ?_)))
      | ((with_reducible refine k_mkslice (dst := some 17) ?_); ((with_reducible apply s_mkslice); (· rfl); (· rfl); (· (exact ⟨rfl, by decide, by omega, by omega, by (rw [room_i]; omega), by omega⟩)); (· ((first | (simp (disch := omega) only [w64, wu8, wu16, wu32, wu64, tm_nn, td_nn, fd_nn, Int.reduceAdd, Int.reduceSub, Int.reduceMul, Int.reduceDiv, Int.reduceMod, Int.reduceNeg, Int.reduceToNat, Int.toNat_natCast, Int.toNat_zero, Int.zero_add, Int.add_zero, Int.one_mul, Int.reducePow, Nat.mul_one, Nat.zero_add, Nat.add_zero, Nat.zero_mul, Nat.reduceAdd, Nat.reduceMul, Nat.reduceSub, Nat.min_eq_left, IntKind.bits, Nat.sub_zero]; try rfl; done) | rfl))); intro k17 hk17; (try simp only [upd_none] at hk17)))
      | ((with_reducible refine k_callF ?_); (first | ((with_reducible apply s_call1); (· rfl)) | ((with_reducible apply s_calln); (· rfl))))
      | ((with_reducible refine k_con ?_); (first | ((with_reducible apply con_val (c1)); (· (repeat (first | exact All2.nil | (apply All2.cons; (· first | exact Rd_int | exact Rd_bool | exact Rd_vs | exact Rd_nil | exact Rd_emp | exact Rd_vp | exact Rd_sl0 upd_self rfl rfl | exact Rd_fn0 | exact Rd_flat rfl | ((apply Rd_sl0); (· (first | exact upd_self | rfl | assumption | (simp (disch := (first | omega | exact ne_key hk17 ‹_› | exact (ne_key hk17 ‹_›).symm | exact ne_key1 hk17 ‹_› | exact (ne_key1 hk17 ‹_›).symm | exact ne_key2 hk17 ‹_› | exact (ne_key2 hk17 ‹_›).symm | exact ne_key3 hk17 ‹_› | exact (ne_key3 hk17 ‹_›).symm)) only [upd_self, upd_ne]; first | done | rfl | assumption))); (· first | rfl | exact scal_i | exact scal_b | assumption); (· first | rfl | assumption | (simp; done) | (simp; omega))) | ((apply Rd_so); (· first | assumption | ((repeat' (first | assumption | (with_reducible apply SlOwn.upd) | (simp only [upd_none]; assumption))); done)); (· first | rfl | exact scal_i | exact scal_b | assumption))))))); (· rfl); (· exact fun _ => rfl))))
      | ((with_reducible refine k_dreg ?_); refine s_dregS (pre := A14d23p) rfl rfl rfl ?_; intro K hK)
      | ((with_reducible refine k_dreg ?_); refine s_dregS (pre := A14d25p) rfl rfl rfl ?_; intro K hK)
      | ((with_reducible refine k_dreg ?_); refine s_dreg rfl rfl ?_; intro K hK)
      | (with_reducible refine d_nilS ?_)
      | ((with_reducible refine k_dnil ?_); (with_reducible apply d_nil hK); (· (repeat (first | exact norm_nil | ((with_reducible apply norm_cons); (· rfl)) | ((with_reducible apply norm_skip); (· rfl))))); clear hK; clear K)
      | ((with_reducible refine k_dguard ?_); (first | (refine d_gt rfl ?_) | (refine d_gf rfl ?_) | (refine d_gx rfl ?_) | (refine d_gs rfl ?_)))
      | ((with_reducible refine k_dop ?_); refine d_step (by first | exact Or.inl rfl | exact Or.inr rfl) ?_)
      | (with_reducible refine d_back ?_)
      | ((with_reducible refine k_br ?_); (first | (with_reducible first | refine Br_dec ?_ | refine Br_not ?_ | refine Br_eqF ?_ | refine Br_and ?_ | refine Br_or ?_ | refine Br_neg ?_ | refine Br_band ?_ | refine Br_bor ?_ | refine Br_beq ?_) | (refine Br_t (by first | omega | assumption | rfl) ?_) | (refine Br_f (by first | omega | assumption | decide) ?_) | (with_reducible apply Br_sb <;> intro hbr <;> (first | subst hbr | simp only [hbr] | skip)) | (with_reducible apply Br_s <;> intro hbr)))
      | (with_reducible refine WN_succ ?_)
      | ((first | (with_reducible apply q_eqI) | (with_reducible apply q_eqN)); (first | (simp (disch := omega) only [w64, wu8, wu16, wu32, wu64, tm_nn, td_nn, fd_nn, Int.reduceAdd, Int.reduceSub, Int.reduceMul, Int.reduceDiv, Int.reduceMod, Int.reduceNeg, Int.reduceToNat, Int.toNat_natCast, Int.toNat_zero, Int.zero_add, Int.add_zero, Int.one_mul, Int.reducePow, Nat.mul_one, Nat.zero_add, Nat.add_zero, Nat.zero_mul, Nat.reduceAdd, Nat.reduceMul, Nat.reduceSub, Nat.min_eq_left, IntKind.bits, Nat.sub_zero]; try rfl; done) | rfl))
      | ((first | (with_reducible apply q_eqL) | (with_reducible apply q_eqO)); (first | (simp (disch := omega) only [upd_self, upd_ne, upd_upd, rep, splice, List.take_succ_cons, List.take_zero, List.drop_succ_cons, List.drop_zero, List.cons_append, List.nil_append, List.append_nil, List.length_cons, List.length_nil, List.reduceReplicate, List.flatten_cons, List.flatten_nil, Nat.reduceAdd, Nat.reduceMul, Nat.reduceSub, Nat.zero_add, Nat.add_zero, List.getElem?_cons_zero, List.getElem?_cons_succ]; try rfl; done) | rfl)))
    rw [e0]
    repeat' (first
      | (with_reducible first | refine W_seq ?_ | refine then_n ?_ | refine W_block ?_ | refine blk_n ?_ | refine blk_r ?_ | refine blk_e ?_ | refine W_skip ?_ | refine W_ret ?_ | refine then_r ?_ | refine W_exit ?_ | refine then_e ?_)
      | (refine blk_j (by decide) ?_)
      | ((with_reducible refine s_reg ?_); intro K hK)
      | ((with_reducible refine k_nil ?_); (with_reducible apply s_nil hK); (· (repeat (first | exact norm_nil | ((with_reducible apply norm_cons); (· rfl)) | ((with_reducible apply norm_skip); (· rfl))))); clear hK; clear K)
      | ((with_reducible refine k_cond ?_); (first | ((with_reducible apply s_condT); (· rfl); (· (repeat (first | exact norm_nil | ((with_reducible apply norm_cons); (· rfl)) | ((with_reducible apply norm_skip); (· rfl)))))) | ((with_reducible apply s_condF); (· rfl); (· (repeat (first | exact norm_nil | ((with_reducible apply norm_cons); (· rfl)) | ((with_reducible apply norm_skip); (· rfl)))))) | ((with_reducible apply s_condS); (· rfl); (· (repeat (first | exact norm_nil | ((with_reducible apply norm_cons); (· rfl)) | ((with_reducible apply norm_skip); (· rfl))))); (· (repeat (first | exact norm_nil | ((with_reducible apply norm_cons); (· rfl)) | ((with_reducible apply norm_skip); (· rfl))))))))
      | ((with_reducible refine k_guard ?_); (first | (refine s_gt rfl ?_) | (refine s_gf1 rfl ?_) | (refine s_gfn rfl ?_) | (refine s_gx1 rfl ?_) | (refine s_gxn rfl ?_) | (refine s_gs rfl ?_)))
      | ((with_reducible refine k_mv ?_); (refine s_mv rfl ?_))
      | ((with_reducible refine k_iaddr ?_); (first | ((with_reducible apply s_iaddrV); (· rfl); (· rfl); (· (first | omega | exact ⟨rfl, by omega⟩ | skip))) | ((with_reducible apply s_iaddrO); (· rfl); (· rfl); (· (first | omega | exact ⟨rfl, by omega⟩ | skip)); (· (first | exact upd_self | rfl | assumption | (simp (disch := omega) only [upd_self, upd_ne]; first | done | rfl | assumption)))) | ((with_reducible apply s_iaddrSO); (· rfl); (· assumption); (· rfl); (· (first | omega | exact ⟨rfl, by omega⟩ | skip)); (· (first | (simp (disch := omega) only [w64, wu8, wu16, wu32, wu64, tm_nn, td_nn, fd_nn, Int.reduceAdd, Int.reduceSub, Int.reduceMul, Int.reduceDiv, Int.reduceMod, Int.reduceNeg, Int.reduceToNat, Int.toNat_natCast, Int.toNat_zero, Int.zero_add, Int.add_zero, Int.one_mul, Int.reducePow, Nat.mul_one, Nat.zero_add, Nat.add_zero, Nat.zero_mul, Nat.reduceAdd, Nat.reduceMul, Nat.reduceSub, Nat.min_eq_left, IntKind.bits, Nat.sub_zero, z1, hs0]; try rfl; done) | rfl)); intro ks hks)))
      | ((with_reducible refine k_load ?_); (first | ((with_reducible apply s_loadV); (· rfl)) | ((with_reducible apply s_loadP); (· rfl); (· (first | exact upd_self | rfl | assumption | (simp (disch := omega) only [upd_self, upd_ne]; first | done | rfl | assumption))))))
      | ((with_reducible refine k_store ?_); ((with_reducible apply s_store0); (· rfl); (· rfl); (· rfl); (· (first | exact upd_self | rfl | assumption | (simp (disch := omega) only [upd_self, upd_ne]; first | done | rfl | assumption))); (· (exact ⟨rfl, by first | exact Nat.le_of_ble_eq_true rfl | omega | (simp [z1, hs0]; omega)⟩)); (· ((first | (simp (disch := omega) only [upd_self, upd_ne, upd_upd, rep, splice, List.take_succ_cons, List.take_zero, List.drop_succ_cons, List.drop_zero, List.cons_append, List.nil_append, List.append_nil, List.length_cons, List.length_nil, List.reduceReplicate, List.flatten_cons, List.flatten_nil, Nat.reduceAdd, Nat.reduceMul, Nat.reduceSub, Nat.zero_add, Nat.add_zero, List.getElem?_cons_zero, List.getElem?_cons_succ, z1, hs0]; try rfl; done) | rfl))); (· (first | exact upd_upd | rfl))))
      | ((with_reducible refine k_faddr ?_); (first | ((with_reducible apply s_faddrV); (· rfl); (· rfl)) | ((with_reducible apply s_faddrP); (· rfl); (· rfl))))
      | ((with_reducible refine k_dreg ?_); refine s_dregS (pre := A14d23p) rfl rfl rfl ?_; intro K hK)
      | ((with_reducible refine k_dreg ?_); refine s_dregS (pre := A14d25p) rfl rfl rfl ?_; intro K hK)
      | ((with_reducible refine k_dreg ?_); refine s_dreg rfl rfl ?_; intro K hK)
      | (with_reducible refine d_nilS ?_)
      | ((with_reducible refine k_dnil ?_); (with_reducible apply d_nil hK); (· (repeat (first | exact norm_nil | ((with_reducible apply norm_cons); (· rfl)) | ((with_reducible apply norm_skip); (· rfl))))); clear hK; clear K)
      | ((with_reducible refine k_dguard ?_); (first | (refine d_gt rfl ?_) | (refine d_gf rfl ?_) | (refine d_gx rfl ?_) | (refine d_gs rfl ?_)))
      | ((with_reducible refine k_dop ?_); refine d_step (by first | exact Or.inl rfl | exact Or.inr rfl) ?_)
      | (with_reducible refine d_back ?_)
      | ((with_reducible refine k_br ?_); (first | (with_reducible first | refine Br_dec ?_ | refine Br_not ?_ | refine Br_eqF ?_ | refine Br_and ?_ | refine Br_or ?_ | refine Br_neg ?_ | refine Br_band ?_ | refine Br_bor ?_ | refine Br_beq ?_) | (refine Br_t (by first | omega | assumption | rfl) ?_) | (refine Br_f (by first | omega | assumption | decide) ?_) | (with_reducible apply Br_sb <;> intro hbr <;> (first | subst hbr | simp only [hbr] | skip)) | (with_reducible apply Br_s <;> intro hbr)))
      | (with_reducible refine WN_succ ?_)
      | ((first | (with_reducible apply q_eqI) | (with_reducible apply q_eqN)); (first | (simp (disch := omega) only [w64, wu8, wu16, wu32, wu64, tm_nn, td_nn, fd_nn, Int.reduceAdd, Int.reduceSub, Int.reduceMul, Int.reduceDiv, Int.reduceMod, Int.reduceNeg, Int.reduceToNat, Int.toNat_natCast, Int.toNat_zero, Int.zero_add, Int.add_zero, Int.one_mul, Int.reducePow, Nat.mul_one, Nat.zero_add, Nat.add_zero, Nat.zero_mul, Nat.reduceAdd, Nat.reduceMul, Nat.reduceSub, Nat.min_eq_left, IntKind.bits, Nat.sub_zero, z1, hs0]; try rfl; done) | rfl))
      | ((first | (with_reducible apply q_eqL) | (with_reducible apply q_eqO)); (first | (simp (disch := omega) only [upd_self, upd_ne, upd_upd, rep, splice, List.take_succ_cons, List.take_zero, List.drop_succ_cons, List.drop_zero, List.cons_append, List.nil_append, List.append_nil, List.length_cons, List.length_nil, List.reduceReplicate, List.flatten_cons, List.flatten_nil, Nat.reduceAdd, Nat.reduceMul, Nat.reduceSub, Nat.zero_add, Nat.add_zero, List.getElem?_cons_zero, List.getElem?_cons_succ, z1, hs0]; try rfl; done) | rfl)))
    refine W_for l.length (fun x st => ∃ h', st = ⟨[(0, accs l), (5, .sl k17 1 0 l.length), (6, .int .i64 x)], h'⟩ ∧ h' k17 = some ((effS l x 0).map (.int .i64))) ⟨_, rfl, by rw [upd_self, ← hs0]⟩ ?_ ?_
    · rintro x e' h' hx ⟨h1, he, hk⟩
      cases he
      repeat' (first
        | (with_reducible first | refine W_seq ?_ | refine then_n ?_ | refine W_block ?_ | refine blk_n ?_ | refine blk_r ?_ | refine blk_e ?_ | refine W_skip ?_ | refine W_ret ?_ | refine then_r ?_ | refine W_exit ?_ | refine then_e ?_)
        | (refine blk_j (by decide) ?_)
        | ((with_reducible refine s_reg ?_); intro K hK)
        | ((with_reducible refine k_nil ?_); (with_reducible apply s_nil hK); (· (repeat (first | exact norm_nil | ((with_reducible apply norm_cons); (· rfl)) | ((with_reducible apply norm_skip); (· rfl))))); clear hK; clear K)
        | ((with_reducible refine k_cond ?_); (first | ((with_reducible apply s_condT); (· rfl); (· (repeat (first | exact norm_nil | ((with_reducible apply norm_cons); (· rfl)) | ((with_reducible apply norm_skip); (· rfl)))))) | ((with_reducible apply s_condF); (· rfl); (· (repeat (first | exact norm_nil | ((with_reducible apply norm_cons); (· rfl)) | ((with_reducible apply norm_skip); (· rfl)))))) | ((with_reducible apply s_condS); (· rfl); (· (repeat (first | exact norm_nil | ((with_reducible apply norm_cons); (· rfl)) | ((with_reducible apply norm_skip); (· rfl))))); (· (repeat (first | exact norm_nil | ((with_reducible apply norm_cons); (· rfl)) | ((with_reducible apply norm_skip); (· rfl))))))))
        | ((with_reducible refine k_guard ?_); (first | (refine s_gt rfl ?_) | (refine s_gf1 rfl ?_) | (refine s_gfn rfl ?_) | (refine s_gx1 rfl ?_) | (refine s_gxn rfl ?_) | (refine s_gs rfl ?_)))
        | ((with_reducible refine k_mv ?_); (refine s_mv rfl ?_))
        | ((with_reducible refine k_len ?_); (first | (refine s_len rfl rfl ?_) | ((with_reducible apply s_len); (· rfl); (· exact SlOwn.len (by assumption)))))
        | ((with_reducible refine k_lss ?_); (refine s_lss rfl rfl ?_))
        | ((with_reducible refine k_add ?_); ((with_reducible apply s_add); (· rfl); (· rfl)))
        | ((with_reducible refine k_dreg ?_); refine s_dregS (pre := A14d23p) rfl rfl rfl ?_; intro K hK)
        | ((with_reducible refine k_dreg ?_); refine s_dregS (pre := A14d25p) rfl rfl rfl ?_; intro K hK)
        | ((with_reducible refine k_dreg ?_); refine s_dreg rfl rfl ?_; intro K hK)
        | (with_reducible refine d_nilS ?_)
        | ((with_reducible refine k_dnil ?_); (with_reducible apply d_nil hK); (· (repeat (first | exact norm_nil | ((with_reducible apply norm_cons); (· rfl)) | ((with_reducible apply norm_skip); (· rfl))))); clear hK; clear K)
        | ((with_reducible refine k_dguard ?_); (first | (refine d_gt rfl ?_) | (refine d_gf rfl ?_) | (refine d_gx rfl ?_) | (refine d_gs rfl ?_)))
        | ((with_reducible refine k_dop ?_); refine d_step (by first | exact Or.inl rfl | exact Or.inr rfl) ?_)
        | (with_reducible refine d_back ?_)
        | ((with_reducible refine k_br ?_); (first | (with_reducible first | refine Br_dec ?_ | refine Br_not ?_ | refine Br_eqF ?_ | refine Br_and ?_ | refine Br_or ?_ | refine Br_neg ?_ | refine Br_band ?_ | refine Br_bor ?_ | refine Br_beq ?_) | (refine Br_t (by first | omega | assumption | rfl) ?_) | (refine Br_f (by first | omega | assumption | decide) ?_) | (with_reducible apply Br_sb <;> intro hbr <;> (first | subst hbr | simp only [hbr] | skip)) | (with_reducible apply Br_s <;> intro hbr)))
        | (with_reducible refine WN_succ ?_)
        | ((first | (with_reducible apply q_eqI) | (with_reducible apply q_eqN)); (first | (simp (disch := omega) only [w64, wu8, wu16, wu32, wu64, tm_nn, td_nn, fd_nn, Int.reduceAdd, Int.reduceSub, Int.reduceMul, Int.reduceDiv, Int.reduceMod, Int.reduceNeg, Int.reduceToNat, Int.toNat_natCast, Int.toNat_zero, Int.zero_add, Int.add_zero, Int.one_mul, Int.reducePow, Nat.mul_one, Nat.zero_add, Nat.add_zero, Nat.zero_mul, Nat.reduceAdd, Nat.reduceMul, Nat.reduceSub, Nat.min_eq_left, IntKind.bits, Nat.sub_zero]; try rfl; done) | rfl))
        | ((first | (with_reducible apply q_eqL) | (with_reducible apply q_eqO)); (first | (simp (disch := omega) only [upd_self, upd_ne, upd_upd, rep, splice, List.take_succ_cons, List.take_zero, List.drop_succ_cons, List.drop_zero, List.cons_append, List.nil_append, List.append_nil, List.length_cons, List.length_nil, List.reduceReplicate, List.flatten_cons, List.flatten_nil, Nat.reduceAdd, Nat.reduceMul, Nat.reduceSub, Nat.zero_add, Nat.add_zero, List.getElem?_cons_zero, List.getElem?_cons_succ]; try rfl; done) | rfl)))
      all_goals first | (exfalso; omega) | skip
      refine W_for (l.length - (x + 1)) (fun m st => st = ⟨[(0, accs l), (5, .sl k17 1 0 l.length), (6, .int .i64 x), (7, .int .i64 (kT l (wt l) x (x + 1 + m))), (8, .int .i64 ((x + 1 + m : Nat) : Int))], h'⟩) (by rw [Nat.add_zero, kT_zero ht (Nat.le_refl _) (by omega)]; rfl) ?_ ?_
      · rintro m e' h' hm he
        cases he
        have hc : x + 1 + m < l.length := by omega
        have g0 : (l.flatMap Acct.cells)[(x + 1 + m) * 5]? = some (.int .i64 (pa l (x + 1 + m))) := by rw [ac0 hc, pa_at hc]
        have g1 : (l.flatMap Acct.cells)[(x + 1 + m) * 5 + 1]? = some (.int .i64 (us l (x + 1 + m))) := by rw [ac1 hc, us_at hc]
        have g2 : (l.flatMap Acct.cells)[(x + 1 + m) * 5 + 2]? = some (.int .i64 (mn l (x + 1 + m))) := by rw [ac2 hc, mn_at hc]
        have hb := kT_in (l := l) (f := wt l) (b := 1048576) (wt_in ha.1) (x : Int) (x + 1 + m)
        have hm2 := wt_in ha.1 (x + 1 + m)
        have hw : (if us l (x + 1 + m) < mn l (x + 1 + m) then us l (x + 1 + m) else mn l (x + 1 + m)) = wt l (x + 1 + m) := rfl
        have hs : kT l (wt l) x (x + 1 + (m + 1)) = kT l (wt l) x (x + 1 + m) + (if 0 < x + 1 + m ∧ pa l (x + 1 + m) = x then wt l (x + 1 + m) else 0) := kT_s _ _ _ _
        have hy : pa l (x + 1 + m) = x → kT l (wt l) x (x + 1 + (m + 1)) = kT l (wt l) x (x + 1 + m) + wt l (x + 1 + m) := fun h => by rw [hs, if_pos ⟨by omega, h⟩]
        have hn : pa l (x + 1 + m) ≠ x → kT l (wt l) x (x + 1 + (m + 1)) = kT l (wt l) x (x + 1 + m) := fun h => by rw [hs, if_neg (fun h2 => h h2.2), Int.add_zero]
        clear hs
        generalize kT l (wt l) x (x + 1 + m) = T at *
        generalize kT l (wt l) x (x + 1 + (m + 1)) = T' at *
        repeat' (first
          | (with_reducible first | refine W_seq ?_ | refine then_n ?_ | refine W_block ?_ | refine blk_n ?_ | refine blk_r ?_ | refine blk_e ?_ | refine W_skip ?_ | refine W_ret ?_ | refine then_r ?_ | refine W_exit ?_ | refine then_e ?_)
          | (refine blk_j (by decide) ?_)
          | ((with_reducible refine s_reg ?_); intro K hK)
          | ((with_reducible refine k_nil ?_); (with_reducible apply s_nil hK); (· (repeat (first | exact norm_nil | ((with_reducible apply norm_cons); (· rfl)) | ((with_reducible apply norm_skip); (· rfl))))); clear hK; clear K)
          | ((with_reducible refine k_cond ?_); (first | ((with_reducible apply s_condT); (· rfl); (· (repeat (first | exact norm_nil | ((with_reducible apply norm_cons); (· rfl)) | ((with_reducible apply norm_skip); (· rfl)))))) | ((with_reducible apply s_condF); (· rfl); (· (repeat (first | exact norm_nil | ((with_reducible apply norm_cons); (· rfl)) | ((with_reducible apply norm_skip); (· rfl)))))) | ((with_reducible apply s_condS); (· rfl); (· (repeat (first | exact norm_nil | ((with_reducible apply norm_cons); (· rfl)) | ((with_reducible apply norm_skip); (· rfl))))); (· (repeat (first | exact norm_nil | ((with_reducible apply norm_cons); (· rfl)) | ((with_reducible apply norm_skip); (· rfl))))))))
          | ((with_reducible refine k_guard ?_); (first | (refine s_gt rfl ?_) | (refine s_gf1 rfl ?_) | (refine s_gfn rfl ?_) | (refine s_gx1 rfl ?_) | (refine s_gxn rfl ?_) | (refine s_gs rfl ?_)))
          | ((with_reducible refine k_mv ?_); (refine s_mv rfl ?_))
          | ((with_reducible refine k_len ?_); (first | (refine s_len rfl rfl ?_) | ((with_reducible apply s_len); (· rfl); (· exact SlOwn.len (by assumption)))))
          | ((with_reducible refine k_eql ?_); (first | (refine s_eql rfl rfl ?_) | (refine s_strEq rfl rfl ?_)))
          | ((with_reducible refine k_lss ?_); (refine s_lss rfl rfl ?_))
          | ((with_reducible refine k_iaddr ?_); (first | ((with_reducible apply s_iaddrV); (· rfl); (· rfl); (· (first | omega | exact ⟨rfl, by omega⟩ | skip))) | ((with_reducible apply s_iaddrO); (· rfl); (· rfl); (· (first | omega | exact ⟨rfl, by omega⟩ | skip)); (· (first | exact upd_self | rfl | assumption | (simp (disch := omega) only [upd_self, upd_ne]; first | done | rfl | assumption)))) | ((with_reducible apply s_iaddrSO); (· rfl); (· assumption); (· rfl); (· (first | omega | exact ⟨rfl, by omega⟩ | skip)); (· (first | (simp (disch := omega) only [w64, wu8, wu16, wu32, wu64, tm_nn, td_nn, fd_nn, Int.reduceAdd, Int.reduceSub, Int.reduceMul, Int.reduceDiv, Int.reduceMod, Int.reduceNeg, Int.reduceToNat, Int.toNat_natCast, Int.toNat_zero, Int.zero_add, Int.add_zero, Int.one_mul, Int.reducePow, Nat.mul_one, Nat.zero_add, Nat.add_zero, Nat.zero_mul, Nat.reduceAdd, Nat.reduceMul, Nat.reduceSub, Nat.min_eq_left, IntKind.bits, Nat.sub_zero, g0, g1, g2, Bool.false_eq_true, if_false, hw]; try rfl; done) | rfl)); intro ks hks)))
          | ((with_reducible refine k_load ?_); (first | ((with_reducible apply s_loadV); (· rfl)) | ((with_reducible apply s_loadP); (· rfl); (· (first | exact upd_self | rfl | assumption | (simp (disch := omega) only [upd_self, upd_ne]; first | done | rfl | assumption))))))
          | ((with_reducible refine k_add ?_); ((with_reducible apply s_add); (· rfl); (· rfl)))
          | ((with_reducible refine k_faddr ?_); (first | ((with_reducible apply s_faddrV); (· rfl); (· rfl)) | ((with_reducible apply s_faddrP); (· rfl); (· rfl))))
          | ((with_reducible refine k_mima ?_); ((with_reducible apply s_mima); (· rfl); (· rfl)))
          | ((with_reducible refine k_dreg ?_); refine s_dregS (pre := A14d23p) rfl rfl rfl ?_; intro K hK)
          | ((with_reducible refine k_dreg ?_); refine s_dregS (pre := A14d25p) rfl rfl rfl ?_; intro K hK)
          | ((with_reducible refine k_dreg ?_); refine s_dreg rfl rfl ?_; intro K hK)
          | (with_reducible refine d_nilS ?_)
          | ((with_reducible refine k_dnil ?_); (with_reducible apply d_nil hK); (· (repeat (first | exact norm_nil | ((with_reducible apply norm_cons); (· rfl)) | ((with_reducible apply norm_skip); (· rfl))))); clear hK; clear K)
          | ((with_reducible refine k_dguard ?_); (first | (refine d_gt rfl ?_) | (refine d_gf rfl ?_) | (refine d_gx rfl ?_) | (refine d_gs rfl ?_)))
          | ((with_reducible refine k_dop ?_); refine d_step (by first | exact Or.inl rfl | exact Or.inr rfl) ?_)
          | (with_reducible refine d_back ?_)
          | ((with_reducible refine k_br ?_); (first | (with_reducible first | refine Br_dec ?_ | refine Br_not ?_ | refine Br_eqF ?_ | refine Br_and ?_ | refine Br_or ?_ | refine Br_neg ?_ | refine Br_band ?_ | refine Br_bor ?_ | refine Br_beq ?_) | (refine Br_t (by first | omega | assumption | rfl) ?_) | (refine Br_f (by first | omega | assumption | decide) ?_) | (with_reducible apply Br_sb <;> intro hbr <;> (first | subst hbr | simp only [hbr] | skip)) | (with_reducible apply Br_s <;> intro hbr)))
          | (with_reducible refine WN_succ ?_)
          | ((first | (with_reducible apply q_eqI) | (with_reducible apply q_eqN)); (first | (simp (disch := omega) only [w64, wu8, wu16, wu32, wu64, tm_nn, td_nn, fd_nn, Int.reduceAdd, Int.reduceSub, Int.reduceMul, Int.reduceDiv, Int.reduceMod, Int.reduceNeg, Int.reduceToNat, Int.toNat_natCast, Int.toNat_zero, Int.zero_add, Int.add_zero, Int.one_mul, Int.reducePow, Nat.mul_one, Nat.zero_add, Nat.add_zero, Nat.zero_mul, Nat.reduceAdd, Nat.reduceMul, Nat.reduceSub, Nat.min_eq_left, IntKind.bits, Nat.sub_zero, g0, g1, g2, Bool.false_eq_true, if_false, hw]; try rfl; done) | rfl))
          | ((first | (with_reducible apply q_eqL) | (with_reducible apply q_eqO)); (first | (simp (disch := omega) only [upd_self, upd_ne, upd_upd, rep, splice, List.take_succ_cons, List.take_zero, List.drop_succ_cons, List.drop_zero, List.cons_append, List.nil_append, List.append_nil, List.length_cons, List.length_nil, List.reduceReplicate, List.flatten_cons, List.flatten_nil, Nat.reduceAdd, Nat.reduceMul, Nat.reduceSub, Nat.zero_add, Nat.add_zero, List.getElem?_cons_zero, List.getElem?_cons_succ, g0, g1, g2, Bool.false_eq_true, if_false, hw]; try rfl; done) | rfl)))
        all_goals first
          | (exfalso; omega)
          | (rw [hy (by assumption)]; rfl)
          | (rw [hn (by assumption)]; rfl)
      · rintro e' h' he
        cases he
        rw [show x + 1 + (l.length - (x + 1)) = l.length by omega]
        repeat' (first
          | (with_reducible first | refine W_seq ?_ | refine then_n ?_ | refine W_block ?_ | refine blk_n ?_ | refine blk_r ?_ | refine blk_e ?_ | refine W_skip ?_ | refine W_ret ?_ | refine then_r ?_ | refine W_exit ?_ | refine then_e ?_)
          | (refine blk_j (by decide) ?_)
          | ((with_reducible refine s_reg ?_); intro K hK)
          | ((with_reducible refine k_nil ?_); (with_reducible apply s_nil hK); (· (repeat (first | exact norm_nil | ((with_reducible apply norm_cons); (· rfl)) | ((with_reducible apply norm_skip); (· rfl))))); clear hK; clear K)
          | ((with_reducible refine k_cond ?_); (first | ((with_reducible apply s_condT); (· rfl); (· (repeat (first | exact norm_nil | ((with_reducible apply norm_cons); (· rfl)) | ((with_reducible apply norm_skip); (· rfl)))))) | ((with_reducible apply s_condF); (· rfl); (· (repeat (first | exact norm_nil | ((with_reducible apply norm_cons); (· rfl)) | ((with_reducible apply norm_skip); (· rfl)))))) | ((with_reducible apply s_condS); (· rfl); (· (repeat (first | exact norm_nil | ((with_reducible apply norm_cons); (· rfl)) | ((with_reducible apply norm_skip); (· rfl))))); (· (repeat (first | exact norm_nil | ((with_reducible apply norm_cons); (· rfl)) | ((with_reducible apply norm_skip); (· rfl))))))))
          | ((with_reducible refine k_guard ?_); (first | (refine s_gt rfl ?_) | (refine s_gf1 rfl ?_) | (refine s_gfn rfl ?_) | (refine s_gx1 rfl ?_) | (refine s_gxn rfl ?_) | (refine s_gs rfl ?_)))
          | ((with_reducible refine k_mv ?_); (refine s_mv rfl ?_))
          | ((with_reducible refine k_len ?_); (first | (refine s_len rfl rfl ?_) | ((with_reducible apply s_len); (· rfl); (· exact SlOwn.len (by assumption)))))
          | ((with_reducible refine k_lss ?_); (refine s_lss rfl rfl ?_))
          | ((with_reducible refine k_add ?_); ((with_reducible apply s_add); (· rfl); (· rfl)))
          | ((with_reducible refine k_dreg ?_); refine s_dregS (pre := A14d23p) rfl rfl rfl ?_; intro K hK)
          | ((with_reducible refine k_dreg ?_); refine s_dregS (pre := A14d25p) rfl rfl rfl ?_; intro K hK)
          | ((with_reducible refine k_dreg ?_); refine s_dreg rfl rfl ?_; intro K hK)
          | (with_reducible refine d_nilS ?_)
          | ((with_reducible refine k_dnil ?_); (with_reducible apply d_nil hK); (· (repeat (first | exact norm_nil | ((with_reducible apply norm_cons); (· rfl)) | ((with_reducible apply norm_skip); (· rfl))))); clear hK; clear K)
          | ((with_reducible refine k_dguard ?_); (first | (refine d_gt rfl ?_) | (refine d_gf rfl ?_) | (refine d_gx rfl ?_) | (refine d_gs rfl ?_)))
          | ((with_reducible refine k_dop ?_); refine d_step (by first | exact Or.inl rfl | exact Or.inr rfl) ?_)
          | (with_reducible refine d_back ?_)
          | ((with_reducible refine k_br ?_); (first | (with_reducible first | refine Br_dec ?_ | refine Br_not ?_ | refine Br_eqF ?_ | refine Br_and ?_ | refine Br_or ?_ | refine Br_neg ?_ | refine Br_band ?_ | refine Br_bor ?_ | refine Br_beq ?_) | (refine Br_t (by first | omega | assumption | rfl) ?_) | (refine Br_f (by first | omega | assumption | decide) ?_) | (with_reducible apply Br_sb <;> intro hbr <;> (first | subst hbr | simp only [hbr] | skip)) | (with_reducible apply Br_s <;> intro hbr)))
          | (with_reducible refine WN_succ ?_)
          | ((first | (with_reducible apply q_eqI) | (with_reducible apply q_eqN)); (first | (simp (disch := omega) only [w64, wu8, wu16, wu32, wu64, tm_nn, td_nn, fd_nn, Int.reduceAdd, Int.reduceSub, Int.reduceMul, Int.reduceDiv, Int.reduceMod, Int.reduceNeg, Int.reduceToNat, Int.toNat_natCast, Int.toNat_zero, Int.zero_add, Int.add_zero, Int.one_mul, Int.reducePow, Nat.mul_one, Nat.zero_add, Nat.add_zero, Nat.zero_mul, Nat.reduceAdd, Nat.reduceMul, Nat.reduceSub, Nat.min_eq_left, IntKind.bits, Nat.sub_zero]; try rfl; done) | rfl))
          | ((first | (with_reducible apply q_eqL) | (with_reducible apply q_eqO)); (first | (simp (disch := omega) only [upd_self, upd_ne, upd_upd, rep, splice, List.take_succ_cons, List.take_zero, List.drop_succ_cons, List.drop_zero, List.cons_append, List.nil_append, List.append_nil, List.length_cons, List.length_nil, List.reduceReplicate, List.flatten_cons, List.flatten_nil, Nat.reduceAdd, Nat.reduceMul, Nat.reduceSub, Nat.zero_add, Nat.add_zero, List.getElem?_cons_zero, List.getElem?_cons_succ]; try rfl; done) | rfl)))
        all_goals first | (exfalso; omega) | skip
        have hst : effS l x 0 = effS l x (x + 1) := effS_ext fun j hj => by have := hpa j hj; omega
        rw [hst] at hk
        refine W_for (l.length - (x + 1)) (fun m st => ∃ h', st = ⟨[(0, accs l), (5, .sl k17 1 0 l.length), (6, .int .i64 x), (7, .int .i64 (kT l (wt l) x l.length)), (9, .int .i64 ((x + 1 + m : Nat) : Int))], h'⟩ ∧ h' k17 = some ((effS l x (x + 1 + m)).map (.int .i64))) ⟨_, rfl, hk⟩ ?_ ?_
        · clear hk
          rintro m e' h' hm ⟨h2, he, hk⟩
          cases he
          have hc : x + 1 + m < l.length := by omega
          have g0 : (l.flatMap Acct.cells)[(x + 1 + m) * 5]? = some (.int .i64 (pa l (x + 1 + m))) := by rw [ac0 hc, pa_at hc]
          have g1 : (l.flatMap Acct.cells)[(x + 1 + m) * 5 + 1]? = some (.int .i64 (us l (x + 1 + m))) := by rw [ac1 hc, us_at hc]
          have g2 : (l.flatMap Acct.cells)[(x + 1 + m) * 5 + 2]? = some (.int .i64 (mn l (x + 1 + m))) := by rw [ac2 hc, mn_at hc]
          have hw : (if us l (x + 1 + m) < mn l (x + 1 + m) then us l (x + 1 + m) else mn l (x + 1 + m)) = wt l (x + 1 + m) := rfl
          by_cases hp : pa l (x + 1 + m) = x
          · have hst := effS_step hp hc
            rw [eff_rec ht hl.2 hc (by omega), hp, Int.toNat_natCast] at hst
            have gx := map_g (k := .i64) (xs := effS l x (x + 1 + m)) (i := x) (by rw [effS_len]; exact hx)
            rw [effS_d hx, if_pos (by have := hpa x hx; omega)] at gx
            have hef := eff_in h x hx
            have hux := us_in ha.1 x
            have hwi := wt_in ha.1 (x + 1 + m)
            have hb2 := kT_in (l := l) (f := wt l) (b := 1048576) (wt_in ha.1) (x : Int) l.length
            have m2 : ((effS l x (x + 1 + m)).map (D.int .i64)).length = l.length := by rw [List.length_map, effS_len]
            have s1 := map_st (k := .i64) (xs := effS l x (x + 1 + m)) (i := x + 1 + m) (v := wt l (x + 1 + m)) (by rw [effS_len]; omega) rfl
            have m3 : (((effS l x (x + 1 + m)).set (x + 1 + m) (wt l (x + 1 + m))).map (D.int .i64)).length = l.length := by rw [List.length_map, List.length_set, effS_len]
            have g4 := map_g (k := .i64) (xs := (effS l x (x + 1 + m)).set (x + 1 + m) (wt l (x + 1 + m))) (i := x + 1 + m) (by rw [List.length_set, effS_len]; exact hc)
            rw [List.getD_eq_getElem?_getD, List.getElem?_set_self (by rw [effS_len]; exact hc), Option.getD_some] at g4
            have g5 := map_g (k := .i64) (xs := (effS l x (x + 1 + m)).set (x + 1 + m) (wt l (x + 1 + m))) (i := x) (by rw [List.length_set, effS_len]; exact hx)
            rw [List.getD_eq_getElem?_getD, List.getElem?_set_ne (by omega), ← List.getD_eq_getElem?_getD, effS_d hx, if_pos (by have := hpa x hx; omega)] at g5
            generalize eff l x = g at *
            generalize kT l (wt l) x l.length = t at *
            have hmg : 0 ≤ wt l (x + 1 + m) * g ∧ wt l (x + 1 + m) * g ≤ 1048576 * 1048576 := ⟨Int.mul_nonneg hwi.1 hef.1, Int.mul_le_mul hwi.2 (by omega) hef.1 (by omega)⟩
            by_cases hgt : g < t
            · rw [if_pos hgt] at hst
              have s2 := map_st (k := .i64) (xs := (effS l x (x + 1 + m)).set (x + 1 + m) (wt l (x + 1 + m))) (i := x + 1 + m) (v := wt l (x + 1 + m) * g / t) (by rw [List.length_set, effS_len]; exact hc) rfl
              rw [List.set_set, hst] at s2
              have hdv : 0 ≤ wt l (x + 1 + m) * g / t ∧ wt l (x + 1 + m) * g / t ≤ 1048576 * 1048576 := ⟨Int.ediv_nonneg hmg.1 (by omega), Int.le_trans (Int.ediv_le_self _ hmg.1) hmg.2⟩
              repeat' (first
                | (with_reducible first | refine W_seq ?_ | refine then_n ?_ | refine W_block ?_ | refine blk_n ?_ | refine blk_r ?_ | refine blk_e ?_ | refine W_skip ?_ | refine W_ret ?_ | refine then_r ?_ | refine W_exit ?_ | refine then_e ?_)
                | (refine blk_j (by decide) ?_)
                | ((with_reducible refine s_reg ?_); intro K hK)
                | ((with_reducible refine k_nil ?_); (with_reducible apply s_nil hK); (· (repeat (first | exact norm_nil | ((with_reducible apply norm_cons); (· rfl)) | ((with_reducible apply norm_skip); (· rfl))))); clear hK; clear K)
                | ((with_reducible refine k_cond ?_); (first | ((with_reducible apply s_condT); (· rfl); (· (repeat (first | exact norm_nil | ((with_reducible apply norm_cons); (· rfl)) | ((with_reducible apply norm_skip); (· rfl)))))) | ((with_reducible apply s_condF); (· rfl); (· (repeat (first | exact norm_nil | ((with_reducible apply norm_cons); (· rfl)) | ((with_reducible apply norm_skip); (· rfl)))))) | ((with_reducible apply s_condS); (· rfl); (· (repeat (first | exact norm_nil | ((with_reducible apply norm_cons); (· rfl)) | ((with_reducible apply norm_skip); (· rfl))))); (· (repeat (first | exact norm_nil | ((with_reducible apply norm_cons); (· rfl)) | ((with_reducible apply norm_skip); (· rfl))))))))
                | ((with_reducible refine k_guard ?_); (first | (refine s_gt rfl ?_) | (refine s_gf1 rfl ?_) | (refine s_gfn rfl ?_) | (refine s_gx1 rfl ?_) | (refine s_gxn rfl ?_) | (refine s_gs rfl ?_)))
                | ((with_reducible refine k_mv ?_); (refine s_mv rfl ?_))
                | ((with_reducible refine k_len ?_); (first | (refine s_len rfl rfl ?_) | ((with_reducible apply s_len); (· rfl); (· exact SlOwn.len (by assumption)))))
                | ((with_reducible refine k_eql ?_); (first | (refine s_eql rfl rfl ?_) | (refine s_strEq rfl rfl ?_)))
                | ((with_reducible refine k_lss ?_); (refine s_lss rfl rfl ?_))
                | ((with_reducible refine k_gtr ?_); (refine s_gtr rfl rfl ?_))
                | ((with_reducible refine k_iaddr ?_); (first | ((with_reducible apply s_iaddrV); (· rfl); (· rfl); (· (first | omega | exact ⟨rfl, by omega⟩ | skip))) | ((with_reducible apply s_iaddrO); (· rfl); (· rfl); (· (first | omega | exact ⟨rfl, by omega⟩ | skip)); (· (first | exact upd_self | rfl | assumption | (simp (disch := omega) only [upd_self, upd_ne]; first | done | rfl | assumption)))) | ((with_reducible apply s_iaddrSO); (· rfl); (· assumption); (· rfl); (· (first | omega | exact ⟨rfl, by omega⟩ | skip)); (· (first | (simp (disch := omega) only [w64, wu8, wu16, wu32, wu64, tm_nn, td_nn, fd_nn, Int.reduceAdd, Int.reduceSub, Int.reduceMul, Int.reduceDiv, Int.reduceMod, Int.reduceNeg, Int.reduceToNat, Int.toNat_natCast, Int.toNat_zero, Int.zero_add, Int.add_zero, Int.one_mul, Int.reducePow, Nat.mul_one, Nat.zero_add, Nat.add_zero, Nat.zero_mul, Nat.reduceAdd, Nat.reduceMul, Nat.reduceSub, Nat.min_eq_left, IntKind.bits, Nat.sub_zero, g0, g1, g2, gx, s1, g4, g5, s2, Bool.false_eq_true, if_false, hw]; try rfl; done) | rfl)); intro ks hks)))
                | ((with_reducible refine k_load ?_); (first | ((with_reducible apply s_loadV); (· rfl)) | ((with_reducible apply s_loadP); (· rfl); (· (first | exact upd_self | rfl | assumption | (simp (disch := omega) only [upd_self, upd_ne]; first | done | rfl | assumption))))))
                | ((with_reducible refine k_add ?_); ((with_reducible apply s_add); (· rfl); (· rfl)))
                | ((with_reducible refine k_mul ?_); ((with_reducible apply s_mul); (· rfl); (· rfl)))
                | ((with_reducible refine k_quo ?_); ((with_reducible apply s_quo); (· rfl); (· rfl); (· omega)))
                | ((with_reducible refine k_store ?_); ((with_reducible apply s_store0); (· rfl); (· rfl); (· rfl); (· (first | exact upd_self | rfl | assumption | (simp (disch := omega) only [upd_self, upd_ne]; first | done | rfl | assumption))); (· (exact ⟨rfl, by first | exact Nat.le_of_ble_eq_true rfl | omega | (simp [g0, g1, g2, gx, s1, g4, g5, s2, Bool.false_eq_true, if_false, hw]; omega)⟩)); (· ((first | (simp (disch := omega) only [upd_self, upd_ne, upd_upd, rep, splice, List.take_succ_cons, List.take_zero, List.drop_succ_cons, List.drop_zero, List.cons_append, List.nil_append, List.append_nil, List.length_cons, List.length_nil, List.reduceReplicate, List.flatten_cons, List.flatten_nil, Nat.reduceAdd, Nat.reduceMul, Nat.reduceSub, Nat.zero_add, Nat.add_zero, List.getElem?_cons_zero, List.getElem?_cons_succ, g0, g1, g2, gx, s1, g4, g5, s2, Bool.false_eq_true, if_false, hw]; try rfl; done) | rfl))); (· (first | exact upd_upd | rfl))))
                | ((with_reducible refine k_faddr ?_); (first | ((with_reducible apply s_faddrV); (· rfl); (· rfl)) | ((with_reducible apply s_faddrP); (· rfl); (· rfl))))
                | ((with_reducible refine k_mima ?_); ((with_reducible apply s_mima); (· rfl); (· rfl)))
                | ((with_reducible refine k_dreg ?_); refine s_dregS (pre := A14d23p) rfl rfl rfl ?_; intro K hK)
                | ((with_reducible refine k_dreg ?_); refine s_dregS (pre := A14d25p) rfl rfl rfl ?_; intro K hK)
                | ((with_reducible refine k_dreg ?_); refine s_dreg rfl rfl ?_; intro K hK)
                | (with_reducible refine d_nilS ?_)
                | ((with_reducible refine k_dnil ?_); (with_reducible apply d_nil hK); (· (repeat (first | exact norm_nil | ((with_reducible apply norm_cons); (· rfl)) | ((with_reducible apply norm_skip); (· rfl))))); clear hK; clear K)
                | ((with_reducible refine k_dguard ?_); (first | (refine d_gt rfl ?_) | (refine d_gf rfl ?_) | (refine d_gx rfl ?_) | (refine d_gs rfl ?_)))
                | ((with_reducible refine k_dop ?_); refine d_step (by first | exact Or.inl rfl | exact Or.inr rfl) ?_)
                | (with_reducible refine d_back ?_)
                | ((with_reducible refine k_br ?_); (first | (with_reducible first | refine Br_dec ?_ | refine Br_not ?_ | refine Br_eqF ?_ | refine Br_and ?_ | refine Br_or ?_ | refine Br_neg ?_ | refine Br_band ?_ | refine Br_bor ?_ | refine Br_beq ?_) | (refine Br_t (by first | omega | assumption | rfl) ?_) | (refine Br_f (by first | omega | assumption | decide) ?_) | (with_reducible apply Br_sb <;> intro hbr <;> (first | subst hbr | simp only [hbr] | skip)) | (with_reducible apply Br_s <;> intro hbr)))
                | (with_reducible refine WN_succ ?_)
                | ((first | (with_reducible apply q_eqI) | (with_reducible apply q_eqN)); (first | (simp (disch := omega) only [w64, wu8, wu16, wu32, wu64, tm_nn, td_nn, fd_nn, Int.reduceAdd, Int.reduceSub, Int.reduceMul, Int.reduceDiv, Int.reduceMod, Int.reduceNeg, Int.reduceToNat, Int.toNat_natCast, Int.toNat_zero, Int.zero_add, Int.add_zero, Int.one_mul, Int.reducePow, Nat.mul_one, Nat.zero_add, Nat.add_zero, Nat.zero_mul, Nat.reduceAdd, Nat.reduceMul, Nat.reduceSub, Nat.min_eq_left, IntKind.bits, Nat.sub_zero, g0, g1, g2, gx, s1, g4, g5, s2, Bool.false_eq_true, if_false, hw]; try rfl; done) | rfl))
                | ((first | (with_reducible apply q_eqL) | (with_reducible apply q_eqO)); (first | (simp (disch := omega) only [upd_self, upd_ne, upd_upd, rep, splice, List.take_succ_cons, List.take_zero, List.drop_succ_cons, List.drop_zero, List.cons_append, List.nil_append, List.append_nil, List.length_cons, List.length_nil, List.reduceReplicate, List.flatten_cons, List.flatten_nil, Nat.reduceAdd, Nat.reduceMul, Nat.reduceSub, Nat.zero_add, Nat.add_zero, List.getElem?_cons_zero, List.getElem?_cons_succ, g0, g1, g2, gx, s1, g4, g5, s2, Bool.false_eq_true, if_false, hw]; try rfl; done) | rfl)))
              all_goals first | (exfalso; omega) | exact ⟨_, rfl, upd_self⟩
            · rw [if_neg hgt] at hst
              rw [hst] at s1 m3 g5
              repeat' (first
                | (with_reducible first | refine W_seq ?_ | refine then_n ?_ | refine W_block ?_ | refine blk_n ?_ | refine blk_r ?_ | refine blk_e ?_ | refine W_skip ?_ | refine W_ret ?_ | refine then_r ?_ | refine W_exit ?_ | refine then_e ?_)
                | (refine blk_j (by decide) ?_)
                | ((with_reducible refine s_reg ?_); intro K hK)
                | ((with_reducible refine k_nil ?_); (with_reducible apply s_nil hK); (· (repeat (first | exact norm_nil | ((with_reducible apply norm_cons); (· rfl)) | ((with_reducible apply norm_skip); (· rfl))))); clear hK; clear K)
                | ((with_reducible refine k_cond ?_); (first | ((with_reducible apply s_condT); (· rfl); (· (repeat (first | exact norm_nil | ((with_reducible apply norm_cons); (· rfl)) | ((with_reducible apply norm_skip); (· rfl)))))) | ((with_reducible apply s_condF); (· rfl); (· (repeat (first | exact norm_nil | ((with_reducible apply norm_cons); (· rfl)) | ((with_reducible apply norm_skip); (· rfl)))))) | ((with_reducible apply s_condS); (· rfl); (· (repeat (first | exact norm_nil | ((with_reducible apply norm_cons); (· rfl)) | ((with_reducible apply norm_skip); (· rfl))))); (· (repeat (first | exact norm_nil | ((with_reducible apply norm_cons); (· rfl)) | ((with_reducible apply norm_skip); (· rfl))))))))
                | ((with_reducible refine k_guard ?_); (first | (refine s_gt rfl ?_) | (refine s_gf1 rfl ?_) | (refine s_gfn rfl ?_) | (refine s_gx1 rfl ?_) | (refine s_gxn rfl ?_) | (refine s_gs rfl ?_)))
                | ((with_reducible refine k_mv ?_); (refine s_mv rfl ?_))
                | ((with_reducible refine k_len ?_); (first | (refine s_len rfl rfl ?_) | ((with_reducible apply s_len); (· rfl); (· exact SlOwn.len (by assumption)))))
                | ((with_reducible refine k_eql ?_); (first | (refine s_eql rfl rfl ?_) | (refine s_strEq rfl rfl ?_)))
                | ((with_reducible refine k_lss ?_); (refine s_lss rfl rfl ?_))
                | ((with_reducible refine k_gtr ?_); (refine s_gtr rfl rfl ?_))
                | ((with_reducible refine k_iaddr ?_); (first | ((with_reducible apply s_iaddrV); (· rfl); (· rfl); (· (first | omega | exact ⟨rfl, by omega⟩ | skip))) | ((with_reducible apply s_iaddrO); (· rfl); (· rfl); (· (first | omega | exact ⟨rfl, by omega⟩ | skip)); (· (first | exact upd_self | rfl | assumption | (simp (disch := omega) only [upd_self, upd_ne]; first | done | rfl | assumption)))) | ((with_reducible apply s_iaddrSO); (· rfl); (· assumption); (· rfl); (· (first | omega | exact ⟨rfl, by omega⟩ | skip)); (· (first | (simp (disch := omega) only [w64, wu8, wu16, wu32, wu64, tm_nn, td_nn, fd_nn, Int.reduceAdd, Int.reduceSub, Int.reduceMul, Int.reduceDiv, Int.reduceMod, Int.reduceNeg, Int.reduceToNat, Int.toNat_natCast, Int.toNat_zero, Int.zero_add, Int.add_zero, Int.one_mul, Int.reducePow, Nat.mul_one, Nat.zero_add, Nat.add_zero, Nat.zero_mul, Nat.reduceAdd, Nat.reduceMul, Nat.reduceSub, Nat.min_eq_left, IntKind.bits, Nat.sub_zero, g0, g1, g2, gx, s1, g5, Bool.false_eq_true, if_false, hw]; try rfl; done) | rfl)); intro ks hks)))
                | ((with_reducible refine k_load ?_); (first | ((with_reducible apply s_loadV); (· rfl)) | ((with_reducible apply s_loadP); (· rfl); (· (first | exact upd_self | rfl | assumption | (simp (disch := omega) only [upd_self, upd_ne]; first | done | rfl | assumption))))))
                | ((with_reducible refine k_add ?_); ((with_reducible apply s_add); (· rfl); (· rfl)))
                | ((with_reducible refine k_mul ?_); ((with_reducible apply s_mul); (· rfl); (· rfl)))
                | ((with_reducible refine k_quo ?_); ((with_reducible apply s_quo); (· rfl); (· rfl); (· omega)))
                | ((with_reducible refine k_store ?_); ((with_reducible apply s_store0); (· rfl); (· rfl); (· rfl); (· (first | exact upd_self | rfl | assumption | (simp (disch := omega) only [upd_self, upd_ne]; first | done | rfl | assumption))); (· (exact ⟨rfl, by first | exact Nat.le_of_ble_eq_true rfl | omega | (simp [g0, g1, g2, gx, s1, g5, Bool.false_eq_true, if_false, hw]; omega)⟩)); (· ((first | (simp (disch := omega) only [upd_self, upd_ne, upd_upd, rep, splice, List.take_succ_cons, List.take_zero, List.drop_succ_cons, List.drop_zero, List.cons_append, List.nil_append, List.append_nil, List.length_cons, List.length_nil, List.reduceReplicate, List.flatten_cons, List.flatten_nil, Nat.reduceAdd, Nat.reduceMul, Nat.reduceSub, Nat.zero_add, Nat.add_zero, List.getElem?_cons_zero, List.getElem?_cons_succ, g0, g1, g2, gx, s1, g5, Bool.false_eq_true, if_false, hw]; try rfl; done) | rfl))); (· (first | exact upd_upd | rfl))))
                | ((with_reducible refine k_faddr ?_); (first | ((with_reducible apply s_faddrV); (· rfl); (· rfl)) | ((with_reducible apply s_faddrP); (· rfl); (· rfl))))
                | ((with_reducible refine k_mima ?_); ((with_reducible apply s_mima); (· rfl); (· rfl)))
                | ((with_reducible refine k_dreg ?_); refine s_dregS (pre := A14d23p) rfl rfl rfl ?_; intro K hK)
                | ((with_reducible refine k_dreg ?_); refine s_dregS (pre := A14d25p) rfl rfl rfl ?_; intro K hK)
                | ((with_reducible refine k_dreg ?_); refine s_dreg rfl rfl ?_; intro K hK)
                | (with_reducible refine d_nilS ?_)
                | ((with_reducible refine k_dnil ?_); (with_reducible apply d_nil hK); (· (repeat (first | exact norm_nil | ((with_reducible apply norm_cons); (· rfl)) | ((with_reducible apply norm_skip); (· rfl))))); clear hK; clear K)
                | ((with_reducible refine k_dguard ?_); (first | (refine d_gt rfl ?_) | (refine d_gf rfl ?_) | (refine d_gx rfl ?_) | (refine d_gs rfl ?_)))
                | ((with_reducible refine k_dop ?_); refine d_step (by first | exact Or.inl rfl | exact Or.inr rfl) ?_)
                | (with_reducible refine d_back ?_)
                | ((with_reducible refine k_br ?_); (first | (with_reducible first | refine Br_dec ?_ | refine Br_not ?_ | refine Br_eqF ?_ | refine Br_and ?_ | refine Br_or ?_ | refine Br_neg ?_ | refine Br_band ?_ | refine Br_bor ?_ | refine Br_beq ?_) | (refine Br_t (by first | omega | assumption | rfl) ?_) | (refine Br_f (by first | omega | assumption | decide) ?_) | (with_reducible apply Br_sb <;> intro hbr <;> (first | subst hbr | simp only [hbr] | skip)) | (with_reducible apply Br_s <;> intro hbr)))
                | (with_reducible refine WN_succ ?_)
                | ((first | (with_reducible apply q_eqI) | (with_reducible apply q_eqN)); (first | (simp (disch := omega) only [w64, wu8, wu16, wu32, wu64, tm_nn, td_nn, fd_nn, Int.reduceAdd, Int.reduceSub, Int.reduceMul, Int.reduceDiv, Int.reduceMod, Int.reduceNeg, Int.reduceToNat, Int.toNat_natCast, Int.toNat_zero, Int.zero_add, Int.add_zero, Int.one_mul, Int.reducePow, Nat.mul_one, Nat.zero_add, Nat.add_zero, Nat.zero_mul, Nat.reduceAdd, Nat.reduceMul, Nat.reduceSub, Nat.min_eq_left, IntKind.bits, Nat.sub_zero, g0, g1, g2, gx, s1, g5, Bool.false_eq_true, if_false, hw]; try rfl; done) | rfl))
                | ((first | (with_reducible apply q_eqL) | (with_reducible apply q_eqO)); (first | (simp (disch := omega) only [upd_self, upd_ne, upd_upd, rep, splice, List.take_succ_cons, List.take_zero, List.drop_succ_cons, List.drop_zero, List.cons_append, List.nil_append, List.append_nil, List.length_cons, List.length_nil, List.reduceReplicate, List.flatten_cons, List.flatten_nil, Nat.reduceAdd, Nat.reduceMul, Nat.reduceSub, Nat.zero_add, Nat.add_zero, List.getElem?_cons_zero, List.getElem?_cons_succ, g0, g1, g2, gx, s1, g5, Bool.false_eq_true, if_false, hw]; try rfl; done) | rfl)))
              all_goals first | (exfalso; omega) | exact ⟨_, rfl, upd_self⟩
          · have hst : effS l x (x + 1 + m) = effS l x (x + 1 + (m + 1)) := effS_ext fun j hj => by
              by_cases hjm : j = x + 1 + m
              · subst hjm; omega
              · omega
            rw [hst] at hk
            repeat' (first
              | (with_reducible first | refine W_seq ?_ | refine then_n ?_ | refine W_block ?_ | refine blk_n ?_ | refine blk_r ?_ | refine blk_e ?_ | refine W_skip ?_ | refine W_ret ?_ | refine then_r ?_ | refine W_exit ?_ | refine then_e ?_)
              | (refine blk_j (by decide) ?_)
              | ((with_reducible refine s_reg ?_); intro K hK)
              | ((with_reducible refine k_nil ?_); (with_reducible apply s_nil hK); (· (repeat (first | exact norm_nil | ((with_reducible apply norm_cons); (· rfl)) | ((with_reducible apply norm_skip); (· rfl))))); clear hK; clear K)
              | ((with_reducible refine k_cond ?_); (first | ((with_reducible apply s_condT); (· rfl); (· (repeat (first | exact norm_nil | ((with_reducible apply norm_cons); (· rfl)) | ((with_reducible apply norm_skip); (· rfl)))))) | ((with_reducible apply s_condF); (· rfl); (· (repeat (first | exact norm_nil | ((with_reducible apply norm_cons); (· rfl)) | ((with_reducible apply norm_skip); (· rfl)))))) | ((with_reducible apply s_condS); (· rfl); (· (repeat (first | exact norm_nil | ((with_reducible apply norm_cons); (· rfl)) | ((with_reducible apply norm_skip); (· rfl))))); (· (repeat (first | exact norm_nil | ((with_reducible apply norm_cons); (· rfl)) | ((with_reducible apply norm_skip); (· rfl))))))))
              | ((with_reducible refine k_guard ?_); (first | (refine s_gt rfl ?_) | (refine s_gf1 rfl ?_) | (refine s_gfn rfl ?_) | (refine s_gx1 rfl ?_) | (refine s_gxn rfl ?_) | (refine s_gs rfl ?_)))
              | ((with_reducible refine k_mv ?_); (refine s_mv rfl ?_))
              | ((with_reducible refine k_len ?_); (first | (refine s_len rfl rfl ?_) | ((with_reducible apply s_len); (· rfl); (· exact SlOwn.len (by assumption)))))
              | ((with_reducible refine k_eql ?_); (first | (refine s_eql rfl rfl ?_) | (refine s_strEq rfl rfl ?_)))
              | ((with_reducible refine k_lss ?_); (refine s_lss rfl rfl ?_))
              | ((with_reducible refine k_gtr ?_); (refine s_gtr rfl rfl ?_))
              | ((with_reducible refine k_iaddr ?_); (first | ((with_reducible apply s_iaddrV); (· rfl); (· rfl); (· (first | omega | exact ⟨rfl, by omega⟩ | skip))) | ((with_reducible apply s_iaddrO); (· rfl); (· rfl); (· (first | omega | exact ⟨rfl, by omega⟩ | skip)); (· (first | exact upd_self | rfl | assumption | (simp (disch := omega) only [upd_self, upd_ne]; first | done | rfl | assumption)))) | ((with_reducible apply s_iaddrSO); (· rfl); (· assumption); (· rfl); (· (first | omega | exact ⟨rfl, by omega⟩ | skip)); (· (first | (simp (disch := omega) only [w64, wu8, wu16, wu32, wu64, tm_nn, td_nn, fd_nn, Int.reduceAdd, Int.reduceSub, Int.reduceMul, Int.reduceDiv, Int.reduceMod, Int.reduceNeg, Int.reduceToNat, Int.toNat_natCast, Int.toNat_zero, Int.zero_add, Int.add_zero, Int.one_mul, Int.reducePow, Nat.mul_one, Nat.zero_add, Nat.add_zero, Nat.zero_mul, Nat.reduceAdd, Nat.reduceMul, Nat.reduceSub, Nat.min_eq_left, IntKind.bits, Nat.sub_zero, g0]; try rfl; done) | rfl)); intro ks hks)))
              | ((with_reducible refine k_load ?_); (first | ((with_reducible apply s_loadV); (· rfl)) | ((with_reducible apply s_loadP); (· rfl); (· (first | exact upd_self | rfl | assumption | (simp (disch := omega) only [upd_self, upd_ne]; first | done | rfl | assumption))))))
              | ((with_reducible refine k_add ?_); ((with_reducible apply s_add); (· rfl); (· rfl)))
              | ((with_reducible refine k_mul ?_); ((with_reducible apply s_mul); (· rfl); (· rfl)))
              | ((with_reducible refine k_quo ?_); ((with_reducible apply s_quo); (· rfl); (· rfl); (· omega)))
              | ((with_reducible refine k_store ?_); ((with_reducible apply s_store0); (· rfl); (· rfl); (· rfl); (· (first | exact upd_self | rfl | assumption | (simp (disch := omega) only [upd_self, upd_ne]; first | done | rfl | assumption))); (· (exact ⟨rfl, by first | exact Nat.le_of_ble_eq_true rfl | omega | (simp [g0]; omega)⟩)); (· ((first | (simp (disch := omega) only [upd_self, upd_ne, upd_upd, rep, splice, List.take_succ_cons, List.take_zero, List.drop_succ_cons, List.drop_zero, List.cons_append, List.nil_append, List.append_nil, List.length_cons, List.length_nil, List.reduceReplicate, List.flatten_cons, List.flatten_nil, Nat.reduceAdd, Nat.reduceMul, Nat.reduceSub, Nat.zero_add, Nat.add_zero, List.getElem?_cons_zero, List.getElem?_cons_succ, g0]; try rfl; done) | rfl))); (· (first | exact upd_upd | rfl))))
              | ((with_reducible refine k_faddr ?_); (first | ((with_reducible apply s_faddrV); (· rfl); (· rfl)) | ((with_reducible apply s_faddrP); (· rfl); (· rfl))))
              | ((with_reducible refine k_mima ?_); ((with_reducible apply s_mima); (· rfl); (· rfl)))
              | ((with_reducible refine k_dreg ?_); refine s_dregS (pre := A14d23p) rfl rfl rfl ?_; intro K hK)
              | ((with_reducible refine k_dreg ?_); refine s_dregS (pre := A14d25p) rfl rfl rfl ?_; intro K hK)
              | ((with_reducible refine k_dreg ?_); refine s_dreg rfl rfl ?_; intro K hK)
              | (with_reducible refine d_nilS ?_)
              | ((with_reducible refine k_dnil ?_); (with_reducible apply d_nil hK); (· (repeat (first | exact norm_nil | ((with_reducible apply norm_cons); (· rfl)) | ((with_reducible apply norm_skip); (· rfl))))); clear hK; clear K)
              | ((with_reducible refine k_dguard ?_); (first | (refine d_gt rfl ?_) | (refine d_gf rfl ?_) | (refine d_gx rfl ?_) | (refine d_gs rfl ?_)))
              | ((with_reducible refine k_dop ?_); refine d_step (by first | exact Or.inl rfl | exact Or.inr rfl) ?_)
              | (with_reducible refine d_back ?_)
              | ((with_reducible refine k_br ?_); (first | (with_reducible first | refine Br_dec ?_ | refine Br_not ?_ | refine Br_eqF ?_ | refine Br_and ?_ | refine Br_or ?_ | refine Br_neg ?_ | refine Br_band ?_ | refine Br_bor ?_ | refine Br_beq ?_) | (refine Br_t (by first | omega | assumption | rfl) ?_) | (refine Br_f (by first | omega | assumption | decide) ?_) | (with_reducible apply Br_sb <;> intro hbr <;> (first | subst hbr | simp only [hbr] | skip)) | (with_reducible apply Br_s <;> intro hbr)))
              | (with_reducible refine WN_succ ?_)
              | ((first | (with_reducible apply q_eqI) | (with_reducible apply q_eqN)); (first | (simp (disch := omega) only [w64, wu8, wu16, wu32, wu64, tm_nn, td_nn, fd_nn, Int.reduceAdd, Int.reduceSub, Int.reduceMul, Int.reduceDiv, Int.reduceMod, Int.reduceNeg, Int.reduceToNat, Int.toNat_natCast, Int.toNat_zero, Int.zero_add, Int.add_zero, Int.one_mul, Int.reducePow, Nat.mul_one, Nat.zero_add, Nat.add_zero, Nat.zero_mul, Nat.reduceAdd, Nat.reduceMul, Nat.reduceSub, Nat.min_eq_left, IntKind.bits, Nat.sub_zero, g0]; try rfl; done) | rfl))
              | ((first | (with_reducible apply q_eqL) | (with_reducible apply q_eqO)); (first | (simp (disch := omega) only [upd_self, upd_ne, upd_upd, rep, splice, List.take_succ_cons, List.take_zero, List.drop_succ_cons, List.drop_zero, List.cons_append, List.nil_append, List.append_nil, List.length_cons, List.length_nil, List.reduceReplicate, List.flatten_cons, List.flatten_nil, Nat.reduceAdd, Nat.reduceMul, Nat.reduceSub, Nat.zero_add, Nat.add_zero, List.getElem?_cons_zero, List.getElem?_cons_succ, g0]; try rfl; done) | rfl)))
            all_goals first | (exfalso; omega) | exact ⟨_, rfl, hk⟩
        · clear hk
          rintro e' h' ⟨h2, he, hk⟩
          cases he
          have hst : effS l x (x + 1 + (l.length - (x + 1))) = effS l (x + 1) 0 := effS_ext fun j hj => by omega
          rw [hst] at hk
          rw [show x + 1 + (l.length - (x + 1)) = l.length by omega]
          repeat' (first
            | (with_reducible first | refine W_seq ?_ | refine then_n ?_ | refine W_block ?_ | refine blk_n ?_ | refine blk_r ?_ | refine blk_e ?_ | refine W_skip ?_ | refine W_ret ?_ | refine then_r ?_ | refine W_exit ?_ | refine then_e ?_)
            | (refine blk_j (by decide) ?_)
            | ((with_reducible refine s_reg ?_); intro K hK)
            | ((with_reducible refine k_nil ?_); (with_reducible apply s_nil hK); (· (repeat (first | exact norm_nil | ((with_reducible apply norm_cons); (· rfl)) | ((with_reducible apply norm_skip); (· rfl))))); clear hK; clear K)
            | ((with_reducible refine k_cond ?_); (first | ((with_reducible apply s_condT); (· rfl); (· (repeat (first | exact norm_nil | ((with_reducible apply norm_cons); (· rfl)) | ((with_reducible apply norm_skip); (· rfl)))))) | ((with_reducible apply s_condF); (· rfl); (· (repeat (first | exact norm_nil | ((with_reducible apply norm_cons); (· rfl)) | ((with_reducible apply norm_skip); (· rfl)))))) | ((with_reducible apply s_condS); (· rfl); (· (repeat (first | exact norm_nil | ((with_reducible apply norm_cons); (· rfl)) | ((with_reducible apply norm_skip); (· rfl))))); (· (repeat (first | exact norm_nil | ((with_reducible apply norm_cons); (· rfl)) | ((with_reducible apply norm_skip); (· rfl))))))))
            | ((with_reducible refine k_guard ?_); (first | (refine s_gt rfl ?_) | (refine s_gf1 rfl ?_) | (refine s_gfn rfl ?_) | (refine s_gx1 rfl ?_) | (refine s_gxn rfl ?_) | (refine s_gs rfl ?_)))
            | ((with_reducible refine k_mv ?_); (refine s_mv rfl ?_))
            | ((with_reducible refine k_len ?_); (first | (refine s_len rfl rfl ?_) | ((with_reducible apply s_len); (· rfl); (· exact SlOwn.len (by assumption)))))
            | ((with_reducible refine k_lss ?_); (refine s_lss rfl rfl ?_))
            | ((with_reducible refine k_add ?_); ((with_reducible apply s_add); (· rfl); (· rfl)))
            | ((with_reducible refine k_dreg ?_); refine s_dregS (pre := A14d23p) rfl rfl rfl ?_; intro K hK)
            | ((with_reducible refine k_dreg ?_); refine s_dregS (pre := A14d25p) rfl rfl rfl ?_; intro K hK)
            | ((with_reducible refine k_dreg ?_); refine s_dreg rfl rfl ?_; intro K hK)
            | (with_reducible refine d_nilS ?_)
            | ((with_reducible refine k_dnil ?_); (with_reducible apply d_nil hK); (· (repeat (first | exact norm_nil | ((with_reducible apply norm_cons); (· rfl)) | ((with_reducible apply norm_skip); (· rfl))))); clear hK; clear K)
            | ((with_reducible refine k_dguard ?_); (first | (refine d_gt rfl ?_) | (refine d_gf rfl ?_) | (refine d_gx rfl ?_) | (refine d_gs rfl ?_)))
            | ((with_reducible refine k_dop ?_); refine d_step (by first | exact Or.inl rfl | exact Or.inr rfl) ?_)
            | (with_reducible refine d_back ?_)
            | ((with_reducible refine k_br ?_); (first | (with_reducible first | refine Br_dec ?_ | refine Br_not ?_ | refine Br_eqF ?_ | refine Br_and ?_ | refine Br_or ?_ | refine Br_neg ?_ | refine Br_band ?_ | refine Br_bor ?_ | refine Br_beq ?_) | (refine Br_t (by first | omega | assumption | rfl) ?_) | (refine Br_f (by first | omega | assumption | decide) ?_) | (with_reducible apply Br_sb <;> intro hbr <;> (first | subst hbr | simp only [hbr] | skip)) | (with_reducible apply Br_s <;> intro hbr)))
            | (with_reducible refine WN_succ ?_)
            | ((first | (with_reducible apply q_eqI) | (with_reducible apply q_eqN)); (first | (simp (disch := omega) only [w64, wu8, wu16, wu32, wu64, tm_nn, td_nn, fd_nn, Int.reduceAdd, Int.reduceSub, Int.reduceMul, Int.reduceDiv, Int.reduceMod, Int.reduceNeg, Int.reduceToNat, Int.toNat_natCast, Int.toNat_zero, Int.zero_add, Int.add_zero, Int.one_mul, Int.reducePow, Nat.mul_one, Nat.zero_add, Nat.add_zero, Nat.zero_mul, Nat.reduceAdd, Nat.reduceMul, Nat.reduceSub, Nat.min_eq_left, IntKind.bits, Nat.sub_zero]; try rfl; done) | rfl))
            | ((first | (with_reducible apply q_eqL) | (with_reducible apply q_eqO)); (first | (simp (disch := omega) only [upd_self, upd_ne, upd_upd, rep, splice, List.take_succ_cons, List.take_zero, List.drop_succ_cons, List.drop_zero, List.cons_append, List.nil_append, List.append_nil, List.length_cons, List.length_nil, List.reduceReplicate, List.flatten_cons, List.flatten_nil, Nat.reduceAdd, Nat.reduceMul, Nat.reduceSub, Nat.zero_add, Nat.add_zero, List.getElem?_cons_zero, List.getElem?_cons_succ]; try rfl; done) | rfl)))
          all_goals first | (exfalso; omega) | exact ⟨_, rfl, hk⟩
    · rintro e' h' ⟨h1, he, hk⟩
      cases he
      have hst : effS l l.length 0 = effL l := by
        apply List.ext_getElem (by simp [effS, effL])
        intro j h1 h2
        rw [effS_len] at h1
        simp only [effS, effL, List.getElem_map, List.getElem_range]
        rw [if_pos]
        have := hpa j h1
        omega
      rw [hst] at hk
      have hee : (effL l).length = l.length := by simp [effL]
      have he1 : ((effL l).map (D.int .i64)).length = l.length * 1 := by rw [List.length_map, hee, Nat.mul_one]
      repeat' (first
        | (with_reducible first | refine W_seq ?_ | refine then_n ?_ | refine W_block ?_ | refine blk_n ?_ | refine blk_r ?_ | refine blk_e ?_ | refine W_skip ?_ | refine W_ret ?_ | refine then_r ?_ | refine W_exit ?_ | refine then_e ?_)
        | (refine blk_j (by decide) ?_)
        | ((with_reducible refine s_reg ?_); intro K hK)
        | ((with_reducible refine k_nil ?_); (with_reducible apply s_nil hK); (· (repeat (first | exact norm_nil | ((with_reducible apply norm_cons); (· rfl)) | ((with_reducible apply norm_skip); (· rfl))))); clear hK; clear K)
        | ((with_reducible refine k_cond ?_); (first | ((with_reducible apply s_condT); (· rfl); (· (repeat (first | exact norm_nil | ((with_reducible apply norm_cons); (· rfl)) | ((with_reducible apply norm_skip); (· rfl)))))) | ((with_reducible apply s_condF); (· rfl); (· (repeat (first | exact norm_nil | ((with_reducible apply norm_cons); (· rfl)) | ((with_reducible apply norm_skip); (· rfl)))))) | ((with_reducible apply s_condS); (· rfl); (· (repeat (first | exact norm_nil | ((with_reducible apply norm_cons); (· rfl)) | ((with_reducible apply norm_skip); (· rfl))))); (· (repeat (first | exact norm_nil | ((with_reducible apply norm_cons); (· rfl)) | ((with_reducible apply norm_skip); (· rfl))))))))
        | ((with_reducible refine k_guard ?_); (first | (refine s_gt rfl ?_) | (refine s_gf1 rfl ?_) | (refine s_gfn rfl ?_) | (refine s_gx1 rfl ?_) | (refine s_gxn rfl ?_) | (refine s_gs rfl ?_)))
        | ((with_reducible refine k_mv ?_); (refine s_mv rfl ?_))
        | ((with_reducible refine k_len ?_); (first | (refine s_len rfl rfl ?_) | ((with_reducible apply s_len); (· rfl); (· exact SlOwn.len (by assumption)))))
        | ((with_reducible refine k_lss ?_); (refine s_lss rfl rfl ?_))
        | ((with_reducible refine k_dreg ?_); refine s_dregS (pre := A14d23p) rfl rfl rfl ?_; intro K hK)
        | ((with_reducible refine k_dreg ?_); refine s_dregS (pre := A14d25p) rfl rfl rfl ?_; intro K hK)
        | ((with_reducible refine k_dreg ?_); refine s_dreg rfl rfl ?_; intro K hK)
        | (with_reducible refine d_nilS ?_)
        | ((with_reducible refine k_dnil ?_); (with_reducible apply d_nil hK); (· (repeat (first | exact norm_nil | ((with_reducible apply norm_cons); (· rfl)) | ((with_reducible apply norm_skip); (· rfl))))); clear hK; clear K)
        | ((with_reducible refine k_dguard ?_); (first | (refine d_gt rfl ?_) | (refine d_gf rfl ?_) | (refine d_gx rfl ?_) | (refine d_gs rfl ?_)))
        | ((with_reducible refine k_dop ?_); refine d_step (by first | exact Or.inl rfl | exact Or.inr rfl) ?_)
        | (with_reducible refine d_back ?_)
        | ((with_reducible refine k_br ?_); (first | (with_reducible first | refine Br_dec ?_ | refine Br_not ?_ | refine Br_eqF ?_ | refine Br_and ?_ | refine Br_or ?_ | refine Br_neg ?_ | refine Br_band ?_ | refine Br_bor ?_ | refine Br_beq ?_) | (refine Br_t (by first | omega | assumption | rfl) ?_) | (refine Br_f (by first | omega | assumption | decide) ?_) | (with_reducible apply Br_sb <;> intro hbr <;> (first | subst hbr | simp only [hbr] | skip)) | (with_reducible apply Br_s <;> intro hbr)))
        | (with_reducible refine WN_succ ?_)
        | ((first | (with_reducible apply q_eqI) | (with_reducible apply q_eqN)); (first | (simp (disch := omega) only [w64, wu8, wu16, wu32, wu64, tm_nn, td_nn, fd_nn, Int.reduceAdd, Int.reduceSub, Int.reduceMul, Int.reduceDiv, Int.reduceMod, Int.reduceNeg, Int.reduceToNat, Int.toNat_natCast, Int.toNat_zero, Int.zero_add, Int.add_zero, Int.one_mul, Int.reducePow, Nat.mul_one, Nat.zero_add, Nat.add_zero, Nat.zero_mul, Nat.reduceAdd, Nat.reduceMul, Nat.reduceSub, Nat.min_eq_left, IntKind.bits, Nat.sub_zero]; try rfl; done) | rfl))
        | ((first | (with_reducible apply q_eqL) | (with_reducible apply q_eqO)); (first | (simp (disch := omega) only [upd_self, upd_ne, upd_upd, rep, splice, List.take_succ_cons, List.take_zero, List.drop_succ_cons, List.drop_zero, List.cons_append, List.nil_append, List.append_nil, List.length_cons, List.length_nil, List.reduceReplicate, List.flatten_cons, List.flatten_nil, Nat.reduceAdd, Nat.reduceMul, Nat.reduceSub, Nat.zero_add, Nat.add_zero, List.getElem?_cons_zero, List.getElem?_cons_succ]; try rfl; done) | rfl)))
      all_goals first | (exfalso; omega) | skip
      simp only [effR, hee]
      refine Fin_own trivial rfl hk ?_ (Nat.le_of_ble_eq_true rfl)
      exact All2.cons (exc_o hk he1 scal_i) (All2.cons (exc_v rfl rfl) All2.nil)
  · rw [if_neg h]
    simp only [effR]
    repeat' (first
      | (with_reducible first | refine W_seq ?_ | refine then_n ?_ | refine W_block ?_ | refine blk_n ?_ | refine blk_r ?_ | refine blk_e ?_ | refine W_skip ?_ | refine W_ret ?_ | refine then_r ?_ | refine W_exit ?_ | refine then_e ?_)
      | (refine blk_j (by decide) ?_)
      | ((with_reducible refine s_reg ?_); intro K hK)
      | ((with_reducible refine k_nil ?_); (with_reducible apply s_nil hK); (· (repeat (first | exact norm_nil | ((with_reducible apply norm_cons); (· rfl)) | ((with_reducible apply norm_skip); (· rfl))))); clear hK; clear K)
      | ((with_reducible refine k_cond ?_); (first | ((with_reducible apply s_condT); (· rfl); (· (repeat (first | exact norm_nil | ((with_reducible apply norm_cons); (· rfl)) | ((with_reducible apply norm_skip); (· rfl)))))) | ((with_reducible apply s_condF); (· rfl); (· (repeat (first | exact norm_nil | ((with_reducible apply norm_cons); (· rfl)) | ((with_reducible apply norm_skip); (· rfl)))))) | ((with_reducible apply s_condS); (· rfl); (· (repeat (first | exact norm_nil | ((with_reducible apply norm_cons); (· rfl)) | ((with_reducible apply norm_skip); (· rfl))))); (· (repeat (first | exact norm_nil | ((with_reducible apply norm_cons); (· rfl)) | ((with_reducible apply norm_skip); (· rfl))))))))
      | ((with_reducible refine k_guard ?_); (first | (refine s_gt rfl ?_) | (refine s_gf1 rfl ?_) | (refine s_gfn rfl ?_) | (refine s_gx1 rfl ?_) | (refine s_gxn rfl ?_) | (refine s_gs rfl ?_)))
      | ((with_reducible refine k_mv ?_); (refine s_mv rfl ?_))
      | ((with_reducible refine k_neq ?_); (first | (refine s_neq rfl rfl ?_) | (refine s_strNe rfl rfl ?_)))
      | ((with_reducible refine k_callF ?_); (first | ((with_reducible apply s_call1); (· rfl)) | ((with_reducible apply s_calln); (· rfl))))
      | ((with_reducible refine k_con ?_); (first | ((with_reducible apply con_val (c1)); (· (repeat (first | exact All2.nil | (apply All2.cons; (· first | exact Rd_int | exact Rd_bool | exact Rd_vs | exact Rd_nil | exact Rd_emp | exact Rd_vp | exact Rd_sl0 upd_self rfl rfl | exact Rd_fn0 | exact Rd_flat rfl | ((apply Rd_sl0); (· (first | exact upd_self | rfl | assumption | (simp (disch := omega) only [upd_self, upd_ne]; first | done | rfl | assumption))); (· first | rfl | exact scal_i | exact scal_b | assumption); (· first | rfl | assumption | (simp; done) | (simp; omega))) | ((apply Rd_so); (· first | assumption | ((repeat' (first | assumption | (with_reducible apply SlOwn.upd) | (simp only [upd_none]; assumption))); done)); (· first | rfl | exact scal_i | exact scal_b | assumption))))))); (· rfl); (· exact fun _ => rfl))))
      | ((with_reducible refine k_dreg ?_); refine s_dregS (pre := A14d23p) rfl rfl rfl ?_; intro K hK)
      | ((with_reducible refine k_dreg ?_); refine s_dregS (pre := A14d25p) rfl rfl rfl ?_; intro K hK)
      | ((with_reducible refine k_dreg ?_); refine s_dreg rfl rfl ?_; intro K hK)
      | (with_reducible refine d_nilS ?_)
      | ((with_reducible refine k_dnil ?_); (with_reducible apply d_nil hK); (· (repeat (first | exact norm_nil | ((with_reducible apply norm_cons); (· rfl)) | ((with_reducible apply norm_skip); (· rfl))))); clear hK; clear K)
      | ((with_reducible refine k_dguard ?_); (first | (refine d_gt rfl ?_) | (refine d_gf rfl ?_) | (refine d_gx rfl ?_) | (refine d_gs rfl ?_)))
      | ((with_reducible refine k_dop ?_); refine d_step (by first | exact Or.inl rfl | exact Or.inr rfl) ?_)
      | (with_reducible refine d_back ?_)
      | ((with_reducible refine k_br ?_); (first | (with_reducible first | refine Br_dec ?_ | refine Br_not ?_ | refine Br_eqF ?_ | refine Br_and ?_ | refine Br_or ?_ | refine Br_neg ?_ | refine Br_band ?_ | refine Br_bor ?_ | refine Br_beq ?_) | (refine Br_t (by first | omega | assumption | rfl) ?_) | (refine Br_f (by first | omega | assumption | decide) ?_) | (with_reducible apply Br_sb <;> intro hbr <;> (first | subst hbr | simp only [hbr] | skip)) | (with_reducible apply Br_s <;> intro hbr)))
      | (with_reducible refine WN_succ ?_)
      | ((first | (with_reducible apply q_eqI) | (with_reducible apply q_eqN)); (first | (simp (disch := omega) only [w64, wu8, wu16, wu32, wu64, tm_nn, td_nn, fd_nn, Int.reduceAdd, Int.reduceSub, Int.reduceMul, Int.reduceDiv, Int.reduceMod, Int.reduceNeg, Int.reduceToNat, Int.toNat_natCast, Int.toNat_zero, Int.zero_add, Int.add_zero, Int.one_mul, Int.reducePow, Nat.mul_one, Nat.zero_add, Nat.add_zero, Nat.zero_mul, Nat.reduceAdd, Nat.reduceMul, Nat.reduceSub, Nat.min_eq_left, IntKind.bits, Nat.sub_zero]; try rfl; done) | rfl))
      | ((first | (with_reducible apply q_eqL) | (with_reducible apply q_eqO)); (first | (simp (disch := omega) only [upd_self, upd_ne, upd_upd, rep, splice, List.take_succ_cons, List.take_zero, List.drop_succ_cons, List.drop_zero, List.cons_append, List.nil_append, List.append_nil, List.length_cons, List.length_nil, List.reduceReplicate, List.flatten_cons, List.flatten_nil, Nat.reduceAdd, Nat.reduceMul, Nat.reduceSub, Nat.zero_add, Nat.add_zero, List.getElem?_cons_zero, List.getElem?_cons_succ]; try rfl; done) | rfl)))
    all_goals first | (exfalso; omega) | (first | exact Fin_flat trivial rfl rfl | (refine Fin_tup trivial rfl ?_ (Nat.le_of_ble_eq_true rfl); (repeat (first | exact All2.nil | (apply All2.cons; (· first | exact exc_n | exact exc_e | exact exc_v rfl rfl | exact exc_o upd_self rfl rfl)))); done) | (refine Fin_own trivial rfl upd_self ?_ (Nat.le_of_ble_eq_true rfl); (repeat (first | exact All2.nil | (apply All2.cons; (· first | exact exc_n | exact exc_e | exact exc_v rfl rfl | exact exc_o upd_self rfl rfl)))); done) | exact Fin_nil trivial rfl | exact Fin_sl trivial rfl upd_self rfl rfl)
end Go.Proofs.Ytmelmpaiplmjmaa
