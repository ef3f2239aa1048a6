/- Asks: the laws GrantShorts and GrantServes; asks as arguments. -/
import Derived.Test.YtbepjnjfnmmpaaaG7q77c3e6
import Derived.Test.YtbepjnjfnmmpaaaG8q1cd68f
import Derived.Test.YtbepjnjfnmmpaaaA9q432f65
import Derived.Test.YtbepjnjfnmmpaaaAmZ3qd9e510
set_option linter.unusedSimpArgs false
set_option linter.unusedVariables false
namespace Go.Proofs.Ytbepjnjfnmmpaaa
open Go.AM Classical
set_option maxRecDepth 100000
set_option maxHeartbeats 4000000
theorem typed_ask {n : Nat} {p : List D} (h : Typed Try.prog (n + 2) 23 p) : ∃ a : Ask, p = a.cells ∧ True := by
  obtain ⟨ps, rfl, h1⟩ := typed_struct' Try.underlying23 h
  obtain ⟨xs, h2, h3, h4⟩ := typed_nums (k := .i64) h1 (by simp [Try.underlying3])
  match xs, h3, h2, h4 with
  | [a, b, c, d], _, h2, h4 => exact ⟨⟨a, b, c, d⟩, h2, trivial⟩
theorem typed_asks {d : D} (h : TypedA Try.prog 33 d) : ∃ q : List Ask, d = asks q := by
  obtain ⟨ps, rfl, h1, h2⟩ := typed_slice Try.underlying33 h
  obtain ⟨q, rfl, _⟩ := all_map (f := Ask.cells) (q := fun _ => True) (fun d hd => typed_ask (h2 d hd))
  exact ⟨q, by rw [List.length_map, ← List.flatMap_def, show Try.prog.cellsOf 23 = 4 by kernel_rfl]⟩
theorem typed_two {d : D} (h : TypedA Try.prog 25 d) : ∃ x y : Int, d = .agg [.int .i64 x, .int .i64 y] ∧ (-9223372036854775808 ≤ x ∧ x ≤ 9223372036854775807) ∧ (-9223372036854775808 ≤ y ∧ y ≤ 9223372036854775807) := by
  obtain ⟨ds, rfl, h1⟩ := typed_agg (agg_yes Try.underlying25 rfl) h
  obtain ⟨ps, rfl, h2, h3⟩ := typed_array' Try.underlying25 h1
  match ps, h2 with
  | [a, b], _ =>
    obtain ⟨x, rfl, hx⟩ := typed_int' Try.underlying3 (h3 a (by simp))
    obtain ⟨y, rfl, hy⟩ := typed_int' Try.underlying3 (h3 b (by simp))
    exact ⟨x, y, rfl, wf_i64 hx, wf_i64 hy⟩
theorem srvF_len (q : List Ask) (l : List Acct) (no al : Int) : (srvF q l no al).2.1.length ≤ 8 := by
  unfold srvF
  by_cases h0 : qchk q = 0
  · by_cases h1 : chkF l = 0
    · by_cases h2 : ∃ a ∈ q, l.length ≤ a.account
      · rw [if_pos h0, if_pos h1, if_pos h2]; simp
      · rw [if_pos h0, if_pos h1, if_neg h2]
        have h3 := srv_all q l no al h1 (fun a ha => ⟨(qchk_ok.1 h0).1 a ha, Classical.byContradiction fun h => h2 ⟨a, ha, by omega⟩⟩) _ _ rfl
        have h4 := (chk_ok h1).1
        dsimp only
        have := h3.2.2.1
        omega
    · rw [if_pos h0, if_neg h1]; simp
  · rw [if_neg h0]; simp
theorem gfew_c (q : List Ask) (l : List Acct) : PCon Try.prog 16 [asks q, accs l] (.bool (decide (q.length ≤ 20 ∧ l.length ≤ 20))) := by
  refine A16p (by simp [A16]) ?_
  simp only [A16, argEnv]
  repeat' (first | (with_reducible first | refine W_seq ?_ | refine then_n ?_ | refine W_skip ?_ | refine W_ret ?_ | refine then_r ?_) | ((with_reducible refine s_reg ?_); intro K hK) | ((with_reducible refine k_nil ?_); (with_reducible apply s_nil hK); (· exact nmX); clear hK; clear K) | ((with_reducible refine k_guard ?_); (first | (refine s_gt rfl ?_) | (refine s_gf1 rfl ?_) | (refine s_gfn rfl ?_) | (refine s_gx1 rfl ?_) | (refine s_gxn rfl ?_) | (refine s_gs rfl ?_))) | ((with_reducible refine k_mv ?_); (refine s_mv rfl ?_)) | ((with_reducible refine k_len ?_); (first | (refine s_len rfl rfl ?_) | ((with_reducible apply s_len); (· rfl); (· exact SlOwn.len (by assumption))))) | ((with_reducible refine k_pick ?_); (first | (refine s_pickT rfl rfl ?_) | (refine s_pickF rfl rfl ?_))) | ((with_reducible refine k_leq ?_); (refine s_leq rfl rfl ?_)) | ((with_reducible refine k_br ?_); (first | (with_reducible first | refine Br_dec ?_ | refine Br_not ?_ | refine Br_eqF ?_ | refine Br_and ?_ | refine Br_or ?_ | refine Br_neg ?_ | refine Br_band ?_ | refine Br_bor ?_ | refine Br_beq ?_) | (refine Br_t (by first | with_reducible rfl | omega | assumption | rfl) ?_) | (refine Br_f (by first | omega | assumption | decide) ?_) | (with_reducible apply Br_sb <;> intro hbr <;> (first | subst hbr | simp only [hbr] | skip)) | (with_reducible apply Br_s <;> intro hbr))) | (with_reducible refine WN_succ ?_) | ((first | (with_reducible apply q_eqI) | (with_reducible apply q_eqN)); (first | exact nuI | exact nuN)) | ((first | (with_reducible apply q_eqL) | (with_reducible apply q_eqO)); (first | exact liL | exact liO)))
  all_goals first | exact Fin_bt trivial rfl (by omega) | exact Fin_bf trivial rfl (by omega)
theorem serves_c (q : List Ask) (l : List Acct) (hL : l.length ≤ 9223372036854775807) (no al : Int) (hno : no ≤ 9223372036854775807) (hal : al ≤ 9223372036854775807) : PCon Try.prog 4 [asks q, accs l, .agg [.int .i64 no, .int .i64 al]] (.bool true) := by
  refine A4p (by simp [A4]) ?_
  simp only [A4, argEnv]
  have c0 := gfew_c q l
  by_cases hf : q.length ≤ 20 ∧ l.length ≤ 20
  · rw [decide_eq_true hf] at c0
    have c1 := serve_c q (by omega) l hL no al hno hal
    have c2 := rserve_c q (by omega) l hL no al hno hal
    have hgl := srvF_len q l no al
    generalize srvF q l no al = z at *
    obtain ⟨k, g, e⟩ := z
    dsimp only at hgl
    have c3 := same_c g g (by omega)
    rw [decide_eq_true rfl] at c3
    simp only [srvR] at c1 c2
    have hgc := accs_len g
    have hgs := accs_scal g
    repeat' (first | (with_reducible first | refine W_seq ?_ | refine then_n ?_ | refine W_skip ?_ | refine W_ret ?_ | refine then_r ?_) | ((with_reducible refine s_reg ?_); intro K hK) | ((with_reducible refine k_nil ?_); (with_reducible apply s_nil hK); (· exact nmX); clear hK; clear K) | ((with_reducible refine k_cond ?_); (first | ((with_reducible apply s_condT); (· rfl); (· exact nmX)) | ((with_reducible apply s_condF); (· rfl); (· exact nmX)) | ((with_reducible apply s_condS); (· rfl); (· exact nmX); (· exact nmX)))) | ((with_reducible refine k_guard ?_); (first | (refine s_gt rfl ?_) | (refine s_gf1 rfl ?_) | (refine s_gfn rfl ?_) | (refine s_gx1 rfl ?_) | (refine s_gxn rfl ?_) | (refine s_gs rfl ?_))) | ((with_reducible refine k_mv ?_); (refine s_mv rfl ?_)) | ((with_reducible refine k_extract ?_); (refine s_extract rfl rfl ?_)) | ((with_reducible refine k_pick ?_); (first | (refine s_pickT rfl rfl ?_) | (refine s_pickF rfl rfl ?_))) | ((with_reducible refine k_not ?_); (refine s_not rfl (by first | exact Bool.not_true | exact Bool.not_false | rfl) ?_)) | ((with_reducible refine k_eql ?_); (first | (refine s_eql rfl rfl ?_) | (refine s_strEq rfl rfl ?_))) | ((with_reducible refine k_iaddrA ?_); (first | ((with_reducible apply s_iaddrAV); (· rfl); (· rfl); (· (first | omega | exact ⟨rfl, by omega⟩ | skip))) | ((with_reducible apply s_iaddrAP); (· rfl); (· rfl); (· (first | omega | exact ⟨rfl, by omega⟩ | skip))))) | ((with_reducible refine k_load ?_); (first | ((with_reducible apply s_loadV); (· rfl)) | ((with_reducible apply s_loadP); (· rfl); (· (exact hpX))))) | ((with_reducible refine k_box (dst := some 5) ?_); ((with_reducible apply s_box); (· rfl); (· rfl); intro k5 hk5; (try simp only [upd_none] at hk5))) | ((with_reducible refine k_callF ?_); (first | ((with_reducible apply s_call1); (· rfl)) | ((with_reducible apply s_calln); (· rfl)))) | ((with_reducible refine k_con ?_); (first | ((with_reducible apply con_val (awake_c)); (· (exact agX)); (· rfl); (· exact fun _ => rfl)) | ((with_reducible apply con_val (c0)); (· (exact agX)); (· rfl); (· exact fun _ => rfl)) | ((with_reducible apply con_of_pcon (c1)); (· (exact agX)); intro kA hkA; (try simp only [upd_none] at hkA); simp only [thaw, thawC, List.map, thawH, owOf, owL]) | ((with_reducible apply con_of_pcon (c2)); (· (exact agX)); intro kB hkB; (try simp only [upd_none] at hkB); simp only [thaw, thawC, List.map, thawH, owOf, owL]) | ((with_reducible apply con_val (c3)); (· (exact agX)); (· rfl); (· exact fun _ => rfl)))) | ((with_reducible refine k_br ?_); (first | (with_reducible first | refine Br_dec ?_ | refine Br_not ?_ | refine Br_eqF ?_ | refine Br_and ?_ | refine Br_or ?_ | refine Br_neg ?_ | refine Br_band ?_ | refine Br_bor ?_ | refine Br_beq ?_) | (refine Br_t (by first | with_reducible rfl | omega | assumption | rfl) ?_) | (refine Br_f (by first | omega | assumption | decide) ?_) | (with_reducible apply Br_sb <;> intro hbr <;> (first | subst hbr | simp only [hbr] | skip)) | (with_reducible apply Br_s <;> intro hbr))) | (with_reducible refine WN_succ ?_) | ((first | (with_reducible apply q_eqI) | (with_reducible apply q_eqN)); (first | exact nuI | exact nuN)) | ((first | (with_reducible apply q_eqL) | (with_reducible apply q_eqO)); (first | exact liL | exact liO)))
    all_goals first | (exfalso; omega) | (first | exact Fin_flat trivial rfl rfl | (refine Fin_tup trivial rfl ?_ (Nat.le_of_ble_eq_true rfl); (repeat (first | exact All2.nil | (apply All2.cons; (· first | exact exc_n | exact exc_e | exact exc_v rfl rfl | exact exc_o upd_self rfl rfl)))); done) | (refine Fin_own trivial rfl upd_self ?_ (Nat.le_of_ble_eq_true rfl); (repeat (first | exact All2.nil | (apply All2.cons; (· first | exact exc_n | exact exc_e | exact exc_v rfl rfl | exact exc_o upd_self rfl rfl)))); done) | exact Fin_nil trivial rfl | exact Fin_sl trivial rfl upd_self rfl rfl)
  · rw [decide_eq_false hf] at c0
    repeat' (first | (with_reducible first | refine W_seq ?_ | refine then_n ?_ | refine W_skip ?_ | refine W_ret ?_ | refine then_r ?_) | ((with_reducible refine s_reg ?_); intro K hK) | ((with_reducible refine k_nil ?_); (with_reducible apply s_nil hK); (· exact nmX); clear hK; clear K) | ((with_reducible refine k_cond ?_); (first | ((with_reducible apply s_condT); (· rfl); (· exact nmX)) | ((with_reducible apply s_condF); (· rfl); (· exact nmX)) | ((with_reducible apply s_condS); (· rfl); (· exact nmX); (· exact nmX)))) | ((with_reducible refine k_guard ?_); (first | (refine s_gt rfl ?_) | (refine s_gf1 rfl ?_) | (refine s_gfn rfl ?_) | (refine s_gx1 rfl ?_) | (refine s_gxn rfl ?_) | (refine s_gs rfl ?_))) | ((with_reducible refine k_mv ?_); (refine s_mv rfl ?_)) | ((with_reducible refine k_pick ?_); (first | (refine s_pickT rfl rfl ?_) | (refine s_pickF rfl rfl ?_))) | ((with_reducible refine k_not ?_); (refine s_not rfl (by first | exact Bool.not_true | exact Bool.not_false | rfl) ?_)) | ((with_reducible refine k_box (dst := some 5) ?_); ((with_reducible apply s_box); (· rfl); (· rfl); intro k5 hk5; (try simp only [upd_none] at hk5))) | ((with_reducible refine k_callF ?_); (first | ((with_reducible apply s_call1); (· rfl)) | ((with_reducible apply s_calln); (· rfl)))) | ((with_reducible refine k_con ?_); (first | ((with_reducible apply con_val (awake_c)); (· (exact agX)); (· rfl); (· exact fun _ => rfl)) | ((with_reducible apply con_val (c0)); (· (exact agX)); (· rfl); (· exact fun _ => rfl)))) | ((with_reducible refine k_br ?_); (first | (with_reducible first | refine Br_dec ?_ | refine Br_not ?_ | refine Br_eqF ?_ | refine Br_and ?_ | refine Br_or ?_ | refine Br_neg ?_ | refine Br_band ?_ | refine Br_bor ?_ | refine Br_beq ?_) | (refine Br_t (by first | with_reducible rfl | omega | assumption | rfl) ?_) | (refine Br_f (by first | omega | assumption | decide) ?_) | (with_reducible apply Br_sb <;> intro hbr <;> (first | subst hbr | simp only [hbr] | skip)) | (with_reducible apply Br_s <;> intro hbr))) | (with_reducible refine WN_succ ?_) | ((first | (with_reducible apply q_eqI) | (with_reducible apply q_eqN)); (first | exact nuI | exact nuN)) | ((first | (with_reducible apply q_eqL) | (with_reducible apply q_eqO)); (first | exact liL | exact liO)))
    all_goals first | (exfalso; omega) | (first | exact Fin_flat trivial rfl rfl | (refine Fin_tup trivial rfl ?_ (Nat.le_of_ble_eq_true rfl); (repeat (first | exact All2.nil | (apply All2.cons; (· first | exact exc_n | exact exc_e | exact exc_v rfl rfl | exact exc_o upd_self rfl rfl)))); done) | (refine Fin_own trivial rfl upd_self ?_ (Nat.le_of_ble_eq_true rfl); (repeat (first | exact All2.nil | (apply All2.cons; (· first | exact exc_n | exact exc_e | exact exc_v rfl rfl | exact exc_o upd_self rfl rfl)))); done) | exact Fin_nil trivial rfl | exact Fin_sl trivial rfl upd_self rfl rfl)
theorem serves_t : ∀ dts, All2 (TypedA Try.prog) Try.f4.params.toList dts → PCon Try.prog 4 dts (.bool true) := by
  intro dts h
  rw [Try.params4] at h
  obtain ⟨a, b, c, rfl, ha, hb, hc⟩ := three_args h
  obtain ⟨q, rfl⟩ := typed_asks ha
  obtain ⟨l, rfl, hl, _⟩ := typed_accs hb
  obtain ⟨x, y, rfl, hx, hy⟩ := typed_two hc
  exact serves_c q l (maxLen_le hl) x y hx.2 hy.2
end Go.Proofs.Ytbepjnjfnmmpaaa
