/- Reclaim plans: the reference's check of a witness; the laws that compare. -/
import Derived.Test.YtfdfmbmhefckaaaR9qdfa61e
import Derived.Test.YtfdfmbmhefckaaaAmZ3q8c31dc
set_option linter.unusedSimpArgs false
set_option linter.unusedVariables false
namespace Go.Proofs.Ytfdfmbmhefckaaa
open Go.AM Classical
set_option maxRecDepth 100000
set_option maxHeartbeats 4000000
theorem Rd_aggR {h : Heap} {c c' : List D} (hr : All2 (Rd h) c c') : Rd h (.agg c) (.agg c') := by
  intro s v H hv
  obtain ⟨cs, rfl, hall⟩ := hv.inv_agg
  refine .agg cs c' (hall.1.trans hr.1) (fun u hu => ?_) (fun i u d hu hd => ?_)
  · obtain ⟨i, hi⟩ := List.mem_iff_getElem?.1 hu
    have hlt : i < c.length := by
      rcases Nat.lt_or_ge i c.length with h' | h'
      · exact h'
      · rw [← hall.1] at h'; rw [List.getElem?_eq_none h'] at hi; cases hi
    exact (hall.2 i u _ hi (List.getElem?_eq_getElem hlt)).2
  · have hlt : i < c.length := by
      rcases Nat.lt_or_ge i c.length with h' | h'
      · exact h'
      · rw [List.getElem?_eq_none (by rw [← hr.1]; exact h')] at hd; cases hd
    have hci := List.getElem?_eq_getElem hlt
    exact hr.2 i _ _ hci hd s u H (hall.2 i u _ hu hci).1
theorem Rd_cs {h : Heap} {p : List Pg} {l : List Acct} {s : Int} {kn : Bool} : Rd h (.agg [pgs p, accs l, .int .i64 s, .bool kn]) (csD p l s kn) := Rd_aggR (All2.cons Rd_vs (All2.cons Rd_vs (All2.cons Rd_int (All2.cons Rd_bool All2.nil))))
theorem typed_pg {n : Nat} {d : List D} (h : Typed Try.prog (n + 2) 40 d) : ∃ q : Pg, d = q.cells ∧ True := by
  obtain ⟨ps, rfl, h1⟩ := typed_struct' Try.underlying40 h
  match ps, h1.1 with
  | [a, b, c, e, f, g, i], _ =>
    obtain ⟨x1, rfl, _⟩ := typed_int' Try.underlying3 (h1.2 0 _ a rfl rfl)
    obtain ⟨x2, rfl, _⟩ := typed_int' Try.underlying3 (h1.2 1 _ b rfl rfl)
    obtain ⟨x3, rfl, _⟩ := typed_int' Try.underlying3 (h1.2 2 _ c rfl rfl)
    obtain ⟨x4, rfl, _⟩ := typed_int' Try.underlying3 (h1.2 3 _ e rfl rfl)
    obtain ⟨x5, rfl, _⟩ := typed_int' Try.underlying3 (h1.2 4 _ f rfl rfl)
    obtain ⟨x6, rfl⟩ := typed_bool' Try.underlying4 (h1.2 5 _ g rfl rfl)
    obtain ⟨x7, rfl⟩ := typed_bool' Try.underlying4 (h1.2 6 _ i rfl rfl)
    exact ⟨⟨x1, x2, x3, x4, x5, x6, x7⟩, rfl, trivial⟩
theorem typed_pgs' {n : Nat} {d : List D} (h : Typed Try.prog (n + 3) 22 d) : ∃ p : List Pg, d = [pgs p] := by
  obtain ⟨ps, rfl, h1, h2⟩ := typed_slice' Try.underlying22 h
  obtain ⟨p, rfl, _⟩ := all_map (f := Pg.cells) (q := fun _ => True) (fun d hd => typed_pg (h2 d hd))
  exact ⟨p, by rw [List.length_map, ← List.flatMap_def, show Try.prog.cellsOf 40 = 7 by kernel_rfl]⟩
theorem typed_accs' {n : Nat} {d : List D} (h : Typed Try.prog (n + 3) 23 d) : ∃ l : List Acct, d = [accs l] ∧ l.length ≤ maxLen := by
  obtain ⟨ps, rfl, h1, h2⟩ := typed_slice' Try.underlying23 h
  obtain ⟨l, rfl, _⟩ := all_map (f := Acct.cells) (q := AIn) (fun d hd => typed_acct (h2 d hd))
  exact ⟨l, by rw [List.length_map, ← List.flatMap_def, show Try.prog.cellsOf 44 = 5 by kernel_rfl], by simpa using h1⟩
theorem typed_case {d : D} (h : TypedA Try.prog 28 d) : ∃ p l s kn, d = csD p l s kn ∧ l.length ≤ 9223372036854775807 := by
  obtain ⟨ds, rfl, h1⟩ := typed_agg (agg_yes Try.underlying28 rfl) h
  obtain ⟨ps, rfl, h2⟩ := typed_struct' Try.underlying28 h1
  match ps, h2.1 with
  | [a, b, c, e], _ =>
    obtain ⟨p, rfl⟩ := typed_pgs' (h2.2 0 _ a rfl rfl)
    obtain ⟨l, rfl, hl⟩ := typed_accs' (h2.2 1 _ b rfl rfl)
    obtain ⟨s, rfl, _⟩ := typed_int' Try.underlying3 (h2.2 2 _ c rfl rfl)
    obtain ⟨kn, rfl⟩ := typed_bool' Try.underlying4 (h2.2 3 _ e rfl rfl)
    exact ⟨p, l, s, kn, rfl, maxLen_le hl⟩
theorem counts_l (p : List Pg) (l : List Acct) (hL : l.length ≤ 9223372036854775807) (s : Int) (kn : Bool) : PCon Try.prog 6 [csD p l s kn] (.bool true) := by
  refine A6p (by simp [A6]) ?_
  simp only [A6, argEnv]
  have c0 := lfew_c p l s kn
  have e0 : csD p l s kn = .agg [pgs p, accs l, .int .i64 s, .bool kn] := rfl
  rw [e0]
  by_cases hf : p.length ≤ 300 ∧ l.length ≤ 40
  · rw [decide_eq_true hf] at c0
    have c1 := Useful_c p l hL (by omega) s kn
    have c2 := rUseful_c p l hL (by omega) s kn
    have c3 := Transit_c p l hL (by omega) s kn
    have c4 := rTransit_c p l hL (by omega) s kn
    generalize decide (trP p l s kn) = b at *
    cases b
    all_goals
      repeat' (first | (with_reducible first | refine W_seq ?_ | refine then_n ?_ | refine W_skip ?_ | refine W_ret ?_ | refine then_r ?_) | ((with_reducible refine s_reg ?_); intro K hK) | ((with_reducible refine k_nil ?_); (with_reducible apply s_nil hK); (· exact nmX); clear hK; clear K) | ((with_reducible refine k_cond ?_); (first | ((with_reducible apply s_condT); (· rfl); (· exact nmX)) | ((with_reducible apply s_condF); (· rfl); (· exact nmX)) | ((with_reducible apply s_condS); (· rfl); (· exact nmX); (· exact nmX)))) | ((with_reducible refine k_guard ?_); (first | (refine s_gt rfl ?_) | (refine s_gf1 rfl ?_) | (refine s_gfn rfl ?_) | (refine s_gx1 rfl ?_) | (refine s_gxn rfl ?_) | (refine s_gs rfl ?_))) | ((with_reducible refine k_mv ?_); (refine s_mv rfl ?_)) | ((with_reducible refine k_pick ?_); (first | (refine s_pickT rfl rfl ?_) | (refine s_pickF rfl rfl ?_))) | ((with_reducible refine k_not ?_); (refine s_not rfl (by first | exact Bool.not_true | exact Bool.not_false | rfl) ?_)) | ((with_reducible refine k_eql ?_); (first | (refine s_eql rfl rfl ?_) | (refine s_strEq rfl rfl ?_))) | ((with_reducible refine k_load ?_); (first | ((with_reducible apply s_loadV); (· rfl)) | ((with_reducible apply s_loadP); (· rfl); (· (exact hpX))))) | ((with_reducible refine k_loadA ?_); (first | ((with_reducible apply s_loadAV); (· rfl); (· (first | exact Nat.le_of_ble_eq_true rfl | decide | omega | (simp; done) | (simp; omega) | skip))) | ((with_reducible apply s_loadAP); (· rfl); (· (exact hpX)); (· (first | exact Nat.le_of_ble_eq_true rfl | decide | omega | (simp; done) | (simp; omega) | skip))))) | ((with_reducible refine k_faddr ?_); (first | ((with_reducible apply s_faddrV); (· rfl); (· rfl)) | ((with_reducible apply s_faddrP); (· rfl); (· rfl)))) | ((with_reducible refine k_eqB ?_); (first | (refine s_eqBt rfl rfl ?_) | (refine s_eqBf rfl rfl ?_))) | ((with_reducible refine k_box (dst := some 1) ?_); ((with_reducible apply s_box); (· rfl); (· rfl); intro k1 hk1; (try simp only [upd_none] at hk1))) | ((with_reducible refine k_callF ?_); (first | ((with_reducible apply s_call1); (· rfl)) | ((with_reducible apply s_calln); (· rfl)))) | ((with_reducible refine k_con ?_); (first | ((with_reducible apply con_val (awake_c)); (· (repeat (first | exact All2.nil | (apply All2.cons; (· first | exact Rd_cs | exact rdX))))); (· rfl); (· exact fun _ => rfl)) | ((with_reducible apply con_val (c0)); (· (repeat (first | exact All2.nil | (apply All2.cons; (· first | exact Rd_cs | exact rdX))))); (· rfl); (· exact fun _ => rfl)))) | ((with_reducible refine k_dreg ?_); refine s_dreg rfl rfl ?_; intro K hK) | (with_reducible refine d_nilS ?_) | ((with_reducible refine k_dnil ?_); (with_reducible apply d_nil hK); (· exact nmX); clear hK; clear K) | ((with_reducible refine k_dguard ?_); (first | (refine d_gt rfl ?_) | (refine d_gf rfl ?_) | (refine d_gx rfl ?_) | (refine d_gs rfl ?_))) | ((with_reducible refine k_dcall ?_); (first | ((with_reducible apply d_call); (· rfl); (· exact c1); (· (repeat (first | exact All2.nil | (apply All2.cons; (· first | exact Rd_cs | exact rdX))))); simp only [unow, unowC, List.map]) | ((with_reducible apply d_call); (· rfl); (· exact c2); (· (repeat (first | exact All2.nil | (apply All2.cons; (· first | exact Rd_cs | exact rdX))))); simp only [unow, unowC, List.map]) | ((with_reducible apply d_call); (· rfl); (· exact c3); (· (repeat (first | exact All2.nil | (apply All2.cons; (· first | exact Rd_cs | exact rdX))))); simp only [unow, unowC, List.map]) | ((with_reducible apply d_call); (· rfl); (· exact c4); (· (repeat (first | exact All2.nil | (apply All2.cons; (· first | exact Rd_cs | exact rdX))))); simp only [unow, unowC, List.map]))) | ((with_reducible refine k_dop ?_); refine d_step (by first | exact Or.inl rfl | exact Or.inr rfl) ?_) | (with_reducible refine d_back ?_) | ((with_reducible refine k_br ?_); (first | (with_reducible first | refine Br_dec ?_ | refine Br_not ?_ | refine Br_eqF ?_ | refine Br_and ?_ | refine Br_or ?_ | refine Br_neg ?_ | refine Br_band ?_ | refine Br_bor ?_ | refine Br_beq ?_) | (refine Br_t (by first | omega | assumption | rfl) ?_) | (refine Br_f (by first | omega | assumption | decide) ?_) | (with_reducible apply Br_sb <;> intro hbr <;> (first | subst hbr | simp only [hbr] | skip)) | (with_reducible apply Br_s <;> intro hbr))) | (with_reducible refine WN_succ ?_) | ((first | (with_reducible apply q_eqI) | (with_reducible apply q_eqN)); (first | exact nuI | exact nuN)) | ((first | (with_reducible apply q_eqL) | (with_reducible apply q_eqO)); (first | exact liL | exact liO)))
    all_goals first | exact Fin_flat trivial rfl rfl | (refine Fin_tup trivial rfl ?_ (Nat.le_of_ble_eq_true rfl); (repeat (first | exact All2.nil | (apply All2.cons; (· first | exact exc_n | exact exc_e | exact exc_v rfl rfl | exact exc_o upd_self rfl rfl)))); done) | (refine Fin_own trivial rfl upd_self ?_ (Nat.le_of_ble_eq_true rfl); (repeat (first | exact All2.nil | (apply All2.cons; (· first | exact exc_n | exact exc_e | exact exc_v rfl rfl | exact exc_o upd_self rfl rfl)))); done) | exact Fin_nil trivial rfl | exact Fin_sl trivial rfl upd_self rfl rfl
  · rw [decide_eq_false hf] at c0
    repeat' (first | (with_reducible first | refine W_seq ?_ | refine then_n ?_ | refine W_skip ?_ | refine W_ret ?_ | refine then_r ?_) | ((with_reducible refine s_reg ?_); intro K hK) | ((with_reducible refine k_nil ?_); (with_reducible apply s_nil hK); (· exact nmX); clear hK; clear K) | ((with_reducible refine k_cond ?_); (first | ((with_reducible apply s_condT); (· rfl); (· exact nmX)) | ((with_reducible apply s_condF); (· rfl); (· exact nmX)) | ((with_reducible apply s_condS); (· rfl); (· exact nmX); (· exact nmX)))) | ((with_reducible refine k_guard ?_); (first | (refine s_gt rfl ?_) | (refine s_gf1 rfl ?_) | (refine s_gfn rfl ?_) | (refine s_gx1 rfl ?_) | (refine s_gxn rfl ?_) | (refine s_gs rfl ?_))) | ((with_reducible refine k_mv ?_); (refine s_mv rfl ?_)) | ((with_reducible refine k_pick ?_); (first | (refine s_pickT rfl rfl ?_) | (refine s_pickF rfl rfl ?_))) | ((with_reducible refine k_not ?_); (refine s_not rfl (by first | exact Bool.not_true | exact Bool.not_false | rfl) ?_)) | ((with_reducible refine k_loadA ?_); (first | ((with_reducible apply s_loadAV); (· rfl); (· (first | exact Nat.le_of_ble_eq_true rfl | decide | omega | (simp; done) | (simp; omega) | skip))) | ((with_reducible apply s_loadAP); (· rfl); (· (exact hpX)); (· (first | exact Nat.le_of_ble_eq_true rfl | decide | omega | (simp; done) | (simp; omega) | skip))))) | ((with_reducible refine k_box (dst := some 1) ?_); ((with_reducible apply s_box); (· rfl); (· rfl); intro k1 hk1; (try simp only [upd_none] at hk1))) | ((with_reducible refine k_callF ?_); (first | ((with_reducible apply s_call1); (· rfl)) | ((with_reducible apply s_calln); (· rfl)))) | ((with_reducible refine k_con ?_); (first | ((with_reducible apply con_val (awake_c)); (· (repeat (first | exact All2.nil | (apply All2.cons; (· first | exact Rd_cs | exact rdX))))); (· rfl); (· exact fun _ => rfl)) | ((with_reducible apply con_val (c0)); (· (repeat (first | exact All2.nil | (apply All2.cons; (· first | exact Rd_cs | exact rdX))))); (· rfl); (· exact fun _ => rfl)))) | ((with_reducible refine k_dreg ?_); refine s_dreg rfl rfl ?_; intro K hK) | (with_reducible refine d_nilS ?_) | ((with_reducible refine k_dnil ?_); (with_reducible apply d_nil hK); (· exact nmX); clear hK; clear K) | ((with_reducible refine k_dguard ?_); (first | (refine d_gt rfl ?_) | (refine d_gf rfl ?_) | (refine d_gx rfl ?_) | (refine d_gs rfl ?_))) | ((with_reducible refine k_dop ?_); refine d_step (by first | exact Or.inl rfl | exact Or.inr rfl) ?_) | (with_reducible refine d_back ?_) | ((with_reducible refine k_br ?_); (first | (with_reducible first | refine Br_dec ?_ | refine Br_not ?_ | refine Br_eqF ?_ | refine Br_and ?_ | refine Br_or ?_ | refine Br_neg ?_ | refine Br_band ?_ | refine Br_bor ?_ | refine Br_beq ?_) | (refine Br_t (by first | omega | assumption | rfl) ?_) | (refine Br_f (by first | omega | assumption | decide) ?_) | (with_reducible apply Br_sb <;> intro hbr <;> (first | subst hbr | simp only [hbr] | skip)) | (with_reducible apply Br_s <;> intro hbr))) | (with_reducible refine WN_succ ?_) | ((first | (with_reducible apply q_eqI) | (with_reducible apply q_eqN)); (first | exact nuI | exact nuN)) | ((first | (with_reducible apply q_eqL) | (with_reducible apply q_eqO)); (first | exact liL | exact liO)))
    all_goals first | exact Fin_flat trivial rfl rfl | (refine Fin_tup trivial rfl ?_ (Nat.le_of_ble_eq_true rfl); (repeat (first | exact All2.nil | (apply All2.cons; (· first | exact exc_n | exact exc_e | exact exc_v rfl rfl | exact exc_o upd_self rfl rfl)))); done) | (refine Fin_own trivial rfl upd_self ?_ (Nat.le_of_ble_eq_true rfl); (repeat (first | exact All2.nil | (apply All2.cons; (· first | exact exc_n | exact exc_e | exact exc_v rfl rfl | exact exc_o upd_self rfl rfl)))); done) | exact Fin_nil trivial rfl | exact Fin_sl trivial rfl upd_self rfl rfl
theorem counts_t : ∀ dts, All2 (TypedA Try.prog) Try.f6.params.toList dts → PCon Try.prog 6 dts (.bool true) := by
  intro dts h
  rw [Try.params6] at h
  obtain ⟨a, rfl, ha⟩ := one_arg h
  obtain ⟨p, l, s, kn, rfl, hl⟩ := typed_case ha
  exact counts_l p l hl s kn
end Go.Proofs.Ytfdfmbmhefckaaa
