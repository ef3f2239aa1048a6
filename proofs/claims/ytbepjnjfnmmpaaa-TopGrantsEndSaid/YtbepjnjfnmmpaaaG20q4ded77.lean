import Derived.Test.YtbepjnjfnmmpaaaG16q0dc827
import Derived.Test.YtbepjnjfnmmpaaaAmZ3qd03aa5
section
/- min -/
/- Asks: what is missing, what is hopeless. -/
set_option linter.unusedSimpArgs false
set_option linter.unusedVariables false
namespace Go.Proofs.Ytbepjnjfnmmpaaa
open Go.AM Classical
set_option maxRecDepth 100000
set_option maxHeartbeats 4000000
def capF (x : Int) : Int := if -1048576 > x then -1048576 else x
theorem capF_ge (x : Int) : -1048576 ≤ capF x ∧ x ≤ capF x := by unfold capF; split <;> omega
def totA (a : Ask) : Int := a.kernel + a.user
abbrev Sht := (Int × Int × Bool) × Int
noncomputable def endF (a : Ask) (no al : Int) : Sht :=
  if a.kernel > capF no then ((a.kernel - capF no, -1, true), 0) else if totA a > capF al then ((totA a - capF al, -1, false), 0) else ((0, -1, false), 0)
noncomputable def shF (a : Ask) (l : List Acct) (no al : Int) : Sht :=
  if vaP a then (if chkF l = 0 then (if a.account < l.length then
      Option.elim (stopL l (totA a) (pathF l a.account)) (endF a no al) (fun x => ((totA a - roomA l x, x, false), 0))
    else ((0, 0, false), 6)) else ((0, 0, false), chkF l)) else ((0, 0, false), 2)
def shR (r : Sht) : D := .tup [.agg [.int .i64 r.1.1, .int .i64 r.1.2.1, .bool r.1.2.2], .int .i64 r.2]
theorem Fin_sh {t1 t2 k : Nat} {e : Env} {h : Heap} {a b x : Int} {c : Bool} (h1 : AM.get e t1 = some (.pt k 0)) (h2 : AM.get e t2 = some (.int .i64 x)) (hk : h k = some [.int .i64 a, .int .i64 b, .bool c]) : AM.Fin [.cell t1 true 3, .tmp t2] (shR ((a, b, c), x)) X.ret ⟨e, h⟩ := by
  unfold shR
  refine Fin_tup trivial (ds := [.agg [.int .i64 a, .int .i64 b, .bool c], .int .i64 x]) ?_ (All2.cons (exc_v rfl rfl) (All2.cons (exc_v rfl rfl) All2.nil)) (Nat.le_of_ble_eq_true rfl)
  simp [resD, resL, h1, h2, memAt, hk, ldD]
theorem short_c (a : Ask) (l : List Acct) (hL : l.length ≤ 9223372036854775807) (no al : Int) : PCon Try.prog 12 [.agg a.cells, accs l, .int .i64 no, .int .i64 al] (shR (shF a l no al)) := by
  have cv := gvalid_c a
  have cc := check_c l hL
  have cp := path_c l hL a.account
  have hal := accs_len l
  refine A12p (by simp [A12]) ?_
  simp only [A12, argEnv]
  unfold shF
  by_cases hv : vaP a
  · rw [if_pos hv]
    rw [decide_eq_true hv] at cv
    have cT := hv
    by_cases hc : chkF l = 0
    · rw [if_pos hc]
      rw [hc] at cc
      by_cases ha : a.account < l.length
      · rw [if_pos ha]
        obtain ⟨h0, ht, hm, _⟩ := chk_ok hc
        have hpl := pathF_len l a.account
        have hpi := fun x hx => pathF_in (l := l) (a := a.account) (x := x) hx
        obtain ⟨_, _, i1, i2⟩ := hv
        unfold inR at i1 i2
        have q1 := capF_ge no
        have q2 := capF_ge al
        have m1 : mimaD true [.int .i64 no, .int .i64 (-1048576)] = some (.int .i64 (capF no)) := rfl
        have m2 : mimaD true [.int .i64 al, .int .i64 (-1048576)] = some (.int .i64 (capF al)) := rfl
        have n1 : a.kernel > capF no → endF a no al = ((a.kernel - capF no, -1, true), 0) := fun h => by unfold endF; rw [if_pos h]
        have n2 : ¬ a.kernel > capF no → totA a > capF al → endF a no al = ((totA a - capF al, -1, false), 0) := fun h h' => by unfold endF; rw [if_neg h, if_pos h']
        have n3 : ¬ a.kernel > capF no → ¬ totA a > capF al → endF a no al = ((0, -1, false), 0) := fun h h' => by unfold endF; rw [if_neg h, if_neg h']
        generalize capF no = cn at *
        generalize capF al = ca at *
        generalize hp : pathF l a.account = p at *
        generalize endF a no al = E at *
        obtain ⟨pr, ac, k, u⟩ := a
        dsimp only [Ask.cells, totA] at *
        repeat' (first | (with_reducible first | refine W_seq ?_ | refine then_n ?_ | refine W_block ?_ | refine blk_n ?_ | refine blk_r ?_ | refine blk_e ?_ | refine W_skip ?_ | refine W_ret ?_ | refine then_r ?_ | refine W_exit ?_ | refine then_e ?_) | ((with_reducible refine s_reg ?_); intro K hK) | ((with_reducible refine k_nil ?_); (with_reducible apply s_nil hK); (· exact nmX); clear hK; clear K) | ((with_reducible refine k_cond ?_); (first | ((with_reducible apply s_condT); (· rfl); (· exact nmX)) | ((with_reducible apply s_condF); (· rfl); (· exact nmX)) | ((with_reducible apply s_condS); (· rfl); (· exact nmX); (· exact nmX)))) | ((with_reducible refine k_mv ?_); (refine s_mv rfl ?_)) | ((with_reducible refine k_len ?_); (first | (refine s_len rfl rfl ?_) | ((with_reducible apply s_len); (· rfl); (· exact SlOwn.len (by assumption))) | ((with_reducible apply s_len); (· rfl); (· assumption)))) | ((with_reducible refine k_not ?_); (refine s_not rfl (by first | exact Bool.not_true | exact Bool.not_false | rfl) ?_)) | ((with_reducible refine k_neq ?_); (first | (refine s_neq rfl rfl ?_) | (refine s_strNe rfl rfl ?_))) | ((with_reducible refine k_geq ?_); (refine s_geq rfl rfl ?_)) | ((with_reducible refine k_load ?_); (first | ((with_reducible apply s_loadV); (· rfl)) | ((with_reducible apply s_loadP); (· rfl); (· (exact hpX))))) | ((with_reducible refine k_loadA ?_); (first | ((with_reducible apply s_loadAV); (· rfl); (· (first | exact Nat.le_of_ble_eq_true rfl | decide | omega | (simp; done) | (simp; omega) | skip))) | ((with_reducible apply s_loadAP); (· rfl); (· (exact hpX)); (· (first | exact Nat.le_of_ble_eq_true rfl | decide | omega | (simp; done) | (simp; omega) | skip))))) | ((with_reducible refine k_add ?_); ((with_reducible apply s_add); (· rfl); (· rfl))) | ((with_reducible refine k_faddr ?_); (first | ((with_reducible apply s_faddrV); (· rfl); (· rfl)) | ((with_reducible apply s_faddrP); (· rfl); (· rfl)))) | ((with_reducible refine k_alloc (dst := some 8) ?_); ((with_reducible apply s_alloc); intro k8 hk8; (try simp only [upd_none] at hk8))) | ((with_reducible refine k_box (dst := some 4) ?_); ((with_reducible apply s_box); (· rfl); (· rfl); intro k4 hk4; (try simp only [upd_none] at hk4))) | ((with_reducible refine k_callF ?_); (first | ((with_reducible apply s_call1); (· rfl)) | ((with_reducible apply s_calln); (· rfl)))) | ((with_reducible refine k_con ?_); (first | ((with_reducible apply con_val (cv)); (· (exact agX)); (· rfl); (· exact fun _ => rfl)) | ((with_reducible apply con_val (cc)); (· (exact agX)); (· rfl); (· exact fun _ => rfl)) | ((with_reducible apply con_of_pcon (cp)); (· (exact agX)); intro kP hkP; (try simp only [upd_none] at hkP); simp only [thaw, thawC, List.map, thawH, owOf, owL]))) | ((with_reducible refine k_br ?_); (first | (with_reducible first | refine Br_dec ?_ | refine Br_not ?_ | refine Br_eqF ?_ | refine Br_and ?_ | refine Br_or ?_ | refine Br_neg ?_ | refine Br_band ?_ | refine Br_bor ?_ | refine Br_beq ?_) | (refine Br_t (by first | with_reducible rfl | omega | assumption | rfl) ?_) | (refine Br_f (by first | omega | assumption | decide) ?_) | (with_reducible apply Br_sb <;> intro hbr <;> (first | subst hbr | simp only [hbr] | skip)) | (with_reducible apply Br_s <;> intro hbr))) | ((first | (with_reducible apply q_eqI) | (with_reducible apply q_eqN)); (first | exact nuI | exact nuN)) | ((first | (with_reducible apply q_eqL) | (with_reducible apply q_eqO)); (first | exact liL | exact liO)))
        all_goals first | (exfalso; omega) | skip
        refine W_for p.length (fun i st => ∃ h', (∀ j (hj : j < i) (h : j < p.length), ¬ roomA l p[j] < k + u) ∧ st = ⟨[(1, accs l), (2, .int .i64 no), (3, .int .i64 al), (4, .pt k4 0), (8, .pt k8 0), (11, .int .i64 (k + u)), (39, .sl kP 1 0 p.length), (40, .int .i64 p.length), (41, .int .i64 i)], h'⟩ ∧ h' k4 = some [.int .i64 pr, .int .i64 ac, .int .i64 k, .int .i64 u] ∧ (∃ c, h' k8 = some c ∧ c = [.int .i64 0, .int .i64 0, .bool false]) ∧ h' kP = some (p.map (.int .i64))) ⟨_, fun j hj => by omega, rfl, hpX, ⟨_, hpX, rfl⟩, hpX⟩ ?_ ?_
        · clear n1 n2 n3 m1 m2
          rintro i e' h' hi ⟨h1, hb, he, j4, ⟨c8, j8, rfl⟩, jP⟩
          cases he
          have hx := hpi p[i] (List.getElem_mem _)
          have hxt : p[i].toNat < l.length := by omega
          have hux := us_in hm.1 p[i].toNat
          have hmx := mx_in hm.1 p[i].toNat
          have f1 := us_at hxt
          have f2 := mx_at hxt
          have hr : roomA l p[i] = mx l p[i].toNat - us l p[i].toNat := rfl
          have g1 := ac1 hxt
          have g4 := ac4 hxt
          rw [← f1] at g1
          rw [← f2] at g4
          have gp : (p.map (D.int .i64))[i]? = some (.int .i64 p[i]) := by rw [List.getElem?_map, List.getElem?_eq_getElem hi]; rfl
          by_cases hroom : roomA l p[i] < k + u
          · rw [stopL_at hi hroom hb]
            dsimp only [Option.elim]
            clear hb
            generalize roomA l p[i] = R at *
            generalize us l p[i].toNat = U at *
            generalize mx l p[i].toNat = M at *
            generalize p[i] = x at *
            subst hr
            repeat' (first | (with_reducible first | refine W_seq ?_ | refine then_n ?_ | refine W_block ?_ | refine blk_n ?_ | refine blk_r ?_ | refine blk_e ?_ | refine W_skip ?_ | refine W_ret ?_ | refine then_r ?_ | refine W_exit ?_ | refine then_e ?_) | ((with_reducible refine s_reg ?_); intro K hK) | ((with_reducible refine k_nil ?_); (with_reducible apply s_nil hK); (· exact nmX); clear hK; clear K) | ((with_reducible refine k_cond ?_); (first | ((with_reducible apply s_condT); (· rfl); (· exact nmX)) | ((with_reducible apply s_condF); (· rfl); (· exact nmX)) | ((with_reducible apply s_condS); (· rfl); (· exact nmX); (· exact nmX)))) | ((with_reducible refine k_mv ?_); (refine s_mv rfl ?_)) | ((with_reducible refine k_lss ?_); (refine s_lss rfl rfl ?_)) | ((with_reducible refine k_gtr ?_); (refine s_gtr rfl rfl ?_)) | ((with_reducible refine k_iaddr ?_); (first | ((with_reducible apply s_iaddrV); (· rfl); (· rfl); (· (first | omega | exact ⟨rfl, by omega⟩ | skip))) | ((with_reducible apply s_iaddrO); (· rfl); (· rfl); (· (first | omega | exact ⟨rfl, by omega⟩ | skip)); (· (exact hpX))) | ((with_reducible apply s_iaddrSO); (· rfl); (· assumption); (· rfl); (· (first | omega | exact ⟨rfl, by omega⟩ | skip)); (· (first | (simp (disch := omega) only [w64, wu8, wu16, wu32, wu64, tm_nn, td_nn, fd_nn, Int.reduceAdd, Int.reduceSub, Int.reduceMul, Int.reduceDiv, Int.reduceMod, Int.reduceNeg, Int.reduceToNat, Int.toNat_natCast, Int.toNat_zero, Int.zero_add, Int.add_zero, Int.one_mul, Int.reducePow, Nat.mul_one, Nat.zero_add, Nat.add_zero, Nat.zero_mul, Nat.reduceAdd, Nat.reduceMul, Nat.reduceSub, Nat.min_eq_left, IntKind.bits, Nat.sub_zero, gp, g1, g4]; try rfl; done) | rfl)); intro ks hks))) | ((with_reducible refine k_load ?_); (first | ((with_reducible apply s_loadV); (· rfl)) | ((with_reducible apply s_loadP); (· rfl); (· (exact hpX))))) | ((with_reducible refine k_sub ?_); ((with_reducible apply s_sub); (· rfl); (· rfl))) | ((with_reducible refine k_store ?_); ((with_reducible apply s_store0); (· rfl); (· rfl); (· rfl); (· (exact hpX)); (· (exact ⟨rfl, by first | exact Nat.le_of_ble_eq_true rfl | omega | (simp [gp, g1, g4]; omega)⟩)); (· ((first | (simp (disch := omega) only [upd_self, upd_ne, upd_upd, rep, splice, List.take_succ_cons, List.take_zero, List.drop_succ_cons, List.drop_zero, List.cons_append, List.nil_append, List.append_nil, List.length_cons, List.length_nil, List.reduceReplicate, List.flatten_cons, List.flatten_nil, Nat.reduceAdd, Nat.reduceMul, Nat.reduceSub, Nat.zero_add, Nat.add_zero, List.getElem?_cons_zero, List.getElem?_cons_succ, gp, g1, g4]; try rfl; done) | rfl))); (· (first | exact upd_upd | rfl)))) | ((with_reducible refine k_faddr ?_); (first | ((with_reducible apply s_faddrV); (· rfl); (· rfl)) | ((with_reducible apply s_faddrP); (· rfl); (· rfl)))) | ((with_reducible refine k_build ?_); ((with_reducible apply s_build); (· rfl); (· rfl))) | ((with_reducible refine k_dreg ?_); refine s_dreg rfl rfl ?_; intro K hK) | ((with_reducible refine k_dnil ?_); (with_reducible apply d_nil hK); (· exact nmX); clear hK; clear K) | ((with_reducible refine k_dop ?_); refine d_step (by first | exact Or.inl rfl | exact Or.inr rfl) ?_) | (with_reducible refine d_back ?_) | ((with_reducible refine k_br ?_); (first | (with_reducible first | refine Br_dec ?_ | refine Br_not ?_ | refine Br_eqF ?_ | refine Br_and ?_ | refine Br_or ?_ | refine Br_neg ?_ | refine Br_band ?_ | refine Br_bor ?_ | refine Br_beq ?_) | (refine Br_t (by first | with_reducible rfl | omega | assumption | rfl) ?_) | (refine Br_f (by first | omega | assumption | decide) ?_) | (with_reducible apply Br_sb <;> intro hbr <;> (first | subst hbr | simp only [hbr] | skip)) | (with_reducible apply Br_s <;> intro hbr))) | ((first | (with_reducible apply q_eqI) | (with_reducible apply q_eqN)); (first | (simp (disch := omega) only [w64, wu8, wu16, wu32, wu64, tm_nn, td_nn, fd_nn, Int.reduceAdd, Int.reduceSub, Int.reduceMul, Int.reduceDiv, Int.reduceMod, Int.reduceNeg, Int.reduceToNat, Int.toNat_natCast, Int.toNat_zero, Int.zero_add, Int.add_zero, Int.one_mul, Int.reducePow, Nat.mul_one, Nat.zero_add, Nat.add_zero, Nat.zero_mul, Nat.reduceAdd, Nat.reduceMul, Nat.reduceSub, Nat.min_eq_left, IntKind.bits, Nat.sub_zero, gp, g1, g4]; try rfl; done) | rfl)) | ((first | (with_reducible apply q_eqL) | (with_reducible apply q_eqO)); (first | (simp (disch := omega) only [upd_self, upd_ne, upd_upd, rep, splice, List.take_succ_cons, List.take_zero, List.drop_succ_cons, List.drop_zero, List.cons_append, List.nil_append, List.append_nil, List.length_cons, List.length_nil, List.reduceReplicate, List.flatten_cons, List.flatten_nil, Nat.reduceAdd, Nat.reduceMul, Nat.reduceSub, Nat.zero_add, Nat.add_zero, List.getElem?_cons_zero, List.getElem?_cons_succ, gp, g1, g4]; try rfl; done) | rfl)))
            all_goals first | (exfalso; omega) | exact Fin_sh rfl rfl hpX
          · have hnx : ∀ j, j < i + 1 → ∀ h : j < p.length, ¬ roomA l p[j] < k + u := fun j hj h => by
              rcases Nat.lt_succ_iff_lt_or_eq.1 hj with h2 | rfl
              · exact hb j h2 h
              · exact hroom
            clear hb
            generalize roomA l p[i] = R at *
            generalize us l p[i].toNat = U at *
            generalize mx l p[i].toNat = M at *
            generalize p[i] = x at *
            subst hr
            repeat' (first | (with_reducible first | refine W_seq ?_ | refine then_n ?_ | refine W_block ?_ | refine blk_n ?_ | refine blk_r ?_ | refine blk_e ?_ | refine W_skip ?_ | refine W_ret ?_ | refine then_r ?_ | refine W_exit ?_ | refine then_e ?_) | ((with_reducible refine s_reg ?_); intro K hK) | ((with_reducible refine k_nil ?_); (with_reducible apply s_nil hK); (· exact nmX); clear hK; clear K) | ((with_reducible refine k_cond ?_); (first | ((with_reducible apply s_condT); (· rfl); (· exact nmX)) | ((with_reducible apply s_condF); (· rfl); (· exact nmX)) | ((with_reducible apply s_condS); (· rfl); (· exact nmX); (· exact nmX)))) | ((with_reducible refine k_mv ?_); (refine s_mv rfl ?_)) | ((with_reducible refine k_lss ?_); (refine s_lss rfl rfl ?_)) | ((with_reducible refine k_gtr ?_); (refine s_gtr rfl rfl ?_)) | ((with_reducible refine k_iaddr ?_); (first | ((with_reducible apply s_iaddrV); (· rfl); (· rfl); (· (first | omega | exact ⟨rfl, by omega⟩ | skip))) | ((with_reducible apply s_iaddrO); (· rfl); (· rfl); (· (first | omega | exact ⟨rfl, by omega⟩ | skip)); (· (exact hpX))) | ((with_reducible apply s_iaddrSO); (· rfl); (· assumption); (· rfl); (· (first | omega | exact ⟨rfl, by omega⟩ | skip)); (· (first | (simp (disch := omega) only [w64, wu8, wu16, wu32, wu64, tm_nn, td_nn, fd_nn, Int.reduceAdd, Int.reduceSub, Int.reduceMul, Int.reduceDiv, Int.reduceMod, Int.reduceNeg, Int.reduceToNat, Int.toNat_natCast, Int.toNat_zero, Int.zero_add, Int.add_zero, Int.one_mul, Int.reducePow, Nat.mul_one, Nat.zero_add, Nat.add_zero, Nat.zero_mul, Nat.reduceAdd, Nat.reduceMul, Nat.reduceSub, Nat.min_eq_left, IntKind.bits, Nat.sub_zero, gp, g1, g4]; try rfl; done) | rfl)); intro ks hks))) | ((with_reducible refine k_load ?_); (first | ((with_reducible apply s_loadV); (· rfl)) | ((with_reducible apply s_loadP); (· rfl); (· (exact hpX))))) | ((with_reducible refine k_add ?_); ((with_reducible apply s_add); (· rfl); (· rfl))) | ((with_reducible refine k_sub ?_); ((with_reducible apply s_sub); (· rfl); (· rfl))) | ((with_reducible refine k_faddr ?_); (first | ((with_reducible apply s_faddrV); (· rfl); (· rfl)) | ((with_reducible apply s_faddrP); (· rfl); (· rfl)))) | ((with_reducible refine k_dreg ?_); refine s_dreg rfl rfl ?_; intro K hK) | ((with_reducible refine k_dnil ?_); (with_reducible apply d_nil hK); (· exact nmX); clear hK; clear K) | ((with_reducible refine k_dop ?_); refine d_step (by first | exact Or.inl rfl | exact Or.inr rfl) ?_) | (with_reducible refine d_back ?_) | ((with_reducible refine k_br ?_); (first | (with_reducible first | refine Br_dec ?_ | refine Br_not ?_ | refine Br_eqF ?_ | refine Br_and ?_ | refine Br_or ?_ | refine Br_neg ?_ | refine Br_band ?_ | refine Br_bor ?_ | refine Br_beq ?_) | (refine Br_t (by first | with_reducible rfl | omega | assumption | rfl) ?_) | (refine Br_f (by first | omega | assumption | decide) ?_) | (with_reducible apply Br_sb <;> intro hbr <;> (first | subst hbr | simp only [hbr] | skip)) | (with_reducible apply Br_s <;> intro hbr))) | ((first | (with_reducible apply q_eqI) | (with_reducible apply q_eqN)); (first | (simp (disch := omega) only [w64, wu8, wu16, wu32, wu64, tm_nn, td_nn, fd_nn, Int.reduceAdd, Int.reduceSub, Int.reduceMul, Int.reduceDiv, Int.reduceMod, Int.reduceNeg, Int.reduceToNat, Int.toNat_natCast, Int.toNat_zero, Int.zero_add, Int.add_zero, Int.one_mul, Int.reducePow, Nat.mul_one, Nat.zero_add, Nat.add_zero, Nat.zero_mul, Nat.reduceAdd, Nat.reduceMul, Nat.reduceSub, Nat.min_eq_left, IntKind.bits, Nat.sub_zero, gp, g1, g4]; try rfl; done) | rfl)) | ((first | (with_reducible apply q_eqL) | (with_reducible apply q_eqO)); (first | (simp (disch := omega) only [upd_self, upd_ne, upd_upd, rep, splice, List.take_succ_cons, List.take_zero, List.drop_succ_cons, List.drop_zero, List.cons_append, List.nil_append, List.append_nil, List.length_cons, List.length_nil, List.reduceReplicate, List.flatten_cons, List.flatten_nil, Nat.reduceAdd, Nat.reduceMul, Nat.reduceSub, Nat.zero_add, Nat.add_zero, List.getElem?_cons_zero, List.getElem?_cons_succ, gp, g1, g4]; try rfl; done) | rfl)))
            all_goals first | (exfalso; omega) | exact ⟨_, hnx, rfl, j4, ⟨_, j8, rfl⟩, jP⟩
        · rintro e' h' ⟨h1, hb, he, j4, ⟨c8, j8, rfl⟩, jP⟩
          cases he
          rw [stopL_no (fun j hj h => hb j hj h)]
          rw [show shR (Option.elim none E (fun x => ((k + u - roomA l x, x, false), 0))) = shR E from rfl]
          by_cases b1 : k > cn
          · rw [n1 b1]
            repeat' (first | (with_reducible first | refine W_seq ?_ | refine then_n ?_ | refine W_block ?_ | refine blk_n ?_ | refine blk_r ?_ | refine blk_e ?_ | refine W_skip ?_ | refine W_ret ?_ | refine then_r ?_ | refine W_exit ?_ | refine then_e ?_) | ((with_reducible refine s_reg ?_); intro K hK) | ((with_reducible refine k_nil ?_); (with_reducible apply s_nil hK); (· exact nmX); clear hK; clear K) | ((with_reducible refine k_cond ?_); (first | ((with_reducible apply s_condT); (· rfl); (· exact nmX)) | ((with_reducible apply s_condF); (· rfl); (· exact nmX)) | ((with_reducible apply s_condS); (· rfl); (· exact nmX); (· exact nmX)))) | ((with_reducible refine k_mv ?_); (refine s_mv rfl ?_)) | ((with_reducible refine k_lss ?_); (refine s_lss rfl rfl ?_)) | ((with_reducible refine k_gtr ?_); (refine s_gtr rfl rfl ?_)) | ((with_reducible refine k_load ?_); (first | ((with_reducible apply s_loadV); (· rfl)) | ((with_reducible apply s_loadP); (· rfl); (· (exact hpX))))) | ((with_reducible refine k_sub ?_); ((with_reducible apply s_sub); (· rfl); (· rfl))) | ((with_reducible refine k_store ?_); ((with_reducible apply s_store0); (· rfl); (· rfl); (· rfl); (· (exact hpX)); (· (exact ⟨rfl, by first | exact Nat.le_of_ble_eq_true rfl | omega | (simp; omega)⟩)); (· ((first | exact liL | exact liO))); (· (first | exact upd_upd | rfl)))) | ((with_reducible refine k_faddr ?_); (first | ((with_reducible apply s_faddrV); (· rfl); (· rfl)) | ((with_reducible apply s_faddrP); (· rfl); (· rfl)))) | ((with_reducible refine k_build ?_); ((with_reducible apply s_build); (· rfl); (· rfl))) | ((with_reducible refine k_mima ?_); (first | ((with_reducible apply s_mima); (· rfl); (· (exact m1))) | ((with_reducible apply s_mima); (· rfl); (· (exact m2))) | ((with_reducible apply s_mima); (· rfl); (· rfl)))) | ((with_reducible refine k_br ?_); (first | (with_reducible first | refine Br_dec ?_ | refine Br_not ?_ | refine Br_eqF ?_ | refine Br_and ?_ | refine Br_or ?_ | refine Br_neg ?_ | refine Br_band ?_ | refine Br_bor ?_ | refine Br_beq ?_) | (refine Br_t (by first | with_reducible rfl | omega | assumption | rfl) ?_) | (refine Br_f (by first | omega | assumption | decide) ?_) | (with_reducible apply Br_sb <;> intro hbr <;> (first | subst hbr | simp only [hbr] | skip)) | (with_reducible apply Br_s <;> intro hbr))) | ((first | (with_reducible apply q_eqI) | (with_reducible apply q_eqN)); (first | exact nuI | exact nuN)) | ((first | (with_reducible apply q_eqL) | (with_reducible apply q_eqO)); (first | exact liL | exact liO)))
            all_goals first | (exfalso; omega) | exact Fin_sh rfl rfl hpX
          · by_cases b2 : k + u > ca
            · rw [n2 b1 b2]
              repeat' (first | (with_reducible first | refine W_seq ?_ | refine then_n ?_ | refine W_block ?_ | refine blk_n ?_ | refine blk_r ?_ | refine blk_e ?_ | refine W_skip ?_ | refine W_ret ?_ | refine then_r ?_ | refine W_exit ?_ | refine then_e ?_) | ((with_reducible refine s_reg ?_); intro K hK) | ((with_reducible refine k_nil ?_); (with_reducible apply s_nil hK); (· exact nmX); clear hK; clear K) | ((with_reducible refine k_cond ?_); (first | ((with_reducible apply s_condT); (· rfl); (· exact nmX)) | ((with_reducible apply s_condF); (· rfl); (· exact nmX)) | ((with_reducible apply s_condS); (· rfl); (· exact nmX); (· exact nmX)))) | ((with_reducible refine k_mv ?_); (refine s_mv rfl ?_)) | ((with_reducible refine k_lss ?_); (refine s_lss rfl rfl ?_)) | ((with_reducible refine k_gtr ?_); (refine s_gtr rfl rfl ?_)) | ((with_reducible refine k_load ?_); (first | ((with_reducible apply s_loadV); (· rfl)) | ((with_reducible apply s_loadP); (· rfl); (· (exact hpX))))) | ((with_reducible refine k_sub ?_); ((with_reducible apply s_sub); (· rfl); (· rfl))) | ((with_reducible refine k_store ?_); ((with_reducible apply s_store0); (· rfl); (· rfl); (· rfl); (· (exact hpX)); (· (exact ⟨rfl, by first | exact Nat.le_of_ble_eq_true rfl | omega | (simp; omega)⟩)); (· ((first | exact liL | exact liO))); (· (first | exact upd_upd | rfl)))) | ((with_reducible refine k_faddr ?_); (first | ((with_reducible apply s_faddrV); (· rfl); (· rfl)) | ((with_reducible apply s_faddrP); (· rfl); (· rfl)))) | ((with_reducible refine k_build ?_); ((with_reducible apply s_build); (· rfl); (· rfl))) | ((with_reducible refine k_mima ?_); (first | ((with_reducible apply s_mima); (· rfl); (· (exact m1))) | ((with_reducible apply s_mima); (· rfl); (· (exact m2))) | ((with_reducible apply s_mima); (· rfl); (· rfl)))) | ((with_reducible refine k_br ?_); (first | (with_reducible first | refine Br_dec ?_ | refine Br_not ?_ | refine Br_eqF ?_ | refine Br_and ?_ | refine Br_or ?_ | refine Br_neg ?_ | refine Br_band ?_ | refine Br_bor ?_ | refine Br_beq ?_) | (refine Br_t (by first | with_reducible rfl | omega | assumption | rfl) ?_) | (refine Br_f (by first | omega | assumption | decide) ?_) | (with_reducible apply Br_sb <;> intro hbr <;> (first | subst hbr | simp only [hbr] | skip)) | (with_reducible apply Br_s <;> intro hbr))) | ((first | (with_reducible apply q_eqI) | (with_reducible apply q_eqN)); (first | exact nuI | exact nuN)) | ((first | (with_reducible apply q_eqL) | (with_reducible apply q_eqO)); (first | exact liL | exact liO)))
              all_goals first | (exfalso; omega) | exact Fin_sh rfl rfl hpX
            · rw [n3 b1 b2]
              repeat' (first | (with_reducible first | refine W_seq ?_ | refine then_n ?_ | refine W_block ?_ | refine blk_n ?_ | refine blk_r ?_ | refine blk_e ?_ | refine W_skip ?_ | refine W_ret ?_ | refine then_r ?_ | refine W_exit ?_ | refine then_e ?_) | ((with_reducible refine s_reg ?_); intro K hK) | ((with_reducible refine k_nil ?_); (with_reducible apply s_nil hK); (· exact nmX); clear hK; clear K) | ((with_reducible refine k_cond ?_); (first | ((with_reducible apply s_condT); (· rfl); (· exact nmX)) | ((with_reducible apply s_condF); (· rfl); (· exact nmX)) | ((with_reducible apply s_condS); (· rfl); (· exact nmX); (· exact nmX)))) | ((with_reducible refine k_mv ?_); (refine s_mv rfl ?_)) | ((with_reducible refine k_lss ?_); (refine s_lss rfl rfl ?_)) | ((with_reducible refine k_gtr ?_); (refine s_gtr rfl rfl ?_)) | ((with_reducible refine k_load ?_); (first | ((with_reducible apply s_loadV); (· rfl)) | ((with_reducible apply s_loadP); (· rfl); (· (exact hpX))))) | ((with_reducible refine k_store ?_); ((with_reducible apply s_store0); (· rfl); (· rfl); (· rfl); (· (exact hpX)); (· (exact ⟨rfl, by first | exact Nat.le_of_ble_eq_true rfl | omega | (simp; omega)⟩)); (· ((first | exact liL | exact liO))); (· (first | exact upd_upd | rfl)))) | ((with_reducible refine k_faddr ?_); (first | ((with_reducible apply s_faddrV); (· rfl); (· rfl)) | ((with_reducible apply s_faddrP); (· rfl); (· rfl)))) | ((with_reducible refine k_build ?_); ((with_reducible apply s_build); (· rfl); (· rfl))) | ((with_reducible refine k_mima ?_); (first | ((with_reducible apply s_mima); (· rfl); (· (exact m1))) | ((with_reducible apply s_mima); (· rfl); (· (exact m2))) | ((with_reducible apply s_mima); (· rfl); (· rfl)))) | ((with_reducible refine k_br ?_); (first | (with_reducible first | refine Br_dec ?_ | refine Br_not ?_ | refine Br_eqF ?_ | refine Br_and ?_ | refine Br_or ?_ | refine Br_neg ?_ | refine Br_band ?_ | refine Br_bor ?_ | refine Br_beq ?_) | (refine Br_t (by first | with_reducible rfl | omega | assumption | rfl) ?_) | (refine Br_f (by first | omega | assumption | decide) ?_) | (with_reducible apply Br_sb <;> intro hbr <;> (first | subst hbr | simp only [hbr] | skip)) | (with_reducible apply Br_s <;> intro hbr))) | ((first | (with_reducible apply q_eqL) | (with_reducible apply q_eqO)); (first | exact liL | exact liO)))
              all_goals first | (exfalso; omega) | exact Fin_sh rfl rfl hpX
      · rw [if_neg ha]
        obtain ⟨pr, ac, k, u⟩ := a
        dsimp only [Ask.cells] at *
        repeat' (first | (with_reducible first | refine W_seq ?_ | refine then_n ?_ | refine W_block ?_ | refine blk_n ?_ | refine blk_r ?_ | refine blk_e ?_ | refine W_skip ?_ | refine W_ret ?_ | refine then_r ?_ | refine W_exit ?_ | refine then_e ?_) | ((with_reducible refine s_reg ?_); intro K hK) | ((with_reducible refine k_nil ?_); (with_reducible apply s_nil hK); (· exact nmX); clear hK; clear K) | ((with_reducible refine k_cond ?_); (first | ((with_reducible apply s_condT); (· rfl); (· exact nmX)) | ((with_reducible apply s_condF); (· rfl); (· exact nmX)) | ((with_reducible apply s_condS); (· rfl); (· exact nmX); (· exact nmX)))) | ((with_reducible refine k_mv ?_); (refine s_mv rfl ?_)) | ((with_reducible refine k_len ?_); (first | (refine s_len rfl rfl ?_) | ((with_reducible apply s_len); (· rfl); (· exact SlOwn.len (by assumption))) | ((with_reducible apply s_len); (· rfl); (· assumption)))) | ((with_reducible refine k_not ?_); (refine s_not rfl (by first | exact Bool.not_true | exact Bool.not_false | rfl) ?_)) | ((with_reducible refine k_neq ?_); (first | (refine s_neq rfl rfl ?_) | (refine s_strNe rfl rfl ?_))) | ((with_reducible refine k_geq ?_); (refine s_geq rfl rfl ?_)) | ((with_reducible refine k_load ?_); (first | ((with_reducible apply s_loadV); (· rfl)) | ((with_reducible apply s_loadP); (· rfl); (· (exact hpX))))) | ((with_reducible refine k_loadA ?_); (first | ((with_reducible apply s_loadAV); (· rfl); (· (first | exact Nat.le_of_ble_eq_true rfl | decide | omega | (simp; done) | (simp; omega) | skip))) | ((with_reducible apply s_loadAP); (· rfl); (· (exact hpX)); (· (first | exact Nat.le_of_ble_eq_true rfl | decide | omega | (simp; done) | (simp; omega) | skip))))) | ((with_reducible refine k_store ?_); ((with_reducible apply s_store0); (· rfl); (· rfl); (· rfl); (· (exact hpX)); (· (exact ⟨rfl, by first | exact Nat.le_of_ble_eq_true rfl | omega | (simp; omega)⟩)); (· ((first | exact liL | exact liO))); (· (first | exact upd_upd | rfl)))) | ((with_reducible refine k_faddr ?_); (first | ((with_reducible apply s_faddrV); (· rfl); (· rfl)) | ((with_reducible apply s_faddrP); (· rfl); (· rfl)))) | ((with_reducible refine k_alloc (dst := some 8) ?_); ((with_reducible apply s_alloc); intro k8 hk8; (try simp only [upd_none] at hk8))) | ((with_reducible refine k_box (dst := some 4) ?_); ((with_reducible apply s_box); (· rfl); (· rfl); intro k4 hk4; (try simp only [upd_none] at hk4))) | ((with_reducible refine k_build ?_); ((with_reducible apply s_build); (· rfl); (· rfl))) | ((with_reducible refine k_callF ?_); (first | ((with_reducible apply s_call1); (· rfl)) | ((with_reducible apply s_calln); (· rfl)))) | ((with_reducible refine k_con ?_); (first | ((with_reducible apply con_val (cv)); (· (exact agX)); (· rfl); (· exact fun _ => rfl)) | ((with_reducible apply con_val (cc)); (· (exact agX)); (· rfl); (· exact fun _ => rfl)))) | ((with_reducible refine k_br ?_); (first | (with_reducible first | refine Br_dec ?_ | refine Br_not ?_ | refine Br_eqF ?_ | refine Br_and ?_ | refine Br_or ?_ | refine Br_neg ?_ | refine Br_band ?_ | refine Br_bor ?_ | refine Br_beq ?_) | (refine Br_t (by first | with_reducible rfl | omega | assumption | rfl) ?_) | (refine Br_f (by first | omega | assumption | decide) ?_) | (with_reducible apply Br_sb <;> intro hbr <;> (first | subst hbr | simp only [hbr] | skip)) | (with_reducible apply Br_s <;> intro hbr))) | ((first | (with_reducible apply q_eqL) | (with_reducible apply q_eqO)); (first | exact liL | exact liO)))
        all_goals first | (exfalso; omega) | exact Fin_sh rfl rfl hpX
    · rw [if_neg hc]
      generalize chkF l = e at *
      obtain ⟨pr, ac, k, u⟩ := a
      dsimp only [Ask.cells] at *
      repeat' (first | (with_reducible first | refine W_seq ?_ | refine then_n ?_ | refine W_block ?_ | refine blk_n ?_ | refine blk_r ?_ | refine blk_e ?_ | refine W_skip ?_ | refine W_ret ?_ | refine then_r ?_ | refine W_exit ?_ | refine then_e ?_) | ((with_reducible refine s_reg ?_); intro K hK) | ((with_reducible refine k_nil ?_); (with_reducible apply s_nil hK); (· exact nmX); clear hK; clear K) | ((with_reducible refine k_cond ?_); (first | ((with_reducible apply s_condT); (· rfl); (· exact nmX)) | ((with_reducible apply s_condF); (· rfl); (· exact nmX)) | ((with_reducible apply s_condS); (· rfl); (· exact nmX); (· exact nmX)))) | ((with_reducible refine k_mv ?_); (refine s_mv rfl ?_)) | ((with_reducible refine k_not ?_); (refine s_not rfl (by first | exact Bool.not_true | exact Bool.not_false | rfl) ?_)) | ((with_reducible refine k_neq ?_); (first | (refine s_neq rfl rfl ?_) | (refine s_strNe rfl rfl ?_))) | ((with_reducible refine k_loadA ?_); (first | ((with_reducible apply s_loadAV); (· rfl); (· (first | exact Nat.le_of_ble_eq_true rfl | decide | omega | (simp; done) | (simp; omega) | skip))) | ((with_reducible apply s_loadAP); (· rfl); (· (exact hpX)); (· (first | exact Nat.le_of_ble_eq_true rfl | decide | omega | (simp; done) | (simp; omega) | skip))))) | ((with_reducible refine k_store ?_); ((with_reducible apply s_store0); (· rfl); (· rfl); (· rfl); (· (exact hpX)); (· (exact ⟨rfl, by first | exact Nat.le_of_ble_eq_true rfl | omega | (simp; omega)⟩)); (· ((first | exact liL | exact liO))); (· (first | exact upd_upd | rfl)))) | ((with_reducible refine k_alloc (dst := some 8) ?_); ((with_reducible apply s_alloc); intro k8 hk8; (try simp only [upd_none] at hk8))) | ((with_reducible refine k_box (dst := some 4) ?_); ((with_reducible apply s_box); (· rfl); (· rfl); intro k4 hk4; (try simp only [upd_none] at hk4))) | ((with_reducible refine k_build ?_); ((with_reducible apply s_build); (· rfl); (· rfl))) | ((with_reducible refine k_callF ?_); (first | ((with_reducible apply s_call1); (· rfl)) | ((with_reducible apply s_calln); (· rfl)))) | ((with_reducible refine k_con ?_); (first | ((with_reducible apply con_val (cv)); (· (exact agX)); (· rfl); (· exact fun _ => rfl)) | ((with_reducible apply con_val (cc)); (· (exact agX)); (· rfl); (· exact fun _ => rfl)))) | ((with_reducible refine k_br ?_); (first | (with_reducible first | refine Br_dec ?_ | refine Br_not ?_ | refine Br_eqF ?_ | refine Br_and ?_ | refine Br_or ?_ | refine Br_neg ?_ | refine Br_band ?_ | refine Br_bor ?_ | refine Br_beq ?_) | (refine Br_t (by first | with_reducible rfl | omega | assumption | rfl) ?_) | (refine Br_f (by first | omega | assumption | decide) ?_) | (with_reducible apply Br_sb <;> intro hbr <;> (first | subst hbr | simp only [hbr] | skip)) | (with_reducible apply Br_s <;> intro hbr))) | ((first | (with_reducible apply q_eqL) | (with_reducible apply q_eqO)); (first | exact liL | exact liO)))
      all_goals first | (exfalso; omega) | exact Fin_sh rfl rfl hpX
  · rw [if_neg hv]
    rw [decide_eq_false hv] at cv
    obtain ⟨pr, ac, k, u⟩ := a
    dsimp only [Ask.cells] at *
    repeat' (first | (with_reducible first | refine W_seq ?_ | refine then_n ?_ | refine W_block ?_ | refine blk_n ?_ | refine blk_r ?_ | refine blk_e ?_ | refine W_skip ?_ | refine W_ret ?_ | refine then_r ?_ | refine W_exit ?_ | refine then_e ?_) | ((with_reducible refine s_reg ?_); intro K hK) | ((with_reducible refine k_nil ?_); (with_reducible apply s_nil hK); (· exact nmX); clear hK; clear K) | ((with_reducible refine k_cond ?_); (first | ((with_reducible apply s_condT); (· rfl); (· exact nmX)) | ((with_reducible apply s_condF); (· rfl); (· exact nmX)) | ((with_reducible apply s_condS); (· rfl); (· exact nmX); (· exact nmX)))) | ((with_reducible refine k_mv ?_); (refine s_mv rfl ?_)) | ((with_reducible refine k_not ?_); (refine s_not rfl (by first | exact Bool.not_true | exact Bool.not_false | rfl) ?_)) | ((with_reducible refine k_loadA ?_); (first | ((with_reducible apply s_loadAV); (· rfl); (· (first | exact Nat.le_of_ble_eq_true rfl | decide | omega | (simp; done) | (simp; omega) | skip))) | ((with_reducible apply s_loadAP); (· rfl); (· (exact hpX)); (· (first | exact Nat.le_of_ble_eq_true rfl | decide | omega | (simp; done) | (simp; omega) | skip))))) | ((with_reducible refine k_store ?_); ((with_reducible apply s_store0); (· rfl); (· rfl); (· rfl); (· (exact hpX)); (· (exact ⟨rfl, by first | exact Nat.le_of_ble_eq_true rfl | omega | (simp; omega)⟩)); (· ((first | exact liL | exact liO))); (· (first | exact upd_upd | rfl)))) | ((with_reducible refine k_alloc (dst := some 8) ?_); ((with_reducible apply s_alloc); intro k8 hk8; (try simp only [upd_none] at hk8))) | ((with_reducible refine k_box (dst := some 4) ?_); ((with_reducible apply s_box); (· rfl); (· rfl); intro k4 hk4; (try simp only [upd_none] at hk4))) | ((with_reducible refine k_build ?_); ((with_reducible apply s_build); (· rfl); (· rfl))) | ((with_reducible refine k_callF ?_); (first | ((with_reducible apply s_call1); (· rfl)) | ((with_reducible apply s_calln); (· rfl)))) | ((with_reducible refine k_con ?_); (first | ((with_reducible apply con_val (cv)); (· (exact agX)); (· rfl); (· exact fun _ => rfl)))) | ((first | (with_reducible apply q_eqL) | (with_reducible apply q_eqO)); (first | exact liL | exact liO)))
    all_goals first | (exfalso; omega) | exact Fin_sh rfl rfl hpX
end Go.Proofs.Ytbepjnjfnmmpaaa
end
section
/- min -/
/- Asks: what is hopeless. -/
set_option linter.unusedSimpArgs false
set_option linter.unusedVariables false
namespace Go.Proofs.Ytbepjnjfnmmpaaa
open Go.AM Classical
set_option maxRecDepth 100000
set_option maxHeartbeats 4000000
def hopP (a : Ask) (l : List Acct) (no al : Int) : Prop := ¬ vaP a ∨ chkF l ≠ 0 ∨ ¬ a.account < l.length ∨ (∃ x ∈ pathF l a.account, mx l x.toNat < totA a) ∨ a.kernel > no ∨ totA a > al
theorem hope_c (a : Ask) (l : List Acct) (hL : l.length ≤ 9223372036854775807) (no al : Int) : PCon Try.prog 14 [.agg a.cells, accs l, .int .i64 no, .int .i64 al] (.bool (decide (hopP a l no al))) := by
  have cv := gvalid_c a
  have cc := check_c l hL
  have cp := path_c l hL a.account
  have hal := accs_len l
  refine A14p (by simp [A14]) ?_
  simp only [A14, argEnv]
  by_cases hv : vaP a
  · rw [decide_eq_true hv] at cv
    have cT := hv
    by_cases hc : chkF l = 0
    · rw [hc] at cc
      by_cases ha : a.account < l.length
      · obtain ⟨h0, ht, hm, _⟩ := chk_ok hc
        have hpl := pathF_len l a.account
        have hpi := fun x hx => pathF_in (l := l) (a := a.account) (x := x) hx
        have hop : hopP a l no al ↔ (∃ x ∈ pathF l a.account, mx l x.toNat < totA a) ∨ a.kernel > no ∨ totA a > al :=
          ⟨fun h => h.elim (absurd hv) fun h => h.elim (absurd hc) fun h => h.elim (absurd ha) id, fun h => .inr (.inr (.inr h))⟩
        obtain ⟨_, _, i1, i2⟩ := hv
        unfold inR at i1 i2
        generalize hopP a l no al = H at *
        generalize pathF l a.account = p at *
        obtain ⟨pr, ac, k, u⟩ := a
        dsimp only [Ask.cells, totA] at *
        repeat' (first | (with_reducible first | refine W_seq ?_ | refine then_n ?_ | refine W_block ?_ | refine blk_n ?_ | refine blk_r ?_ | refine blk_e ?_ | refine W_skip ?_ | refine W_ret ?_ | refine then_r ?_ | refine W_exit ?_ | refine then_e ?_) | ((with_reducible refine s_reg ?_); intro K hK) | ((with_reducible refine k_nil ?_); (with_reducible apply s_nil hK); (· exact nmX); clear hK; clear K) | ((with_reducible refine k_cond ?_); (first | ((with_reducible apply s_condT); (· rfl); (· exact nmX)) | ((with_reducible apply s_condF); (· rfl); (· exact nmX)) | ((with_reducible apply s_condS); (· rfl); (· exact nmX); (· exact nmX)))) | ((with_reducible refine k_guard ?_); (first | (refine s_gt rfl ?_) | (refine s_gf1 rfl ?_) | (refine s_gfn rfl ?_) | (refine s_gx1 rfl ?_) | (refine s_gxn rfl ?_) | (refine s_gs rfl ?_))) | ((with_reducible refine k_mv ?_); (refine s_mv rfl ?_)) | ((with_reducible refine k_len ?_); (first | (refine s_len rfl rfl ?_) | ((with_reducible apply s_len); (· rfl); (· exact SlOwn.len (by assumption))) | ((with_reducible apply s_len); (· rfl); (· assumption)))) | ((with_reducible refine k_pick ?_); (first | (refine s_pickT rfl rfl ?_) | (refine s_pickF rfl rfl ?_))) | ((with_reducible refine k_not ?_); (refine s_not rfl (by first | exact Bool.not_true | exact Bool.not_false | rfl) ?_)) | ((with_reducible refine k_neq ?_); (first | (refine s_neq rfl rfl ?_) | (refine s_strNe rfl rfl ?_))) | ((with_reducible refine k_geq ?_); (refine s_geq rfl rfl ?_)) | ((with_reducible refine k_load ?_); (first | ((with_reducible apply s_loadV); (· rfl)) | ((with_reducible apply s_loadP); (· rfl); (· (exact hpX))))) | ((with_reducible refine k_loadA ?_); (first | ((with_reducible apply s_loadAV); (· rfl); (· (first | exact Nat.le_of_ble_eq_true rfl | decide | omega | (simp; done) | (simp; omega) | skip))) | ((with_reducible apply s_loadAP); (· rfl); (· (exact hpX)); (· (first | exact Nat.le_of_ble_eq_true rfl | decide | omega | (simp; done) | (simp; omega) | skip))))) | ((with_reducible refine k_add ?_); ((with_reducible apply s_add); (· rfl); (· rfl))) | ((with_reducible refine k_faddr ?_); (first | ((with_reducible apply s_faddrV); (· rfl); (· rfl)) | ((with_reducible apply s_faddrP); (· rfl); (· rfl)))) | ((with_reducible refine k_box (dst := some 4) ?_); ((with_reducible apply s_box); (· rfl); (· rfl); intro k4 hk4; (try simp only [upd_none] at hk4))) | ((with_reducible refine k_callF ?_); (first | ((with_reducible apply s_call1); (· rfl)) | ((with_reducible apply s_calln); (· rfl)))) | ((with_reducible refine k_con ?_); (first | ((with_reducible apply con_val (cv)); (· (exact agX)); (· rfl); (· exact fun _ => rfl)) | ((with_reducible apply con_val (cc)); (· (exact agX)); (· rfl); (· exact fun _ => rfl)) | ((with_reducible apply con_of_pcon (cp)); (· (exact agX)); intro kP hkP; (try simp only [upd_none] at hkP); simp only [thaw, thawC, List.map, thawH, owOf, owL]))) | ((with_reducible refine k_br ?_); (first | (with_reducible first | refine Br_dec ?_ | refine Br_not ?_ | refine Br_eqF ?_ | refine Br_and ?_ | refine Br_or ?_ | refine Br_neg ?_ | refine Br_band ?_ | refine Br_bor ?_ | refine Br_beq ?_) | (refine Br_t (by first | with_reducible rfl | omega | assumption | rfl) ?_) | (refine Br_f (by first | omega | assumption | decide) ?_) | (with_reducible apply Br_sb <;> intro hbr <;> (first | subst hbr | simp only [hbr] | skip)) | (with_reducible apply Br_s <;> intro hbr))) | ((first | (with_reducible apply q_eqI) | (with_reducible apply q_eqN)); (first | exact nuI | exact nuN)) | ((first | (with_reducible apply q_eqL) | (with_reducible apply q_eqO)); (first | exact liL | exact liO)))
        all_goals first | (exfalso; omega) | skip
        refine W_for p.length (fun i st => ∃ h', (∀ j (hj : j < i) (h : j < p.length), ¬ mx l p[j].toNat < k + u) ∧ st = ⟨[(1, accs l), (2, .int .i64 no), (3, .int .i64 al), (4, .pt k4 0), (9, .int .i64 (k + u)), (35, .sl kP 1 0 p.length), (36, .int .i64 p.length), (37, .int .i64 i)], h'⟩ ∧ h' k4 = some [.int .i64 pr, .int .i64 ac, .int .i64 k, .int .i64 u] ∧ h' kP = some (p.map (.int .i64))) ⟨_, fun j hj => by omega, rfl, hpX, hpX⟩ ?_ ?_
        · rintro i e' h' hi ⟨h1, hb, he, j4, jP⟩
          cases he
          have hx := hpi p[i] (List.getElem_mem _)
          have hxt : p[i].toNat < l.length := by omega
          have f2 := mx_at hxt
          have g4 := ac4 hxt
          rw [← f2] at g4
          have gp : (p.map (D.int .i64))[i]? = some (.int .i64 p[i]) := by rw [List.getElem?_map, List.getElem?_eq_getElem hi]; rfl
          have hyes : mx l p[i].toNat < k + u → H := fun h => hop.2 (.inl ⟨_, List.getElem_mem hi, h⟩)
          have hnx : ¬ mx l p[i].toNat < k + u → ∀ j, j < i + 1 → ∀ h : j < p.length, ¬ mx l p[j].toNat < k + u := fun hroom j hj h => by
            rcases Nat.lt_succ_iff_lt_or_eq.1 hj with h2 | rfl
            · exact hb j h2 h
            · exact hroom
          clear hb
          generalize mx l p[i].toNat = M at *
          generalize p[i] = x at *
          repeat' (first | (with_reducible first | refine W_seq ?_ | refine then_n ?_ | refine W_block ?_ | refine blk_n ?_ | refine blk_r ?_ | refine blk_e ?_ | refine W_skip ?_ | refine W_ret ?_ | refine then_r ?_ | refine W_exit ?_ | refine then_e ?_) | ((with_reducible refine s_reg ?_); intro K hK) | ((with_reducible refine k_nil ?_); (with_reducible apply s_nil hK); (· exact nmX); clear hK; clear K) | ((with_reducible refine k_cond ?_); (first | ((with_reducible apply s_condT); (· rfl); (· exact nmX)) | ((with_reducible apply s_condF); (· rfl); (· exact nmX)) | ((with_reducible apply s_condS); (· rfl); (· exact nmX); (· exact nmX)))) | ((with_reducible refine k_mv ?_); (refine s_mv rfl ?_)) | ((with_reducible refine k_lss ?_); (refine s_lss rfl rfl ?_)) | ((with_reducible refine k_gtr ?_); (refine s_gtr rfl rfl ?_)) | ((with_reducible refine k_iaddr ?_); (first | ((with_reducible apply s_iaddrV); (· rfl); (· rfl); (· (first | omega | exact ⟨rfl, by omega⟩ | skip))) | ((with_reducible apply s_iaddrO); (· rfl); (· rfl); (· (first | omega | exact ⟨rfl, by omega⟩ | skip)); (· (exact hpX))) | ((with_reducible apply s_iaddrSO); (· rfl); (· assumption); (· rfl); (· (first | omega | exact ⟨rfl, by omega⟩ | skip)); (· (first | (simp (disch := omega) only [w64, wu8, wu16, wu32, wu64, tm_nn, td_nn, fd_nn, Int.reduceAdd, Int.reduceSub, Int.reduceMul, Int.reduceDiv, Int.reduceMod, Int.reduceNeg, Int.reduceToNat, Int.toNat_natCast, Int.toNat_zero, Int.zero_add, Int.add_zero, Int.one_mul, Int.reducePow, Nat.mul_one, Nat.zero_add, Nat.add_zero, Nat.zero_mul, Nat.reduceAdd, Nat.reduceMul, Nat.reduceSub, Nat.min_eq_left, IntKind.bits, Nat.sub_zero, gp, g4]; try rfl; done) | rfl)); intro ks hks))) | ((with_reducible refine k_load ?_); (first | ((with_reducible apply s_loadV); (· rfl)) | ((with_reducible apply s_loadP); (· rfl); (· (exact hpX))))) | ((with_reducible refine k_add ?_); ((with_reducible apply s_add); (· rfl); (· rfl))) | ((with_reducible refine k_faddr ?_); (first | ((with_reducible apply s_faddrV); (· rfl); (· rfl)) | ((with_reducible apply s_faddrP); (· rfl); (· rfl)))) | ((with_reducible refine k_br ?_); (first | (with_reducible first | refine Br_dec ?_ | refine Br_not ?_ | refine Br_eqF ?_ | refine Br_and ?_ | refine Br_or ?_ | refine Br_neg ?_ | refine Br_band ?_ | refine Br_bor ?_ | refine Br_beq ?_) | (refine Br_t (by first | with_reducible rfl | omega | assumption | rfl) ?_) | (refine Br_f (by first | omega | assumption | decide) ?_) | (with_reducible apply Br_sb <;> intro hbr <;> (first | subst hbr | simp only [hbr] | skip)) | (with_reducible apply Br_s <;> intro hbr))) | ((first | (with_reducible apply q_eqI) | (with_reducible apply q_eqN)); (first | (simp (disch := omega) only [w64, wu8, wu16, wu32, wu64, tm_nn, td_nn, fd_nn, Int.reduceAdd, Int.reduceSub, Int.reduceMul, Int.reduceDiv, Int.reduceMod, Int.reduceNeg, Int.reduceToNat, Int.toNat_natCast, Int.toNat_zero, Int.zero_add, Int.add_zero, Int.one_mul, Int.reducePow, Nat.mul_one, Nat.zero_add, Nat.add_zero, Nat.zero_mul, Nat.reduceAdd, Nat.reduceMul, Nat.reduceSub, Nat.min_eq_left, IntKind.bits, Nat.sub_zero, gp, g4]; try rfl; done) | rfl)) | ((first | (with_reducible apply q_eqL) | (with_reducible apply q_eqO)); (first | (simp (disch := omega) only [upd_self, upd_ne, upd_upd, rep, splice, List.take_succ_cons, List.take_zero, List.drop_succ_cons, List.drop_zero, List.cons_append, List.nil_append, List.append_nil, List.length_cons, List.length_nil, List.reduceReplicate, List.flatten_cons, List.flatten_nil, Nat.reduceAdd, Nat.reduceMul, Nat.reduceSub, Nat.zero_add, Nat.add_zero, List.getElem?_cons_zero, List.getElem?_cons_succ, gp, g4]; try rfl; done) | rfl)))
          all_goals first | (exfalso; omega) | exact Fin_bt trivial rfl (hyes (by omega)) | exact ⟨_, hnx (by omega), rfl, j4, jP⟩
        · rintro e' h' ⟨h1, hb, he, j4, jP⟩
          cases he
          have hop2 : H ↔ k > no ∨ k + u > al := hop.trans ⟨fun h => h.elim (fun ⟨x, hx, h⟩ => by
            obtain ⟨j, hj, rfl⟩ := List.getElem_of_mem hx
            exact absurd h (hb j hj hj)) id, .inr⟩
          clear hb hop
          repeat' (first | (with_reducible first | refine W_seq ?_ | refine then_n ?_ | refine W_block ?_ | refine blk_n ?_ | refine blk_r ?_ | refine blk_e ?_ | refine W_skip ?_ | refine W_ret ?_ | refine then_r ?_ | refine W_exit ?_ | refine then_e ?_) | ((with_reducible refine s_reg ?_); intro K hK) | ((with_reducible refine k_nil ?_); (with_reducible apply s_nil hK); (· exact nmX); clear hK; clear K) | ((with_reducible refine k_cond ?_); (first | ((with_reducible apply s_condT); (· rfl); (· exact nmX)) | ((with_reducible apply s_condF); (· rfl); (· exact nmX)) | ((with_reducible apply s_condS); (· rfl); (· exact nmX); (· exact nmX)))) | ((with_reducible refine k_guard ?_); (first | (refine s_gt rfl ?_) | (refine s_gf1 rfl ?_) | (refine s_gfn rfl ?_) | (refine s_gx1 rfl ?_) | (refine s_gxn rfl ?_) | (refine s_gs rfl ?_))) | ((with_reducible refine k_mv ?_); (refine s_mv rfl ?_)) | ((with_reducible refine k_pick ?_); (first | (refine s_pickT rfl rfl ?_) | (refine s_pickF rfl rfl ?_))) | ((with_reducible refine k_lss ?_); (refine s_lss rfl rfl ?_)) | ((with_reducible refine k_gtr ?_); (refine s_gtr rfl rfl ?_)) | ((with_reducible refine k_load ?_); (first | ((with_reducible apply s_loadV); (· rfl)) | ((with_reducible apply s_loadP); (· rfl); (· (exact hpX))))) | ((with_reducible refine k_faddr ?_); (first | ((with_reducible apply s_faddrV); (· rfl); (· rfl)) | ((with_reducible apply s_faddrP); (· rfl); (· rfl)))) | ((with_reducible refine k_br ?_); (first | (with_reducible first | refine Br_dec ?_ | refine Br_not ?_ | refine Br_eqF ?_ | refine Br_and ?_ | refine Br_or ?_ | refine Br_neg ?_ | refine Br_band ?_ | refine Br_bor ?_ | refine Br_beq ?_) | (refine Br_t (by first | with_reducible rfl | omega | assumption | rfl) ?_) | (refine Br_f (by first | omega | assumption | decide) ?_) | (with_reducible apply Br_sb <;> intro hbr <;> (first | subst hbr | simp only [hbr] | skip)) | (with_reducible apply Br_s <;> intro hbr))) | ((first | (with_reducible apply q_eqL) | (with_reducible apply q_eqO)); (first | exact liL | exact liO)))
          all_goals first | (exfalso; omega) | exact Fin_bt trivial rfl (hop2.2 (by omega)) | exact Fin_bf trivial rfl (fun h => by have := hop2.1 h; omega)
      · have hop : hopP a l no al := .inr (.inr (.inl ha))
        generalize hopP a l no al = H at *
        obtain ⟨pr, ac, k, u⟩ := a
        dsimp only [Ask.cells] at *
        repeat' (first | (with_reducible first | refine W_seq ?_ | refine then_n ?_ | refine W_block ?_ | refine blk_n ?_ | refine blk_r ?_ | refine blk_e ?_ | refine W_skip ?_ | refine W_ret ?_ | refine then_r ?_ | refine W_exit ?_ | refine then_e ?_) | ((with_reducible refine s_reg ?_); intro K hK) | ((with_reducible refine k_nil ?_); (with_reducible apply s_nil hK); (· exact nmX); clear hK; clear K) | ((with_reducible refine k_cond ?_); (first | ((with_reducible apply s_condT); (· rfl); (· exact nmX)) | ((with_reducible apply s_condF); (· rfl); (· exact nmX)) | ((with_reducible apply s_condS); (· rfl); (· exact nmX); (· exact nmX)))) | ((with_reducible refine k_guard ?_); (first | (refine s_gt rfl ?_) | (refine s_gf1 rfl ?_) | (refine s_gfn rfl ?_) | (refine s_gx1 rfl ?_) | (refine s_gxn rfl ?_) | (refine s_gs rfl ?_))) | ((with_reducible refine k_mv ?_); (refine s_mv rfl ?_)) | ((with_reducible refine k_len ?_); (first | (refine s_len rfl rfl ?_) | ((with_reducible apply s_len); (· rfl); (· exact SlOwn.len (by assumption))) | ((with_reducible apply s_len); (· rfl); (· assumption)))) | ((with_reducible refine k_pick ?_); (first | (refine s_pickT rfl rfl ?_) | (refine s_pickF rfl rfl ?_))) | ((with_reducible refine k_not ?_); (refine s_not rfl (by first | exact Bool.not_true | exact Bool.not_false | rfl) ?_)) | ((with_reducible refine k_neq ?_); (first | (refine s_neq rfl rfl ?_) | (refine s_strNe rfl rfl ?_))) | ((with_reducible refine k_geq ?_); (refine s_geq rfl rfl ?_)) | ((with_reducible refine k_load ?_); (first | ((with_reducible apply s_loadV); (· rfl)) | ((with_reducible apply s_loadP); (· rfl); (· (exact hpX))))) | ((with_reducible refine k_loadA ?_); (first | ((with_reducible apply s_loadAV); (· rfl); (· (first | exact Nat.le_of_ble_eq_true rfl | decide | omega | (simp; done) | (simp; omega) | skip))) | ((with_reducible apply s_loadAP); (· rfl); (· (exact hpX)); (· (first | exact Nat.le_of_ble_eq_true rfl | decide | omega | (simp; done) | (simp; omega) | skip))))) | ((with_reducible refine k_faddr ?_); (first | ((with_reducible apply s_faddrV); (· rfl); (· rfl)) | ((with_reducible apply s_faddrP); (· rfl); (· rfl)))) | ((with_reducible refine k_box (dst := some 4) ?_); ((with_reducible apply s_box); (· rfl); (· rfl); intro k4 hk4; (try simp only [upd_none] at hk4))) | ((with_reducible refine k_callF ?_); (first | ((with_reducible apply s_call1); (· rfl)) | ((with_reducible apply s_calln); (· rfl)))) | ((with_reducible refine k_con ?_); (first | ((with_reducible apply con_val (cv)); (· (exact agX)); (· rfl); (· exact fun _ => rfl)) | ((with_reducible apply con_val (cc)); (· (exact agX)); (· rfl); (· exact fun _ => rfl)))) | ((with_reducible refine k_br ?_); (first | (with_reducible first | refine Br_dec ?_ | refine Br_not ?_ | refine Br_eqF ?_ | refine Br_and ?_ | refine Br_or ?_ | refine Br_neg ?_ | refine Br_band ?_ | refine Br_bor ?_ | refine Br_beq ?_) | (refine Br_t (by first | with_reducible rfl | omega | assumption | rfl) ?_) | (refine Br_f (by first | omega | assumption | decide) ?_) | (with_reducible apply Br_sb <;> intro hbr <;> (first | subst hbr | simp only [hbr] | skip)) | (with_reducible apply Br_s <;> intro hbr))) | ((first | (with_reducible apply q_eqL) | (with_reducible apply q_eqO)); (first | exact liL | exact liO)))
        all_goals first | (exfalso; omega) | exact Fin_bt trivial rfl hop
    · have hop : hopP a l no al := .inr (.inl hc)
      generalize hopP a l no al = H at *
      generalize chkF l = e at *
      obtain ⟨pr, ac, k, u⟩ := a
      dsimp only [Ask.cells] at *
      repeat' (first | (with_reducible first | refine W_seq ?_ | refine then_n ?_ | refine W_block ?_ | refine blk_n ?_ | refine blk_r ?_ | refine blk_e ?_ | refine W_skip ?_ | refine W_ret ?_ | refine then_r ?_ | refine W_exit ?_ | refine then_e ?_) | ((with_reducible refine s_reg ?_); intro K hK) | ((with_reducible refine k_nil ?_); (with_reducible apply s_nil hK); (· exact nmX); clear hK; clear K) | ((with_reducible refine k_cond ?_); (first | ((with_reducible apply s_condT); (· rfl); (· exact nmX)) | ((with_reducible apply s_condF); (· rfl); (· exact nmX)) | ((with_reducible apply s_condS); (· rfl); (· exact nmX); (· exact nmX)))) | ((with_reducible refine k_guard ?_); (first | (refine s_gt rfl ?_) | (refine s_gf1 rfl ?_) | (refine s_gfn rfl ?_) | (refine s_gx1 rfl ?_) | (refine s_gxn rfl ?_) | (refine s_gs rfl ?_))) | ((with_reducible refine k_mv ?_); (refine s_mv rfl ?_)) | ((with_reducible refine k_pick ?_); (first | (refine s_pickT rfl rfl ?_) | (refine s_pickF rfl rfl ?_))) | ((with_reducible refine k_not ?_); (refine s_not rfl (by first | exact Bool.not_true | exact Bool.not_false | rfl) ?_)) | ((with_reducible refine k_neq ?_); (first | (refine s_neq rfl rfl ?_) | (refine s_strNe rfl rfl ?_))) | ((with_reducible refine k_loadA ?_); (first | ((with_reducible apply s_loadAV); (· rfl); (· (first | exact Nat.le_of_ble_eq_true rfl | decide | omega | (simp; done) | (simp; omega) | skip))) | ((with_reducible apply s_loadAP); (· rfl); (· (exact hpX)); (· (first | exact Nat.le_of_ble_eq_true rfl | decide | omega | (simp; done) | (simp; omega) | skip))))) | ((with_reducible refine k_box (dst := some 4) ?_); ((with_reducible apply s_box); (· rfl); (· rfl); intro k4 hk4; (try simp only [upd_none] at hk4))) | ((with_reducible refine k_callF ?_); (first | ((with_reducible apply s_call1); (· rfl)) | ((with_reducible apply s_calln); (· rfl)))) | ((with_reducible refine k_con ?_); (first | ((with_reducible apply con_val (cv)); (· (exact agX)); (· rfl); (· exact fun _ => rfl)) | ((with_reducible apply con_val (cc)); (· (exact agX)); (· rfl); (· exact fun _ => rfl)))) | ((with_reducible refine k_br ?_); (first | (with_reducible first | refine Br_dec ?_ | refine Br_not ?_ | refine Br_eqF ?_ | refine Br_and ?_ | refine Br_or ?_ | refine Br_neg ?_ | refine Br_band ?_ | refine Br_bor ?_ | refine Br_beq ?_) | (refine Br_t (by first | with_reducible rfl | omega | assumption | rfl) ?_) | (refine Br_f (by first | omega | assumption | decide) ?_) | (with_reducible apply Br_sb <;> intro hbr <;> (first | subst hbr | simp only [hbr] | skip)) | (with_reducible apply Br_s <;> intro hbr))) | ((first | (with_reducible apply q_eqL) | (with_reducible apply q_eqO)); (first | exact liL | exact liO)))
      all_goals first | (exfalso; omega) | exact Fin_bt trivial rfl hop
  · have hop : hopP a l no al := .inl hv
    rw [decide_eq_false hv] at cv
    generalize hopP a l no al = H at *
    obtain ⟨pr, ac, k, u⟩ := a
    dsimp only [Ask.cells] at *
    repeat' (first | (with_reducible first | refine W_seq ?_ | refine then_n ?_ | refine W_block ?_ | refine blk_n ?_ | refine blk_r ?_ | refine blk_e ?_ | refine W_skip ?_ | refine W_ret ?_ | refine then_r ?_ | refine W_exit ?_ | refine then_e ?_) | ((with_reducible refine s_reg ?_); intro K hK) | ((with_reducible refine k_nil ?_); (with_reducible apply s_nil hK); (· exact nmX); clear hK; clear K) | ((with_reducible refine k_cond ?_); (first | ((with_reducible apply s_condT); (· rfl); (· exact nmX)) | ((with_reducible apply s_condF); (· rfl); (· exact nmX)) | ((with_reducible apply s_condS); (· rfl); (· exact nmX); (· exact nmX)))) | ((with_reducible refine k_guard ?_); (first | (refine s_gt rfl ?_) | (refine s_gf1 rfl ?_) | (refine s_gfn rfl ?_) | (refine s_gx1 rfl ?_) | (refine s_gxn rfl ?_) | (refine s_gs rfl ?_))) | ((with_reducible refine k_mv ?_); (refine s_mv rfl ?_)) | ((with_reducible refine k_pick ?_); (first | (refine s_pickT rfl rfl ?_) | (refine s_pickF rfl rfl ?_))) | ((with_reducible refine k_not ?_); (refine s_not rfl (by first | exact Bool.not_true | exact Bool.not_false | rfl) ?_)) | ((with_reducible refine k_loadA ?_); (first | ((with_reducible apply s_loadAV); (· rfl); (· (first | exact Nat.le_of_ble_eq_true rfl | decide | omega | (simp; done) | (simp; omega) | skip))) | ((with_reducible apply s_loadAP); (· rfl); (· (exact hpX)); (· (first | exact Nat.le_of_ble_eq_true rfl | decide | omega | (simp; done) | (simp; omega) | skip))))) | ((with_reducible refine k_box (dst := some 4) ?_); ((with_reducible apply s_box); (· rfl); (· rfl); intro k4 hk4; (try simp only [upd_none] at hk4))) | ((with_reducible refine k_callF ?_); (first | ((with_reducible apply s_call1); (· rfl)) | ((with_reducible apply s_calln); (· rfl)))) | ((with_reducible refine k_con ?_); (first | ((with_reducible apply con_val (cv)); (· (exact agX)); (· rfl); (· exact fun _ => rfl)))) | ((first | (with_reducible apply q_eqL) | (with_reducible apply q_eqO)); (first | exact liL | exact liO)))
    all_goals first | (exfalso; omega) | exact Fin_bt trivial rfl hop
end Go.Proofs.Ytbepjnjfnmmpaaa
end
section
/- Accounts: paths, sums. -/
set_option linter.unusedSimpArgs false
set_option linter.unusedVariables false
namespace Go.Proofs.Ytbepjnjfnmmpaaa
open Go.AM Classical
set_option maxRecDepth 100000
set_option maxHeartbeats 4000000
theorem pathF_is {l : List Acct} {a : Int} (h : isP l a) : pathF l a = pathG l 8 a := if_pos h
theorem pathG_self {l : List Acct} {f : Nat} {a : Int} (h : 0 ≤ a) : a ∈ pathG l (f + 1) a := by
  rw [pathG, if_pos h]; simp
theorem pathF_self {l : List Acct} {a : Int} (h : isP l a) : a ∈ pathF l a := by rw [pathF_is h]; exact pathG_self h.2.1
theorem pathG_nodup {l : List Acct} (ht : treeP l) : ∀ (f : Nat) (a : Int), a < l.length → (pathG l f a).Nodup
  | 0, a, _ => by simp [pathG]
  | f + 1, a, ha => by
    unfold pathG
    split
    · rename_i h0
      have h1 := pa_lt ht (a := a) ⟨h0, ha⟩
      refine List.nodup_cons.2 ⟨fun hm => ?_, pathG_nodup ht f _ (by omega)⟩
      have := pathG_in ht f _ (by omega) a hm
      omega
    · simp
theorem pathG_mem {l : List Acct} (ht : treeP l) : ∀ (f : Nat) (a : Int), a < l.length → a < f → ∀ x ∈ pathG l f a, (0 ≤ pa l x.toNat → pa l x.toNat ∈ pathG l f a) ∧ (x ≠ a → ∃ c ∈ pathG l f a, 0 < c ∧ pa l c.toNat = x)
  | 0, _, _, _, x, hx => by simp [pathG] at hx
  | f + 1, a, ha, hf, x, hx => by
    unfold pathG at hx ⊢
    split at hx
    · rename_i h0
      rw [if_pos h0]
      have h1 := pa_lt ht (a := a) ⟨h0, ha⟩
      have ih := pathG_mem ht f (pa l a.toNat) (by omega) (by omega)
      rcases List.mem_cons.1 hx with rfl | hx
      · refine ⟨fun h => List.mem_cons_of_mem _ ?_, fun h => absurd rfl h⟩
        obtain ⟨g, rfl⟩ : ∃ g, f = g + 1 := ⟨f - 1, by omega⟩
        exact pathG_self h
      · obtain ⟨i1, i2⟩ := ih x hx
        refine ⟨fun h => List.mem_cons_of_mem _ (i1 h), fun h => ?_⟩
        have hx2 := pathG_in ht f _ (by omega) x hx
        by_cases hxp : x = pa l a.toNat
        · exact ⟨a, by simp, by omega, hxp.symm⟩
        · obtain ⟨c, hc, h2⟩ := i2 hxp
          exact ⟨c, List.mem_cons_of_mem _ hc, h2⟩
    · simp at hx
theorem pathG_gap {l : List Acct} (ht : treeP l) : ∀ (f : Nat) (a : Int), a < l.length → ∀ x ∈ pathG l f a, ∀ y ∈ pathG l f a, y < x → y ≤ pa l x.toNat
  | 0, _, _, x, hx, _, _, _ => by simp [pathG] at hx
  | f + 1, a, ha, x, hx, y, hy, hyx => by
    unfold pathG at hx hy
    split at hx
    · rename_i h0
      rw [if_pos h0] at hy
      have h1 := pa_lt ht (a := a) ⟨h0, ha⟩
      rcases List.mem_cons.1 hx with rfl | hx
      · rcases List.mem_cons.1 hy with rfl | hy
        · omega
        · exact (pathG_in ht f _ (by omega) y hy).2.2
      · have hx2 := pathG_in ht f _ (by omega) x hx
        rcases List.mem_cons.1 hy with rfl | hy
        · omega
        · exact pathG_gap ht f _ (by omega) x hx y hy hyx
    · simp at hx
theorem pathF_up {l : List Acct} {a x : Int} (h : isP l a) (hx : x ∈ pathF l a) (h0 : 0 ≤ pa l x.toNat) : pa l x.toNat ∈ pathF l a := by
  obtain ⟨hl, ht, _⟩ := chk_ok h.1
  have h2 := h.2
  rw [pathF_is h] at hx ⊢
  exact (pathG_mem ht 8 a h2.2 (by omega) x hx).1 h0
theorem pathF_down {l : List Acct} {a x : Int} (h : isP l a) (hx : x ∈ pathF l a) (h0 : x ≠ a) : ∃ c ∈ pathF l a, 0 < c ∧ pa l c.toNat = x := by
  obtain ⟨hl, ht, _⟩ := chk_ok h.1
  have h2 := h.2
  rw [pathF_is h] at hx ⊢
  exact (pathG_mem ht 8 a h2.2 (by omega) x hx).2 h0
theorem pathF_gap {l : List Acct} {a x y : Int} (h : isP l a) (hx : x ∈ pathF l a) (hy : y ∈ pathF l a) (hyx : y < x) : y ≤ pa l x.toNat := by
  obtain ⟨hl, ht, _⟩ := chk_ok h.1
  rw [pathF_is h] at hx hy
  exact pathG_gap ht 8 a h.2.2 x hx y hy hyx
theorem pathF_le {l : List Acct} {a x : Int} (h : isP l a) (hx : x ∈ pathF l a) : x ≤ a := by
  obtain ⟨hl, ht, _⟩ := chk_ok h.1
  rw [pathF_is h] at hx
  exact (pathG_in ht 8 a h.2.2 x hx).2.2
theorem pathF_nodup {l : List Acct} {a : Int} (h : isP l a) : (pathF l a).Nodup := by
  rw [pathF_is h]; exact pathG_nodup (chk_ok h.1).2.1 8 a h.2.2
end Go.Proofs.Ytbepjnjfnmmpaaa
end
section
/- Accounts: plain laws of charges and sums. -/
set_option linter.unusedSimpArgs false
set_option linter.unusedVariables false
namespace Go.Proofs.Ytbepjnjfnmmpaaa
open Go.AM Classical
set_option maxRecDepth 100000
set_option maxHeartbeats 4000000
/-! ### Sums on a path -/
def addA (x : Acct) (n : Int) : Acct := { x with usage := x.usage + n }
theorem addU_get (o : List Acct) (n x : Int) (j : Nat) : (addU o n x)[j]? = o[j]?.map fun y => addA y (if x.toNat = j then n else 0) := by
  unfold addU
  rw [List.getElem?_modify]
  cases o[j]? with
  | none => rfl
  | some y =>
    by_cases h : x.toNat = j
    · simp [h, addA]
    · simp [h, addA]
theorem foldU_get {n : Int} {j : Nat} : ∀ (p : List Int) (o : List Acct), p.Nodup → (∀ x ∈ p, 0 ≤ x) → (p.foldl (fun o x => addU o n x) o)[j]? = o[j]?.map fun y => addA y (if (j : Int) ∈ p then n else 0)
  | [], o, _, _ => by cases h : o[j]? <;> simp [h, addA]
  | x :: r, o, hn, h0 => by
    obtain ⟨hx, hr⟩ := List.nodup_cons.1 hn
    rw [List.foldl_cons, foldU_get r _ hr (fun y hy => h0 y (by simp [hy])), addU_get]
    have hx0 := h0 x (by simp)
    cases h : o[j]? with
    | none => rfl
    | some y =>
      simp only [Option.map_some, addA]
      by_cases h1 : (j : Int) ∈ r
      · have h2 : ¬ x.toNat = j := fun h => hx (by rwa [← h, Int.toNat_of_nonneg hx0] at h1)
        simp [h1, h2]
      · by_cases h2 : x.toNat = j
        · have h3 : (j : Int) = x := by omega
          simp [h1, h2, h3, hx]
        · have h3 : (j : Int) ≠ x := by omega
          simp [h1, h2, h3]
theorem addF_get {l : List Acct} {a n : Int} (h : isP l a) (j : Nat) : (addF l a n)[j]? = l[j]?.map fun y => addA y (if (j : Int) ∈ pathF l a then n else 0) :=
  foldU_get _ _ (pathF_nodup h) fun x hx => (pathF_in hx).1
theorem addF_at {l : List Acct} {a n : Int} (h : isP l a) {j : Nat} (hj : j < (addF l a n).length) (hj' : j < l.length) : (addF l a n)[j] = addA l[j] (if (j : Int) ∈ pathF l a then n else 0) := by
  have := addF_get (n := n) h j
  rw [List.getElem?_eq_getElem hj, List.getElem?_eq_getElem hj'] at this
  simpa using this
theorem addF_us {l : List Acct} {a n : Int} (h : isP l a) {j : Nat} (hj : j < l.length) : us (addF l a n) j = us l j + (if (j : Int) ∈ pathF l a then n else 0) := by
  have hj' : j < (addF l a n).length := by rw [addF_len]; exact hj
  rw [us_at hj', us_at hj, addF_at h hj' hj]; rfl
theorem addF_pa {l : List Acct} {a n : Int} (h : isP l a) (j : Nat) : pa (addF l a n) j = pa l j := by
  by_cases hj : j < l.length
  · have hj' : j < (addF l a n).length := by rw [addF_len]; exact hj
    rw [pa_at hj', pa_at hj, addF_at h hj' hj]; rfl
  · rw [pa, pa, dif_neg hj, dif_neg (by rw [addF_len]; exact hj)]
theorem addF_tree {l : List Acct} {a n : Int} (h : isP l a) : treeP (addF l a n) := by
  intro j hj hj'
  have hl : j < l.length := by rw [addF_len] at hj; exact hj
  have := (chk_ok h.1).2.1 j hl hl
  rw [addF_at h hj' hl]
  exact this
theorem kidsTo_add {l : List Acct} {a n : Int} (h : isP l a) (j : Nat) : ∀ c, c ≤ l.length → kidsTo (addF l a n) j c = kidsTo l j c + (if ∃ d : Nat, d < c ∧ 0 < d ∧ (d : Int) ∈ pathF l a ∧ pa l d = j then n else 0)
  | 0, _ => by
    rw [if_neg (by rintro ⟨d, h, _⟩; omega)]; rfl
  | c + 1, hc => by
    unfold kidsTo
    rw [kidsTo_add h j c (by omega), addF_pa h, addF_us h (by omega)]
    by_cases h1 : 0 < c ∧ pa l c = j
    · rw [if_pos h1, if_pos h1]
      by_cases h2 : (c : Int) ∈ pathF l a
      · rw [if_pos h2]
        have h3 : ¬ ∃ d : Nat, d < c ∧ 0 < d ∧ (d : Int) ∈ pathF l a ∧ pa l d = j := by
          rintro ⟨d, hd, hd0, hdm, hdp⟩
          have h4 := pathF_gap h h2 hdm (by omega)
          have h5 := pa_lt (chk_ok h.1).2.1 (a := (d : Int)) (by omega)
          simp only [Int.toNat_natCast] at h4 h5
          omega
        rw [if_neg h3, if_pos ⟨c, by omega, h1.1, h2, h1.2⟩]
        omega
      · rw [if_neg h2]
        have h3 : (∃ d : Nat, d < c + 1 ∧ 0 < d ∧ (d : Int) ∈ pathF l a ∧ pa l d = j) ↔ ∃ d : Nat, d < c ∧ 0 < d ∧ (d : Int) ∈ pathF l a ∧ pa l d = j := by
          constructor
          · rintro ⟨d, hd, h4⟩
            refine ⟨d, ?_, h4⟩
            rcases Nat.lt_succ_iff_lt_or_eq.1 hd with h5 | rfl
            · exact h5
            · exact absurd h4.2.1 h2
          · rintro ⟨d, hd, h4⟩; exact ⟨d, by omega, h4⟩
        simp only [h3]
        omega
    · rw [if_neg h1, if_neg h1]
      have h3 : (∃ d : Nat, d < c + 1 ∧ 0 < d ∧ (d : Int) ∈ pathF l a ∧ pa l d = j) ↔ ∃ d : Nat, d < c ∧ 0 < d ∧ (d : Int) ∈ pathF l a ∧ pa l d = j := by
        constructor
        · rintro ⟨d, hd, h4⟩
          refine ⟨d, ?_, h4⟩
          rcases Nat.lt_succ_iff_lt_or_eq.1 hd with h5 | rfl
          · exact h5
          · exact absurd ⟨h4.1, h4.2.2⟩ h1
        · rintro ⟨d, hd, h4⟩; exact ⟨d, by omega, h4⟩
      simp only [h3]
      omega
theorem kids_add {l : List Acct} {a n : Int} (h : isP l a) (j : Nat) : kids (addF l a n) j = kids l j + (if (j : Int) ∈ pathF l a ∧ (j : Int) ≠ a then n else 0) := by
  unfold kids
  rw [addF_len, kidsTo_add h j _ (Nat.le_refl _)]
  have : (∃ d : Nat, d < l.length ∧ 0 < d ∧ (d : Int) ∈ pathF l a ∧ pa l d = j) ↔ (j : Int) ∈ pathF l a ∧ (j : Int) ≠ a := by
    constructor
    · rintro ⟨d, h1, h2, h3, h4⟩
      have h5 := pathF_up h h3 (by rw [Int.toNat_natCast, h4]; omega)
      rw [Int.toNat_natCast, h4] at h5
      have h6 := pa_lt (chk_ok h.1).2.1 (a := (d : Int)) (by omega)
      have h7 := pathF_le h h3
      rw [Int.toNat_natCast] at h6
      exact ⟨h5, by omega⟩
    · rintro ⟨h1, h2⟩
      obtain ⟨c, h3, h4, h5⟩ := pathF_down h h1 h2
      have h6 := pathF_in h3
      exact ⟨c.toNat, by omega, by omega, by rw [Int.toNat_of_nonneg h6.1]; exact h3, h5⟩
  simp only [this]
theorem own_add {l : List Acct} {a n : Int} (h : isP l a) {j : Nat} (hj : j < l.length) : us (addF l a n) j - kids (addF l a n) j = us l j - kids l j + (if (j : Int) = a then n else 0) := by
  rw [addF_us h hj, kids_add h]
  by_cases h1 : (j : Int) = a
  · have := pathF_self h
    simp [h1, this]; omega
  · by_cases h2 : (j : Int) ∈ pathF l a
    · simp [h1, h2]; omega
    · simp [h1, h2]
theorem chk_add {l : List Acct} {a n : Int} (h : isP l a) (hp : ∀ j : Nat, (j : Int) ∈ pathF l a → 0 ≤ us l j + n ∧ us l j + n ≤ mx l j) (ho : 0 ≤ us l a.toNat - kids l a + n) : chkF (addF l a n) = 0 := by
  obtain ⟨h0, ht, ha, hm, hs⟩ := chk_ok h.1
  have hmem : ∀ {x : Acct}, x ∈ addF l a n → ∃ (j : Nat) (hj : j < l.length), x = addA l[j] (if (j : Int) ∈ pathF l a then n else 0) := by
    intro x hx
    obtain ⟨j, hj, rfl⟩ := List.mem_iff_getElem.1 hx
    have hj' : j < l.length := by rw [addF_len] at hj; exact hj
    exact ⟨j, hj', addF_at h hj hj'⟩
  refine chk_mk (by rw [addF_len]; exact h0) (addF_tree h) ⟨?_, ?_⟩ ?_ ?_
  · intro j hj hj'
    have hl : j < l.length := by rw [addF_len] at hj; exact hj
    have h1 := ha.1 j hl hl
    have h2 := mx_in ha.1 j
    have h3 := hp j
    rw [us_at hl] at h3
    rw [addF_at h hj' hl]
    unfold okA inR at h1
    unfold okA inR addA
    dsimp only
    split
    · have := h3 (by assumption); omega
    · omega
  · intro h1
    have := ha.2 h0.1
    rw [addF_at h h1 h0.1]
    exact this
  · intro x hx
    obtain ⟨j, hj, rfl⟩ := hmem hx
    have h2 := hm _ (List.getElem_mem hj)
    have h3 := hp j
    rw [us_at hj, mx_at hj] at h3
    unfold addA
    dsimp only
    split
    · exact (h3 (by assumption)).2
    · omega
  · intro j hj
    have hl : j < l.length := by rw [addF_len] at hj; exact hj
    have h1 := own_add (n := n) h hl
    have h2 := hs j hl
    by_cases h3 : (j : Int) = a
    · rw [if_pos h3] at h1
      subst h3
      rw [Int.toNat_natCast] at ho
      omega
    · rw [if_neg h3] at h1
      omega
/-! ### Charges that succeed -/
theorem stopL_none {l : List Acct} {n : Int} {p : List Int} : stopL l n p = none ↔ ∀ x ∈ p, n ≤ roomA l x := by
  unfold stopL
  rw [List.find?_eq_none]
  simp
def canP (l : List Acct) (a n : Int) : Prop := isP l a ∧ inR n ∧ ∀ x ∈ pathF l a, n ≤ roomA l x
theorem req_can {l : List Acct} {a n : Int} (h : isP l a) (hn : inR n) : reqF l a n = 0 := by rw [reqF, if_pos h.1, if_pos h, if_pos hn]
theorem chg_can {l : List Acct} {a n : Int} (h : canP l a n) : chgF l a n = (addF l a n, -1, 0) := by
  rw [chgF, if_pos (req_can h.1 h.2.1), stopL_none.2 h.2.2]
theorem can_chk {l : List Acct} {a n : Int} (h : canP l a n) : chkF (addF l a n) = 0 := by
  obtain ⟨h1, h2, h3⟩ := h
  obtain ⟨h0, ht, ha, hm, hs⟩ := chk_ok h1.1
  have h4 := h1.2
  refine chk_add h1 (fun j hj => ?_) ?_
  · have h5 := h3 _ hj
    have h6 := us_in ha.1 j
    unfold roomA at h5
    rw [Int.toNat_natCast] at h5
    unfold inR at h2
    omega
  · have h5 := hs a.toNat (by omega)
    rw [Int.toNat_of_nonneg h4.1] at h5
    unfold inR at h2
    omega
end Go.Proofs.Ytbepjnjfnmmpaaa
end
section
/- min -/
/- Asks: serving a queue. -/
set_option linter.unusedSimpArgs false
set_option linter.unusedVariables false
namespace Go.Proofs.Ytbepjnjfnmmpaaa
open Go.AM Classical
set_option maxRecDepth 100000
set_option maxHeartbeats 4000000
def fitP (a : Ask) (l : List Acct) (no al : Int) : Prop := (∀ x ∈ pathF l a.account, totA a ≤ roomA l x) ∧ a.kernel ≤ no ∧ totA a ≤ al
theorem sh_fit {a : Ask} {l : List Acct} {no al : Int} (hv : vaP a) (hc : chkF l = 0) (ha : a.account < l.length) : (shF a l no al).2 = 0 ∧ ((fitP a l no al ∧ (shF a l no al).1.1 = 0) ∨ (¬ fitP a l no al ∧ 0 < (shF a l no al).1.1)) := by
  unfold shF
  rw [if_pos hv, if_pos hc, if_pos ha]
  have hp : isP l a.account := ⟨hc, hv.2.1, ha⟩
  obtain ⟨_, _, ⟨k1, k2⟩, ⟨u1, u2⟩⟩ := hv
  cases hs : stopL l (totA a) (pathF l a.account) with
  | some x =>
    have h1 := List.find?_some hs
    have hm := List.mem_of_find?_eq_some hs
    have h1 : roomA l x < totA a := by simpa using h1
    refine ⟨rfl, .inr ⟨fun h => ?_, ?_⟩⟩
    · have := h.1 x hm; omega
    · show 0 < totA a - roomA l x; omega
  | none =>
    have h1 := stopL_none.1 hs
    dsimp only [Option.elim]
    have q1 : a.kernel ≤ capF no ↔ a.kernel ≤ no := by unfold capF; split <;> omega
    have q2 : totA a ≤ capF al ↔ totA a ≤ al := by unfold capF totA; split <;> omega
    unfold endF
    by_cases b1 : a.kernel > capF no
    · rw [if_pos b1]
      exact ⟨rfl, .inr ⟨fun h => by have := q1.2 h.2.1; omega, by show 0 < a.kernel - capF no; omega⟩⟩
    · rw [if_neg b1]
      by_cases b2 : totA a > capF al
      · rw [if_pos b2]
        exact ⟨rfl, .inr ⟨fun h => by have := q2.2 h.2.2; omega, by show 0 < totA a - capF al; omega⟩⟩
      · rw [if_neg b2]
        exact ⟨rfl, .inl ⟨⟨h1, q1.1 (by omega), q2.1 (by omega)⟩, rfl⟩⟩
theorem fit_can {a : Ask} {l : List Acct} {no al : Int} (hv : vaP a) (hc : chkF l = 0) (ha : a.account < l.length) (h : fitP a l no al) : canP l a.account (totA a) := by
  have hp : isP l a.account := ⟨hc, hv.2.1, ha⟩
  have h1 := h.1 a.account (pathF_self hp)
  have hm := (chk_ok hc).2.2.1
  have h2 := us_in hm.1 a.account.toNat
  have h3 := mx_in hm.1 a.account.toNat
  obtain ⟨_, _, ⟨k1, k2⟩, ⟨u1, u2⟩⟩ := hv
  unfold roomA at h1
  refine ⟨hp, ⟨?_, ?_⟩, h.1⟩
  · unfold totA; omega
  · omega
noncomputable def srvL : List Ask → List Acct → Int → Int → Nat × List Acct
  | [], l, _, _ => (0, l)
  | a :: r, l, no, al => if fitP a l no al then ((srvL r (addF l a.account (totA a)) (no - a.kernel) (al - totA a)).1 + 1, (srvL r (addF l a.account (totA a)) (no - a.kernel) (al - totA a)).2) else (0, l)
theorem srvL_cons (a : Ask) (r : List Ask) (l : List Acct) (no al : Int) : srvL (a :: r) l no al = if fitP a l no al then ((srvL r (addF l a.account (totA a)) (no - a.kernel) (al - totA a)).1 + 1, (srvL r (addF l a.account (totA a)) (no - a.kernel) (al - totA a)).2) else (0, l) := by rw [srvL]
noncomputable def srvF (q : List Ask) (l : List Acct) (no al : Int) : Nat × List Acct × Int :=
  if qchk q = 0 then (if chkF l = 0 then (if ∃ a ∈ q, l.length ≤ a.account then (0, [], 6) else ((srvL q l no al).1, (srvL q l no al).2, 0)) else (0, [], chkF l)) else (0, [], qchk q)
def srvR (r : Nat × List Acct × Int) : D := .tup [.int .i64 r.1, .ow 5 (r.2.1.flatMap Acct.cells) r.2.1.length, .int .i64 r.2.2]
theorem Fin_srv {t1 t2 t3 kg n : Nat} {e : Env} {h : Heap} {i x : Int} {g : List Acct} {k : Nat} (h1 : AM.get e t1 = some (.int .i64 i)) (h2 : AM.get e t2 = some (.sl kg 5 0 n)) (h3 : AM.get e t3 = some (.int .i64 x)) (hk : h kg = some (g.flatMap Acct.cells)) (hi : i = k) (hn : n = g.length) : AM.Fin [.tmp t1, .tmp t2, .tmp t3] (srvR (k, g, x)) X.ret ⟨e, h⟩ := by
  subst hi hn
  unfold srvR
  exact Fin_own trivial (ds := [.int .i64 k, .sl kg 5 0 g.length, .int .i64 x]) (by simp [resD, resL, h1, h2, h3]) hk (All2.cons (exc_v rfl rfl) (All2.cons (exc_o hk (accs_len g) (accs_scal g)) (All2.cons (exc_v rfl rfl) All2.nil))) (Nat.le_of_ble_eq_true rfl)
theorem serve1_c (a : Ask) (l : List Acct) : PCon Try.prog 41 [.agg a.cells, .vp [accs l] 0] (.bool (decide ((l.length : Int) ≤ a.account))) := by
  refine A41p (by simp [A41]) ?_
  simp only [A41, argEnv]
  obtain ⟨b, c, k, u⟩ := a
  dsimp only [Ask.cells]
  repeat' (first | (with_reducible first | refine W_seq ?_ | refine then_n ?_ | refine W_skip ?_ | refine W_ret ?_ | refine then_r ?_) | ((with_reducible refine s_reg ?_); intro K hK) | ((with_reducible refine k_nil ?_); (with_reducible apply s_nil hK); (· exact nmX); clear hK; clear K) | ((with_reducible refine k_mv ?_); (refine s_mv rfl ?_)) | ((with_reducible refine k_len ?_); (first | (refine s_len rfl rfl ?_) | ((with_reducible apply s_len); (· rfl); (· exact SlOwn.len (by assumption))) | ((with_reducible apply s_len); (· rfl); (· assumption)))) | ((with_reducible refine k_geq ?_); (refine s_geq rfl rfl ?_)) | ((with_reducible refine k_load ?_); (first | ((with_reducible apply s_loadV); (· rfl)) | ((with_reducible apply s_loadP); (· rfl); (· (exact hpX))))) | ((with_reducible refine k_faddr ?_); (first | ((with_reducible apply s_faddrV); (· rfl); (· rfl)) | ((with_reducible apply s_faddrP); (· rfl); (· rfl)))) | ((with_reducible refine k_box (dst := some 2) ?_); ((with_reducible apply s_box); (· rfl); (· rfl); intro k2 hk2; (try simp only [upd_none] at hk2))) | ((with_reducible refine k_br ?_); (first | (with_reducible first | refine Br_dec ?_ | refine Br_not ?_ | refine Br_eqF ?_ | refine Br_and ?_ | refine Br_or ?_ | refine Br_neg ?_ | refine Br_band ?_ | refine Br_bor ?_ | refine Br_beq ?_) | (refine Br_t (by first | with_reducible rfl | omega | assumption | rfl) ?_) | (refine Br_f (by first | omega | assumption | decide) ?_) | (with_reducible apply Br_sb <;> intro hbr <;> (first | subst hbr | simp only [hbr] | skip)) | (with_reducible apply Br_s <;> intro hbr))) | ((first | (with_reducible apply q_eqL) | (with_reducible apply q_eqO)); (first | exact liL | exact liO)))
  all_goals first | exact Fin_bt trivial rfl (by omega) | exact Fin_bf trivial rfl (by omega)
theorem srv_step {q : List Ask} {l g : List Acct} {no al n1 a1 : Int} {i : Nat} (hi : i < q.length) (hE : srvL q l no al = (i + (srvL (q.drop i) g n1 a1).1, (srvL (q.drop i) g n1 a1).2)) :
    (fitP q[i] g n1 a1 → srvL q l no al = (i + 1 + (srvL (q.drop (i + 1)) (addF g q[i].account (totA q[i])) (n1 - q[i].kernel) (a1 - totA q[i])).1, (srvL (q.drop (i + 1)) (addF g q[i].account (totA q[i])) (n1 - q[i].kernel) (a1 - totA q[i])).2)) ∧ (¬ fitP q[i] g n1 a1 → srvL q l no al = (i, g)) := by
  rw [List.drop_eq_getElem_cons hi, srvL_cons] at hE
  constructor
  · intro h
    rw [hE, if_pos h]
    congr 1
    dsimp only
    omega
  · intro h
    rw [hE, if_neg h]; rfl
theorem srv_end {q : List Ask} {l g : List Acct} {no al n1 a1 : Int} (hE : srvL q l no al = (q.length + (srvL (q.drop q.length) g n1 a1).1, (srvL (q.drop q.length) g n1 a1).2)) : srvL q l no al = (q.length, g) := by
  rw [List.drop_length] at hE
  rw [hE]; rfl
theorem serve_c (q : List Ask) (hl : q.length ≤ 100000) (l : List Acct) (hL : l.length ≤ 9223372036854775807) (no al : Int) (hno : no ≤ 9223372036854775807) (hal0 : al ≤ 9223372036854775807) : PCon Try.prog 17 [asks q, accs l, .int .i64 no, .int .i64 al] (srvR (srvF q l no al)) := by
  have c0 := gcheck_c q (by omega)
  have c1 := check_c l hL
  have c2 := acontf_c q (by omega) 41 (.vp [accs l] 0) (fun h => Rd_vp) (fun a => decide ((l.length : Int) ≤ a.account)) (fun a _ => serve1_c a l)
  have hql := asks_len q
  have hacl := accs_len l
  refine A17p (by simp [A17]) ?_
  simp only [A17, argEnv]
  unfold srvF
  by_cases h0 : qchk q = 0
  · rw [if_pos h0]
    rw [h0] at c0
    by_cases h1 : chkF l = 0
    · rw [if_pos h1]
      rw [h1] at c1
      have hlen := (chk_ok h1).1
      have c3 := clone_c l (by omega) (by omega)
      have hf : 0 ≤ firstI (fun a : Ask => decide ((l.length : Int) ≤ a.account)) q ↔ ∃ a ∈ q, l.length ≤ a.account := by
        rw [firstI_nn]; simp
      by_cases h2 : ∃ a ∈ q, l.length ≤ a.account
      · rw [if_pos h2]
        rw [decide_eq_true (hf.2 h2)] at c2
        unfold srvR
        repeat' (first | (with_reducible first | refine W_seq ?_ | refine then_n ?_ | refine W_block ?_ | refine blk_n ?_ | refine blk_r ?_ | refine blk_e ?_ | refine W_skip ?_ | refine W_ret ?_ | refine then_r ?_ | refine W_exit ?_ | refine then_e ?_) | ((with_reducible refine s_reg ?_); intro K hK) | ((with_reducible refine k_nil ?_); (with_reducible apply s_nil hK); (· exact nmX); clear hK; clear K) | ((with_reducible refine k_cond ?_); (first | ((with_reducible apply s_condT); (· rfl); (· exact nmX)) | ((with_reducible apply s_condF); (· rfl); (· exact nmX)) | ((with_reducible apply s_condS); (· rfl); (· exact nmX); (· exact nmX)))) | ((with_reducible refine k_mv ?_); (refine s_mv rfl ?_)) | ((with_reducible refine k_neq ?_); (first | (refine s_neq rfl rfl ?_) | (refine s_strNe rfl rfl ?_))) | ((with_reducible refine k_load ?_); (first | ((with_reducible apply s_loadV); (· rfl)) | ((with_reducible apply s_loadP); (· rfl); (· (exact hpX))))) | ((with_reducible refine k_box (dst := some 5) ?_); ((with_reducible apply s_box); (· rfl); (· rfl); intro k5 hk5; (try simp only [upd_none] at hk5))) | ((with_reducible refine k_mkfn ?_); ((with_reducible apply s_mkfn); (· rfl); (· rfl))) | ((with_reducible refine k_callF ?_); (first | ((with_reducible apply s_call1); (· rfl)) | ((with_reducible apply s_calln); (· rfl)))) | ((with_reducible refine k_con ?_); (first | ((with_reducible apply con_val (c0)); (· (repeat (first | exact All2.nil | (apply All2.cons; (· first | ((apply Rd_fnR); (· (repeat (first | exact All2.nil | (apply All2.cons; (· first | ((apply Rd_ptR); (· exact hpX); (· exact agX); (· (first | simp | (intro h; cases h) | skip))) | exact rdX))))); (· (repeat (first | exact All2.nil | (apply All2.cons; (· first | ((apply Rd_ptR); (· exact hpX); (· exact agX); (· (first | simp | (intro h; cases h) | skip))) | exact rdX)))))) | ((apply Rd_ptR); (· exact hpX); (· exact agX); (· (first | simp | (intro h; cases h) | skip))) | exact rdX))))); (· rfl); (· exact fun _ => rfl)) | ((with_reducible apply con_val (c1)); (· (repeat (first | exact All2.nil | (apply All2.cons; (· first | ((apply Rd_fnR); (· (repeat (first | exact All2.nil | (apply All2.cons; (· first | ((apply Rd_ptR); (· exact hpX); (· exact agX); (· (first | simp | (intro h; cases h) | skip))) | exact rdX))))); (· (repeat (first | exact All2.nil | (apply All2.cons; (· first | ((apply Rd_ptR); (· exact hpX); (· exact agX); (· (first | simp | (intro h; cases h) | skip))) | exact rdX)))))) | ((apply Rd_ptR); (· exact hpX); (· exact agX); (· (first | simp | (intro h; cases h) | skip))) | exact rdX))))); (· rfl); (· exact fun _ => rfl)) | ((with_reducible apply con_val (c2)); (· (repeat (first | exact All2.nil | (apply All2.cons; (· first | ((apply Rd_fnR); (· (repeat (first | exact All2.nil | (apply All2.cons; (· first | ((apply Rd_ptR); (· exact hpX); (· exact agX); (· (first | simp | (intro h; cases h) | skip))) | exact rdX))))); (· (repeat (first | exact All2.nil | (apply All2.cons; (· first | ((apply Rd_ptR); (· exact hpX); (· exact agX); (· (first | simp | (intro h; cases h) | skip))) | exact rdX)))))) | ((apply Rd_ptR); (· exact hpX); (· exact agX); (· (first | simp | (intro h; cases h) | skip))) | exact rdX))))); (· rfl); (· exact fun _ => rfl)))) | ((with_reducible refine k_br ?_); (first | (with_reducible first | refine Br_dec ?_ | refine Br_not ?_ | refine Br_eqF ?_ | refine Br_and ?_ | refine Br_or ?_ | refine Br_neg ?_ | refine Br_band ?_ | refine Br_bor ?_ | refine Br_beq ?_) | (refine Br_t (by first | with_reducible rfl | omega | assumption | rfl) ?_) | (refine Br_f (by first | omega | assumption | decide) ?_) | (with_reducible apply Br_sb <;> intro hbr <;> (first | subst hbr | simp only [hbr] | skip)) | (with_reducible apply Br_s <;> intro hbr))) | ((first | (with_reducible apply q_eqL) | (with_reducible apply q_eqO)); (first | exact liL | exact liO)))
        all_goals first | (exfalso; omega) | (first | exact Fin_flat trivial rfl rfl | (refine Fin_tup trivial rfl ?_ (Nat.le_of_ble_eq_true rfl); (repeat (first | exact All2.nil | (apply All2.cons; (· first | exact exc_n | exact exc_e | exact exc_v rfl rfl | exact exc_o upd_self rfl rfl)))); done) | (refine Fin_own trivial rfl upd_self ?_ (Nat.le_of_ble_eq_true rfl); (repeat (first | exact All2.nil | (apply All2.cons; (· first | exact exc_n | exact exc_e | exact exc_v rfl rfl | exact exc_o upd_self rfl rfl)))); done) | exact Fin_nil trivial rfl | exact Fin_sl trivial rfl upd_self rfl rfl)
      · rw [if_neg h2]
        rw [decide_eq_false (fun h => h2 (hf.1 h))] at c2
        have hva := (qchk_ok.1 h0).1
        have hac : ∀ i (hi : i < q.length), q[i].account < l.length := fun i hi => Classical.byContradiction fun h => h2 ⟨_, List.getElem_mem hi, by omega⟩
        clear hf h2
        repeat' (first | (with_reducible first | refine W_seq ?_ | refine then_n ?_ | refine W_block ?_ | refine blk_n ?_ | refine blk_r ?_ | refine blk_e ?_ | refine W_skip ?_ | refine W_ret ?_ | refine then_r ?_ | refine W_exit ?_ | refine then_e ?_) | ((with_reducible refine s_reg ?_); intro K hK) | ((with_reducible refine k_nil ?_); (with_reducible apply s_nil hK); (· exact nmX); clear hK; clear K) | ((with_reducible refine k_cond ?_); (first | ((with_reducible apply s_condT); (· rfl); (· exact nmX)) | ((with_reducible apply s_condF); (· rfl); (· exact nmX)) | ((with_reducible apply s_condS); (· rfl); (· exact nmX); (· exact nmX)))) | ((with_reducible refine k_mv ?_); (refine s_mv rfl ?_)) | ((with_reducible refine k_len ?_); (first | (refine s_len rfl rfl ?_) | ((with_reducible apply s_len); (· rfl); (· exact SlOwn.len (by assumption))) | ((with_reducible apply s_len); (· rfl); (· assumption)))) | ((with_reducible refine k_neq ?_); (first | (refine s_neq rfl rfl ?_) | (refine s_strNe rfl rfl ?_))) | ((with_reducible refine k_load ?_); (first | ((with_reducible apply s_loadV); (· rfl)) | ((with_reducible apply s_loadP); (· rfl); (· (exact hpX))))) | ((with_reducible refine k_store ?_); ((with_reducible apply s_store0); (· rfl); (· rfl); (· rfl); (· (exact hpX)); (· (exact ⟨rfl, by first | exact Nat.le_of_ble_eq_true rfl | omega | (simp; omega)⟩)); (· ((first | exact liL | exact liO))); (· (first | exact upd_upd | rfl)))) | ((with_reducible refine k_box (dst := some 5) ?_); ((with_reducible apply s_box); (· rfl); (· rfl); intro k5 hk5; (try simp only [upd_none] at hk5))) | ((with_reducible refine k_mkfn ?_); ((with_reducible apply s_mkfn); (· rfl); (· rfl))) | ((with_reducible refine k_callF ?_); (first | ((with_reducible apply s_call1); (· rfl)) | ((with_reducible apply s_calln); (· rfl)))) | ((with_reducible refine k_con ?_); (first | ((with_reducible apply con_val (c0)); (· (repeat (first | exact All2.nil | (apply All2.cons; (· first | ((apply Rd_fnR); (· (repeat (first | exact All2.nil | (apply All2.cons; (· first | ((apply Rd_ptR); (· exact hpX); (· exact agX); (· (first | simp | (intro h; cases h) | skip))) | exact rdX))))); (· (repeat (first | exact All2.nil | (apply All2.cons; (· first | ((apply Rd_ptR); (· exact hpX); (· exact agX); (· (first | simp | (intro h; cases h) | skip))) | exact rdX)))))) | ((apply Rd_ptR); (· exact hpX); (· exact agX); (· (first | simp | (intro h; cases h) | skip))) | exact rdX))))); (· rfl); (· exact fun _ => rfl)) | ((with_reducible apply con_val (c1)); (· (repeat (first | exact All2.nil | (apply All2.cons; (· first | ((apply Rd_fnR); (· (repeat (first | exact All2.nil | (apply All2.cons; (· first | ((apply Rd_ptR); (· exact hpX); (· exact agX); (· (first | simp | (intro h; cases h) | skip))) | exact rdX))))); (· (repeat (first | exact All2.nil | (apply All2.cons; (· first | ((apply Rd_ptR); (· exact hpX); (· exact agX); (· (first | simp | (intro h; cases h) | skip))) | exact rdX)))))) | ((apply Rd_ptR); (· exact hpX); (· exact agX); (· (first | simp | (intro h; cases h) | skip))) | exact rdX))))); (· rfl); (· exact fun _ => rfl)) | ((with_reducible apply con_val (c2)); (· (repeat (first | exact All2.nil | (apply All2.cons; (· first | ((apply Rd_fnR); (· (repeat (first | exact All2.nil | (apply All2.cons; (· first | ((apply Rd_ptR); (· exact hpX); (· exact agX); (· (first | simp | (intro h; cases h) | skip))) | exact rdX))))); (· (repeat (first | exact All2.nil | (apply All2.cons; (· first | ((apply Rd_ptR); (· exact hpX); (· exact agX); (· (first | simp | (intro h; cases h) | skip))) | exact rdX)))))) | ((apply Rd_ptR); (· exact hpX); (· exact agX); (· (first | simp | (intro h; cases h) | skip))) | exact rdX))))); (· rfl); (· exact fun _ => rfl)) | ((with_reducible apply con_of_pcon (c3)); (· (repeat (first | exact All2.nil | (apply All2.cons; (· first | ((apply Rd_fnR); (· (repeat (first | exact All2.nil | (apply All2.cons; (· first | ((apply Rd_ptR); (· exact hpX); (· exact agX); (· (first | simp | (intro h; cases h) | skip))) | exact rdX))))); (· (repeat (first | exact All2.nil | (apply All2.cons; (· first | ((apply Rd_ptR); (· exact hpX); (· exact agX); (· (first | simp | (intro h; cases h) | skip))) | exact rdX)))))) | ((apply Rd_ptR); (· exact hpX); (· exact agX); (· (first | simp | (intro h; cases h) | skip))) | exact rdX))))); intro kC hkC; (try simp only [upd_none] at hkC); simp only [thaw, thawC, List.map, thawH, owOf, owL]))) | ((with_reducible refine k_br ?_); (first | (with_reducible first | refine Br_dec ?_ | refine Br_not ?_ | refine Br_eqF ?_ | refine Br_and ?_ | refine Br_or ?_ | refine Br_neg ?_ | refine Br_band ?_ | refine Br_bor ?_ | refine Br_beq ?_) | (refine Br_t (by first | with_reducible rfl | omega | assumption | rfl) ?_) | (refine Br_f (by first | omega | assumption | decide) ?_) | (with_reducible apply Br_sb <;> intro hbr <;> (first | subst hbr | simp only [hbr] | skip)) | (with_reducible apply Br_s <;> intro hbr))) | ((first | (with_reducible apply q_eqL) | (with_reducible apply q_eqO)); (first | exact liL | exact liO)))
        all_goals first | (exfalso; omega) | skip
        refine W_for q.length (fun i st => ∃ h' g n1 a1 kg, srvL q l no al = (i + (srvL (q.drop i) g n1 a1).1, (srvL (q.drop i) g n1 a1).2) ∧ chkF g = 0 ∧ g.length = l.length ∧ (n1 ≤ 9223372036854775807 ∧ a1 ≤ 9223372036854775807) ∧
          st = ⟨[(0, asks q), (2, .int .i64 n1), (3, .int .i64 a1), (5, .pt k5 0), (33, asks q), (34, .int .i64 q.length), (35, .int .i64 i)], h'⟩ ∧ h' k5 = some [.sl kg 5 0 l.length] ∧ h' kg = some (g.flatMap Acct.cells)) ⟨_, l, no, al, kC, by simp, h1, rfl, ⟨hno, hal0⟩, rfl, upd_self, by rw [upd_ne hkC.1, upd_self]⟩ ?_ ?_
        · rintro i e' h' hi ⟨hh, g, n1, a1, kg, hE, hg, hgl, ⟨b1, b2⟩, he, j5, jg⟩
          cases he
          obtain ⟨s1, s2⟩ := srv_step hi hE
          have hrow := akr hi
          have hvi := hva _ (List.getElem_mem hi)
          have hai : q[i].account < g.length := by rw [hgl]; exact hac i hi
          have cS := short_c q[i] g (by omega) n1 a1
          obtain ⟨f0, f1⟩ := sh_fit (no := n1) (al := a1) hvi hg hai
          have hgc := accs_len g
          have hgs := accs_scal g
          rw [hgl] at hgc
          by_cases hfit : fitP q[i] g n1 a1
          · have hE2 := s1 hfit
            have hz : (shF q[i] g n1 a1).1.1 = 0 := f1.elim (fun h => h.2) (fun h => absurd hfit h.1)
            have hcan := fit_can hvi hg hai hfit
            have cC := charge_c g (by omega) q[i].account (totA q[i])
            rw [chg_can hcan] at cC
            have hg2 := can_chk hcan
            have hl2 := addF_len g q[i].account (totA q[i])
            have hb1 := hfit.2.1
            have hb2 := hfit.2.2
            have hk0 := hvi.2.2
            unfold inR at hk0
            simp only [chgR, hl2] at cC
            clear s1 s2 f1 hE hcan hfit
            generalize shF q[i] g n1 a1 = z at *
            obtain ⟨⟨z1, z2, z3⟩, z4⟩ := z
            dsimp only at hz f0
            subst hz f0
            simp only [shR, accs, hgl] at cS cC hl2
            have hga := accs_len (addF g q[i].account (totA q[i]))
            rw [hl2] at hga
            generalize addF g q[i].account (totA q[i]) = G at *
            generalize q[i] = a at *
            obtain ⟨pr, ac, k, u⟩ := a
            dsimp only [Ask.cells, totA] at cS cC hrow hk0 hb1 hb2 hE2
            repeat' (first | (with_reducible first | refine W_seq ?_ | refine then_n ?_ | refine W_block ?_ | refine blk_n ?_ | refine blk_r ?_ | refine blk_e ?_ | refine W_skip ?_ | refine W_ret ?_ | refine then_r ?_ | refine W_exit ?_ | refine then_e ?_) | ((with_reducible refine s_reg ?_); intro K hK) | ((with_reducible refine k_nil ?_); (with_reducible apply s_nil hK); (· exact nmX); clear hK; clear K) | ((with_reducible refine k_cond ?_); (first | ((with_reducible apply s_condT); (· rfl); (· exact nmX)) | ((with_reducible apply s_condF); (· rfl); (· exact nmX)) | ((with_reducible apply s_condS); (· rfl); (· exact nmX); (· exact nmX)))) | ((with_reducible refine k_mv ?_); (refine s_mv rfl ?_)) | ((with_reducible refine k_extract ?_); (refine s_extract rfl rfl ?_)) | ((with_reducible refine k_lss ?_); (refine s_lss rfl rfl ?_)) | ((with_reducible refine k_gtr ?_); (refine s_gtr rfl rfl ?_)) | ((with_reducible refine k_iaddr ?_); (first | ((with_reducible apply s_iaddrV); (· rfl); (· rfl); (· (first | omega | exact ⟨rfl, by omega⟩ | skip))) | ((with_reducible apply s_iaddrO); (· rfl); (· rfl); (· (first | omega | exact ⟨rfl, by omega⟩ | skip)); (· (exact hpX))) | ((with_reducible apply s_iaddrSO); (· rfl); (· assumption); (· rfl); (· (first | omega | exact ⟨rfl, by omega⟩ | skip)); (· (first | (simp (disch := omega) only [w64, wu8, wu16, wu32, wu64, tm_nn, td_nn, fd_nn, Int.reduceAdd, Int.reduceSub, Int.reduceMul, Int.reduceDiv, Int.reduceMod, Int.reduceNeg, Int.reduceToNat, Int.toNat_natCast, Int.toNat_zero, Int.zero_add, Int.add_zero, Int.one_mul, Int.reducePow, Nat.mul_one, Nat.zero_add, Nat.add_zero, Nat.zero_mul, Nat.reduceAdd, Nat.reduceMul, Nat.reduceSub, Nat.min_eq_left, IntKind.bits, Nat.sub_zero, hrow]; try rfl; done) | rfl)); intro ks hks))) | ((with_reducible refine k_load ?_); (first | ((with_reducible apply s_loadV); (· rfl)) | ((with_reducible apply s_loadP); (· rfl); (· (exact hpX))))) | ((with_reducible refine k_loadA ?_); (first | ((with_reducible apply s_loadAV); (· rfl); (· (first | exact Nat.le_of_ble_eq_true rfl | decide | omega | (simp; done) | (simp; omega) | skip))) | ((with_reducible apply s_loadAP); (· rfl); (· (exact hpX)); (· (first | exact Nat.le_of_ble_eq_true rfl | decide | omega | (simp; done) | (simp; omega) | skip))))) | ((with_reducible refine k_add ?_); ((with_reducible apply s_add); (· rfl); (· rfl))) | ((with_reducible refine k_sub ?_); ((with_reducible apply s_sub); (· rfl); (· rfl))) | ((with_reducible refine k_store ?_); ((with_reducible apply s_store0); (· rfl); (· rfl); (· rfl); (· (exact hpX)); (· (exact ⟨rfl, by first | exact Nat.le_of_ble_eq_true rfl | omega | (simp [hrow]; omega)⟩)); (· ((first | (simp (disch := omega) only [upd_self, upd_ne, upd_upd, rep, splice, List.take_succ_cons, List.take_zero, List.drop_succ_cons, List.drop_zero, List.cons_append, List.nil_append, List.append_nil, List.length_cons, List.length_nil, List.reduceReplicate, List.flatten_cons, List.flatten_nil, Nat.reduceAdd, Nat.reduceMul, Nat.reduceSub, Nat.zero_add, Nat.add_zero, List.getElem?_cons_zero, List.getElem?_cons_succ, hrow]; try rfl; done) | rfl))); (· (first | exact upd_upd | rfl)))) | ((with_reducible refine k_faddr ?_); (first | ((with_reducible apply s_faddrV); (· rfl); (· rfl)) | ((with_reducible apply s_faddrP); (· rfl); (· rfl)))) | ((with_reducible refine k_alloc (dst := some 14) ?_); ((with_reducible apply s_alloc); intro k14 hk14; (try simp only [upd_none] at hk14))) | ((with_reducible refine k_alloc (dst := some 15) ?_); ((with_reducible apply s_alloc); intro k15 hk15; (try simp only [upd_none] at hk15))) | ((with_reducible refine k_callF ?_); (first | ((with_reducible apply s_call1); (· rfl)) | ((with_reducible apply s_calln); (· rfl)))) | ((with_reducible refine k_con ?_); (first | ((with_reducible apply con_val (cS)); (· (repeat (first | exact All2.nil | (apply All2.cons; (· first | exact Rd_int | exact Rd_bool | exact Rd_vs | exact Rd_nil | exact Rd_emp | exact Rd_vp | exact Rd_sl0 upd_self rfl rfl | exact Rd_fn0 | exact Rd_flat rfl | ((apply Rd_sl0); (· (exact hpX)); (· first | rfl | exact scal_i | exact scal_b | assumption); (· first | rfl | assumption | (simp [hrow]; done) | (simp [hrow]; omega))) | ((apply Rd_so); (· first | assumption | ((repeat' (first | assumption | (with_reducible apply SlOwn.upd) | (simp only [upd_none]; assumption))); done)); (· first | rfl | exact scal_i | exact scal_b | assumption))))))); (· rfl); (· exact fun _ => rfl)) | ((with_reducible apply con_of_pcon (cC)); (· (repeat (first | exact All2.nil | (apply All2.cons; (· first | exact Rd_int | exact Rd_bool | exact Rd_vs | exact Rd_nil | exact Rd_emp | exact Rd_vp | exact Rd_sl0 upd_self rfl rfl | exact Rd_fn0 | exact Rd_flat rfl | ((apply Rd_sl0); (· (exact hpX)); (· first | rfl | exact scal_i | exact scal_b | assumption); (· first | rfl | assumption | (simp [hrow]; done) | (simp [hrow]; omega))) | ((apply Rd_so); (· first | assumption | ((repeat' (first | assumption | (with_reducible apply SlOwn.upd) | (simp only [upd_none]; assumption))); done)); (· first | rfl | exact scal_i | exact scal_b | assumption))))))); intro kN hkN; (try simp only [upd_none] at hkN); simp only [thaw, thawC, List.map, thawH, owOf, owL]))) | ((with_reducible refine k_br ?_); (first | (with_reducible first | refine Br_dec ?_ | refine Br_not ?_ | refine Br_eqF ?_ | refine Br_and ?_ | refine Br_or ?_ | refine Br_neg ?_ | refine Br_band ?_ | refine Br_bor ?_ | refine Br_beq ?_) | (refine Br_t (by first | with_reducible rfl | omega | assumption | rfl) ?_) | (refine Br_f (by first | omega | assumption | decide) ?_) | (with_reducible apply Br_sb <;> intro hbr <;> (first | subst hbr | simp only [hbr] | skip)) | (with_reducible apply Br_s <;> intro hbr))) | ((first | (with_reducible apply q_eqI) | (with_reducible apply q_eqN)); (first | (simp (disch := omega) only [w64, wu8, wu16, wu32, wu64, tm_nn, td_nn, fd_nn, Int.reduceAdd, Int.reduceSub, Int.reduceMul, Int.reduceDiv, Int.reduceMod, Int.reduceNeg, Int.reduceToNat, Int.toNat_natCast, Int.toNat_zero, Int.zero_add, Int.add_zero, Int.one_mul, Int.reducePow, Nat.mul_one, Nat.zero_add, Nat.add_zero, Nat.zero_mul, Nat.reduceAdd, Nat.reduceMul, Nat.reduceSub, Nat.min_eq_left, IntKind.bits, Nat.sub_zero, hrow]; try rfl; done) | rfl)) | ((first | (with_reducible apply q_eqL) | (with_reducible apply q_eqO)); (first | (simp (disch := omega) only [upd_self, upd_ne, upd_upd, rep, splice, List.take_succ_cons, List.take_zero, List.drop_succ_cons, List.drop_zero, List.cons_append, List.nil_append, List.append_nil, List.length_cons, List.length_nil, List.reduceReplicate, List.flatten_cons, List.flatten_nil, Nat.reduceAdd, Nat.reduceMul, Nat.reduceSub, Nat.zero_add, Nat.add_zero, List.getElem?_cons_zero, List.getElem?_cons_succ, hrow]; try rfl; done) | rfl)))
            all_goals first | (exfalso; omega) | skip
            all_goals exact ⟨_, G, n1 - k, a1 - (k + u), kN, hE2, hg2, hl2, ⟨by omega, by omega⟩, rfl, upd_self, hpX⟩
          · have hE2 := s2 hfit
            have hz : 0 < (shF q[i] g n1 a1).1.1 := f1.elim (fun h => absurd h.1 hfit) (fun h => h.2)
            rw [hE2]
            clear s1 s2 f1 hE
            generalize shF q[i] g n1 a1 = z at *
            obtain ⟨⟨z1, z2, z3⟩, z4⟩ := z
            dsimp only at hz f0
            subst f0
            simp only [shR, accs, hgl] at cS
            generalize q[i] = a at *
            obtain ⟨pr, ac, k, u⟩ := a
            dsimp only [Ask.cells] at cS hrow
            repeat' (first | (with_reducible first | refine W_seq ?_ | refine then_n ?_ | refine W_block ?_ | refine blk_n ?_ | refine blk_r ?_ | refine blk_e ?_ | refine W_skip ?_ | refine W_ret ?_ | refine then_r ?_ | refine W_exit ?_ | refine then_e ?_) | ((with_reducible refine s_reg ?_); intro K hK) | ((with_reducible refine k_nil ?_); (with_reducible apply s_nil hK); (· exact nmX); clear hK; clear K) | ((with_reducible refine k_cond ?_); (first | ((with_reducible apply s_condT); (· rfl); (· exact nmX)) | ((with_reducible apply s_condF); (· rfl); (· exact nmX)) | ((with_reducible apply s_condS); (· rfl); (· exact nmX); (· exact nmX)))) | ((with_reducible refine k_mv ?_); (refine s_mv rfl ?_)) | ((with_reducible refine k_extract ?_); (refine s_extract rfl rfl ?_)) | ((with_reducible refine k_lss ?_); (refine s_lss rfl rfl ?_)) | ((with_reducible refine k_gtr ?_); (refine s_gtr rfl rfl ?_)) | ((with_reducible refine k_iaddr ?_); (first | ((with_reducible apply s_iaddrV); (· rfl); (· rfl); (· (first | omega | exact ⟨rfl, by omega⟩ | skip))) | ((with_reducible apply s_iaddrO); (· rfl); (· rfl); (· (first | omega | exact ⟨rfl, by omega⟩ | skip)); (· (exact hpX))) | ((with_reducible apply s_iaddrSO); (· rfl); (· assumption); (· rfl); (· (first | omega | exact ⟨rfl, by omega⟩ | skip)); (· (first | (simp (disch := omega) only [w64, wu8, wu16, wu32, wu64, tm_nn, td_nn, fd_nn, Int.reduceAdd, Int.reduceSub, Int.reduceMul, Int.reduceDiv, Int.reduceMod, Int.reduceNeg, Int.reduceToNat, Int.toNat_natCast, Int.toNat_zero, Int.zero_add, Int.add_zero, Int.one_mul, Int.reducePow, Nat.mul_one, Nat.zero_add, Nat.add_zero, Nat.zero_mul, Nat.reduceAdd, Nat.reduceMul, Nat.reduceSub, Nat.min_eq_left, IntKind.bits, Nat.sub_zero, hrow]; try rfl; done) | rfl)); intro ks hks))) | ((with_reducible refine k_load ?_); (first | ((with_reducible apply s_loadV); (· rfl)) | ((with_reducible apply s_loadP); (· rfl); (· (exact hpX))))) | ((with_reducible refine k_loadA ?_); (first | ((with_reducible apply s_loadAV); (· rfl); (· (first | exact Nat.le_of_ble_eq_true rfl | decide | omega | (simp; done) | (simp; omega) | skip))) | ((with_reducible apply s_loadAP); (· rfl); (· (exact hpX)); (· (first | exact Nat.le_of_ble_eq_true rfl | decide | omega | (simp; done) | (simp; omega) | skip))))) | ((with_reducible refine k_store ?_); ((with_reducible apply s_store0); (· rfl); (· rfl); (· rfl); (· (exact hpX)); (· (exact ⟨rfl, by first | exact Nat.le_of_ble_eq_true rfl | omega | (simp [hrow]; omega)⟩)); (· ((first | (simp (disch := omega) only [upd_self, upd_ne, upd_upd, rep, splice, List.take_succ_cons, List.take_zero, List.drop_succ_cons, List.drop_zero, List.cons_append, List.nil_append, List.append_nil, List.length_cons, List.length_nil, List.reduceReplicate, List.flatten_cons, List.flatten_nil, Nat.reduceAdd, Nat.reduceMul, Nat.reduceSub, Nat.zero_add, Nat.add_zero, List.getElem?_cons_zero, List.getElem?_cons_succ, hrow]; try rfl; done) | rfl))); (· (first | exact upd_upd | rfl)))) | ((with_reducible refine k_faddr ?_); (first | ((with_reducible apply s_faddrV); (· rfl); (· rfl)) | ((with_reducible apply s_faddrP); (· rfl); (· rfl)))) | ((with_reducible refine k_alloc (dst := some 14) ?_); ((with_reducible apply s_alloc); intro k14 hk14; (try simp only [upd_none] at hk14))) | ((with_reducible refine k_alloc (dst := some 15) ?_); ((with_reducible apply s_alloc); intro k15 hk15; (try simp only [upd_none] at hk15))) | ((with_reducible refine k_callF ?_); (first | ((with_reducible apply s_call1); (· rfl)) | ((with_reducible apply s_calln); (· rfl)))) | ((with_reducible refine k_con ?_); (first | ((with_reducible apply con_val (cS)); (· (repeat (first | exact All2.nil | (apply All2.cons; (· first | ((apply Rd_sl0); (· exact hpX); (· first | rfl | exact scal_i | exact scal_b | assumption); (· first | rfl | assumption | (simp [hrow]; done) | (simp [hrow]; omega))) | exact rdX))))); (· rfl); (· exact fun _ => rfl)))) | ((with_reducible refine k_dreg ?_); refine s_dreg rfl rfl ?_; intro K hK) | ((with_reducible refine k_dnil ?_); (with_reducible apply d_nil hK); (· exact nmX); clear hK; clear K) | ((with_reducible refine k_dop ?_); refine d_step (by first | exact Or.inl rfl | exact Or.inr rfl) ?_) | (with_reducible refine d_back ?_) | ((with_reducible refine k_br ?_); (first | (with_reducible first | refine Br_dec ?_ | refine Br_not ?_ | refine Br_eqF ?_ | refine Br_and ?_ | refine Br_or ?_ | refine Br_neg ?_ | refine Br_band ?_ | refine Br_bor ?_ | refine Br_beq ?_) | (refine Br_t (by first | with_reducible rfl | omega | assumption | rfl) ?_) | (refine Br_f (by first | omega | assumption | decide) ?_) | (with_reducible apply Br_sb <;> intro hbr <;> (first | subst hbr | simp only [hbr] | skip)) | (with_reducible apply Br_s <;> intro hbr))) | ((first | (with_reducible apply q_eqI) | (with_reducible apply q_eqN)); (first | (simp (disch := omega) only [w64, wu8, wu16, wu32, wu64, tm_nn, td_nn, fd_nn, Int.reduceAdd, Int.reduceSub, Int.reduceMul, Int.reduceDiv, Int.reduceMod, Int.reduceNeg, Int.reduceToNat, Int.toNat_natCast, Int.toNat_zero, Int.zero_add, Int.add_zero, Int.one_mul, Int.reducePow, Nat.mul_one, Nat.zero_add, Nat.add_zero, Nat.zero_mul, Nat.reduceAdd, Nat.reduceMul, Nat.reduceSub, Nat.min_eq_left, IntKind.bits, Nat.sub_zero, hrow]; try rfl; done) | rfl)) | ((first | (with_reducible apply q_eqL) | (with_reducible apply q_eqO)); (first | (simp (disch := omega) only [upd_self, upd_ne, upd_upd, rep, splice, List.take_succ_cons, List.take_zero, List.drop_succ_cons, List.drop_zero, List.cons_append, List.nil_append, List.append_nil, List.length_cons, List.length_nil, List.reduceReplicate, List.flatten_cons, List.flatten_nil, Nat.reduceAdd, Nat.reduceMul, Nat.reduceSub, Nat.zero_add, Nat.add_zero, List.getElem?_cons_zero, List.getElem?_cons_succ, hrow]; try rfl; done) | rfl)))
            all_goals first | (exfalso; omega) | exact Fin_srv rfl rfl rfl hpX rfl hgl.symm
        · rintro e' h' ⟨hh, g, n1, a1, kg, hE, hg, hgl, ⟨b1, b2⟩, he, j5, jg⟩
          cases he
          rw [srv_end hE]
          repeat' (first | (with_reducible first | refine W_seq ?_ | refine then_n ?_ | refine W_block ?_ | refine blk_n ?_ | refine blk_r ?_ | refine blk_e ?_ | refine W_skip ?_ | refine W_ret ?_ | refine then_r ?_ | refine W_exit ?_ | refine then_e ?_) | ((with_reducible refine s_reg ?_); intro K hK) | ((with_reducible refine k_nil ?_); (with_reducible apply s_nil hK); (· exact nmX); clear hK; clear K) | ((with_reducible refine k_cond ?_); (first | ((with_reducible apply s_condT); (· rfl); (· exact nmX)) | ((with_reducible apply s_condF); (· rfl); (· exact nmX)) | ((with_reducible apply s_condS); (· rfl); (· exact nmX); (· exact nmX)))) | ((with_reducible refine k_mv ?_); (refine s_mv rfl ?_)) | ((with_reducible refine k_len ?_); (first | (refine s_len rfl rfl ?_) | ((with_reducible apply s_len); (· rfl); (· exact SlOwn.len (by assumption))) | ((with_reducible apply s_len); (· rfl); (· assumption)))) | ((with_reducible refine k_lss ?_); (refine s_lss rfl rfl ?_)) | ((with_reducible refine k_load ?_); (first | ((with_reducible apply s_loadV); (· rfl)) | ((with_reducible apply s_loadP); (· rfl); (· (exact hpX))))) | ((with_reducible refine k_dreg ?_); refine s_dreg rfl rfl ?_; intro K hK) | ((with_reducible refine k_dnil ?_); (with_reducible apply d_nil hK); (· exact nmX); clear hK; clear K) | ((with_reducible refine k_dop ?_); refine d_step (by first | exact Or.inl rfl | exact Or.inr rfl) ?_) | (with_reducible refine d_back ?_) | ((with_reducible refine k_br ?_); (first | (with_reducible first | refine Br_dec ?_ | refine Br_not ?_ | refine Br_eqF ?_ | refine Br_and ?_ | refine Br_or ?_ | refine Br_neg ?_ | refine Br_band ?_ | refine Br_bor ?_ | refine Br_beq ?_) | (refine Br_t (by first | with_reducible rfl | omega | assumption | rfl) ?_) | (refine Br_f (by first | omega | assumption | decide) ?_) | (with_reducible apply Br_sb <;> intro hbr <;> (first | subst hbr | simp only [hbr] | skip)) | (with_reducible apply Br_s <;> intro hbr))) | ((first | (with_reducible apply q_eqL) | (with_reducible apply q_eqO)); (first | exact liL | exact liO)))
          all_goals first | (exfalso; omega) | exact Fin_srv rfl rfl rfl jg rfl hgl.symm
    · rw [if_neg h1]
      generalize chkF l = e at *
      unfold srvR
      repeat' (first | (with_reducible first | refine W_seq ?_ | refine then_n ?_ | refine W_block ?_ | refine blk_n ?_ | refine blk_r ?_ | refine blk_e ?_ | refine W_skip ?_ | refine W_ret ?_ | refine then_r ?_ | refine W_exit ?_ | refine then_e ?_) | ((with_reducible refine s_reg ?_); intro K hK) | ((with_reducible refine k_nil ?_); (with_reducible apply s_nil hK); (· exact nmX); clear hK; clear K) | ((with_reducible refine k_cond ?_); (first | ((with_reducible apply s_condT); (· rfl); (· exact nmX)) | ((with_reducible apply s_condF); (· rfl); (· exact nmX)) | ((with_reducible apply s_condS); (· rfl); (· exact nmX); (· exact nmX)))) | ((with_reducible refine k_mv ?_); (refine s_mv rfl ?_)) | ((with_reducible refine k_neq ?_); (first | (refine s_neq rfl rfl ?_) | (refine s_strNe rfl rfl ?_))) | ((with_reducible refine k_load ?_); (first | ((with_reducible apply s_loadV); (· rfl)) | ((with_reducible apply s_loadP); (· rfl); (· (exact hpX))))) | ((with_reducible refine k_box (dst := some 5) ?_); ((with_reducible apply s_box); (· rfl); (· rfl); intro k5 hk5; (try simp only [upd_none] at hk5))) | ((with_reducible refine k_callF ?_); (first | ((with_reducible apply s_call1); (· rfl)) | ((with_reducible apply s_calln); (· rfl)))) | ((with_reducible refine k_con ?_); (first | ((with_reducible apply con_val (c0)); (· (exact agX)); (· rfl); (· exact fun _ => rfl)) | ((with_reducible apply con_val (c1)); (· (exact agX)); (· rfl); (· exact fun _ => rfl)))) | ((with_reducible refine k_br ?_); (first | (with_reducible first | refine Br_dec ?_ | refine Br_not ?_ | refine Br_eqF ?_ | refine Br_and ?_ | refine Br_or ?_ | refine Br_neg ?_ | refine Br_band ?_ | refine Br_bor ?_ | refine Br_beq ?_) | (refine Br_t (by first | with_reducible rfl | omega | assumption | rfl) ?_) | (refine Br_f (by first | omega | assumption | decide) ?_) | (with_reducible apply Br_sb <;> intro hbr <;> (first | subst hbr | simp only [hbr] | skip)) | (with_reducible apply Br_s <;> intro hbr))) | ((first | (with_reducible apply q_eqL) | (with_reducible apply q_eqO)); (first | exact liL | exact liO)))
      all_goals first | (exfalso; omega) | (first | exact Fin_flat trivial rfl rfl | (refine Fin_tup trivial rfl ?_ (Nat.le_of_ble_eq_true rfl); (repeat (first | exact All2.nil | (apply All2.cons; (· first | exact exc_n | exact exc_e | exact exc_v rfl rfl | exact exc_o upd_self rfl rfl)))); done) | (refine Fin_own trivial rfl upd_self ?_ (Nat.le_of_ble_eq_true rfl); (repeat (first | exact All2.nil | (apply All2.cons; (· first | exact exc_n | exact exc_e | exact exc_v rfl rfl | exact exc_o upd_self rfl rfl)))); done) | exact Fin_nil trivial rfl | exact Fin_sl trivial rfl upd_self rfl rfl)
  · rw [if_neg h0]
    generalize qchk q = e at *
    unfold srvR
    repeat' (first | (with_reducible first | refine W_seq ?_ | refine then_n ?_ | refine W_block ?_ | refine blk_n ?_ | refine blk_r ?_ | refine blk_e ?_ | refine W_skip ?_ | refine W_ret ?_ | refine then_r ?_ | refine W_exit ?_ | refine then_e ?_) | ((with_reducible refine s_reg ?_); intro K hK) | ((with_reducible refine k_nil ?_); (with_reducible apply s_nil hK); (· exact nmX); clear hK; clear K) | ((with_reducible refine k_cond ?_); (first | ((with_reducible apply s_condT); (· rfl); (· exact nmX)) | ((with_reducible apply s_condF); (· rfl); (· exact nmX)) | ((with_reducible apply s_condS); (· rfl); (· exact nmX); (· exact nmX)))) | ((with_reducible refine k_mv ?_); (refine s_mv rfl ?_)) | ((with_reducible refine k_neq ?_); (first | (refine s_neq rfl rfl ?_) | (refine s_strNe rfl rfl ?_))) | ((with_reducible refine k_box (dst := some 5) ?_); ((with_reducible apply s_box); (· rfl); (· rfl); intro k5 hk5; (try simp only [upd_none] at hk5))) | ((with_reducible refine k_callF ?_); (first | ((with_reducible apply s_call1); (· rfl)) | ((with_reducible apply s_calln); (· rfl)))) | ((with_reducible refine k_con ?_); (first | ((with_reducible apply con_val (c0)); (· (exact agX)); (· rfl); (· exact fun _ => rfl)))) | ((with_reducible refine k_br ?_); (first | (with_reducible first | refine Br_dec ?_ | refine Br_not ?_ | refine Br_eqF ?_ | refine Br_and ?_ | refine Br_or ?_ | refine Br_neg ?_ | refine Br_band ?_ | refine Br_bor ?_ | refine Br_beq ?_) | (refine Br_t (by first | with_reducible rfl | omega | assumption | rfl) ?_) | (refine Br_f (by first | omega | assumption | decide) ?_) | (with_reducible apply Br_sb <;> intro hbr <;> (first | subst hbr | simp only [hbr] | skip)) | (with_reducible apply Br_s <;> intro hbr))))
    all_goals first | (exfalso; omega) | (first | exact Fin_flat trivial rfl rfl | (refine Fin_tup trivial rfl ?_ (Nat.le_of_ble_eq_true rfl); (repeat (first | exact All2.nil | (apply All2.cons; (· first | exact exc_n | exact exc_e | exact exc_v rfl rfl | exact exc_o upd_self rfl rfl)))); done) | (refine Fin_own trivial rfl upd_self ?_ (Nat.le_of_ble_eq_true rfl); (repeat (first | exact All2.nil | (apply All2.cons; (· first | exact exc_n | exact exc_e | exact exc_v rfl rfl | exact exc_o upd_self rfl rfl)))); done) | exact Fin_nil trivial rfl | exact Fin_sl trivial rfl upd_self rfl rfl)
end Go.Proofs.Ytbepjnjfnmmpaaa
end
section
/- Asks: the reference serves a queue. -/
set_option linter.unusedSimpArgs false
set_option linter.unusedVariables false
namespace Go.Proofs.Ytbepjnjfnmmpaaa
open Go.AM Classical
set_option maxRecDepth 100000
set_option maxHeartbeats 4000000
end Go.Proofs.Ytbepjnjfnmmpaaa
end
section
/- Asks: the example; the laws GrantShorts and GrantServes. -/
set_option linter.unusedSimpArgs false
set_option linter.unusedVariables false
namespace Go.Proofs.Ytbepjnjfnmmpaaa
open Go.AM Classical
set_option maxRecDepth 100000
set_option maxHeartbeats 4000000
abbrev Q2 : List Ask := [⟨2, 1, 1, 1⟩, ⟨3, 1, 1, 1⟩]
end Go.Proofs.Ytbepjnjfnmmpaaa
end
section
/- Protection: sums over the tree, effective guarantees, who is guarded. -/
set_option linter.unusedSimpArgs false
set_option linter.unusedVariables false
namespace Go.Proofs.Ytbepjnjfnmmpaaa
open Go.AM Classical
set_option maxRecDepth 100000
set_option maxHeartbeats 4000000
end Go.Proofs.Ytbepjnjfnmmpaaa
end
section
/- Protection: plain laws. -/
set_option linter.unusedSimpArgs false
set_option linter.unusedVariables false
namespace Go.Proofs.Ytbepjnjfnmmpaaa
open Go.AM Classical
set_option maxRecDepth 100000
set_option maxHeartbeats 4000000
theorem pathG_fuel {l : List Acct} (ht : treeP l) : ∀ (f g : Nat) (a : Int), a < f → a < g → a < l.length → pathG l f a = pathG l g a
  | 0, 0, _, _, _, _ => rfl
  | 0, g + 1, a, h, _, _ => by rw [pathG, pathG, if_neg (by omega)]
  | f + 1, 0, a, _, h, _ => by rw [pathG, pathG, if_neg (by omega)]
  | f + 1, g + 1, a, h1, h2, h3 => by
    rw [pathG, pathG]
    by_cases h0 : 0 ≤ a
    · have hp := pa_lt ht (a := a) ⟨h0, h3⟩
      rw [if_pos h0, if_pos h0, pathG_fuel ht f g _ (by omega) (by omega) (by omega)]
    · rw [if_neg h0, if_neg h0]
theorem path_mem {l : List Acct} {a : Int} (h : isP l a) {y : Int} : y ∈ pathG l 8 a ↔ y = a ∨ y ∈ pathG l 8 (pa l a.toNat) := by
  obtain ⟨hl, ht, _⟩ := chk_ok h.1
  have hp := pa_lt ht h.2
  have h2 := h.2
  rw [show pathG l 8 a = pathG l (7 + 1) a from rfl, pathG, if_pos h.2.1, List.mem_cons, pathG_fuel ht 7 8 _ (by omega) (by omega) (by omega)]
theorem path_self {l : List Acct} {a : Int} (h : isP l a) : a ∈ pathG l 8 a := (path_mem h).2 (.inl rfl)
theorem path_zero {l : List Acct} {a : Int} (h : isP l a) : 0 ∈ pathG l 8 a := by
  obtain ⟨hl, ht, _⟩ := chk_ok h.1
  suffices H : ∀ n : Nat, ∀ a : Int, a.toNat = n → isP l a → 0 ∈ pathG l 8 a from H a.toNat a rfl h
  intro n
  induction n using Nat.strongRecOn with
  | _ n ih =>
    intro a hn ha
    by_cases h0 : a = 0
    · subst h0; exact path_self ha
    · have ha2 := ha.2
      have h1 := ht a.toNat (by omega) (by omega)
      unfold okP at h1
      rw [← pa_at (by omega)] at h1
      exact (path_mem ha).2 (.inr (ih (pa l a.toNat).toNat (by omega) _ rfl ⟨h.1, by omega, by omega⟩))
end Go.Proofs.Ytbepjnjfnmmpaaa
end
section
/- Asks: plain laws of serving. -/
set_option linter.unusedSimpArgs false
set_option linter.unusedVariables false
namespace Go.Proofs.Ytbepjnjfnmmpaaa
open Go.AM Classical
set_option maxRecDepth 100000
set_option maxHeartbeats 4000000
def kerS : List Ask → Int
  | [] => 0
  | a :: r => a.kernel + kerS r
def totS : List Ask → Int
  | [] => 0
  | a :: r => totA a + totS r
def okQ (q : List Ask) (n : Nat) : Prop := ∀ a ∈ q, vaP a ∧ a.account < n
theorem okQ_cons {a : Ask} {r : List Ask} {n : Nat} (h : okQ (a :: r) n) : (vaP a ∧ a.account < n) ∧ okQ r n := ⟨h a (by simp), fun b hb => h b (List.mem_cons_of_mem _ hb)⟩
theorem srv_all : ∀ (q : List Ask) (l : List Acct) (no al : Int), chkF l = 0 → okQ q l.length → ∀ k g, srvL q l no al = (k, g) →
    k ≤ q.length ∧ chkF g = 0 ∧ g.length = l.length ∧ us g 0 = us l 0 + totS (q.take k) ∧ (0 < k → kerS (q.take k) ≤ no ∧ totS (q.take k) ≤ al) ∧ srvL (q.drop k) g (no - kerS (q.take k)) (al - totS (q.take k)) = (0, g)
  | [], l, no, al, hc, _, k, g, h => by
    rw [srvL] at h
    cases h
    exact ⟨by simp, hc, rfl, by simp [totS], fun h => by omega, by simp [srvL]⟩
  | a :: r, l, no, al, hc, hq, k, g, h => by
    obtain ⟨⟨hv, ha⟩, hr⟩ := okQ_cons hq
    have h0 := h
    rw [srvL_cons] at h
    by_cases hf : fitP a l no al
    · rw [if_pos hf] at h
      have hcan := fit_can hv hc ha hf
      have hg := can_chk hcan
      have hl := addF_len l a.account (totA a)
      generalize hs : srvL r (addF l a.account (totA a)) (no - a.kernel) (al - totA a) = s at h
      obtain ⟨k', g'⟩ := s
      cases h
      obtain ⟨i1, i2, i3, i4, i5, i6⟩ := srv_all r _ _ _ hg (by rw [hl]; exact hr) k' g' hs
      have hz : (0 : Int) ∈ pathF l a.account := by rw [pathF, if_pos hcan.1]; exact path_zero hcan.1
      have hu := addF_us (n := totA a) hcan.1 (j := 0) (by have := (chk_ok hc).1; omega)
      rw [if_pos (show ((0 : Nat) : Int) ∈ _ from hz)] at hu
      refine ⟨by simpa using i1, i2, by rw [i3, hl], ?_, fun _ => ?_, ?_⟩
      · dsimp only; rw [i4, hu, List.take_succ_cons, totS]; omega
      · dsimp only
        rw [List.take_succ_cons, kerS, totS]
        by_cases h0 : 0 < k'
        · have := i5 h0; omega
        · have : k' = 0 := by omega
          subst this
          have := hf.2
          simp [kerS, totS]; omega
      · dsimp only
        rw [List.take_succ_cons, List.drop_succ_cons, kerS, totS, show no - (a.kernel + kerS (r.take k')) = no - a.kernel - kerS (r.take k') by omega, show al - (totA a + totS (r.take k')) = al - totA a - totS (r.take k') by omega]
        exact i6
    · rw [if_neg hf] at h
      cases h
      refine ⟨by simp, hc, rfl, by simp [totS], fun h => by omega, ?_⟩
      rw [List.take_zero, List.drop_zero, kerS, totS, show no - 0 = no by omega, show al - 0 = al by omega]
      exact h0
theorem us_out {l : List Acct} {j : Nat} (h : ¬ j < l.length) : us l j = 0 := by rw [us, dif_neg h]
end Go.Proofs.Ytbepjnjfnmmpaaa
end
section
/- Asks: the laws GrantShorts and GrantServes; asks as arguments. -/
set_option linter.unusedSimpArgs false
set_option linter.unusedVariables false
namespace Go.Proofs.Ytbepjnjfnmmpaaa
open Go.AM Classical
set_option maxRecDepth 100000
set_option maxHeartbeats 4000000
end Go.Proofs.Ytbepjnjfnmmpaaa
end
section
/- Asks: Cancel; the law GrantQueues. -/
set_option linter.unusedSimpArgs false
set_option linter.unusedVariables false
namespace Go.Proofs.Ytbepjnjfnmmpaaa
open Go.AM Classical
set_option maxRecDepth 100000
set_option maxHeartbeats 4000000
theorem cancel_c (q : List Ask) (hl : q.length ≤ 100000) (p : Int) : PCon Try.prog 28 [asks q, .int .i64 p] (pushR (canF q p)) := by
  have c0 := gcheck_c q (by omega)
  have c2 := of_c q (by omega) p
  have c3 := aclone_c q (by omega)
  have hal := asks_len q
  refine A28p (by simp [A28]) ?_
  simp only [A28, argEnv]
  unfold canF
  by_cases h0 : qchk q = 0
  · rw [if_pos h0]
    by_cases h2 : 0 ≤ ofF q p
    · rw [if_pos h2]
      obtain ⟨i, hi, e1, _, _⟩ := ofF_at h0 h2
      rw [e1, Int.toNat_natCast]
      rw [e1] at c2
      rw [h0] at c0
      have hsc := asks_scal (q.eraseIdx i)
      have hel := asks_len (q.eraseIdx i)
      have hl1 := List.length_eraseIdx_of_lt hi
      rw [hl1] at hel
      simp only [pushR, hl1]
      clear e1 h2 h0
      repeat' (first | (with_reducible first | refine W_seq ?_ | refine then_n ?_ | refine W_skip ?_ | refine W_ret ?_ | refine then_r ?_) | ((with_reducible refine s_reg ?_); intro K hK) | ((with_reducible refine k_nil ?_); (with_reducible apply s_nil hK); (· exact nmX); clear hK; clear K) | ((with_reducible refine k_cond ?_); (first | ((with_reducible apply s_condT); (· rfl); (· exact nmX)) | ((with_reducible apply s_condF); (· rfl); (· exact nmX)) | ((with_reducible apply s_condS); (· rfl); (· exact nmX); (· exact nmX)))) | ((with_reducible refine k_guard ?_); (first | (refine s_gt rfl ?_) | (refine s_gf1 rfl ?_) | (refine s_gfn rfl ?_) | (refine s_gx1 rfl ?_) | (refine s_gxn rfl ?_) | (refine s_gs rfl ?_))) | ((with_reducible refine k_mv ?_); (refine s_mv rfl ?_)) | ((with_reducible refine k_neq ?_); (first | (refine s_neq rfl rfl ?_) | (refine s_strNe rfl rfl ?_))) | ((with_reducible refine k_lss ?_); (refine s_lss rfl rfl ?_)) | ((with_reducible refine k_add ?_); ((with_reducible apply s_add); (· rfl); (· rfl))) | ((with_reducible refine k_callF ?_); (first | ((with_reducible apply s_call1); (· rfl)) | ((with_reducible apply s_calln); (· rfl)))) | ((with_reducible refine k_con ?_); (first | ((with_reducible apply con_val (c0)); (· (exact agX)); (· rfl); (· exact fun _ => rfl)) | ((with_reducible apply con_val (c2)); (· (exact agX)); (· rfl); (· exact fun _ => rfl)) | ((with_reducible apply con_of_pcon (c3)); (· (exact agX)); intro kC hkC; (try simp only [upd_none] at hkC); simp only [thaw, thawC, List.map, thawH, owOf, owL]) | ((refine del_con hi (by omega) upd_self (fun c2' hc2 => ?_))))) | ((with_reducible refine k_br ?_); (first | (with_reducible first | refine Br_dec ?_ | refine Br_not ?_ | refine Br_eqF ?_ | refine Br_and ?_ | refine Br_or ?_ | refine Br_neg ?_ | refine Br_band ?_ | refine Br_bor ?_ | refine Br_beq ?_) | (refine Br_t (by first | with_reducible rfl | omega | assumption | rfl) ?_) | (refine Br_f (by first | omega | assumption | decide) ?_) | (with_reducible apply Br_sb <;> intro hbr <;> (first | subst hbr | simp only [hbr] | skip)) | (with_reducible apply Br_s <;> intro hbr))) | (with_reducible refine WN_succ ?_) | ((first | (with_reducible apply q_eqI) | (with_reducible apply q_eqN)); (first | exact nuI | exact nuN)) | ((first | (with_reducible apply q_eqL) | (with_reducible apply q_eqO)); (first | exact liL | exact liO)))
      all_goals first | (exfalso; omega) | skip
      all_goals exact Fin_own trivial rfl upd_self (All2.cons (exc_p (tl := c2'.drop ((q.length - 1) * 4)) (by rw [upd_self, ← hc2, List.take_append_drop]) hel hsc) (All2.cons (exc_v rfl rfl) All2.nil)) (Nat.le_of_ble_eq_true rfl)
    · rw [if_neg h2]
      rw [h0] at c0
      generalize ofF q p = f at *
      dsimp only [pushR]
      repeat' (first | (with_reducible first | refine W_seq ?_ | refine then_n ?_ | refine W_skip ?_ | refine W_ret ?_ | refine then_r ?_) | ((with_reducible refine s_reg ?_); intro K hK) | ((with_reducible refine k_nil ?_); (with_reducible apply s_nil hK); (· exact nmX); clear hK; clear K) | ((with_reducible refine k_cond ?_); (first | ((with_reducible apply s_condT); (· rfl); (· exact nmX)) | ((with_reducible apply s_condF); (· rfl); (· exact nmX)) | ((with_reducible apply s_condS); (· rfl); (· exact nmX); (· exact nmX)))) | ((with_reducible refine k_guard ?_); (first | (refine s_gt rfl ?_) | (refine s_gf1 rfl ?_) | (refine s_gfn rfl ?_) | (refine s_gx1 rfl ?_) | (refine s_gxn rfl ?_) | (refine s_gs rfl ?_))) | ((with_reducible refine k_mv ?_); (refine s_mv rfl ?_)) | ((with_reducible refine k_neq ?_); (first | (refine s_neq rfl rfl ?_) | (refine s_strNe rfl rfl ?_))) | ((with_reducible refine k_lss ?_); (refine s_lss rfl rfl ?_)) | ((with_reducible refine k_callF ?_); (first | ((with_reducible apply s_call1); (· rfl)) | ((with_reducible apply s_calln); (· rfl)))) | ((with_reducible refine k_con ?_); (first | ((with_reducible apply con_val (c0)); (· (exact agX)); (· rfl); (· exact fun _ => rfl)) | ((with_reducible apply con_val (c2)); (· (exact agX)); (· rfl); (· exact fun _ => rfl)))) | ((with_reducible refine k_br ?_); (first | (with_reducible first | refine Br_dec ?_ | refine Br_not ?_ | refine Br_eqF ?_ | refine Br_and ?_ | refine Br_or ?_ | refine Br_neg ?_ | refine Br_band ?_ | refine Br_bor ?_ | refine Br_beq ?_) | (refine Br_t (by first | with_reducible rfl | omega | assumption | rfl) ?_) | (refine Br_f (by first | omega | assumption | decide) ?_) | (with_reducible apply Br_sb <;> intro hbr <;> (first | subst hbr | simp only [hbr] | skip)) | (with_reducible apply Br_s <;> intro hbr))) | (with_reducible refine WN_succ ?_) | ((first | (with_reducible apply q_eqI) | (with_reducible apply q_eqN)); (first | exact nuI | exact nuN)) | ((first | (with_reducible apply q_eqL) | (with_reducible apply q_eqO)); (first | exact liL | exact liO)))
      all_goals first | (exfalso; omega) | (first | exact Fin_flat trivial rfl rfl | (refine Fin_tup trivial rfl ?_ (Nat.le_of_ble_eq_true rfl); (repeat (first | exact All2.nil | (apply All2.cons; (· first | exact exc_n | exact exc_e | exact exc_v rfl rfl | exact exc_o upd_self rfl rfl)))); done) | (refine Fin_own trivial rfl upd_self ?_ (Nat.le_of_ble_eq_true rfl); (repeat (first | exact All2.nil | (apply All2.cons; (· first | exact exc_n | exact exc_e | exact exc_v rfl rfl | exact exc_o upd_self rfl rfl)))); done) | exact Fin_nil trivial rfl | exact Fin_sl trivial rfl upd_self rfl rfl)
  · rw [if_neg h0]
    generalize qchk q = e at *
    dsimp only [pushR]
    repeat' (first | (with_reducible first | refine W_seq ?_ | refine then_n ?_ | refine W_skip ?_ | refine W_ret ?_ | refine then_r ?_) | ((with_reducible refine s_reg ?_); intro K hK) | ((with_reducible refine k_nil ?_); (with_reducible apply s_nil hK); (· exact nmX); clear hK; clear K) | ((with_reducible refine k_cond ?_); (first | ((with_reducible apply s_condT); (· rfl); (· exact nmX)) | ((with_reducible apply s_condF); (· rfl); (· exact nmX)) | ((with_reducible apply s_condS); (· rfl); (· exact nmX); (· exact nmX)))) | ((with_reducible refine k_guard ?_); (first | (refine s_gt rfl ?_) | (refine s_gf1 rfl ?_) | (refine s_gfn rfl ?_) | (refine s_gx1 rfl ?_) | (refine s_gxn rfl ?_) | (refine s_gs rfl ?_))) | ((with_reducible refine k_mv ?_); (refine s_mv rfl ?_)) | ((with_reducible refine k_neq ?_); (first | (refine s_neq rfl rfl ?_) | (refine s_strNe rfl rfl ?_))) | ((with_reducible refine k_callF ?_); (first | ((with_reducible apply s_call1); (· rfl)) | ((with_reducible apply s_calln); (· rfl)))) | ((with_reducible refine k_con ?_); (first | ((with_reducible apply con_val (c0)); (· (exact agX)); (· rfl); (· exact fun _ => rfl)))) | ((with_reducible refine k_br ?_); (first | (with_reducible first | refine Br_dec ?_ | refine Br_not ?_ | refine Br_eqF ?_ | refine Br_and ?_ | refine Br_or ?_ | refine Br_neg ?_ | refine Br_band ?_ | refine Br_bor ?_ | refine Br_beq ?_) | (refine Br_t (by first | with_reducible rfl | omega | assumption | rfl) ?_) | (refine Br_f (by first | omega | assumption | decide) ?_) | (with_reducible apply Br_sb <;> intro hbr <;> (first | subst hbr | simp only [hbr] | skip)) | (with_reducible apply Br_s <;> intro hbr))) | (with_reducible refine WN_succ ?_) | ((first | (with_reducible apply q_eqI) | (with_reducible apply q_eqN)); (first | exact nuI | exact nuN)) | ((first | (with_reducible apply q_eqL) | (with_reducible apply q_eqO)); (first | exact liL | exact liO)))
    all_goals first | (exfalso; omega) | (first | exact Fin_flat trivial rfl rfl | (refine Fin_tup trivial rfl ?_ (Nat.le_of_ble_eq_true rfl); (repeat (first | exact All2.nil | (apply All2.cons; (· first | exact exc_n | exact exc_e | exact exc_v rfl rfl | exact exc_o upd_self rfl rfl)))); done) | (refine Fin_own trivial rfl upd_self ?_ (Nat.le_of_ble_eq_true rfl); (repeat (first | exact All2.nil | (apply All2.cons; (· first | exact exc_n | exact exc_e | exact exc_v rfl rfl | exact exc_o upd_self rfl rfl)))); done) | exact Fin_nil trivial rfl | exact Fin_sl trivial rfl upd_self rfl rfl)
structure QOp where
  cancel : Bool
  ask : Ask
def QOp.cells (o : QOp) : List D := .bool o.cancel :: o.ask.cells
theorem QOp.cells_len (o : QOp) : o.cells.length = 5 := rfl
end Go.Proofs.Ytbepjnjfnmmpaaa
end
section
/- The law TopGrantsEnd: a queue with three accounts, and what is always true of it. No program. -/
set_option linter.unusedSimpArgs false
set_option linter.unusedVariables false
namespace Go.Proofs.Ytbepjnjfnmmpaaa
open Go.AM Classical
set_option maxRecDepth 100000
/-! ### Three accounts -/
abbrev aC (u0 u1 u2 : Int) : List Acct := [⟨-1, u0, 0, 0, 9⟩, ⟨0, u1, 0, 0, 6⟩, ⟨1, u2, 0, 0, 4⟩]
theorem aC_us (u0 u1 u2 : Int) : us (aC u0 u1 u2) 0 = u0 ∧ us (aC u0 u1 u2) 1 = u1 ∧ us (aC u0 u1 u2) 2 = u2 := ⟨rfl, rfl, rfl⟩
theorem aC_pa (u0 u1 u2 : Int) : pa (aC u0 u1 u2) 0 = -1 ∧ pa (aC u0 u1 u2) 1 = 0 ∧ pa (aC u0 u1 u2) 2 = 1 := ⟨rfl, rfl, rfl⟩
theorem aC_mx (u0 u1 u2 : Int) : mx (aC u0 u1 u2) 0 = 9 ∧ mx (aC u0 u1 u2) 1 = 6 ∧ mx (aC u0 u1 u2) 2 = 4 := ⟨rfl, rfl, rfl⟩
theorem aC_kids (u0 u1 u2 : Int) : kids (aC u0 u1 u2) 0 = u1 ∧ kids (aC u0 u1 u2) 1 = u2 ∧ kids (aC u0 u1 u2) 2 = 0 := by
  obtain ⟨p0, p1, p2⟩ := aC_pa u0 u1 u2
  obtain ⟨q0, q1, q2⟩ := aC_us u0 u1 u2
  unfold kids
  simp only [List.length_cons, List.length_nil, kidsTo, p0, p1, p2, q0, q1, q2]
  simp
theorem three {i : Nat} (h : i < 3) : i = 0 ∨ i = 1 ∨ i = 2 := by omega
theorem aC_chk {u0 u1 u2 : Int} (h0 : 0 ≤ u2 ∧ u2 ≤ u1 ∧ u1 ≤ u0) (h1 : u0 ≤ 9 ∧ u1 ≤ 6 ∧ u2 ≤ 4) : chkF (aC u0 u1 u2) = 0 := by
  refine chk_mk (by simp) ?_ ⟨?_, ?_⟩ ?_ ?_
  · intro i hi hi2
    rcases three hi with rfl | rfl | rfl
    · exact .inl ⟨rfl, rfl⟩
    · exact .inr ⟨by decide, by show (0 : Int) ≤ 0; decide, by show (0 : Int) < 1; decide⟩
    · exact .inr ⟨by decide, by show (0 : Int) ≤ 1; decide, by show (1 : Int) < 2; decide⟩
  · intro i hi hi2
    rcases three hi with rfl | rfl | rfl
    · show okA ⟨-1, u0, 0, 0, 9⟩; unfold okA inR; dsimp only; omega
    · show okA ⟨0, u1, 0, 0, 6⟩; unfold okA inR; dsimp only; omega
    · show okA ⟨1, u2, 0, 0, 4⟩; unfold okA inR; dsimp only; omega
  · intro h; exact ⟨rfl, rfl⟩
  · intro a ha
    simp only [List.mem_cons, List.not_mem_nil, or_false] at ha
    rcases ha with rfl | rfl | rfl <;> dsimp only <;> omega
  · intro i hi
    obtain ⟨k0, k1, k2⟩ := aC_kids u0 u1 u2
    obtain ⟨q0, q1, q2⟩ := aC_us u0 u1 u2
    rcases three hi with rfl | rfl | rfl
    · have e : ((0 : Nat) : Int) = 0 := rfl
      rw [e, k0, q0]; omega
    · have e : ((1 : Nat) : Int) = 1 := rfl
      rw [e, k1, q1]; omega
    · have e : ((2 : Nat) : Int) = 2 := rfl
      rw [e, k2, q2]; omega
theorem aC_max {u0 u1 u2 : Int} (h : chkF (aC u0 u1 u2) = 0) : u0 ≤ 9 ∧ u1 ≤ 6 ∧ u2 ≤ 4 := by
  obtain ⟨-, -, -, hm, -⟩ := chk_ok h
  exact ⟨hm ⟨-1, u0, 0, 0, 9⟩ (by simp), hm ⟨0, u1, 0, 0, 6⟩ (by simp), hm ⟨1, u2, 0, 0, 4⟩ (by simp)⟩
def pth (a : Int) : List Int := if a = 0 then [0] else if a = 1 then [1, 0] else [2, 1, 0]
theorem aC_path {u0 u1 u2 : Int} (h : chkF (aC u0 u1 u2) = 0) {a : Int} (ha : 0 ≤ a ∧ a < 3) : isP (aC u0 u1 u2) a ∧ pathF (aC u0 u1 u2) a = pth a := by
  have hi : isP (aC u0 u1 u2) a := ⟨h, ha.1, by simpa using ha.2⟩
  refine ⟨hi, ?_⟩
  rw [pathF, if_pos hi]
  obtain ⟨p0, p1, p2⟩ := aC_pa u0 u1 u2
  obtain rfl | rfl | rfl : a = 0 ∨ a = 1 ∨ a = 2 := by omega
  · simp [pathG, p0, pth]
  · simp [pathG, p0, p1, pth]
  · simp [pathG, p0, p1, p2, pth]
theorem aC_add {u0 u1 u2 : Int} (h : chkF (aC u0 u1 u2) = 0) {a : Int} (ha : 0 ≤ a ∧ a < 3) (n : Int) : addF (aC u0 u1 u2) a n = aC (u0 + n) (u1 + if 1 ≤ a then n else 0) (u2 + if 2 ≤ a then n else 0) := by
  unfold addF
  rw [(aC_path h ha).2]
  obtain rfl | rfl | rfl : a = 0 ∨ a = 1 ∨ a = 2 := by omega
  · simp [pth, addU, aC]
  · simp [pth, addU, aC]
  · simp [pth, addU, aC]
/-! ### What was granted -/
abbrev Gr := Int × Ask
def dA (a : Ask) : Prop := (0 ≤ a.proc ∧ a.proc < 8) ∧ (0 ≤ a.account ∧ a.account < 3) ∧ (0 ≤ a.kernel ∧ a.kernel ≤ 2) ∧ 0 ≤ a.user ∧ a.user ≤ 3
theorem dA.va {a : Ask} (h : dA a) : vaP a := by obtain ⟨h1, h2, h3, h4⟩ := h; exact ⟨h1, h2.1, ⟨by omega, by omega⟩, by omega, by omega⟩
def uO (j : Int) : List Gr → Int
  | [] => 0
  | g :: r => (if j ≤ g.2.account then totA g.2 else 0) + uO j r
def kO : List Gr → Int
  | [] => 0
  | g :: r => g.2.kernel + kO r
theorem uO_app (j : Int) : ∀ a b : List Gr, uO j (a ++ b) = uO j a + uO j b
  | [], b => by simp [uO]
  | g :: r, b => by rw [List.cons_append, uO, uO, uO_app j r b]; omega
theorem kO_app : ∀ a b : List Gr, kO (a ++ b) = kO a + kO b
  | [], b => by simp [kO]
  | g :: r, b => by rw [List.cons_append, kO, kO, kO_app r b]; omega
theorem uO_bd : ∀ {o : List Gr}, (∀ g ∈ o, dA g.2) → 0 ≤ uO 2 o ∧ uO 2 o ≤ uO 1 o ∧ uO 1 o ≤ uO 0 o ∧ kO o ≤ uO 0 o ∧ 0 ≤ kO o
  | [], _ => by simp [uO, kO]
  | g :: r, h => by
    have ih := uO_bd fun x hx => h x (List.mem_cons_of_mem _ hx)
    obtain ⟨-, ⟨a1, a2⟩, ⟨k1, k2⟩, u1, u2⟩ := h g (by simp)
    unfold uO kO totA
    (repeat' split) <;> omega
theorem uO_own : ∀ {o : List Gr}, (∀ g ∈ o, dA g.2) → ∀ g ∈ o, totA g.2 ≤ uO g.2.account o - uO (g.2.account + 1) o
  | [], _, g, hg => by cases hg
  | x :: r, h, g, hg => by
    have hr := fun y hy => h y (List.mem_cons_of_mem _ hy)
    have ih := uO_own hr
    obtain ⟨-, ⟨a1, a2⟩, ⟨k1, k2⟩, u1, u2⟩ := h x (by simp)
    have mono : ∀ (o : List Gr) (j : Int), (∀ g ∈ o, dA g.2) → uO (j + 1) o ≤ uO j o := by
      intro o j
      induction o with
      | nil => intro _; simp [uO]
      | cons y s ih2 =>
        intro h2
        have := ih2 fun z hz => h2 z (List.mem_cons_of_mem _ hz)
        obtain ⟨-, ⟨b1, b2⟩, ⟨c1, c2⟩, d1, d2⟩ := h2 y (by simp)
        unfold uO totA
        (repeat' split) <;> omega
    rcases List.mem_cons.1 hg with rfl | hg
    · have := mono r g.2.account hr
      unfold uO
      rw [if_pos (Int.le_refl _), if_neg (by omega)]
      omega
    · have := ih g hg
      unfold uO
      unfold totA at *
      (repeat' split) <;> omega
/-! ### The queue -/
structure GS where
  q : List Ask
  l : List Acct
  no : Int
  al : Int
  nums : List Int
  nx : Int
  la : Int
  out : List Gr
def nm (s : GS) (a : Ask) : Int := s.nums.getD a.proc.toNat 0
structure InvG (s : GS) : Prop where
  qd : ∀ a ∈ s.q, dA a
  od : ∀ g ∈ s.out, dA g.2
  l : s.l = aC (uO 0 s.out) (uO 1 s.out) (uO 2 s.out)
  c : chkF s.l = 0
  no : s.no = 4 - kO s.out
  no0 : 0 ≤ s.no
  al : s.al = 10 - uO 0 s.out
  nd : (s.q.map Ask.proc).Nodup
  nl : s.nums.length = 8
  nq : s.q.Pairwise fun a b => nm s a < nm s b
  nr : ∀ a ∈ s.q, s.la < nm s a ∧ nm s a < s.nx
  cnt : (s.out.length : Int) + s.q.length + 1 ≤ s.nx
  la0 : 0 ≤ s.la
  lt : s.la < s.nx
def gs0 : GS := ⟨[], aC 0 0 0, 4, 10, [0, 0, 0, 0, 0, 0, 0, 0], 1, 0, []⟩
theorem gs0_inv : InvG gs0 := ⟨by simp [gs0], by simp [gs0], rfl, aC_chk (by omega) (by omega), rfl, by decide, rfl, by simp [gs0], rfl, by simp [gs0], by simp [gs0], by simp [gs0], by decide, by decide⟩
theorem qchk_nd {q : List Ask} (hv : ∀ a ∈ q, vaP a) (h : (q.map Ask.proc).Nodup) : qchk q = 0 := by
  refine qchk_ok.2 ⟨hv, fun i hi => firstI_at hi (by simp [isOf]) fun j hj => ?_⟩
  have hp := List.pairwise_iff_getElem.1 (List.nodup_iff_pairwise_ne.1 h) j i (by simp; omega) (by simpa using hi) hj
  rw [List.getElem_map, List.getElem_map] at hp
  simpa [isOf] using hp
theorem InvG.chk {s : GS} (H : InvG s) : qchk s.q = 0 := qchk_nd (fun a ha => (H.qd a ha).va) H.nd
theorem ofF_nn {q : List Ask} {p : Int} : 0 ≤ ofF q p ↔ ∃ a ∈ q, a.proc = p := by
  unfold ofF
  rw [firstI_nn]
  simp only [isOf, decide_eq_true_eq]
/-! Push -/
def pushS (s : GS) (a : Ask) : GS := { s with q := s.q ++ [a], nums := s.nums.set a.proc.toNat s.nx, nx := s.nx + 1 }
theorem push_yes {s : GS} (H : InvG s) {a : Ask} (ha : dA a) (hn : ∀ b ∈ s.q, b.proc ≠ a.proc) : pushF s.q a = (s.q ++ [a], 0) := by
  rw [pushF, if_pos H.chk, if_pos ha.va, if_neg (fun h => by obtain ⟨b, hb, e⟩ := ofF_nn.1 h; exact hn b hb e)]
theorem push_no {s : GS} (H : InvG s) {a : Ask} (ha : dA a) (hn : ∃ b ∈ s.q, b.proc = a.proc) : pushF s.q a = ([], 7) := by
  rw [pushF, if_pos H.chk, if_pos ha.va, if_pos (ofF_nn.2 hn)]
theorem push_inv {s : GS} (H : InvG s) {a : Ask} (ha : dA a) (hn : ∀ b ∈ s.q, b.proc ≠ a.proc) : InvG (pushS s a) := by
  have hap := ha.1
  have e1 : ∀ b ∈ s.q, nm (pushS s a) b = nm s b := fun b hb => by
    have hb2 := (H.qd b hb).1
    have := hn b hb
    unfold nm pushS
    rw [List.getD_eq_getElem?_getD, List.getD_eq_getElem?_getD, List.getElem?_set_ne (by omega)]
  have e2 : nm (pushS s a) a = s.nx := by
    unfold nm pushS
    rw [List.getD_eq_getElem?_getD, List.getElem?_set_self (by rw [H.nl]; omega)]; rfl
  refine ⟨?_, H.od, H.l, H.c, H.no, H.no0, H.al, ?_, ?_, ?_, ?_, ?_, H.la0, ?_⟩
  · intro b hb
    rcases List.mem_append.1 hb with hb | hb
    · exact H.qd b hb
    · rw [List.mem_singleton.1 hb]; exact ha
  · show ((s.q ++ [a]).map Ask.proc).Nodup
    rw [List.map_append, List.nodup_append]
    refine ⟨H.nd, by simp, ?_⟩
    intro x hx y hy e
    obtain ⟨b, hb, rfl⟩ := List.mem_map.1 hx
    simp at hy
    exact hn b hb (e.trans hy)
  · show (s.nums.set _ _).length = 8
    rw [List.length_set]; exact H.nl
  · show (s.q ++ [a]).Pairwise _
    rw [List.pairwise_append]
    refine ⟨List.Pairwise.imp_of_mem (fun {x y} hx hy h => by rw [e1 x hx, e1 y hy]; exact h) H.nq, by simp, fun x hx y hy => ?_⟩
    rw [List.mem_singleton.1 hy, e2, e1 x hx]
    exact (H.nr x hx).2
  · intro b hb
    rcases List.mem_append.1 hb with hb | hb
    · rw [e1 b hb]
      have := H.nr b hb
      exact ⟨this.1, by show _ < s.nx + 1; omega⟩
    · rw [List.mem_singleton.1 hb, e2]
      refine ⟨?_, by show _ < s.nx + 1; omega⟩
      show s.la < s.nx
      exact H.lt
  · show (s.out.length : Int) + (s.q ++ [a]).length + 1 ≤ s.nx + 1
    have := H.cnt
    simp only [List.length_append, List.length_singleton]
    omega
  · show s.la < s.nx + 1
    have := H.lt; omega
/-! Cancel -/
def cutS (s : GS) (i : Nat) : GS := { s with q := s.q.eraseIdx i }
theorem sub_inv {s : GS} (H : InvG s) {r : List Ask} (hr : r.Sublist s.q) : InvG { s with q := r } := by
  have hm := hr.subset
  refine ⟨fun a ha => H.qd a (hm ha), H.od, H.l, H.c, H.no, H.no0, H.al, H.nd.sublist (hr.map _), H.nl, H.nq.sublist hr, fun a ha => H.nr a (hm ha), ?_, H.la0, H.lt⟩
  have := hr.length_le
  have := H.cnt
  show (s.out.length : Int) + r.length + 1 ≤ s.nx
  omega
theorem can_yes {s : GS} (H : InvG s) {p : Int} (hn : ∃ b ∈ s.q, b.proc = p) : canF s.q p = (s.q.eraseIdx (ofF s.q p).toNat, 0) := by
  rw [canF, if_pos H.chk, if_pos (ofF_nn.2 hn)]
theorem can_no {s : GS} (H : InvG s) {p : Int} (hn : ¬ ∃ b ∈ s.q, b.proc = p) : canF s.q p = ([], 6) := by
  rw [canF, if_pos H.chk, if_neg (fun h => hn (ofF_nn.1 h))]
/-! Serve -/
noncomputable def serS (s : GS) (a : Ask) (r : List Ask) : GS := { s with q := r, l := addF s.l a.account (totA a), no := s.no - a.kernel, al := s.al - totA a, la := nm s a, out := s.out ++ [(nm s a, a)] }
theorem ser_inv {s : GS} (H : InvG s) {a : Ask} {r : List Ask} (hq : s.q = a :: r) (hf : fitP a s.l s.no s.al) : InvG (serS s a r) := by
  have ha := H.qd a (by rw [hq]; simp)
  have hc := H.c
  have hcan := fit_can ha.va hc (by rw [H.l]; simpa using ha.2.1.2) hf
  have hg := can_chk hcan
  have hr : r.Sublist s.q := by rw [hq]; exact List.sublist_cons_self a r
  have hk := H.no
  obtain ⟨-, ⟨a1, a2⟩, ⟨k1, k2⟩, u1, u2⟩ := ha
  have hd := H.nd
  rw [hq, List.map_cons, List.nodup_cons] at hd
  have hp := H.nq
  rw [hq, List.pairwise_cons] at hp
  refine ⟨fun b hb => H.qd b (hr.subset hb), ?_, ?_, hg, ?_, ?_, ?_, hd.2, H.nl, hp.2, fun b hb => ⟨hp.1 b hb, (H.nr b (hr.subset hb)).2⟩, ?_, ?_, (H.nr a (by rw [hq]; simp)).2⟩
  · intro g hg2
    rcases List.mem_append.1 hg2 with hg2 | hg2
    · exact H.od g hg2
    · rw [List.mem_singleton.1 hg2]; exact H.qd a (by rw [hq]; simp)
  · show addF s.l a.account (totA a) = aC (uO 0 (s.out ++ [(nm s a, a)])) (uO 1 (s.out ++ [(nm s a, a)])) (uO 2 (s.out ++ [(nm s a, a)]))
    have hl := H.l
    rw [hl] at hc ⊢
    rw [aC_add hc ⟨a1, a2⟩, uO_app, uO_app, uO_app]
    simp only [uO, if_pos a1, Int.add_zero]
  · show s.no - a.kernel = 4 - kO (s.out ++ [(nm s a, a)])
    rw [kO_app]; simp only [kO]; omega
  · show 0 ≤ s.no - a.kernel
    have := hf.2.1; omega
  · show s.al - totA a = 10 - uO 0 (s.out ++ [(nm s a, a)])
    have := H.al
    rw [uO_app]; simp only [uO, if_pos a1]; omega
  · show ((s.out ++ [(nm s a, a)]).length : Int) + r.length + 1 ≤ s.nx
    have := H.cnt
    rw [hq] at this
    simp only [List.length_append, List.length_singleton, List.length_cons, List.length_nil] at this ⊢
    omega
  · show 0 ≤ nm s a
    have := (H.nr a (by rw [hq]; simp)).1
    have := H.la0
    omega
noncomputable def serN (s : GS) : Nat → GS
  | 0 => s
  | k + 1 => match (serN s k).q with | a :: r => serS (serN s k) a r | [] => serN s k
theorem ser_all {s : GS} (H : InvG s) {n : Nat} {g : List Acct} (h : srvL s.q s.l s.no s.al = (n, g)) : n ≤ s.q.length ∧ (∀ k, k ≤ n → InvG (serN s k) ∧ (serN s k).q = s.q.drop k ∧ (serN s k).nums = s.nums ∧ (serN s k).nx = s.nx) ∧ (serN s n).l = g := by
  have hok : ∀ {s : GS}, InvG s → okQ s.q s.l.length := fun {s} H a ha => ⟨(H.qd a ha).va, by rw [H.l]; simpa using (H.qd a ha).2.1.2⟩
  have hn := (srv_all s.q s.l s.no s.al H.c (hok H) n g h).1
  -- what remains to be granted after k
  have key : ∀ k, k ≤ n → InvG (serN s k) ∧ (serN s k).q = s.q.drop k ∧ (serN s k).nums = s.nums ∧ (serN s k).nx = s.nx ∧ srvL (serN s k).q (serN s k).l (serN s k).no (serN s k).al = (n - k, g) := by
    intro k
    induction k with
    | zero => intro _; exact ⟨H, by simp [serN], rfl, rfl, by simpa [serN] using h⟩
    | succ k ih =>
      intro hk
      obtain ⟨i1, i2, i3, i4, i5⟩ := ih (by omega)
      have hlt : k < s.q.length := by omega
      have hd : (serN s k).q = s.q[k] :: s.q.drop (k + 1) := by rw [i2]; exact List.drop_eq_getElem_cons hlt
      have e : serN s (k + 1) = serS (serN s k) s.q[k] (s.q.drop (k + 1)) := by rw [serN, hd]
      rw [hd, srvL_cons] at i5
      by_cases hf : fitP s.q[k] (serN s k).l (serN s k).no (serN s k).al
      · rw [if_pos hf] at i5
        rw [e]
        refine ⟨ser_inv i1 hd hf, rfl, i3, i4, ?_⟩
        have h1 := congrArg Prod.fst i5
        have h2 := congrArg Prod.snd i5
        dsimp only at h1 h2
        show srvL (s.q.drop (k + 1)) (addF (serN s k).l s.q[k].account (totA s.q[k])) ((serN s k).no - s.q[k].kernel) ((serN s k).al - totA s.q[k]) = (n - (k + 1), g)
        exact Prod.ext (by dsimp only; omega) h2
      · rw [if_neg hf] at i5
        have := congrArg Prod.fst i5
        dsimp only at this
        omega
  refine ⟨hn, fun k hk => let ⟨a, b, c, d, _⟩ := key k hk; ⟨a, b, c, d⟩, ?_⟩
  obtain ⟨i1, i2, i3, i4, i5⟩ := key n (Nat.le_refl _)
  rw [Nat.sub_self] at i5
  cases hq : (serN s n).q with
  | nil => rw [hq, srvL] at i5; exact congrArg Prod.snd i5
  | cons a r =>
    rw [hq, srvL_cons] at i5
    split at i5
    · have := congrArg Prod.fst i5; dsimp only at this; omega
    · exact congrArg Prod.snd i5
theorem srv_F {s : GS} (H : InvG s) : srvF s.q s.l s.no s.al = ((srvL s.q s.l s.no s.al).1, (srvL s.q s.l s.no s.al).2, 0) := by
  rw [srvF, if_pos H.chk, if_pos H.c, if_neg]
  rintro ⟨a, ha, h⟩
  have := (H.qd a ha).2.1.2
  rw [H.l] at h
  simp at h
  omega
/-! Give back -/
noncomputable def bakS (s : GS) (g : Gr) (o1 o2 : List Gr) : GS := { s with l := addF s.l g.2.account (-totA g.2), no := s.no + g.2.kernel, al := s.al + totA g.2, out := o1 ++ o2 }
theorem bak_ok {s : GS} (H : InvG s) {g : Gr} {o1 o2 : List Gr} (ho : s.out = o1 ++ g :: o2) : uncF s.l g.2.account (totA g.2) = (addF s.l g.2.account (-totA g.2), 0) ∧ InvG (bakS s g o1 o2) := by
  have hg : g ∈ s.out := by rw [ho]; simp
  have hdg := H.od g hg
  have hl := H.l
  have hc := H.c
  have hown := uO_own H.od g hg
  have hac := hdg.2.1
  have hod2 : ∀ x ∈ o1 ++ o2, dA x.2 := fun x hx => H.od x (by rw [ho]; rcases List.mem_append.1 hx with h | h; exact List.mem_append_left _ h; exact List.mem_append_right _ (List.mem_cons_of_mem _ h))
  have hbd := uO_bd hod2
  have hmx := aC_max (by rw [← hl]; exact hc)
  have hu : ∀ j, uO j s.out = uO j (o1 ++ o2) + if j ≤ g.2.account then totA g.2 else 0 := fun j => by
    rw [ho, uO_app, uO_app, uO]; omega
  have hk : kO s.out = kO (o1 ++ o2) + g.2.kernel := by rw [ho, kO_app, kO_app, kO]; omega
  have ht : 0 ≤ totA g.2 := by obtain ⟨-, -, ⟨k1, k2⟩, u1, u2⟩ := hdg; unfold totA; omega
  have ht2 : totA g.2 ≤ 5 := by obtain ⟨-, -, ⟨k1, k2⟩, u1, u2⟩ := hdg; unfold totA; omega
  have hadd : addF s.l g.2.account (-totA g.2) = aC (uO 0 (o1 ++ o2)) (uO 1 (o1 ++ o2)) (uO 2 (o1 ++ o2)) := by
    have h0 := hu 0
    have h1 := hu 1
    have h2 := hu 2
    rw [if_pos hac.1] at h0
    rw [hl] at hc ⊢
    rw [aC_add hc hac]
    congr 1
    · omega
    · (repeat' split at h1) <;> (repeat' split) <;> omega
    · (repeat' split at h2) <;> (repeat' split) <;> omega
  refine ⟨?_, H.qd, hod2, hadd, ?_, ?_, ?_, ?_, H.nd, H.nl, H.nq, H.nr, ?_, H.la0, H.lt⟩
  · have hp : isP s.l g.2.account := by rw [hl] at hc ⊢; exact (aC_path hc hac).1
    rw [uncF, if_pos (req_can hp ⟨ht, by omega⟩), if_neg]
    rw [ownF, if_pos hp, hl]
    obtain ⟨q0, q1, q2⟩ := aC_us (uO 0 s.out) (uO 1 s.out) (uO 2 s.out)
    obtain ⟨k0, k1, k2⟩ := aC_kids (uO 0 s.out) (uO 1 s.out) (uO 2 s.out)
    have h3 : uO 3 s.out = 0 := by
      have : ∀ o : List Gr, (∀ g ∈ o, dA g.2) → uO 3 o = 0 := by
        intro o
        induction o with
        | nil => intro _; rfl
        | cons x r ih =>
          intro h
          have := (h x (by simp)).2.1
          rw [uO, if_neg (by omega), ih fun y hy => h y (List.mem_cons_of_mem _ hy)]; rfl
      exact this s.out H.od
    obtain e | e | e : g.2.account = 0 ∨ g.2.account = 1 ∨ g.2.account = 2 := by omega
    · rw [e] at hown ⊢
      have e2 : (0 : Int) + 1 = 1 := rfl
      rw [e2] at hown
      show ¬ us _ 0 - kids _ 0 < _
      rw [q0, k0]; omega
    · rw [e] at hown ⊢
      have e2 : (1 : Int) + 1 = 2 := rfl
      rw [e2] at hown
      show ¬ us _ 1 - kids _ 1 < _
      rw [q1, k1]; omega
    · rw [e] at hown ⊢
      have e2 : (2 : Int) + 1 = 3 := rfl
      rw [e2, h3] at hown
      show ¬ us _ 2 - kids _ 2 < _
      rw [q2, k2]; omega
  · show chkF (addF s.l g.2.account (-totA g.2)) = 0
    rw [hadd]
    have h0 := hu 0
    have h1 := hu 1
    have h2 := hu 2
    exact aC_chk ⟨by omega, by omega, by omega⟩ ⟨by (repeat' split at h0) <;> omega, by (repeat' split at h1) <;> omega, by (repeat' split at h2) <;> omega⟩
  · show s.no + g.2.kernel = 4 - kO (o1 ++ o2)
    have := H.no; omega
  · show 0 ≤ s.no + g.2.kernel
    have := H.no0; have := hdg.2.2.1; omega
  · show s.al + totA g.2 = 10 - uO 0 (o1 ++ o2)
    have := H.al
    have h0 := hu 0
    rw [if_pos hac.1] at h0
    omega
  · show ((o1 ++ o2).length : Int) + s.q.length + 1 ≤ s.nx
    have := H.cnt
    rw [ho] at this
    simp only [List.length_append, List.length_cons] at this ⊢
    omega
/-! ### The end -/
theorem len_lt : ∀ (n : Nat) (l : List Nat), l.Nodup → (∀ x ∈ l, x < n) → l.length ≤ n
  | 0, l, _, h => by
    cases l with
    | nil => simp
    | cons a r => exact absurd (h a (by simp)) (by omega)
  | n + 1, l, hn, h => by
    by_cases hm : n ∈ l
    · have := len_lt n (l.erase n) (hn.erase n) fun x hx => by
        obtain ⟨h1, h2⟩ := (List.Nodup.mem_erase_iff hn).1 hx
        have := h x h2
        omega
      rw [List.length_erase_of_mem hm] at this
      omega
    · have := len_lt n l hn fun x hx => by
        have h1 := h x hx
        have : x ≠ n := fun e => hm (e ▸ hx)
        omega
      omega
theorem InvG.len {s : GS} (H : InvG s) : s.q.length ≤ 8 := by
  have h1 : (s.q.map fun a => a.proc.toNat).Nodup := by
    have h2 := List.nodup_iff_pairwise_ne.1 H.nd
    rw [List.pairwise_map] at h2
    rw [List.nodup_iff_pairwise_ne, List.pairwise_map]
    exact h2.imp_of_mem fun {a b} ha hb h e => h (by have := (H.qd a ha).1; have := (H.qd b hb).1; omega)
  have := len_lt 8 _ h1 fun x hx => by
    obtain ⟨a, ha, rfl⟩ := List.mem_map.1 hx
    have := (H.qd a ha).1
    omega
  simpa using this
theorem head_fit {s : GS} (H : InvG s) (ho : s.out = []) {a : Ask} {r : List Ask} (hq : s.q = a :: r) (hh : ¬ hopP a s.l 4 10) : 1 ≤ (srvL s.q s.l s.no s.al).1 := by
  have ha := H.qd a (by rw [hq]; simp)
  have hno := H.no
  have hal := H.al
  have hl := H.l
  rw [ho] at hno hal hl
  have e0 : uO 0 [] = 0 := rfl
  have e1 : kO [] = 0 := rfl
  rw [hq, srvL_cons, if_pos]
  · dsimp only; omega
  · unfold hopP at hh
    refine ⟨fun x hx => ?_, ?_, ?_⟩
    · have h1 : ¬ mx s.l x.toNat < totA a := fun h => hh (.inr (.inr (.inr (.inl ⟨x, hx, h⟩))))
      have h2 : us s.l x.toNat = 0 := by
        rw [hl]
        show us (aC 0 0 0) x.toNat = 0
        by_cases h3 : x.toNat < 3
        · rcases three h3 with h4 | h4 | h4 <;> rw [h4] <;> rfl
        · exact us_out (by simpa using h3)
      unfold roomA
      omega
    · have : ¬ a.kernel > 4 := fun h => hh (.inr (.inr (.inr (.inr (.inl h)))))
      omega
    · have : ¬ totA a > 10 := fun h => hh (.inr (.inr (.inr (.inr (.inr h)))))
      omega
theorem hop_same {s s' : GS} (H : InvG s) (H' : InvG s') (a : Ask) : hopP a s.l 4 10 ↔ hopP a s'.l 4 10 := by
  have hc := H.c
  have hc' := H'.c
  have hl := H.l
  have hl' := H'.l
  unfold hopP
  by_cases hv : vaP a
  · by_cases ha : a.account < 3
    · have h1 : pathF s.l a.account = pth a.account := by rw [hl] at hc ⊢; exact (aC_path hc ⟨hv.2.1, ha⟩).2
      have h2 : pathF s'.l a.account = pth a.account := by rw [hl'] at hc' ⊢; exact (aC_path hc' ⟨hv.2.1, ha⟩).2
      have h3 : ∀ j, mx s.l j = mx s'.l j := fun j => by
        rw [hl, hl']
        by_cases h3 : j < 3
        · rcases three h3 with rfl | rfl | rfl <;> rfl
        · rw [mx, mx, dif_neg (by simpa using h3), dif_neg (by simpa using h3)]
      have h4 : s.l.length = s'.l.length := by rw [hl, hl']; rfl
      rw [h1, h2, h4]
      simp only [hc, hc', h3]
    · have h4 : s.l.length = 3 := by rw [hl]; rfl
      have h5 : s'.l.length = 3 := by rw [hl']; rfl
      rw [h4, h5]
      constructor <;> intro _ <;> exact .inr (.inr (.inl (by simpa using ha)))
  · constructor <;> intro _ <;> exact .inl hv
end Go.Proofs.Ytbepjnjfnmmpaaa
end
section
/- What a function hands back is known less exactly: a block is given up, a nil slice is read as an empty one. Generic over the program. -/
set_option linter.unusedSimpArgs false
set_option linter.unusedVariables false
namespace Go.AM
open Classical
def Wk (h h2 : Heap) : Prop := ∀ s, RH s h → ∃ s2, s2.w = s.w ∧ Ext s s2 ∧ RH s2 h2
theorem Wk.trans {a b c : Heap} (h : Wk a b) (h' : Wk b c) : Wk a c := fun s H => by
  obtain ⟨s2, h1, h2, h3⟩ := h s H
  obtain ⟨s3, h4, h5, h6⟩ := h' s2 h3
  exact ⟨s3, h4.trans h1, h2.trans h5, h6⟩
theorem con_post {P : Program} {f : Nat} {ds : List D} {h : Heap} {Q Q2 : D → Heap → Prop} (hc : Con P f ds h Q) (hq : ∀ d h', Q d h' → ∃ h2, Wk h' h2 ∧ Q2 d h2) : Con P f ds h Q2 := by
  refine ⟨hc.1, fun s args H A => (hc.2 s args H A).mono ?_⟩
  rintro e w' ⟨v, d, h', s', h1, rfl, hE, H', hv, hQ⟩
  obtain ⟨h2, hw, hQ2⟩ := hq d h' hQ
  obtain ⟨s2, e2, hE2, H2⟩ := hw s' H'
  exact ⟨v, d, h2, s2, h1, e2, hE.trans hE2, H2, hv.mono hE2, hQ2⟩
theorem Wk.cells {h : Heap} {k : Nat} {c c' : List D} (hk : h k = some c) (hl : c'.length = c.length) (h0 : c ≠ []) (hm : ∀ l, c ≠ [.mpc l]) (hr : ∀ s, RH s h → ∀ (i : Nat) (v : Value) (d d' : D), c[i]? = some d → c'[i]? = some d' → RC s v d → RC s v d') : Wk h (upd h k c') := by
  intro s H
  refine ⟨s, rfl, .refl s, H.lt, H.inj, fun j hj => ?_, H.bound, fun j x hj => ?_, H.mu, H.bp, H.fp⟩
  · refine H.dead j ?_
    have hj' : (if j = k then some c' else h j) = none := hj
    split at hj'
    · cases hj'
    · exact hj'
  · have hj' : (if j = k then some c' else h j) = some x := hj
    by_cases e : j = k
    · subst e
      rw [if_pos rfl] at hj'; injection hj' with hj'; subst hj'
      obtain ⟨hu, y, hy, hn, hq⟩ := H.own j c hk
      refine ⟨hu, y, by rw [hl]; exact hy, fun hy0 => ?_, fun b hb => ?_⟩
      · rcases hn hy0 with h1 | ⟨l, b, h1, h2, h3⟩
        · exact absurd h1 h0
        · exact absurd h1 (hm l)
      · obtain ⟨h1, cs, e, h2, h3, h4⟩ := hq b hb
        refine ⟨h1, cs, e, h2, by rw [hl]; exact h3, ⟨by rw [hl]; exact h4.1, fun i v d' hv hd' => ?_⟩⟩
        rw [hl] at hv
        obtain ⟨d, hd⟩ : ∃ d, c[i]? = some d := by
          have hlt : i < c.length := by
            rcases Nat.lt_or_ge i c'.length with h' | h'
            · omega
            · simp [List.getElem?_eq_none h'] at hd'
          exact ⟨_, List.getElem?_eq_getElem hlt⟩
        exact hr s H i v d d' hd hd' (h4.2 i v d hv hd)
    · rw [if_neg e] at hj'; exact H.own j x hj'
theorem Wk.nilvs {h : Heap} {k i sz : Nat} {c : List D} (hk : h k = some c) (hi : c[i]? = some .nil) : Wk h (upd h k (c.set i (.vs sz [] 0))) := by
  have hlt : i < c.length := by
    rcases Nat.lt_or_ge i c.length with h' | h'
    · exact h'
    · simp [List.getElem?_eq_none h'] at hi
  refine Wk.cells hk (by simp) (fun e => by rw [e] at hlt; simp at hlt) (fun l e => ?_) fun s H j v d d' hd hd' hv => ?_
  · rw [e] at hi
    cases i with
    | zero => cases hi
    | succ i => simp at hi
  · by_cases e : i = j
    · subst e
      rw [List.getElem?_set_self hlt] at hd'
      rw [hi] at hd
      injection hd with hd; subst hd
      injection hd' with hd'; subst hd'
      exact ⟨.pure (by rw [hv.1.inv_nil]; exact .vs0 _ _ _), hv.2⟩
    · rw [List.getElem?_set_ne e, hd] at hd'
      injection hd' with hd'; subst hd'; exact hv
theorem Wk.give {h : Heap} {kb kl i sz n : Nat} {cb c : List D} (hkb : h kb = some cb) (hk : h kl = some c) (hne : kb ≠ kl) (hi : cb[i]? = some (.sl kl sz 0 n)) (hc : ∀ d ∈ c, Kl d) (hlen : c.length = n * sz) : Wk h (upd (del h kl) kb (cb.set i (.vs sz c n))) := by
  have hlti : i < cb.length := by
    rcases Nat.lt_or_ge i cb.length with h' | h'
    · exact h'
    · simp [List.getElem?_eq_none h'] at hi
  intro s H
  obtain ⟨hu, x, hx, hxn, hq⟩ := H.own kl c hk
  let s1 : Sg := { w := s.w, ρ := fun j => if j = kl then none else s.ρ j, μ := s.μ, prot := fun b => s.prot b ∨ x = some b, base := s.base, fr := s.fr, used := s.used, next := s.next }
  have hρ : ∀ j y, s1.ρ j = some y → j ≠ kl ∧ s.ρ j = some y := by
    intro j y hy
    have hy' : (if j = kl then none else s.ρ j) = some y := hy
    by_cases e : j = kl
    · rw [if_pos e] at hy'; cases hy'
    · rw [if_neg e] at hy'; exact ⟨e, hy'⟩
  have hE : Ext s s1 := ⟨Nat.le_refl _, fun _ h => h, Nat.le_refl _, fun b hb => ⟨.inl hb, rfl⟩, fun j y _ hy => (hρ j y hy).2, fun _ _ _ cs _ _ _ h => ⟨cs, h, rfl⟩, .refl _, fun _ _ => rfl, rfl, fun _ h => ⟨h, rfl⟩⟩
  have hlt : ∀ b, x = some b → b < s.w.heap.size := fun b hb => by
    obtain ⟨_, cs, e, h2, _⟩ := hq b hb
    rcases Nat.lt_or_ge b s.w.heap.size with h' | h'
    · exact h'
    · simp [Array.getElem?_eq_none h'] at h2
  have fz : ∀ v, RV s v (.sl kl sz 0 n) → RV s1 v (.vs sz c n) := by
    intro v hvd
    obtain ⟨_, a, cap, rfl, hna, hlc, hsl⟩ := hvd.inv_sl
    obtain ⟨hcc, hcap⟩ := hsl x _ hx
    refine .pure ?_
    have hle : n * sz ≤ cap * sz := Nat.mul_le_mul_right _ hlc
    rcases hcap with h0 | ⟨b, cs, e, hxb, rfl, hbb, hs⟩
    · obtain rfl : n = 0 := by omega
      have h4 : c = [] := List.length_eq_zero_iff.1 (by simpa using hlen)
      rw [h4]
      exact RP.vs0 a cap sz
    · obtain ⟨hnp, cs2, e2, hh, hl2, hall⟩ := hq b hxb
      have hat := (cellsAt_block hh).sub 0 c.length
      simp only [Nat.add_zero, List.drop_zero] at hat
      refine .vs b 0 cap sz n _ (cs2.toList.take c.length) hlen hlc (.inr hxb) hall.1 ?_ hat ?_
      · intro v hv'
        obtain ⟨j, hj⟩ := List.mem_iff_getElem?.1 hv'
        have hlt : j < c.length := by
          rcases Nat.lt_or_ge j (cs2.toList.take c.length).length with h' | h'
          · rw [hall.1] at h'; exact h'
          · simp [List.getElem?_eq_none h'] at hj
        exact (hall.2 j v _ hj (List.getElem?_eq_getElem hlt)).2
      · intro j v d hv' hd
        exact (hc d (List.mem_of_getElem? hd) s v (hall.2 j v d hv' hd).1).mono fun b hb => ⟨.inl hb, rfl⟩
  refine ⟨s1, rfl, hE, fun b hb => hb.elim (H.lt b) (hlt b), fun k1 k2 b n n' h1 h2 => H.inj k1 k2 b n n' (hρ _ _ h1).2 (hρ _ _ h2).2, fun j hj => ?_, H.bound, fun j c2 hj => ?_, fun j b h1 h2 => ?_, fun b hb => .inl (H.bp b hb), fun b hb => ⟨.inl (H.fp b hb).1, (H.fp b hb).2⟩⟩
  · have hj' : (if j = kb then some (cb.set i (.vs sz c n)) else if j = kl then none else h j) = none := hj
    show (if j = kl then none else s.ρ j) = none
    by_cases e : j = kl
    · rw [if_pos e]
    · rw [if_neg e] at hj' ⊢
      by_cases e2 : j = kb
      · rw [if_pos e2] at hj'; cases hj'
      · rw [if_neg e2] at hj'; exact H.dead j hj'
  · have hj' : (if j = kb then some (cb.set i (.vs sz c n)) else if j = kl then none else h j) = some c2 := hj
    have np : ∀ {j : Nat} {b m : Nat}, j ≠ kl → s.ρ j = some (some b, m) → ¬ s.prot b → ¬ (s.prot b ∨ x = some b) := by
      intro j b m hjk hjb hp
      rintro (h3 | h3)
      · exact hp h3
      · subst h3; exact hjk (H.inj j kl b _ _ hjb hx)
    by_cases e : j = kb
    · subst e
      rw [if_pos rfl] at hj'; injection hj' with hj'; subst hj'
      obtain ⟨hl, x2, hx2, hn2, hq2⟩ := H.own j cb hkb
      refine ⟨hl, x2, by show (if j = kl then none else s.ρ j) = _; rw [if_neg hne, List.length_set]; exact hx2, fun h0 => ?_, fun b hb => ?_⟩
      · rcases hn2 h0 with h1 | ⟨l, b, h1, _⟩
        · rw [h1] at hlti; simp at hlti
        · rw [h1] at hi
          cases i with
          | zero => cases hi
          | succ i => simp at hi
      · obtain ⟨hp, cs, e2, hb2, hl2, hall⟩ := hq2 b hb
        refine ⟨np hne (by rw [hx2, hb]) hp, cs, e2, hb2, by rw [List.length_set]; exact hl2, ⟨by rw [List.length_set]; exact hall.1, fun j2 v d' hv hd' => ?_⟩⟩
        rw [List.length_set] at hv
        by_cases e3 : i = j2
        · subst e3
          rw [List.getElem?_set_self hlti] at hd'
          injection hd' with hd'; subst hd'
          have := hall.2 i v _ hv hi
          exact ⟨fz v this.1, this.2⟩
        · rw [List.getElem?_set_ne e3] at hd'
          exact (hall.2 j2 v d' hv hd').mono hE
    · rw [if_neg e] at hj'
      by_cases e2 : j = kl
      · rw [if_pos e2] at hj'; cases hj'
      · rw [if_neg e2] at hj'
        obtain ⟨hl, x2, hx2, hn2, hq2⟩ := H.own j c2 hj'
        refine ⟨hl, x2, by show (if j = kl then none else s.ρ j) = _; rw [if_neg e2]; exact hx2, hn2, fun b hb => ?_⟩
        obtain ⟨hp, cs, e3, hb2, hl2, hall⟩ := hq2 b hb
        exact ⟨np e2 (by rw [hx2, hb]) hp, cs, e3, hb2, hl2, hall.mono fun _ _ h => h.mono hE⟩
  · obtain ⟨h3, h4, h5⟩ := H.mu j b h1 h2
    refine ⟨h3, ?_, h5⟩
    rintro (h6 | h6)
    · exact h4 h6
    · obtain ⟨_, cs, e, h7, _⟩ := hq b h6
      obtain ⟨_, es, cl, h8⟩ := h3
      rw [h7] at h8; cases h8
end Go.AM
end
section
/- min -/
/- The law TopGrantsEnd: right. -/
set_option linter.unusedSimpArgs false
set_option linter.unusedVariables false
namespace Go.Proofs.Ytbepjnjfnmmpaaa
open Go.AM Classical
set_option maxRecDepth 100000
set_option maxHeartbeats 4000000
theorem upd_sub {h : Heap} {k : Nat} {x : List D} (hk : h k = none) (j : Nat) (c : List D) (hj : h j = some c) : upd h k x j = some c := by
  rw [upd_ne (fun e => by rw [e, hk] at hj; cases hj)]; exact hj
theorem slSub {h h2 : Heap} {d : D} {sz n : Nat} {c : List D} (ho : SlOwn h d sz c n) (hh : ∀ j c, h j = some c → h2 j = some c) : SlOwn h2 d sz c n := by
  obtain ⟨hl, h0 | ⟨k, h1, h3⟩⟩ := ho
  · exact ⟨hl, .inl h0⟩
  · exact ⟨hl, .inr ⟨k, h1, hh k _ h3⟩⟩
abbrev gC (g : Gr) : List D := [.int .i64 g.1, .int .i64 g.2.proc, .int .i64 g.2.account, .int .i64 g.2.kernel, .int .i64 g.2.user]
theorem gC_len (g : Gr) : (gC g).length = 5 := rfl
structure GC (c : List D) (s : GS) (d : D) : Prop where
  len : c.length = 15
  g0 : c[0]? = some (asks s.q)
  g1 : c[1]? = some (accs s.l)
  g2 : c[2]? = some (.int .i64 s.no)
  g3 : c[3]? = some (.int .i64 s.al)
  gn : ∀ j, j < 8 → c[4 + j]? = some (.int .i64 (s.nums.getD j 0))
  g12 : c[12]? = some (.int .i64 s.nx)
  g13 : c[13]? = some (.int .i64 s.la)
  g14 : c[14]? = some d
theorem uO_take {j : Int} {o : List Gr} {i : Nat} (hi : i < o.length) : uO j (o.take (i + 1)) = uO j (o.take i) + if j ≤ o[i].2.account then totA o[i].2 else 0 := by
  rw [List.take_succ_eq_append_getElem hi, uO_app]
  simp only [uO, Int.add_zero]
theorem uO_le {j : Int} {o : List Gr} (h : ∀ g ∈ o, dA g.2) (i : Nat) : 0 ≤ uO j (o.take i) ∧ uO j (o.take i) ≤ uO j o := by
  have nn : ∀ p : List Gr, (∀ g ∈ p, dA g.2) → 0 ≤ uO j p := by
    intro p
    induction p with
    | nil => intro _; simp [uO]
    | cons x r ih =>
      intro h2
      have := ih fun y hy => h2 y (List.mem_cons_of_mem _ hy)
      obtain ⟨-, -, ⟨k1, k2⟩, u1, u2⟩ := h2 x (by simp)
      unfold uO totA
      split <;> omega
  refine ⟨nn _ fun g hg => h g (List.mem_of_mem_take hg), ?_⟩
  have h1 : uO j o = uO j (o.take i) + uO j (o.drop i) := by rw [← uO_app, List.take_append_drop]
  have := nn (o.drop i) fun g hg => h g (List.mem_of_mem_drop hg)
  omega
theorem right_con {s : GS} (H : InvG s) {h : Heap} {kb : Nat} {c : List D} {d : D} (hk : h kb = some c) (G : GC c s d) (ho : SlOwn h d 5 (s.out.flatMap gC) s.out.length) (hnx : s.nx ≤ 1000000) {Q : D → Heap → Prop} (hQ : ∀ h', (∀ j c, h j = some c → h' j = some c) → Q (.bool true) h') :
    Con Try.prog 57 [.pt kb 0] h Q := by
  refine con_of_W mixed Try.func57 A57k A57c (by simp [A57]) ?_
  simp only [A57, argEnv]
  obtain ⟨hcl, g0, g1, g2, g3, -, -, -, g14⟩ := G
  have hl := H.l
  have hc := H.c
  have hno := H.no0
  have hal := H.al
  have hcnt := H.cnt
  have hlq : s.l.length = 3 := by rw [hl]; rfl
  have hmx := aC_max (by rw [← hl]; exact hc)
  have hod := H.od
  have b0 := fun i => uO_le (j := 0) hod i
  have b1 := fun i => uO_le (j := 1) hod i
  have b2 := fun i => uO_le (j := 2) hod i
  have e0 : uO 0 (s.out.take s.out.length) = uO 0 s.out := by rw [List.take_length]
  have e1 : uO 1 (s.out.take s.out.length) = uO 1 s.out := by rw [List.take_length]
  have e2 : uO 2 (s.out.take s.out.length) = uO 2 s.out := by rw [List.take_length]
  have b0e := b0 s.out.length
  rw [e0] at b0e
  have hlL : s.l.length ≤ 9223372036854775807 := by omega
  have cp := fun a => path_c s.l hlL a
  have hol : (s.out.length : Int) ≤ 1000000 := by omega
  repeat' (first | (with_reducible first | refine W_seq ?_ | refine then_n ?_ | refine W_block ?_ | refine blk_n ?_ | refine blk_r ?_ | refine blk_e ?_ | refine W_skip ?_ | refine W_ret ?_ | refine then_r ?_ | refine W_exit ?_ | refine then_e ?_) | ((with_reducible refine s_reg ?_); intro K hK) | ((with_reducible refine k_nil ?_); (with_reducible apply s_nil hK); (· exact nmX); clear hK; clear K) | ((with_reducible refine k_cond ?_); (first | ((with_reducible apply s_condT); (· rfl); (· exact nmX)) | ((with_reducible apply s_condF); (· rfl); (· exact nmX)) | ((with_reducible apply s_condS); (· rfl); (· exact nmX); (· exact nmX)))) | ((with_reducible refine k_guard ?_); (first | (refine s_gt rfl ?_) | (refine s_gf1 rfl ?_) | (refine s_gfn rfl ?_) | (refine s_gx1 rfl ?_) | (refine s_gxn rfl ?_) | (refine s_gs rfl ?_))) | ((with_reducible refine k_mv ?_); (refine s_mv rfl ?_)) | ((with_reducible refine k_len ?_); (first | (refine s_len rfl rfl ?_) | ((with_reducible apply s_len); (· rfl); (· exact SlOwn.len (by assumption))) | ((with_reducible apply s_len); (· rfl); (· assumption)))) | ((with_reducible refine k_pick ?_); (first | (refine s_pickT rfl rfl ?_) | (refine s_pickF rfl rfl ?_))) | ((with_reducible refine k_neq ?_); (first | (refine s_neq rfl rfl ?_) | (refine s_strNe rfl rfl ?_))) | ((with_reducible refine k_lss ?_); (refine s_lss rfl rfl ?_)) | ((with_reducible refine k_load ?_); (first | ((with_reducible apply s_loadV); (· rfl)) | ((with_reducible apply s_loadP); (· rfl); (· (exact hpX))))) | ((with_reducible refine k_faddr ?_); (first | ((with_reducible apply s_faddrV); (· rfl); (· rfl)) | ((with_reducible apply s_faddrP); (· rfl); (· rfl)))) | ((with_reducible refine k_alloc (dst := some 3) ?_); ((with_reducible apply s_alloc); intro k3 hk3; (try simp only [upd_none] at hk3))) | ((with_reducible refine k_nilck ?_); (first | ((with_reducible apply s_nilckV); (· rfl)) | ((with_reducible apply s_nilckP); (· rfl)) | ((with_reducible apply s_nilckF); (· rfl)))) | ((with_reducible refine k_br ?_); (first | (with_reducible first | refine Br_dec ?_ | refine Br_not ?_ | refine Br_eqF ?_ | refine Br_and ?_ | refine Br_or ?_ | refine Br_neg ?_ | refine Br_band ?_ | refine Br_bor ?_ | refine Br_beq ?_) | (refine Br_t (by first | with_reducible rfl | omega | assumption | rfl) ?_) | (refine Br_f (by first | omega | assumption | decide) ?_) | (with_reducible apply Br_sb <;> intro hbr <;> (first | subst hbr | simp only [hbr] | skip)) | (with_reducible apply Br_s <;> intro hbr))) | ((first | (with_reducible apply q_eqL) | (with_reducible apply q_eqO)); (first | (simp (disch := omega) only [upd_self, upd_ne, upd_upd, rep, splice, List.take_succ_cons, List.take_zero, List.drop_succ_cons, List.drop_zero, List.cons_append, List.nil_append, List.append_nil, List.length_cons, List.length_nil, List.reduceReplicate, List.flatten_cons, List.flatten_nil, Nat.reduceAdd, Nat.reduceMul, Nat.reduceSub, Nat.zero_add, Nat.add_zero, List.getElem?_cons_zero, List.getElem?_cons_succ, g1, g2, g3, g14]; try rfl; done) | rfl)))
  all_goals first | (exfalso; omega) | skip
  refine W_for s.out.length (fun i st => ∃ h', st = ⟨[(0, .pt kb 0), (3, .pt k3 0), (33, d), (34, .int .i64 s.out.length), (35, .int .i64 i)], h'⟩ ∧ h' k3 = some [.int .i64 (uO 0 (s.out.take i)), .int .i64 (uO 1 (s.out.take i)), .int .i64 (uO 2 (s.out.take i))] ∧ ∀ j c, h j = some c → h' j = some c) ⟨_, rfl, by rw [upd_self]; simp [uO], fun j c hj => upd_sub hk3 j c hj⟩ ?_ ?_
  · rintro i e' h' hi ⟨h1, he, hw, hs⟩
    cases he
    have hrow : ((s.out.flatMap gC).drop (i * 5)).take 5 = gC s.out[i] := fm_row gC_len hi
    rw [uO_take hi, uO_take hi, uO_take hi]
    have hd := hod s.out[i] (List.getElem_mem hi)
    have c0 := b0 i
    have c1 := b1 i
    have c2 := b2 i
    have hkb := hs _ _ hk
    have so := slSub ho hs
    generalize uO 0 (s.out.take i) = v0 at *
    generalize uO 1 (s.out.take i) = v1 at *
    generalize uO 2 (s.out.take i) = v2 at *
    have hlen : (s.out.flatMap gC).length = s.out.length * 5 := fm_len gC_len _
    generalize s.out[i] = x at *
    obtain ⟨n, ⟨p, a, k, u⟩⟩ := x
    obtain ⟨hd1, hd2, hd3, hd4⟩ := hd
    dsimp only [gC, totA] at *
    have hp : pathF s.l a = pth a := by rw [hl] at hc ⊢; exact (aC_path hc hd2).2
    have cp := cp a
    rw [hp] at cp
    have hv1 : v1 ≤ 6 := by omega
    obtain rfl | rfl | rfl : a = 0 ∨ a = 1 ∨ a = 2 := by omega
    · have e9 : pth 0 = [0] := rfl
      rw [e9] at cp
      simp only [List.map_cons, List.map_nil, List.length_cons, List.length_nil] at cp
      repeat' (first | (with_reducible first | refine W_seq ?_ | refine then_n ?_ | refine W_block ?_ | refine blk_n ?_ | refine blk_r ?_ | refine blk_e ?_ | refine W_skip ?_ | refine W_ret ?_ | refine then_r ?_ | refine W_exit ?_ | refine then_e ?_) | ((with_reducible refine s_reg ?_); intro K hK) | ((with_reducible refine k_nil ?_); (with_reducible apply s_nil hK); (· exact nmX); clear hK; clear K) | ((with_reducible refine k_cond ?_); (first | ((with_reducible apply s_condT); (· rfl); (· exact nmX)) | ((with_reducible apply s_condF); (· rfl); (· exact nmX)) | ((with_reducible apply s_condS); (· rfl); (· exact nmX); (· exact nmX)))) | ((with_reducible refine k_mv ?_); (refine s_mv rfl ?_)) | ((with_reducible refine k_len ?_); (first | (refine s_len rfl rfl ?_) | ((with_reducible apply s_len); (· rfl); (· exact SlOwn.len (by assumption))) | ((with_reducible apply s_len); (· rfl); (· assumption)))) | ((with_reducible refine k_lss ?_); (refine s_lss rfl rfl ?_)) | ((with_reducible refine k_iaddr ?_); (first | ((with_reducible apply s_iaddrV); (· rfl); (· rfl); (· (first | omega | exact ⟨rfl, by omega⟩ | skip))) | ((with_reducible apply s_iaddrO); (· rfl); (· rfl); (· (first | omega | exact ⟨rfl, by omega⟩ | skip)); (· (exact hpX))) | ((with_reducible apply s_iaddrSO); (· rfl); (· assumption); (· rfl); (· (first | omega | exact ⟨rfl, by omega⟩ | skip)); (· (first | (simp (disch := omega) only [w64, wu8, wu16, wu32, wu64, tm_nn, td_nn, fd_nn, Int.reduceAdd, Int.reduceSub, Int.reduceMul, Int.reduceDiv, Int.reduceMod, Int.reduceNeg, Int.reduceToNat, Int.toNat_natCast, Int.toNat_zero, Int.zero_add, Int.add_zero, Int.one_mul, Int.reducePow, Nat.mul_one, Nat.zero_add, Nat.add_zero, Nat.zero_mul, Nat.reduceAdd, Nat.reduceMul, Nat.reduceSub, Nat.min_eq_left, IntKind.bits, Nat.sub_zero, g1, hrow]; try rfl; done) | rfl)); intro ks hks))) | ((with_reducible refine k_load ?_); (first | ((with_reducible apply s_loadV); (· rfl)) | ((with_reducible apply s_loadP); (· rfl); (· (exact hpX))))) | ((with_reducible refine k_loadA ?_); (first | ((with_reducible apply s_loadAV); (· rfl); (· (first | exact Nat.le_of_ble_eq_true rfl | decide | omega | (simp; done) | (simp; omega) | skip))) | ((with_reducible apply s_loadAP); (· rfl); (· (exact hpX)); (· (first | exact Nat.le_of_ble_eq_true rfl | decide | omega | (simp; done) | (simp; omega) | skip))))) | ((with_reducible refine k_store ?_); ((with_reducible apply s_store0); (· rfl); (· rfl); (· rfl); (· (exact hpX)); (· (exact ⟨rfl, by first | exact Nat.le_of_ble_eq_true rfl | omega | (simp [g1, hrow]; omega)⟩)); (· ((first | (simp (disch := omega) only [upd_self, upd_ne, upd_upd, rep, splice, List.take_succ_cons, List.take_zero, List.drop_succ_cons, List.drop_zero, List.cons_append, List.nil_append, List.append_nil, List.length_cons, List.length_nil, List.reduceReplicate, List.flatten_cons, List.flatten_nil, Nat.reduceAdd, Nat.reduceMul, Nat.reduceSub, Nat.zero_add, Nat.add_zero, List.getElem?_cons_zero, List.getElem?_cons_succ, g1, hrow]; try rfl; done) | rfl))); (· (first | exact upd_upd | rfl)))) | ((with_reducible refine k_faddr ?_); (first | ((with_reducible apply s_faddrV); (· rfl); (· rfl)) | ((with_reducible apply s_faddrP); (· rfl); (· rfl)))) | ((with_reducible refine k_alloc (dst := some 5) ?_); ((with_reducible apply s_alloc); intro k5 hk5; (try simp only [upd_none] at hk5))) | ((with_reducible refine k_nilck ?_); (first | ((with_reducible apply s_nilckV); (· rfl)) | ((with_reducible apply s_nilckP); (· rfl)) | ((with_reducible apply s_nilckF); (· rfl)))) | ((with_reducible refine k_dreg ?_); refine s_dreg rfl rfl ?_; intro K hK) | ((with_reducible refine k_dnil ?_); (with_reducible apply d_nil hK); (· exact nmX); clear hK; clear K) | ((with_reducible refine k_dcall ?_); (first | ((with_reducible apply d_call); (· rfl); (· exact cp); (· (repeat (first | exact All2.nil | (apply All2.cons; (· first | ((apply Rd_sl0); (· exact hpX); (· first | rfl | exact scal_i | exact scal_b | assumption); (· first | rfl | assumption | (simp [g1, hrow]; done) | (simp [g1, hrow]; omega))) | exact rdX))))); simp only [unow, unowC, List.map]))) | ((with_reducible refine k_dop ?_); refine d_step (by first | exact Or.inl rfl | exact Or.inr rfl) ?_) | (with_reducible refine d_back ?_) | ((with_reducible refine k_br ?_); (first | (with_reducible first | refine Br_dec ?_ | refine Br_not ?_ | refine Br_eqF ?_ | refine Br_and ?_ | refine Br_or ?_ | refine Br_neg ?_ | refine Br_band ?_ | refine Br_bor ?_ | refine Br_beq ?_) | (refine Br_t (by first | with_reducible rfl | omega | assumption | rfl) ?_) | (refine Br_f (by first | omega | assumption | decide) ?_) | (with_reducible apply Br_sb <;> intro hbr <;> (first | subst hbr | simp only [hbr] | skip)) | (with_reducible apply Br_s <;> intro hbr))) | ((first | (with_reducible apply q_eqL) | (with_reducible apply q_eqO)); (first | (simp (disch := omega) only [upd_self, upd_ne, upd_upd, rep, splice, List.take_succ_cons, List.take_zero, List.drop_succ_cons, List.drop_zero, List.cons_append, List.nil_append, List.append_nil, List.length_cons, List.length_nil, List.reduceReplicate, List.flatten_cons, List.flatten_nil, Nat.reduceAdd, Nat.reduceMul, Nat.reduceSub, Nat.zero_add, Nat.add_zero, List.getElem?_cons_zero, List.getElem?_cons_succ, g1, hrow]; try rfl; done) | rfl)))
      all_goals first | (exfalso; omega) | skip
      refine W_unroll 2 ?_
      repeat' (first | (with_reducible first | refine W_seq ?_ | refine then_n ?_ | refine W_block ?_ | refine blk_n ?_ | refine blk_r ?_ | refine blk_e ?_ | refine W_skip ?_ | refine W_ret ?_ | refine then_r ?_ | refine W_exit ?_ | refine then_e ?_) | ((with_reducible refine s_reg ?_); intro K hK) | ((with_reducible refine k_nil ?_); (with_reducible apply s_nil hK); (· exact nmX); clear hK; clear K) | ((with_reducible refine k_cond ?_); (first | ((with_reducible apply s_condT); (· rfl); (· exact nmX)) | ((with_reducible apply s_condF); (· rfl); (· exact nmX)) | ((with_reducible apply s_condS); (· rfl); (· exact nmX); (· exact nmX)))) | ((with_reducible refine k_guard ?_); (first | (refine s_gt rfl ?_) | (refine s_gf1 rfl ?_) | (refine s_gfn rfl ?_) | (refine s_gx1 rfl ?_) | (refine s_gxn rfl ?_) | (refine s_gs rfl ?_))) | ((with_reducible refine k_mv ?_); (refine s_mv rfl ?_)) | ((with_reducible refine k_pick ?_); (first | (refine s_pickT rfl rfl ?_) | (refine s_pickF rfl rfl ?_))) | ((with_reducible refine k_lss ?_); (refine s_lss rfl rfl ?_)) | ((with_reducible refine k_gtr ?_); (refine s_gtr rfl rfl ?_)) | ((with_reducible refine k_iaddr ?_); (first | ((with_reducible apply s_iaddrV); (· rfl); (· rfl); (· (first | omega | exact ⟨rfl, by omega⟩ | skip))) | ((with_reducible apply s_iaddrO); (· rfl); (· rfl); (· (first | omega | exact ⟨rfl, by omega⟩ | skip)); (· (exact hpX))) | ((with_reducible apply s_iaddrSO); (· rfl); (· assumption); (· rfl); (· (first | omega | exact ⟨rfl, by omega⟩ | skip)); (· (first | exact nuI | exact nuN)); intro ks hks))) | ((with_reducible refine k_iaddrA ?_); (first | ((with_reducible apply s_iaddrAV); (· rfl); (· rfl); (· (first | omega | exact ⟨rfl, by omega⟩ | skip))) | ((with_reducible apply s_iaddrAP); (· rfl); (· rfl); (· (first | omega | exact ⟨rfl, by omega⟩ | skip))))) | ((with_reducible refine k_load ?_); (first | ((with_reducible apply s_loadV); (· rfl)) | ((with_reducible apply s_loadP); (· rfl); (· (exact hpX))))) | ((with_reducible refine k_add ?_); ((with_reducible apply s_add); (· rfl); (· rfl))) | ((with_reducible refine k_store ?_); ((with_reducible apply s_store0); (· rfl); (· rfl); (· rfl); (· (exact hpX)); (· (exact ⟨rfl, by first | exact Nat.le_of_ble_eq_true rfl | omega | (simp; omega)⟩)); (· ((first | exact liL | exact liO))); (· (first | exact upd_upd | rfl)))) | ((with_reducible refine k_faddr ?_); (first | ((with_reducible apply s_faddrV); (· rfl); (· rfl)) | ((with_reducible apply s_faddrP); (· rfl); (· rfl)))) | ((with_reducible refine k_dreg ?_); refine s_dregS (pre := A57d15p) rfl rfl rfl ?_; intro K hK) | (with_reducible refine d_nilS ?_) | ((with_reducible refine k_dop ?_); refine d_step (by first | exact Or.inl rfl | exact Or.inr rfl) ?_) | (with_reducible refine d_back ?_) | ((with_reducible refine k_br ?_); (first | (with_reducible first | refine Br_dec ?_ | refine Br_not ?_ | refine Br_eqF ?_ | refine Br_and ?_ | refine Br_or ?_ | refine Br_neg ?_ | refine Br_band ?_ | refine Br_bor ?_ | refine Br_beq ?_) | (refine Br_t (by first | with_reducible rfl | omega | assumption | rfl) ?_) | (refine Br_f (by first | omega | assumption | decide) ?_) | (with_reducible apply Br_sb <;> intro hbr <;> (first | subst hbr | simp only [hbr] | skip)) | (with_reducible apply Br_s <;> intro hbr))) | (with_reducible refine WN_succ ?_) | ((first | (with_reducible apply q_eqI) | (with_reducible apply q_eqN)); (first | exact nuI | exact nuN)) | ((first | (with_reducible apply q_eqL) | (with_reducible apply q_eqO)); (first | exact liL | exact liO)))
      all_goals first | (exfalso; omega) | skip
      refine ⟨_, rfl, by rw [upd_self]; simp; try omega, fun j c hj => ?_⟩
      have hj' := hs j c hj
      repeat rw [upd_ne (by rintro rfl; first | (rw [hk3] at hj; cases hj; done) | (simp [hj'] at *; done))]
      exact hj'
    · have e9 : pth 1 = [1, 0] := rfl
      rw [e9] at cp
      simp only [List.map_cons, List.map_nil, List.length_cons, List.length_nil] at cp
      repeat' (first | (with_reducible first | refine W_seq ?_ | refine then_n ?_ | refine W_block ?_ | refine blk_n ?_ | refine blk_r ?_ | refine blk_e ?_ | refine W_skip ?_ | refine W_ret ?_ | refine then_r ?_ | refine W_exit ?_ | refine then_e ?_) | ((with_reducible refine s_reg ?_); intro K hK) | ((with_reducible refine k_nil ?_); (with_reducible apply s_nil hK); (· exact nmX); clear hK; clear K) | ((with_reducible refine k_cond ?_); (first | ((with_reducible apply s_condT); (· rfl); (· exact nmX)) | ((with_reducible apply s_condF); (· rfl); (· exact nmX)) | ((with_reducible apply s_condS); (· rfl); (· exact nmX); (· exact nmX)))) | ((with_reducible refine k_mv ?_); (refine s_mv rfl ?_)) | ((with_reducible refine k_len ?_); (first | (refine s_len rfl rfl ?_) | ((with_reducible apply s_len); (· rfl); (· exact SlOwn.len (by assumption))) | ((with_reducible apply s_len); (· rfl); (· assumption)))) | ((with_reducible refine k_lss ?_); (refine s_lss rfl rfl ?_)) | ((with_reducible refine k_iaddr ?_); (first | ((with_reducible apply s_iaddrV); (· rfl); (· rfl); (· (first | omega | exact ⟨rfl, by omega⟩ | skip))) | ((with_reducible apply s_iaddrO); (· rfl); (· rfl); (· (first | omega | exact ⟨rfl, by omega⟩ | skip)); (· (exact hpX))) | ((with_reducible apply s_iaddrSO); (· rfl); (· assumption); (· rfl); (· (first | omega | exact ⟨rfl, by omega⟩ | skip)); (· (first | (simp (disch := omega) only [w64, wu8, wu16, wu32, wu64, tm_nn, td_nn, fd_nn, Int.reduceAdd, Int.reduceSub, Int.reduceMul, Int.reduceDiv, Int.reduceMod, Int.reduceNeg, Int.reduceToNat, Int.toNat_natCast, Int.toNat_zero, Int.zero_add, Int.add_zero, Int.one_mul, Int.reducePow, Nat.mul_one, Nat.zero_add, Nat.add_zero, Nat.zero_mul, Nat.reduceAdd, Nat.reduceMul, Nat.reduceSub, Nat.min_eq_left, IntKind.bits, Nat.sub_zero, g1, hrow]; try rfl; done) | rfl)); intro ks hks))) | ((with_reducible refine k_load ?_); (first | ((with_reducible apply s_loadV); (· rfl)) | ((with_reducible apply s_loadP); (· rfl); (· (exact hpX))))) | ((with_reducible refine k_loadA ?_); (first | ((with_reducible apply s_loadAV); (· rfl); (· (first | exact Nat.le_of_ble_eq_true rfl | decide | omega | (simp; done) | (simp; omega) | skip))) | ((with_reducible apply s_loadAP); (· rfl); (· (exact hpX)); (· (first | exact Nat.le_of_ble_eq_true rfl | decide | omega | (simp; done) | (simp; omega) | skip))))) | ((with_reducible refine k_store ?_); ((with_reducible apply s_store0); (· rfl); (· rfl); (· rfl); (· (exact hpX)); (· (exact ⟨rfl, by first | exact Nat.le_of_ble_eq_true rfl | omega | (simp [g1, hrow]; omega)⟩)); (· ((first | (simp (disch := omega) only [upd_self, upd_ne, upd_upd, rep, splice, List.take_succ_cons, List.take_zero, List.drop_succ_cons, List.drop_zero, List.cons_append, List.nil_append, List.append_nil, List.length_cons, List.length_nil, List.reduceReplicate, List.flatten_cons, List.flatten_nil, Nat.reduceAdd, Nat.reduceMul, Nat.reduceSub, Nat.zero_add, Nat.add_zero, List.getElem?_cons_zero, List.getElem?_cons_succ, g1, hrow]; try rfl; done) | rfl))); (· (first | exact upd_upd | rfl)))) | ((with_reducible refine k_faddr ?_); (first | ((with_reducible apply s_faddrV); (· rfl); (· rfl)) | ((with_reducible apply s_faddrP); (· rfl); (· rfl)))) | ((with_reducible refine k_alloc (dst := some 5) ?_); ((with_reducible apply s_alloc); intro k5 hk5; (try simp only [upd_none] at hk5))) | ((with_reducible refine k_nilck ?_); (first | ((with_reducible apply s_nilckV); (· rfl)) | ((with_reducible apply s_nilckP); (· rfl)) | ((with_reducible apply s_nilckF); (· rfl)))) | ((with_reducible refine k_dreg ?_); refine s_dreg rfl rfl ?_; intro K hK) | ((with_reducible refine k_dnil ?_); (with_reducible apply d_nil hK); (· exact nmX); clear hK; clear K) | ((with_reducible refine k_dcall ?_); (first | ((with_reducible apply d_call); (· rfl); (· exact cp); (· (repeat (first | exact All2.nil | (apply All2.cons; (· first | ((apply Rd_sl0); (· exact hpX); (· first | rfl | exact scal_i | exact scal_b | assumption); (· first | rfl | assumption | (simp [g1, hrow]; done) | (simp [g1, hrow]; omega))) | exact rdX))))); simp only [unow, unowC, List.map]))) | ((with_reducible refine k_dop ?_); refine d_step (by first | exact Or.inl rfl | exact Or.inr rfl) ?_) | (with_reducible refine d_back ?_) | ((with_reducible refine k_br ?_); (first | (with_reducible first | refine Br_dec ?_ | refine Br_not ?_ | refine Br_eqF ?_ | refine Br_and ?_ | refine Br_or ?_ | refine Br_neg ?_ | refine Br_band ?_ | refine Br_bor ?_ | refine Br_beq ?_) | (refine Br_t (by first | with_reducible rfl | omega | assumption | rfl) ?_) | (refine Br_f (by first | omega | assumption | decide) ?_) | (with_reducible apply Br_sb <;> intro hbr <;> (first | subst hbr | simp only [hbr] | skip)) | (with_reducible apply Br_s <;> intro hbr))) | ((first | (with_reducible apply q_eqL) | (with_reducible apply q_eqO)); (first | (simp (disch := omega) only [upd_self, upd_ne, upd_upd, rep, splice, List.take_succ_cons, List.take_zero, List.drop_succ_cons, List.drop_zero, List.cons_append, List.nil_append, List.append_nil, List.length_cons, List.length_nil, List.reduceReplicate, List.flatten_cons, List.flatten_nil, Nat.reduceAdd, Nat.reduceMul, Nat.reduceSub, Nat.zero_add, Nat.add_zero, List.getElem?_cons_zero, List.getElem?_cons_succ, g1, hrow]; try rfl; done) | rfl)))
      all_goals first | (exfalso; omega) | skip
      refine W_unroll 3 ?_
      repeat' (first | (with_reducible first | refine W_seq ?_ | refine then_n ?_ | refine W_block ?_ | refine blk_n ?_ | refine blk_r ?_ | refine blk_e ?_ | refine W_skip ?_ | refine W_ret ?_ | refine then_r ?_ | refine W_exit ?_ | refine then_e ?_) | ((with_reducible refine s_reg ?_); intro K hK) | ((with_reducible refine k_nil ?_); (with_reducible apply s_nil hK); (· exact nmX); clear hK; clear K) | ((with_reducible refine k_cond ?_); (first | ((with_reducible apply s_condT); (· rfl); (· exact nmX)) | ((with_reducible apply s_condF); (· rfl); (· exact nmX)) | ((with_reducible apply s_condS); (· rfl); (· exact nmX); (· exact nmX)))) | ((with_reducible refine k_guard ?_); (first | (refine s_gt rfl ?_) | (refine s_gf1 rfl ?_) | (refine s_gfn rfl ?_) | (refine s_gx1 rfl ?_) | (refine s_gxn rfl ?_) | (refine s_gs rfl ?_))) | ((with_reducible refine k_mv ?_); (refine s_mv rfl ?_)) | ((with_reducible refine k_pick ?_); (first | (refine s_pickT rfl rfl ?_) | (refine s_pickF rfl rfl ?_))) | ((with_reducible refine k_lss ?_); (refine s_lss rfl rfl ?_)) | ((with_reducible refine k_gtr ?_); (refine s_gtr rfl rfl ?_)) | ((with_reducible refine k_iaddr ?_); (first | ((with_reducible apply s_iaddrV); (· rfl); (· rfl); (· (first | omega | exact ⟨rfl, by omega⟩ | skip))) | ((with_reducible apply s_iaddrO); (· rfl); (· rfl); (· (first | omega | exact ⟨rfl, by omega⟩ | skip)); (· (exact hpX))) | ((with_reducible apply s_iaddrSO); (· rfl); (· assumption); (· rfl); (· (first | omega | exact ⟨rfl, by omega⟩ | skip)); (· (first | exact nuI | exact nuN)); intro ks hks))) | ((with_reducible refine k_iaddrA ?_); (first | ((with_reducible apply s_iaddrAV); (· rfl); (· rfl); (· (first | omega | exact ⟨rfl, by omega⟩ | skip))) | ((with_reducible apply s_iaddrAP); (· rfl); (· rfl); (· (first | omega | exact ⟨rfl, by omega⟩ | skip))))) | ((with_reducible refine k_load ?_); (first | ((with_reducible apply s_loadV); (· rfl)) | ((with_reducible apply s_loadP); (· rfl); (· (exact hpX))))) | ((with_reducible refine k_add ?_); ((with_reducible apply s_add); (· rfl); (· rfl))) | ((with_reducible refine k_store ?_); ((with_reducible apply s_store0); (· rfl); (· rfl); (· rfl); (· (exact hpX)); (· (exact ⟨rfl, by first | exact Nat.le_of_ble_eq_true rfl | omega | (simp; omega)⟩)); (· ((first | exact liL | exact liO))); (· (first | exact upd_upd | rfl)))) | ((with_reducible refine k_faddr ?_); (first | ((with_reducible apply s_faddrV); (· rfl); (· rfl)) | ((with_reducible apply s_faddrP); (· rfl); (· rfl)))) | ((with_reducible refine k_dreg ?_); refine s_dregS (pre := A57d15p) rfl rfl rfl ?_; intro K hK) | (with_reducible refine d_nilS ?_) | ((with_reducible refine k_dop ?_); refine d_step (by first | exact Or.inl rfl | exact Or.inr rfl) ?_) | (with_reducible refine d_back ?_) | ((with_reducible refine k_br ?_); (first | (with_reducible first | refine Br_dec ?_ | refine Br_not ?_ | refine Br_eqF ?_ | refine Br_and ?_ | refine Br_or ?_ | refine Br_neg ?_ | refine Br_band ?_ | refine Br_bor ?_ | refine Br_beq ?_) | (refine Br_t (by first | with_reducible rfl | omega | assumption | rfl) ?_) | (refine Br_f (by first | omega | assumption | decide) ?_) | (with_reducible apply Br_sb <;> intro hbr <;> (first | subst hbr | simp only [hbr] | skip)) | (with_reducible apply Br_s <;> intro hbr))) | (with_reducible refine WN_succ ?_) | ((first | (with_reducible apply q_eqI) | (with_reducible apply q_eqN)); (first | exact nuI | exact nuN)) | ((first | (with_reducible apply q_eqL) | (with_reducible apply q_eqO)); (first | exact liL | exact liO)))
      all_goals first | (exfalso; omega) | skip
      refine ⟨_, rfl, by rw [upd_self]; simp; try omega, fun j c hj => ?_⟩
      have hj' := hs j c hj
      repeat rw [upd_ne (by rintro rfl; first | (rw [hk3] at hj; cases hj; done) | (simp [hj'] at *; done))]
      exact hj'
    · have e9 : pth 2 = [2, 1, 0] := rfl
      rw [e9] at cp
      simp only [List.map_cons, List.map_nil, List.length_cons, List.length_nil] at cp
      repeat' (first | (with_reducible first | refine W_seq ?_ | refine then_n ?_ | refine W_block ?_ | refine blk_n ?_ | refine blk_r ?_ | refine blk_e ?_ | refine W_skip ?_ | refine W_ret ?_ | refine then_r ?_ | refine W_exit ?_ | refine then_e ?_) | ((with_reducible refine s_reg ?_); intro K hK) | ((with_reducible refine k_nil ?_); (with_reducible apply s_nil hK); (· exact nmX); clear hK; clear K) | ((with_reducible refine k_cond ?_); (first | ((with_reducible apply s_condT); (· rfl); (· exact nmX)) | ((with_reducible apply s_condF); (· rfl); (· exact nmX)) | ((with_reducible apply s_condS); (· rfl); (· exact nmX); (· exact nmX)))) | ((with_reducible refine k_mv ?_); (refine s_mv rfl ?_)) | ((with_reducible refine k_len ?_); (first | (refine s_len rfl rfl ?_) | ((with_reducible apply s_len); (· rfl); (· exact SlOwn.len (by assumption))) | ((with_reducible apply s_len); (· rfl); (· assumption)))) | ((with_reducible refine k_lss ?_); (refine s_lss rfl rfl ?_)) | ((with_reducible refine k_iaddr ?_); (first | ((with_reducible apply s_iaddrV); (· rfl); (· rfl); (· (first | omega | exact ⟨rfl, by omega⟩ | skip))) | ((with_reducible apply s_iaddrO); (· rfl); (· rfl); (· (first | omega | exact ⟨rfl, by omega⟩ | skip)); (· (exact hpX))) | ((with_reducible apply s_iaddrSO); (· rfl); (· assumption); (· rfl); (· (first | omega | exact ⟨rfl, by omega⟩ | skip)); (· (first | (simp (disch := omega) only [w64, wu8, wu16, wu32, wu64, tm_nn, td_nn, fd_nn, Int.reduceAdd, Int.reduceSub, Int.reduceMul, Int.reduceDiv, Int.reduceMod, Int.reduceNeg, Int.reduceToNat, Int.toNat_natCast, Int.toNat_zero, Int.zero_add, Int.add_zero, Int.one_mul, Int.reducePow, Nat.mul_one, Nat.zero_add, Nat.add_zero, Nat.zero_mul, Nat.reduceAdd, Nat.reduceMul, Nat.reduceSub, Nat.min_eq_left, IntKind.bits, Nat.sub_zero, g1, hrow]; try rfl; done) | rfl)); intro ks hks))) | ((with_reducible refine k_load ?_); (first | ((with_reducible apply s_loadV); (· rfl)) | ((with_reducible apply s_loadP); (· rfl); (· (exact hpX))))) | ((with_reducible refine k_loadA ?_); (first | ((with_reducible apply s_loadAV); (· rfl); (· (first | exact Nat.le_of_ble_eq_true rfl | decide | omega | (simp; done) | (simp; omega) | skip))) | ((with_reducible apply s_loadAP); (· rfl); (· (exact hpX)); (· (first | exact Nat.le_of_ble_eq_true rfl | decide | omega | (simp; done) | (simp; omega) | skip))))) | ((with_reducible refine k_store ?_); ((with_reducible apply s_store0); (· rfl); (· rfl); (· rfl); (· (exact hpX)); (· (exact ⟨rfl, by first | exact Nat.le_of_ble_eq_true rfl | omega | (simp [g1, hrow]; omega)⟩)); (· ((first | (simp (disch := omega) only [upd_self, upd_ne, upd_upd, rep, splice, List.take_succ_cons, List.take_zero, List.drop_succ_cons, List.drop_zero, List.cons_append, List.nil_append, List.append_nil, List.length_cons, List.length_nil, List.reduceReplicate, List.flatten_cons, List.flatten_nil, Nat.reduceAdd, Nat.reduceMul, Nat.reduceSub, Nat.zero_add, Nat.add_zero, List.getElem?_cons_zero, List.getElem?_cons_succ, g1, hrow]; try rfl; done) | rfl))); (· (first | exact upd_upd | rfl)))) | ((with_reducible refine k_faddr ?_); (first | ((with_reducible apply s_faddrV); (· rfl); (· rfl)) | ((with_reducible apply s_faddrP); (· rfl); (· rfl)))) | ((with_reducible refine k_alloc (dst := some 5) ?_); ((with_reducible apply s_alloc); intro k5 hk5; (try simp only [upd_none] at hk5))) | ((with_reducible refine k_nilck ?_); (first | ((with_reducible apply s_nilckV); (· rfl)) | ((with_reducible apply s_nilckP); (· rfl)) | ((with_reducible apply s_nilckF); (· rfl)))) | ((with_reducible refine k_dreg ?_); refine s_dreg rfl rfl ?_; intro K hK) | ((with_reducible refine k_dnil ?_); (with_reducible apply d_nil hK); (· exact nmX); clear hK; clear K) | ((with_reducible refine k_dcall ?_); (first | ((with_reducible apply d_call); (· rfl); (· exact cp); (· (repeat (first | exact All2.nil | (apply All2.cons; (· first | ((apply Rd_sl0); (· exact hpX); (· first | rfl | exact scal_i | exact scal_b | assumption); (· first | rfl | assumption | (simp [g1, hrow]; done) | (simp [g1, hrow]; omega))) | exact rdX))))); simp only [unow, unowC, List.map]))) | ((with_reducible refine k_dop ?_); refine d_step (by first | exact Or.inl rfl | exact Or.inr rfl) ?_) | (with_reducible refine d_back ?_) | ((with_reducible refine k_br ?_); (first | (with_reducible first | refine Br_dec ?_ | refine Br_not ?_ | refine Br_eqF ?_ | refine Br_and ?_ | refine Br_or ?_ | refine Br_neg ?_ | refine Br_band ?_ | refine Br_bor ?_ | refine Br_beq ?_) | (refine Br_t (by first | with_reducible rfl | omega | assumption | rfl) ?_) | (refine Br_f (by first | omega | assumption | decide) ?_) | (with_reducible apply Br_sb <;> intro hbr <;> (first | subst hbr | simp only [hbr] | skip)) | (with_reducible apply Br_s <;> intro hbr))) | ((first | (with_reducible apply q_eqL) | (with_reducible apply q_eqO)); (first | (simp (disch := omega) only [upd_self, upd_ne, upd_upd, rep, splice, List.take_succ_cons, List.take_zero, List.drop_succ_cons, List.drop_zero, List.cons_append, List.nil_append, List.append_nil, List.length_cons, List.length_nil, List.reduceReplicate, List.flatten_cons, List.flatten_nil, Nat.reduceAdd, Nat.reduceMul, Nat.reduceSub, Nat.zero_add, Nat.add_zero, List.getElem?_cons_zero, List.getElem?_cons_succ, g1, hrow]; try rfl; done) | rfl)))
      all_goals first | (exfalso; omega) | skip
      refine W_unroll 4 ?_
      repeat' (first | (with_reducible first | refine W_seq ?_ | refine then_n ?_ | refine W_block ?_ | refine blk_n ?_ | refine blk_r ?_ | refine blk_e ?_ | refine W_skip ?_ | refine W_ret ?_ | refine then_r ?_ | refine W_exit ?_ | refine then_e ?_) | ((with_reducible refine s_reg ?_); intro K hK) | ((with_reducible refine k_nil ?_); (with_reducible apply s_nil hK); (· exact nmX); clear hK; clear K) | ((with_reducible refine k_cond ?_); (first | ((with_reducible apply s_condT); (· rfl); (· exact nmX)) | ((with_reducible apply s_condF); (· rfl); (· exact nmX)) | ((with_reducible apply s_condS); (· rfl); (· exact nmX); (· exact nmX)))) | ((with_reducible refine k_guard ?_); (first | (refine s_gt rfl ?_) | (refine s_gf1 rfl ?_) | (refine s_gfn rfl ?_) | (refine s_gx1 rfl ?_) | (refine s_gxn rfl ?_) | (refine s_gs rfl ?_))) | ((with_reducible refine k_mv ?_); (refine s_mv rfl ?_)) | ((with_reducible refine k_pick ?_); (first | (refine s_pickT rfl rfl ?_) | (refine s_pickF rfl rfl ?_))) | ((with_reducible refine k_lss ?_); (refine s_lss rfl rfl ?_)) | ((with_reducible refine k_gtr ?_); (refine s_gtr rfl rfl ?_)) | ((with_reducible refine k_iaddr ?_); (first | ((with_reducible apply s_iaddrV); (· rfl); (· rfl); (· (first | omega | exact ⟨rfl, by omega⟩ | skip))) | ((with_reducible apply s_iaddrO); (· rfl); (· rfl); (· (first | omega | exact ⟨rfl, by omega⟩ | skip)); (· (exact hpX))) | ((with_reducible apply s_iaddrSO); (· rfl); (· assumption); (· rfl); (· (first | omega | exact ⟨rfl, by omega⟩ | skip)); (· (first | exact nuI | exact nuN)); intro ks hks))) | ((with_reducible refine k_iaddrA ?_); (first | ((with_reducible apply s_iaddrAV); (· rfl); (· rfl); (· (first | omega | exact ⟨rfl, by omega⟩ | skip))) | ((with_reducible apply s_iaddrAP); (· rfl); (· rfl); (· (first | omega | exact ⟨rfl, by omega⟩ | skip))))) | ((with_reducible refine k_load ?_); (first | ((with_reducible apply s_loadV); (· rfl)) | ((with_reducible apply s_loadP); (· rfl); (· (exact hpX))))) | ((with_reducible refine k_add ?_); ((with_reducible apply s_add); (· rfl); (· rfl))) | ((with_reducible refine k_store ?_); ((with_reducible apply s_store0); (· rfl); (· rfl); (· rfl); (· (exact hpX)); (· (exact ⟨rfl, by first | exact Nat.le_of_ble_eq_true rfl | omega | (simp; omega)⟩)); (· ((first | exact liL | exact liO))); (· (first | exact upd_upd | rfl)))) | ((with_reducible refine k_faddr ?_); (first | ((with_reducible apply s_faddrV); (· rfl); (· rfl)) | ((with_reducible apply s_faddrP); (· rfl); (· rfl)))) | ((with_reducible refine k_dreg ?_); refine s_dregS (pre := A57d15p) rfl rfl rfl ?_; intro K hK) | (with_reducible refine d_nilS ?_) | ((with_reducible refine k_dop ?_); refine d_step (by first | exact Or.inl rfl | exact Or.inr rfl) ?_) | (with_reducible refine d_back ?_) | ((with_reducible refine k_br ?_); (first | (with_reducible first | refine Br_dec ?_ | refine Br_not ?_ | refine Br_eqF ?_ | refine Br_and ?_ | refine Br_or ?_ | refine Br_neg ?_ | refine Br_band ?_ | refine Br_bor ?_ | refine Br_beq ?_) | (refine Br_t (by first | with_reducible rfl | omega | assumption | rfl) ?_) | (refine Br_f (by first | omega | assumption | decide) ?_) | (with_reducible apply Br_sb <;> intro hbr <;> (first | subst hbr | simp only [hbr] | skip)) | (with_reducible apply Br_s <;> intro hbr))) | (with_reducible refine WN_succ ?_) | ((first | (with_reducible apply q_eqI) | (with_reducible apply q_eqN)); (first | exact nuI | exact nuN)) | ((first | (with_reducible apply q_eqL) | (with_reducible apply q_eqO)); (first | exact liL | exact liO)))
      all_goals first | (exfalso; omega) | skip
      refine ⟨_, rfl, by rw [upd_self]; simp; try omega, fun j c hj => ?_⟩
      have hj' := hs j c hj
      repeat rw [upd_ne (by rintro rfl; first | (rw [hk3] at hj; cases hj; done) | (simp [hj'] at *; done))]
      exact hj'
  · rintro e' h' ⟨h1, he, hw, hs⟩
    cases he
    rw [e0, e1, e2] at hw
    have hkb := hs _ _ hk
    rw [hl] at g1
    have g1' : c[1]? = some (.vs 5 [.int .i64 (-1), .int .i64 (uO 0 s.out), .int .i64 0, .int .i64 0, .int .i64 9, .int .i64 0, .int .i64 (uO 1 s.out), .int .i64 0, .int .i64 0, .int .i64 6, .int .i64 1, .int .i64 (uO 2 s.out), .int .i64 0, .int .i64 0, .int .i64 4] 3) := g1
    generalize uO 0 s.out = v0 at *
    generalize uO 1 s.out = v1 at *
    generalize uO 2 s.out = v2 at *
    repeat' (first | (with_reducible first | refine W_seq ?_ | refine then_n ?_ | refine W_block ?_ | refine blk_n ?_ | refine blk_r ?_ | refine blk_e ?_ | refine W_skip ?_ | refine W_ret ?_ | refine then_r ?_ | refine W_exit ?_ | refine then_e ?_) | ((with_reducible refine s_reg ?_); intro K hK) | ((with_reducible refine k_nil ?_); (with_reducible apply s_nil hK); (· exact nmX); clear hK; clear K) | ((with_reducible refine k_cond ?_); (first | ((with_reducible apply s_condT); (· rfl); (· exact nmX)) | ((with_reducible apply s_condF); (· rfl); (· exact nmX)) | ((with_reducible apply s_condS); (· rfl); (· exact nmX); (· exact nmX)))) | ((with_reducible refine k_mv ?_); (refine s_mv rfl ?_)) | ((with_reducible refine k_len ?_); (first | (refine s_len rfl rfl ?_) | ((with_reducible apply s_len); (· rfl); (· exact SlOwn.len (by assumption))) | ((with_reducible apply s_len); (· rfl); (· assumption)))) | ((with_reducible refine k_lss ?_); (refine s_lss rfl rfl ?_)) | ((with_reducible refine k_load ?_); (first | ((with_reducible apply s_loadV); (· rfl)) | ((with_reducible apply s_loadP); (· rfl); (· (exact hpX))))) | ((with_reducible refine k_faddr ?_); (first | ((with_reducible apply s_faddrV); (· rfl); (· rfl)) | ((with_reducible apply s_faddrP); (· rfl); (· rfl)))) | ((with_reducible refine k_nilck ?_); (first | ((with_reducible apply s_nilckV); (· rfl)) | ((with_reducible apply s_nilckP); (· rfl)) | ((with_reducible apply s_nilckF); (· rfl)))) | ((with_reducible refine k_br ?_); (first | (with_reducible first | refine Br_dec ?_ | refine Br_not ?_ | refine Br_eqF ?_ | refine Br_and ?_ | refine Br_or ?_ | refine Br_neg ?_ | refine Br_band ?_ | refine Br_bor ?_ | refine Br_beq ?_) | (refine Br_t (by first | with_reducible rfl | omega | assumption | rfl) ?_) | (refine Br_f (by first | omega | assumption | decide) ?_) | (with_reducible apply Br_sb <;> intro hbr <;> (first | subst hbr | simp only [hbr] | skip)) | (with_reducible apply Br_s <;> intro hbr))) | ((first | (with_reducible apply q_eqL) | (with_reducible apply q_eqO)); (first | (simp (disch := omega) only [upd_self, upd_ne, upd_upd, rep, splice, List.take_succ_cons, List.take_zero, List.drop_succ_cons, List.drop_zero, List.cons_append, List.nil_append, List.append_nil, List.length_cons, List.length_nil, List.reduceReplicate, List.flatten_cons, List.flatten_nil, Nat.reduceAdd, Nat.reduceMul, Nat.reduceSub, Nat.zero_add, Nat.add_zero, List.getElem?_cons_zero, List.getElem?_cons_succ, g1']; try rfl; done) | rfl)))
    all_goals first | (exfalso; omega) | skip
    refine W_unroll 4 ?_
    repeat' (first | (with_reducible first | refine W_seq ?_ | refine then_n ?_ | refine W_block ?_ | refine blk_n ?_ | refine blk_r ?_ | refine blk_e ?_ | refine W_skip ?_ | refine W_ret ?_ | refine then_r ?_ | refine W_exit ?_ | refine then_e ?_) | ((with_reducible refine s_reg ?_); intro K hK) | ((with_reducible refine k_nil ?_); (with_reducible apply s_nil hK); (· exact nmX); clear hK; clear K) | ((with_reducible refine k_cond ?_); (first | ((with_reducible apply s_condT); (· rfl); (· exact nmX)) | ((with_reducible apply s_condF); (· rfl); (· exact nmX)) | ((with_reducible apply s_condS); (· rfl); (· exact nmX); (· exact nmX)))) | ((with_reducible refine k_mv ?_); (refine s_mv rfl ?_)) | ((with_reducible refine k_pick ?_); (first | (refine s_pickT rfl rfl ?_) | (refine s_pickF rfl rfl ?_))) | ((with_reducible refine k_neq ?_); (first | (refine s_neq rfl rfl ?_) | (refine s_strNe rfl rfl ?_))) | ((with_reducible refine k_lss ?_); (refine s_lss rfl rfl ?_)) | ((with_reducible refine k_gtr ?_); (refine s_gtr rfl rfl ?_)) | ((with_reducible refine k_iaddr ?_); (first | ((with_reducible apply s_iaddrV); (· rfl); (· rfl); (· (first | omega | exact ⟨rfl, by omega⟩ | skip))) | ((with_reducible apply s_iaddrO); (· rfl); (· rfl); (· (first | omega | exact ⟨rfl, by omega⟩ | skip)); (· (exact hpX))) | ((with_reducible apply s_iaddrSO); (· rfl); (· assumption); (· rfl); (· (first | omega | exact ⟨rfl, by omega⟩ | skip)); (· (first | exact nuI | exact nuN)); intro ks hks))) | ((with_reducible refine k_iaddrA ?_); (first | ((with_reducible apply s_iaddrAV); (· rfl); (· rfl); (· (first | omega | exact ⟨rfl, by omega⟩ | skip))) | ((with_reducible apply s_iaddrAP); (· rfl); (· rfl); (· (first | omega | exact ⟨rfl, by omega⟩ | skip))))) | ((with_reducible refine k_load ?_); (first | ((with_reducible apply s_loadV); (· rfl)) | ((with_reducible apply s_loadP); (· rfl); (· (exact hpX))))) | ((with_reducible refine k_loadA ?_); (first | ((with_reducible apply s_loadAV); (· rfl); (· (first | exact Nat.le_of_ble_eq_true rfl | decide | omega | (simp; done) | (simp; omega) | skip))) | ((with_reducible apply s_loadAP); (· rfl); (· (exact hpX)); (· (first | exact Nat.le_of_ble_eq_true rfl | decide | omega | (simp; done) | (simp; omega) | skip))))) | ((with_reducible refine k_add ?_); ((with_reducible apply s_add); (· rfl); (· rfl))) | ((with_reducible refine k_store ?_); ((with_reducible apply s_store0); (· rfl); (· rfl); (· rfl); (· (exact hpX)); (· (exact ⟨rfl, by first | exact Nat.le_of_ble_eq_true rfl | omega | (simp; omega)⟩)); (· ((first | exact liL | exact liO))); (· (first | exact upd_upd | rfl)))) | ((with_reducible refine k_faddr ?_); (first | ((with_reducible apply s_faddrV); (· rfl); (· rfl)) | ((with_reducible apply s_faddrP); (· rfl); (· rfl)))) | ((with_reducible refine k_alloc (dst := some 9) ?_); ((with_reducible apply s_alloc); intro k9 hk9; (try simp only [upd_none] at hk9))) | ((with_reducible refine k_dreg ?_); refine s_dreg rfl rfl ?_; intro K hK) | ((with_reducible refine k_dnil ?_); (with_reducible apply d_nil hK); (· exact nmX); clear hK; clear K) | ((with_reducible refine k_dguard ?_); (first | (refine d_gt rfl ?_) | (refine d_gf rfl ?_) | (refine d_gx rfl ?_) | (refine d_gs rfl ?_))) | ((with_reducible refine k_dop ?_); refine d_step (by first | exact Or.inl rfl | exact Or.inr rfl) ?_) | (with_reducible refine d_back ?_) | ((with_reducible refine k_br ?_); (first | (with_reducible first | refine Br_dec ?_ | refine Br_not ?_ | refine Br_eqF ?_ | refine Br_and ?_ | refine Br_or ?_ | refine Br_neg ?_ | refine Br_band ?_ | refine Br_bor ?_ | refine Br_beq ?_) | (refine Br_t (by first | with_reducible rfl | omega | assumption | rfl) ?_) | (refine Br_f (by first | omega | assumption | decide) ?_) | (with_reducible apply Br_sb <;> intro hbr <;> (first | subst hbr | simp only [hbr] | skip)) | (with_reducible apply Br_s <;> intro hbr))) | (with_reducible refine WN_succ ?_) | ((first | (with_reducible apply q_eqI) | (with_reducible apply q_eqN)); (first | exact nuI | exact nuN)) | ((first | (with_reducible apply q_eqL) | (with_reducible apply q_eqO)); (first | exact liL | exact liO)))
    all_goals first | (exfalso; omega) | skip
    refine ⟨trivial, _, rfl, hQ _ fun j c hj => ?_⟩
    have hj' := hs j c hj
    dsimp only
    repeat rw [upd_ne (by rintro rfl; first | (rw [hk3] at hj; cases hj; done) | (simp [hj'] at *; done))]
    exact hj'
end Go.Proofs.Ytbepjnjfnmmpaaa
end
section
/- The law TopGrantsEnd: step. -/
set_option linter.unusedSimpArgs false
set_option linter.unusedVariables false
namespace Go.Proofs.Ytbepjnjfnmmpaaa
open Go.AM Classical
set_option maxRecDepth 100000
set_option maxHeartbeats 4000000
structure GOp where
  kind : Int
  proc : Int
  account : Int
  count : Int
abbrev GOp.cells (o : GOp) : List D := [.int .u8 o.kind, .int .u8 o.proc, .int .u8 o.account, .int .u8 o.count]
def GOp.ok (o : GOp) : Prop := (0 ≤ o.kind ∧ o.kind ≤ 255) ∧ (0 ≤ o.proc ∧ o.proc ≤ 255) ∧ (0 ≤ o.account ∧ o.account ≤ 255) ∧ 0 ≤ o.count ∧ o.count ≤ 255
def GOp.p (o : GOp) : Int := o.proc % 8
def GOp.ask (o : GOp) : Ask := ⟨o.proc % 8, o.account % 3, o.count % 3, o.count / 3 % 4⟩
theorem GOp.ask_d {o : GOp} (h : o.ok) : dA o.ask := by
  obtain ⟨h1, h2, h3, h4⟩ := h
  unfold dA GOp.ask
  dsimp only
  omega
def stepR (o : GOp) (s s' : GS) : Prop :=
  if o.kind % 4 = 0 then ((∃ b ∈ s.q, b.proc = o.p) ∧ s' = s) ∨ ((∀ b ∈ s.q, b.proc ≠ o.p) ∧ s' = pushS s o.ask)
  else if o.kind % 4 = 1 then ((∃ b ∈ s.q, b.proc = o.p) ∧ s' = cutS s (ofF s.q o.p).toNat) ∨ ((¬ ∃ b ∈ s.q, b.proc = o.p) ∧ s' = s)
  else if o.kind % 4 = 2 then s' = serN s (srvL s.q s.l s.no s.al).1
  else (∃ o1 g o2, s.out = o1 ++ g :: o2 ∧ g.2.proc = o.p ∧ (∀ x ∈ o1, x.2.proc ≠ o.p) ∧ s' = bakS s g o1 o2) ∨ ((∀ g ∈ s.out, g.2.proc ≠ o.p) ∧ s' = s)
theorem d_fr {h : Heap} {d : D} {o : List Gr} {n kb : Nat} {c : List D} {s : GS} (ho : SlOwn h d 5 (o.flatMap gC) n) (hk : h kb = some c) (G : GC c s d) : Fr d kb := by
  obtain ⟨hl, ⟨-, rfl | rfl⟩ | ⟨j, rfl, hj⟩⟩ := ho
  · exact Fr.nil
  · intro _ _ _ e; cases e
  · refine Fr.sl ?_
    rintro rfl
    rw [hk] at hj; injection hj with hj
    have h0 := G.g0
    have h1 := G.len
    subst hj
    cases o with
    | nil => simp at h1
    | cons a r => simp at h0
def wtB (q : List Ask) (p : Int) (i : Nat) : Bool := (q.take i).any fun b => decide (b.proc = p)
theorem wtB_s {q : List Ask} {p : Int} {i : Nat} (hi : i < q.length) : wtB q p (i + 1) = (wtB q p i || decide (q[i].proc = p)) := by
  unfold wtB
  rw [List.take_succ_eq_append_getElem hi, List.any_append]
  simp
theorem wtB_end {q : List Ask} {p : Int} : wtB q p q.length = true ↔ ∃ b ∈ q, b.proc = p := by
  unfold wtB
  rw [List.take_length, List.any_eq_true]
  simp only [decide_eq_true_eq]
theorem con_end {rs : List ARes} {e : Env} {h : Heap} {d : D} {Q : D → Heap → Prop} (hd : resD rs (AM.get e) h = some d) (hq : Q d h) : True ∧ ∃ d, resD rs (AM.get (St.mk e h).env) (St.mk e h).heap = some d ∧ Q d (St.mk e h).heap := ⟨trivial, d, hd, hq⟩
theorem st15 {c : List D} (hl : c.length = 15) {j : Nat} (hj : j < 15) (d : D) : List.take j c ++ [d] ++ List.drop (j + 1) c = c.set j d := set_form (by omega)
theorem st15_0 {c : List D} (hl : c.length = 15) (d : D) : d :: List.drop 1 c = c.set 0 d := by
  cases c with
  | nil => simp at hl
  | cons a r => rfl
theorem ak_take (q : List Ask) (n : Nat) : (q.flatMap Ask.cells).take (n * 4) = (q.take n).flatMap Ask.cells := by
  induction q generalizing n with
  | nil => simp
  | cons x r ih =>
    cases n with
    | zero => simp
    | succ n =>
      have hx : x.cells.length = 4 := rfl
      rw [List.take_succ_cons, List.flatMap_cons, List.flatMap_cons, ← ih, List.take_append, List.take_of_length_le (by omega), hx, show (n + 1) * 4 - 4 = n * 4 by omega]
theorem ak_drop (q : List Ask) (n : Nat) : (q.flatMap Ask.cells).drop (n * 4) = (q.drop n).flatMap Ask.cells := by
  induction q generalizing n with
  | nil => simp
  | cons x r ih =>
    cases n with
    | zero => simp
    | succ n =>
      have hx : x.cells.length = 4 := rfl
      rw [List.drop_succ_cons, List.flatMap_cons, ← ih, List.drop_append, List.drop_eq_nil_of_le (by omega), hx, show (n + 1) * 4 - 4 = n * 4 by omega, List.nil_append]
theorem so_updF {h : Heap} {d : D} {sz n k : Nat} {cells c : List D} (ho : SlOwn h d sz cells n) (hk : Fr d k) : SlOwn (AM.upd h k c) d sz cells n := by
  obtain ⟨hl, h0 | ⟨j, rfl, hj⟩⟩ := ho
  · exact ⟨hl, .inl h0⟩
  · exact ⟨hl, .inr ⟨j, rfl, by rw [upd_ne (fun e => hk sz 0 n (by rw [e]))]; exact hj⟩⟩
theorem fm_take5 (q : List Gr) (n : Nat) : (q.flatMap gC).take (n * 5) = (q.take n).flatMap gC := by
  induction q generalizing n with
  | nil => simp
  | cons x r ih =>
    cases n with
    | zero => simp
    | succ n =>
      have hx : (gC x).length = 5 := rfl
      rw [List.take_succ_cons, List.flatMap_cons, List.flatMap_cons, ← ih, List.take_append, List.take_of_length_le (by omega), hx, show (n + 1) * 5 - 5 = n * 5 by omega]
theorem fm_drop5 (q : List Gr) (n : Nat) : (q.flatMap gC).drop (n * 5) = (q.drop n).flatMap gC := by
  induction q generalizing n with
  | nil => simp
  | cons x r ih =>
    cases n with
    | zero => simp
    | succ n =>
      have hx : (gC x).length = 5 := rfl
      rw [List.drop_succ_cons, List.flatMap_cons, ← ih, List.drop_append, List.drop_eq_nil_of_le (by omega), hx, show (n + 1) * 5 - 5 = n * 5 by omega, List.nil_append]
theorem gget_set {c : List D} {i j : Nat} {d : D} {o : Option D} (h : i ≠ j) (hj : c[j]? = o) : (c.set i d)[j]? = o := by rw [List.getElem?_set_ne h]; exact hj
theorem GC.set0 {c : List D} {s : GS} {d : D} (G : GC c s d) (q : List Ask) : GC (c.set 0 (asks q)) { s with q := q } d :=
  ⟨by rw [List.length_set]; exact G.len, List.getElem?_set_self (by rw [G.len]; decide), gget_set (by decide) G.g1, gget_set (by decide) G.g2, gget_set (by decide) G.g3, fun k hk => gget_set (by omega) (G.gn k hk), gget_set (by decide) G.g12, gget_set (by decide) G.g13, gget_set (by decide) G.g14⟩
theorem GC.set1 {c : List D} {s : GS} {d : D} (G : GC c s d) (l : List Acct) : GC (c.set 1 (accs l)) { s with l := l } d :=
  ⟨by rw [List.length_set]; exact G.len, gget_set (by decide) G.g0, List.getElem?_set_self (by rw [G.len]; decide), gget_set (by decide) G.g2, gget_set (by decide) G.g3, fun k hk => gget_set (by omega) (G.gn k hk), gget_set (by decide) G.g12, gget_set (by decide) G.g13, gget_set (by decide) G.g14⟩
theorem GC.set2 {c : List D} {s : GS} {d : D} (G : GC c s d) (n : Int) : GC (c.set 2 (.int .i64 n)) { s with no := n } d :=
  ⟨by rw [List.length_set]; exact G.len, gget_set (by decide) G.g0, gget_set (by decide) G.g1, List.getElem?_set_self (by rw [G.len]; decide), gget_set (by decide) G.g3, fun k hk => gget_set (by omega) (G.gn k hk), gget_set (by decide) G.g12, gget_set (by decide) G.g13, gget_set (by decide) G.g14⟩
theorem GC.set3 {c : List D} {s : GS} {d : D} (G : GC c s d) (n : Int) : GC (c.set 3 (.int .i64 n)) { s with al := n } d :=
  ⟨by rw [List.length_set]; exact G.len, gget_set (by decide) G.g0, gget_set (by decide) G.g1, gget_set (by decide) G.g2, List.getElem?_set_self (by rw [G.len]; decide), fun k hk => gget_set (by omega) (G.gn k hk), gget_set (by decide) G.g12, gget_set (by decide) G.g13, gget_set (by decide) G.g14⟩
theorem GC.setn {c : List D} {s : GS} {d : D} (G : GC c s d) (hl : s.nums.length = 8) {j : Nat} (hj : j < 8) (n : Int) : GC (c.set (4 + j) (.int .i64 n)) { s with nums := s.nums.set j n } d :=
  ⟨by rw [List.length_set]; exact G.len, gget_set (by omega) G.g0, gget_set (by omega) G.g1, gget_set (by omega) G.g2, gget_set (by omega) G.g3, fun k hk => by
    by_cases e : j = k
    · subst e
      rw [List.getElem?_set_self (by rw [G.len]; omega)]
      show _ = some (D.int .i64 ((s.nums.set j n).getD j 0))
      rw [List.getD_eq_getElem?_getD, List.getElem?_set_self (by omega)]; rfl
    · rw [List.getElem?_set_ne (by omega)]
      show _ = some (D.int .i64 ((s.nums.set j n).getD k 0))
      rw [List.getD_eq_getElem?_getD, List.getElem?_set_ne e, ← List.getD_eq_getElem?_getD]
      exact G.gn k hk, gget_set (by omega) G.g12, gget_set (by omega) G.g13, gget_set (by omega) G.g14⟩
theorem GC.set12 {c : List D} {s : GS} {d : D} (G : GC c s d) (n : Int) : GC (c.set 12 (.int .i64 n)) { s with nx := n } d :=
  ⟨by rw [List.length_set]; exact G.len, gget_set (by decide) G.g0, gget_set (by decide) G.g1, gget_set (by decide) G.g2, gget_set (by decide) G.g3, fun k hk => gget_set (by omega) (G.gn k hk), List.getElem?_set_self (by rw [G.len]; decide), gget_set (by decide) G.g13, gget_set (by decide) G.g14⟩
theorem GC.set13 {c : List D} {s : GS} {d : D} (G : GC c s d) (n : Int) : GC (c.set 13 (.int .i64 n)) { s with la := n } d :=
  ⟨by rw [List.length_set]; exact G.len, gget_set (by decide) G.g0, gget_set (by decide) G.g1, gget_set (by decide) G.g2, gget_set (by decide) G.g3, fun k hk => gget_set (by omega) (G.gn k hk), gget_set (by decide) G.g12, List.getElem?_set_self (by rw [G.len]; decide), gget_set (by decide) G.g14⟩
theorem GC.set14 {c : List D} {s : GS} {d : D} (G : GC c s d) (d' : D) (o : List Gr) : GC (c.set 14 d') { s with out := o } d' :=
  ⟨by rw [List.length_set]; exact G.len, gget_set (by decide) G.g0, gget_set (by decide) G.g1, gget_set (by decide) G.g2, gget_set (by decide) G.g3, fun k hk => gget_set (by omega) (G.gn k hk), gget_set (by decide) G.g12, gget_set (by decide) G.g13, List.getElem?_set_self (by rw [G.len]; decide)⟩
end Go.Proofs.Ytbepjnjfnmmpaaa
namespace Go.AM
theorem s_appE {P : Program} {e : Env} {h : Heap} {r : List AIns} {K : Env → Heap → Prop} {t sz bytes n m k : Nat} {x y : O} {dy : D} {cells new : List D} (h1 : evO (get e) x = some (.sl k sz 0 n)) (h2 : evO (get e) y = some dy) (hk : h k = some cells) (hcl : cells.length = n * sz) (hy : lenA dy = some m) (hs : srcD h sz m dy = some new) (hl : new.length = m * sz ∧ 0 < sz) (hr : (n + m) * bytes ≤ room)
    (hw : ∀ k' h', (k' = k ∨ h k' = none) → h' k' = some (cells ++ new) → (∀ j c, h j = some c → j ≠ k → h' j = some c) → Wops P r ((t, .sl k' sz 0 (n + m)) :: e) h' K) : Wops P (⟨some t, .append sz bytes x y, none⟩ :: r) e h K := by
  by_cases hm : m = 0
  · subst hm
    have hn : new = [] := List.length_eq_zero_iff.1 (by rw [hl.1]; simp)
    subst hn
    refine s_append h1 h2 fun key hkey => ⟨.sl k sz 0 n, h, by simp only [appD, hy, hs, if_true, hk], ?_⟩
    exact hw k h (.inl rfl) (by rw [hk, List.append_nil]) fun j c hj _ => hj
  · refine s_append h1 h2 fun key hkey => ?_
    obtain ⟨h', h3, h4, h5⟩ := append_own2 (d := .sl k sz 0 n) (SlOwn.sl hk hcl) hy hs hl.1 hl.2 hm hr hkey
    exact ⟨_, h', h3, hw key h' (.inr hkey) h4 fun j c hj hne => h5 j c hj (Fr.sl (Ne.symm hne))⟩
theorem srcD_pre {h : Heap} {k sz off n : Nat} {c : List D} (hk : h k = some c) (hl : off + n * sz ≤ c.length) : srcD h sz n (.sl k sz off n) = some ((c.drop off).take (n * sz)) := by
  simp [srcD, hk]
  exact hl
end Go.AM
namespace Go.Proofs.Ytbepjnjfnmmpaaa
open Go.AM Classical
set_option maxRecDepth 100000
set_option maxHeartbeats 4000000
end Go.Proofs.Ytbepjnjfnmmpaaa
end
