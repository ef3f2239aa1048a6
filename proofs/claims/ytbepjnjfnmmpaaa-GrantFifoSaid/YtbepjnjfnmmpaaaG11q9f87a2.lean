import Derived.Test.YtbepjnjfnmmpaaaG2q63612e
import Derived.Test.YtbepjnjfnmmpaaaAmZ3q7f9d36
section
/- Asks: what is missing, what is hopeless. -/
set_option linter.unusedSimpArgs false
set_option linter.unusedVariables false
namespace Go.Proofs.Ytbepjnjfnmmpaaa
open Go.AM Classical
set_option maxRecDepth 100000
set_option maxHeartbeats 4000000
def capF (x : Int) : Int := if -1048576 > x then -1048576 else x
theorem capF_ge (x : Int) : -1048576 ≤ capF x ∧ x ≤ capF x := by unfold capF; split <;> omega
def totA (a : Ask) : Int := a.kernel + a.user
abbrev Sht := (Int × Int × Bool) × Int
noncomputable def endF (a : Ask) (no al : Int) : Sht :=
  if a.kernel > capF no then ((a.kernel - capF no, -1, true), 0) else if totA a > capF al then ((totA a - capF al, -1, false), 0) else ((0, -1, false), 0)
noncomputable def shF (a : Ask) (l : List Acct) (no al : Int) : Sht :=
  if vaP a then (if chkF l = 0 then (if a.account < l.length then
      Option.elim (stopL l (totA a) (pathF l a.account)) (endF a no al) (fun x => ((totA a - roomA l x, x, false), 0))
    else ((0, 0, false), 6)) else ((0, 0, false), chkF l)) else ((0, 0, false), 2)
def shR (r : Sht) : D := .tup [.agg [.int .i64 r.1.1, .int .i64 r.1.2.1, .bool r.1.2.2], .int .i64 r.2]
theorem Fin_sh {t1 t2 k : Nat} {e : Env} {h : Heap} {a b x : Int} {c : Bool} (h1 : AM.get e t1 = some (.pt k 0)) (h2 : AM.get e t2 = some (.int .i64 x)) (hk : h k = some [.int .i64 a, .int .i64 b, .bool c]) : AM.Fin [.cell t1 true 3, .tmp t2] (shR ((a, b, c), x)) X.ret ⟨e, h⟩ := by
  unfold shR
  refine Fin_tup trivial (ds := [.agg [.int .i64 a, .int .i64 b, .bool c], .int .i64 x]) ?_ (All2.cons (exc_v rfl rfl) (All2.cons (exc_v rfl rfl) All2.nil)) (Nat.le_of_ble_eq_true rfl)
  simp [resD, resL, h1, h2, memAt, hk, ldD]
theorem short_c (a : Ask) (l : List Acct) (hL : l.length ≤ 9223372036854775807) (no al : Int) : PCon Try.prog 12 [.agg a.cells, accs l, .int .i64 no, .int .i64 al] (shR (shF a l no al)) := by
  have cv := gvalid_c a
  have cc := check_c l hL
  have cp := path_c l hL a.account
  have hal := accs_len l
  refine A12p (by simp [A12]) ?_
  simp only [A12, argEnv]
  unfold shF
  by_cases hv : vaP a
  · rw [if_pos hv]
    rw [decide_eq_true hv] at cv
    have cT := hv
    by_cases hc : chkF l = 0
    · rw [if_pos hc]
      rw [hc] at cc
      by_cases ha : a.account < l.length
      · rw [if_pos ha]
        obtain ⟨h0, ht, hm, _⟩ := chk_ok hc
        have hpl := pathF_len l a.account
        have hpi := fun x hx => pathF_in (l := l) (a := a.account) (x := x) hx
        obtain ⟨_, _, i1, i2⟩ := hv
        unfold inR at i1 i2
        have q1 := capF_ge no
        have q2 := capF_ge al
        have m1 : mimaD true [.int .i64 no, .int .i64 (-1048576)] = some (.int .i64 (capF no)) := rfl
        have m2 : mimaD true [.int .i64 al, .int .i64 (-1048576)] = some (.int .i64 (capF al)) := rfl
        have n1 : a.kernel > capF no → endF a no al = ((a.kernel - capF no, -1, true), 0) := fun h => by unfold endF; rw [if_pos h]
        have n2 : ¬ a.kernel > capF no → totA a > capF al → endF a no al = ((totA a - capF al, -1, false), 0) := fun h h' => by unfold endF; rw [if_neg h, if_pos h']
        have n3 : ¬ a.kernel > capF no → ¬ totA a > capF al → endF a no al = ((0, -1, false), 0) := fun h h' => by unfold endF; rw [if_neg h, if_neg h']
        generalize capF no = cn at *
        generalize capF al = ca at *
        generalize hp : pathF l a.account = p at *
        generalize endF a no al = E at *
        obtain ⟨pr, ac, k, u⟩ := a
        dsimp only [Ask.cells, totA] at *
        repeat' (first | (with_reducible first | refine W_seq ?_ | refine then_n ?_ | refine W_block ?_ | refine blk_n ?_ | refine blk_r ?_ | refine blk_e ?_ | refine W_skip ?_ | refine W_ret ?_ | refine then_r ?_ | refine W_exit ?_ | refine then_e ?_) | (refine blk_j (by decide) ?_) | ((with_reducible refine s_reg ?_); intro K hK) | ((with_reducible refine k_nil ?_); (with_reducible apply s_nil hK); (· exact nmX); clear hK; clear K) | ((with_reducible refine k_cond ?_); (first | ((with_reducible apply s_condT); (· rfl); (· exact nmX)) | ((with_reducible apply s_condF); (· rfl); (· exact nmX)) | ((with_reducible apply s_condS); (· rfl); (· exact nmX); (· exact nmX)))) | ((with_reducible refine k_guard ?_); (first | (refine s_gt rfl ?_) | (refine s_gf1 rfl ?_) | (refine s_gfn rfl ?_) | (refine s_gx1 rfl ?_) | (refine s_gxn rfl ?_) | (refine s_gs rfl ?_))) | ((with_reducible refine k_mv ?_); (refine s_mv rfl ?_)) | ((with_reducible refine k_len ?_); (first | (refine s_len rfl rfl ?_) | ((with_reducible apply s_len); (· rfl); (· exact SlOwn.len (by assumption))))) | ((with_reducible refine k_not ?_); (refine s_not rfl (by first | exact Bool.not_true | exact Bool.not_false | rfl) ?_)) | ((with_reducible refine k_neq ?_); (first | (refine s_neq rfl rfl ?_) | (refine s_strNe rfl rfl ?_))) | ((with_reducible refine k_geq ?_); (refine s_geq rfl rfl ?_)) | ((with_reducible refine k_load ?_); (first | ((with_reducible apply s_loadV); (· rfl)) | ((with_reducible apply s_loadP); (· rfl); (· (exact hpX))))) | ((with_reducible refine k_loadA ?_); (first | ((with_reducible apply s_loadAV); (· rfl); (· (first | exact Nat.le_of_ble_eq_true rfl | decide | omega | (simp; done) | (simp; omega) | skip))) | ((with_reducible apply s_loadAP); (· rfl); (· (exact hpX)); (· (first | exact Nat.le_of_ble_eq_true rfl | decide | omega | (simp; done) | (simp; omega) | skip))))) | ((with_reducible refine k_add ?_); ((with_reducible apply s_add); (· rfl); (· rfl))) | ((with_reducible refine k_store ?_); ((with_reducible apply s_store0); (· rfl); (· rfl); (· rfl); (· (exact hpX)); (· (exact ⟨rfl, by first | exact Nat.le_of_ble_eq_true rfl | omega | (simp; omega)⟩)); (· ((first | exact liL | exact liO))); (· (first | exact upd_upd | rfl)))) | ((with_reducible refine k_faddr ?_); (first | ((with_reducible apply s_faddrV); (· rfl); (· rfl)) | ((with_reducible apply s_faddrP); (· rfl); (· rfl)))) | ((with_reducible refine k_alloc (dst := some 8) ?_); ((with_reducible apply s_alloc); intro k8 hk8; (try simp only [upd_none] at hk8))) | ((with_reducible refine k_box (dst := some 4) ?_); ((with_reducible apply s_box); (· rfl); (· rfl); intro k4 hk4; (try simp only [upd_none] at hk4))) | ((with_reducible refine k_build ?_); ((with_reducible apply s_build); (· rfl); (· rfl))) | ((with_reducible refine k_callF ?_); (first | ((with_reducible apply s_call1); (· rfl)) | ((with_reducible apply s_calln); (· rfl)))) | ((with_reducible refine k_con ?_); (first | ((with_reducible apply con_val (cv)); (· (exact agX)); (· rfl); (· exact fun _ => rfl)) | ((with_reducible apply con_val (cc)); (· (exact agX)); (· rfl); (· exact fun _ => rfl)) | ((with_reducible apply con_of_pcon (cp)); (· (exact agX)); intro kP hkP; (try simp only [upd_none] at hkP); simp only [thaw, thawC, List.map, thawH, owOf, owL]))) | ((with_reducible refine k_dreg ?_); refine s_dreg rfl rfl ?_; intro K hK) | (with_reducible refine d_nilS ?_) | ((with_reducible refine k_dnil ?_); (with_reducible apply d_nil hK); (· exact nmX); clear hK; clear K) | ((with_reducible refine k_dguard ?_); (first | (refine d_gt rfl ?_) | (refine d_gf rfl ?_) | (refine d_gx rfl ?_) | (refine d_gs rfl ?_))) | ((with_reducible refine k_dop ?_); refine d_step (by first | exact Or.inl rfl | exact Or.inr rfl) ?_) | (with_reducible refine d_back ?_) | ((with_reducible refine k_br ?_); (first | (with_reducible first | refine Br_dec ?_ | refine Br_not ?_ | refine Br_eqF ?_ | refine Br_and ?_ | refine Br_or ?_ | refine Br_neg ?_ | refine Br_band ?_ | refine Br_bor ?_ | refine Br_beq ?_) | (refine Br_t (by first | with_reducible rfl | omega | assumption | rfl) ?_) | (refine Br_f (by first | omega | assumption | decide) ?_) | (with_reducible apply Br_sb <;> intro hbr <;> (first | subst hbr | simp only [hbr] | skip)) | (with_reducible apply Br_s <;> intro hbr))) | (with_reducible refine WN_succ ?_) | ((first | (with_reducible apply q_eqI) | (with_reducible apply q_eqN)); (first | exact nuI | exact nuN)) | ((first | (with_reducible apply q_eqL) | (with_reducible apply q_eqO)); (first | exact liL | exact liO)))
        all_goals first | (exfalso; omega) | skip
        refine W_for p.length (fun i st => ∃ h', (∀ j (hj : j < i) (h : j < p.length), ¬ roomA l p[j] < k + u) ∧ st = ⟨[(1, accs l), (2, .int .i64 no), (3, .int .i64 al), (4, .pt k4 0), (8, .pt k8 0), (11, .int .i64 (k + u)), (39, .sl kP 1 0 p.length), (40, .int .i64 p.length), (41, .int .i64 i)], h'⟩ ∧ h' k4 = some [.int .i64 pr, .int .i64 ac, .int .i64 k, .int .i64 u] ∧ (∃ c, h' k8 = some c ∧ c = [.int .i64 0, .int .i64 0, .bool false]) ∧ h' kP = some (p.map (.int .i64))) ⟨_, fun j hj => by omega, rfl, hpX, ⟨_, hpX, rfl⟩, hpX⟩ ?_ ?_
        · clear n1 n2 n3 m1 m2
          rintro i e' h' hi ⟨h1, hb, he, j4, ⟨c8, j8, rfl⟩, jP⟩
          cases he
          have hx := hpi p[i] (List.getElem_mem _)
          have hxt : p[i].toNat < l.length := by omega
          have hux := us_in hm.1 p[i].toNat
          have hmx := mx_in hm.1 p[i].toNat
          have f1 := us_at hxt
          have f2 := mx_at hxt
          have hr : roomA l p[i] = mx l p[i].toNat - us l p[i].toNat := rfl
          have g1 := ac1 hxt
          have g4 := ac4 hxt
          rw [← f1] at g1
          rw [← f2] at g4
          have gp : (p.map (D.int .i64))[i]? = some (.int .i64 p[i]) := by rw [List.getElem?_map, List.getElem?_eq_getElem hi]; rfl
          by_cases hroom : roomA l p[i] < k + u
          · rw [stopL_at hi hroom hb]
            dsimp only [Option.elim]
            clear hb
            generalize roomA l p[i] = R at *
            generalize us l p[i].toNat = U at *
            generalize mx l p[i].toNat = M at *
            generalize p[i] = x at *
            subst hr
            repeat' (first | (with_reducible first | refine W_seq ?_ | refine then_n ?_ | refine W_block ?_ | refine blk_n ?_ | refine blk_r ?_ | refine blk_e ?_ | refine W_skip ?_ | refine W_ret ?_ | refine then_r ?_ | refine W_exit ?_ | refine then_e ?_) | (refine blk_j (by decide) ?_) | ((with_reducible refine s_reg ?_); intro K hK) | ((with_reducible refine k_nil ?_); (with_reducible apply s_nil hK); (· exact nmX); clear hK; clear K) | ((with_reducible refine k_cond ?_); (first | ((with_reducible apply s_condT); (· rfl); (· exact nmX)) | ((with_reducible apply s_condF); (· rfl); (· exact nmX)) | ((with_reducible apply s_condS); (· rfl); (· exact nmX); (· exact nmX)))) | ((with_reducible refine k_guard ?_); (first | (refine s_gt rfl ?_) | (refine s_gf1 rfl ?_) | (refine s_gfn rfl ?_) | (refine s_gx1 rfl ?_) | (refine s_gxn rfl ?_) | (refine s_gs rfl ?_))) | ((with_reducible refine k_mv ?_); (refine s_mv rfl ?_)) | ((with_reducible refine k_lss ?_); (refine s_lss rfl rfl ?_)) | ((with_reducible refine k_gtr ?_); (refine s_gtr rfl rfl ?_)) | ((with_reducible refine k_iaddr ?_); (first | ((with_reducible apply s_iaddrV); (· rfl); (· rfl); (· (first | omega | exact ⟨rfl, by omega⟩ | skip))) | ((with_reducible apply s_iaddrO); (· rfl); (· rfl); (· (first | omega | exact ⟨rfl, by omega⟩ | skip)); (· (exact hpX))) | ((with_reducible apply s_iaddrSO); (· rfl); (· assumption); (· rfl); (· (first | omega | exact ⟨rfl, by omega⟩ | skip)); (· (first | (simp (disch := omega) only [w64, wu8, wu16, wu32, wu64, tm_nn, td_nn, fd_nn, Int.reduceAdd, Int.reduceSub, Int.reduceMul, Int.reduceDiv, Int.reduceMod, Int.reduceNeg, Int.reduceToNat, Int.toNat_natCast, Int.toNat_zero, Int.zero_add, Int.add_zero, Int.one_mul, Int.reducePow, Nat.mul_one, Nat.zero_add, Nat.add_zero, Nat.zero_mul, Nat.reduceAdd, Nat.reduceMul, Nat.reduceSub, Nat.min_eq_left, IntKind.bits, Nat.sub_zero, gp, g1, g4]; try rfl; done) | rfl)); intro ks hks))) | ((with_reducible refine k_load ?_); (first | ((with_reducible apply s_loadV); (· rfl)) | ((with_reducible apply s_loadP); (· rfl); (· (exact hpX))))) | ((with_reducible refine k_add ?_); ((with_reducible apply s_add); (· rfl); (· rfl))) | ((with_reducible refine k_sub ?_); ((with_reducible apply s_sub); (· rfl); (· rfl))) | ((with_reducible refine k_store ?_); ((with_reducible apply s_store0); (· rfl); (· rfl); (· rfl); (· (exact hpX)); (· (exact ⟨rfl, by first | exact Nat.le_of_ble_eq_true rfl | omega | (simp [gp, g1, g4]; omega)⟩)); (· ((first | (simp (disch := omega) only [upd_self, upd_ne, upd_upd, rep, splice, List.take_succ_cons, List.take_zero, List.drop_succ_cons, List.drop_zero, List.cons_append, List.nil_append, List.append_nil, List.length_cons, List.length_nil, List.reduceReplicate, List.flatten_cons, List.flatten_nil, Nat.reduceAdd, Nat.reduceMul, Nat.reduceSub, Nat.zero_add, Nat.add_zero, List.getElem?_cons_zero, List.getElem?_cons_succ, gp, g1, g4]; try rfl; done) | rfl))); (· (first | exact upd_upd | rfl)))) | ((with_reducible refine k_faddr ?_); (first | ((with_reducible apply s_faddrV); (· rfl); (· rfl)) | ((with_reducible apply s_faddrP); (· rfl); (· rfl)))) | ((with_reducible refine k_build ?_); ((with_reducible apply s_build); (· rfl); (· rfl))) | ((with_reducible refine k_dreg ?_); refine s_dreg rfl rfl ?_; intro K hK) | (with_reducible refine d_nilS ?_) | ((with_reducible refine k_dnil ?_); (with_reducible apply d_nil hK); (· exact nmX); clear hK; clear K) | ((with_reducible refine k_dguard ?_); (first | (refine d_gt rfl ?_) | (refine d_gf rfl ?_) | (refine d_gx rfl ?_) | (refine d_gs rfl ?_))) | ((with_reducible refine k_dop ?_); refine d_step (by first | exact Or.inl rfl | exact Or.inr rfl) ?_) | (with_reducible refine d_back ?_) | ((with_reducible refine k_br ?_); (first | (with_reducible first | refine Br_dec ?_ | refine Br_not ?_ | refine Br_eqF ?_ | refine Br_and ?_ | refine Br_or ?_ | refine Br_neg ?_ | refine Br_band ?_ | refine Br_bor ?_ | refine Br_beq ?_) | (refine Br_t (by first | with_reducible rfl | omega | assumption | rfl) ?_) | (refine Br_f (by first | omega | assumption | decide) ?_) | (with_reducible apply Br_sb <;> intro hbr <;> (first | subst hbr | simp only [hbr] | skip)) | (with_reducible apply Br_s <;> intro hbr))) | (with_reducible refine WN_succ ?_) | ((first | (with_reducible apply q_eqI) | (with_reducible apply q_eqN)); (first | (simp (disch := omega) only [w64, wu8, wu16, wu32, wu64, tm_nn, td_nn, fd_nn, Int.reduceAdd, Int.reduceSub, Int.reduceMul, Int.reduceDiv, Int.reduceMod, Int.reduceNeg, Int.reduceToNat, Int.toNat_natCast, Int.toNat_zero, Int.zero_add, Int.add_zero, Int.one_mul, Int.reducePow, Nat.mul_one, Nat.zero_add, Nat.add_zero, Nat.zero_mul, Nat.reduceAdd, Nat.reduceMul, Nat.reduceSub, Nat.min_eq_left, IntKind.bits, Nat.sub_zero, gp, g1, g4]; try rfl; done) | rfl)) | ((first | (with_reducible apply q_eqL) | (with_reducible apply q_eqO)); (first | (simp (disch := omega) only [upd_self, upd_ne, upd_upd, rep, splice, List.take_succ_cons, List.take_zero, List.drop_succ_cons, List.drop_zero, List.cons_append, List.nil_append, List.append_nil, List.length_cons, List.length_nil, List.reduceReplicate, List.flatten_cons, List.flatten_nil, Nat.reduceAdd, Nat.reduceMul, Nat.reduceSub, Nat.zero_add, Nat.add_zero, List.getElem?_cons_zero, List.getElem?_cons_succ, gp, g1, g4]; try rfl; done) | rfl)))
            all_goals first | (exfalso; omega) | exact Fin_sh rfl rfl hpX
          · have hnx : ∀ j, j < i + 1 → ∀ h : j < p.length, ¬ roomA l p[j] < k + u := fun j hj h => by
              rcases Nat.lt_succ_iff_lt_or_eq.1 hj with h2 | rfl
              · exact hb j h2 h
              · exact hroom
            clear hb
            generalize roomA l p[i] = R at *
            generalize us l p[i].toNat = U at *
            generalize mx l p[i].toNat = M at *
            generalize p[i] = x at *
            subst hr
            repeat' (first | (with_reducible first | refine W_seq ?_ | refine then_n ?_ | refine W_block ?_ | refine blk_n ?_ | refine blk_r ?_ | refine blk_e ?_ | refine W_skip ?_ | refine W_ret ?_ | refine then_r ?_ | refine W_exit ?_ | refine then_e ?_) | (refine blk_j (by decide) ?_) | ((with_reducible refine s_reg ?_); intro K hK) | ((with_reducible refine k_nil ?_); (with_reducible apply s_nil hK); (· exact nmX); clear hK; clear K) | ((with_reducible refine k_cond ?_); (first | ((with_reducible apply s_condT); (· rfl); (· exact nmX)) | ((with_reducible apply s_condF); (· rfl); (· exact nmX)) | ((with_reducible apply s_condS); (· rfl); (· exact nmX); (· exact nmX)))) | ((with_reducible refine k_guard ?_); (first | (refine s_gt rfl ?_) | (refine s_gf1 rfl ?_) | (refine s_gfn rfl ?_) | (refine s_gx1 rfl ?_) | (refine s_gxn rfl ?_) | (refine s_gs rfl ?_))) | ((with_reducible refine k_mv ?_); (refine s_mv rfl ?_)) | ((with_reducible refine k_lss ?_); (refine s_lss rfl rfl ?_)) | ((with_reducible refine k_gtr ?_); (refine s_gtr rfl rfl ?_)) | ((with_reducible refine k_iaddr ?_); (first | ((with_reducible apply s_iaddrV); (· rfl); (· rfl); (· (first | omega | exact ⟨rfl, by omega⟩ | skip))) | ((with_reducible apply s_iaddrO); (· rfl); (· rfl); (· (first | omega | exact ⟨rfl, by omega⟩ | skip)); (· (exact hpX))) | ((with_reducible apply s_iaddrSO); (· rfl); (· assumption); (· rfl); (· (first | omega | exact ⟨rfl, by omega⟩ | skip)); (· (first | (simp (disch := omega) only [w64, wu8, wu16, wu32, wu64, tm_nn, td_nn, fd_nn, Int.reduceAdd, Int.reduceSub, Int.reduceMul, Int.reduceDiv, Int.reduceMod, Int.reduceNeg, Int.reduceToNat, Int.toNat_natCast, Int.toNat_zero, Int.zero_add, Int.add_zero, Int.one_mul, Int.reducePow, Nat.mul_one, Nat.zero_add, Nat.add_zero, Nat.zero_mul, Nat.reduceAdd, Nat.reduceMul, Nat.reduceSub, Nat.min_eq_left, IntKind.bits, Nat.sub_zero, gp, g1, g4]; try rfl; done) | rfl)); intro ks hks))) | ((with_reducible refine k_load ?_); (first | ((with_reducible apply s_loadV); (· rfl)) | ((with_reducible apply s_loadP); (· rfl); (· (exact hpX))))) | ((with_reducible refine k_add ?_); ((with_reducible apply s_add); (· rfl); (· rfl))) | ((with_reducible refine k_sub ?_); ((with_reducible apply s_sub); (· rfl); (· rfl))) | ((with_reducible refine k_store ?_); ((with_reducible apply s_store0); (· rfl); (· rfl); (· rfl); (· (exact hpX)); (· (exact ⟨rfl, by first | exact Nat.le_of_ble_eq_true rfl | omega | (simp [gp, g1, g4]; omega)⟩)); (· ((first | (simp (disch := omega) only [upd_self, upd_ne, upd_upd, rep, splice, List.take_succ_cons, List.take_zero, List.drop_succ_cons, List.drop_zero, List.cons_append, List.nil_append, List.append_nil, List.length_cons, List.length_nil, List.reduceReplicate, List.flatten_cons, List.flatten_nil, Nat.reduceAdd, Nat.reduceMul, Nat.reduceSub, Nat.zero_add, Nat.add_zero, List.getElem?_cons_zero, List.getElem?_cons_succ, gp, g1, g4]; try rfl; done) | rfl))); (· (first | exact upd_upd | rfl)))) | ((with_reducible refine k_faddr ?_); (first | ((with_reducible apply s_faddrV); (· rfl); (· rfl)) | ((with_reducible apply s_faddrP); (· rfl); (· rfl)))) | ((with_reducible refine k_build ?_); ((with_reducible apply s_build); (· rfl); (· rfl))) | ((with_reducible refine k_dreg ?_); refine s_dreg rfl rfl ?_; intro K hK) | (with_reducible refine d_nilS ?_) | ((with_reducible refine k_dnil ?_); (with_reducible apply d_nil hK); (· exact nmX); clear hK; clear K) | ((with_reducible refine k_dguard ?_); (first | (refine d_gt rfl ?_) | (refine d_gf rfl ?_) | (refine d_gx rfl ?_) | (refine d_gs rfl ?_))) | ((with_reducible refine k_dop ?_); refine d_step (by first | exact Or.inl rfl | exact Or.inr rfl) ?_) | (with_reducible refine d_back ?_) | ((with_reducible refine k_br ?_); (first | (with_reducible first | refine Br_dec ?_ | refine Br_not ?_ | refine Br_eqF ?_ | refine Br_and ?_ | refine Br_or ?_ | refine Br_neg ?_ | refine Br_band ?_ | refine Br_bor ?_ | refine Br_beq ?_) | (refine Br_t (by first | with_reducible rfl | omega | assumption | rfl) ?_) | (refine Br_f (by first | omega | assumption | decide) ?_) | (with_reducible apply Br_sb <;> intro hbr <;> (first | subst hbr | simp only [hbr] | skip)) | (with_reducible apply Br_s <;> intro hbr))) | (with_reducible refine WN_succ ?_) | ((first | (with_reducible apply q_eqI) | (with_reducible apply q_eqN)); (first | (simp (disch := omega) only [w64, wu8, wu16, wu32, wu64, tm_nn, td_nn, fd_nn, Int.reduceAdd, Int.reduceSub, Int.reduceMul, Int.reduceDiv, Int.reduceMod, Int.reduceNeg, Int.reduceToNat, Int.toNat_natCast, Int.toNat_zero, Int.zero_add, Int.add_zero, Int.one_mul, Int.reducePow, Nat.mul_one, Nat.zero_add, Nat.add_zero, Nat.zero_mul, Nat.reduceAdd, Nat.reduceMul, Nat.reduceSub, Nat.min_eq_left, IntKind.bits, Nat.sub_zero, gp, g1, g4]; try rfl; done) | rfl)) | ((first | (with_reducible apply q_eqL) | (with_reducible apply q_eqO)); (first | (simp (disch := omega) only [upd_self, upd_ne, upd_upd, rep, splice, List.take_succ_cons, List.take_zero, List.drop_succ_cons, List.drop_zero, List.cons_append, List.nil_append, List.append_nil, List.length_cons, List.length_nil, List.reduceReplicate, List.flatten_cons, List.flatten_nil, Nat.reduceAdd, Nat.reduceMul, Nat.reduceSub, Nat.zero_add, Nat.add_zero, List.getElem?_cons_zero, List.getElem?_cons_succ, gp, g1, g4]; try rfl; done) | rfl)))
            all_goals first | (exfalso; omega) | exact ⟨_, hnx, rfl, j4, ⟨_, j8, rfl⟩, jP⟩
        · rintro e' h' ⟨h1, hb, he, j4, ⟨c8, j8, rfl⟩, jP⟩
          cases he
          rw [stopL_no (fun j hj h => hb j hj h)]
          rw [show shR (Option.elim none E (fun x => ((k + u - roomA l x, x, false), 0))) = shR E from rfl]
          by_cases b1 : k > cn
          · rw [n1 b1]
            repeat' (first | (with_reducible first | refine W_seq ?_ | refine then_n ?_ | refine W_block ?_ | refine blk_n ?_ | refine blk_r ?_ | refine blk_e ?_ | refine W_skip ?_ | refine W_ret ?_ | refine then_r ?_ | refine W_exit ?_ | refine then_e ?_) | (refine blk_j (by decide) ?_) | ((with_reducible refine s_reg ?_); intro K hK) | ((with_reducible refine k_nil ?_); (with_reducible apply s_nil hK); (· exact nmX); clear hK; clear K) | ((with_reducible refine k_cond ?_); (first | ((with_reducible apply s_condT); (· rfl); (· exact nmX)) | ((with_reducible apply s_condF); (· rfl); (· exact nmX)) | ((with_reducible apply s_condS); (· rfl); (· exact nmX); (· exact nmX)))) | ((with_reducible refine k_guard ?_); (first | (refine s_gt rfl ?_) | (refine s_gf1 rfl ?_) | (refine s_gfn rfl ?_) | (refine s_gx1 rfl ?_) | (refine s_gxn rfl ?_) | (refine s_gs rfl ?_))) | ((with_reducible refine k_mv ?_); (refine s_mv rfl ?_)) | ((with_reducible refine k_lss ?_); (refine s_lss rfl rfl ?_)) | ((with_reducible refine k_gtr ?_); (refine s_gtr rfl rfl ?_)) | ((with_reducible refine k_load ?_); (first | ((with_reducible apply s_loadV); (· rfl)) | ((with_reducible apply s_loadP); (· rfl); (· (exact hpX))))) | ((with_reducible refine k_sub ?_); ((with_reducible apply s_sub); (· rfl); (· rfl))) | ((with_reducible refine k_store ?_); ((with_reducible apply s_store0); (· rfl); (· rfl); (· rfl); (· (exact hpX)); (· (exact ⟨rfl, by first | exact Nat.le_of_ble_eq_true rfl | omega | (simp; omega)⟩)); (· ((first | exact liL | exact liO))); (· (first | exact upd_upd | rfl)))) | ((with_reducible refine k_faddr ?_); (first | ((with_reducible apply s_faddrV); (· rfl); (· rfl)) | ((with_reducible apply s_faddrP); (· rfl); (· rfl)))) | ((with_reducible refine k_build ?_); ((with_reducible apply s_build); (· rfl); (· rfl))) | ((with_reducible refine k_mima ?_); (first | ((with_reducible apply s_mima); (· rfl); (· (exact m1))) | ((with_reducible apply s_mima); (· rfl); (· (exact m2))) | ((with_reducible apply s_mima); (· rfl); (· rfl)))) | ((with_reducible refine k_dreg ?_); refine s_dreg rfl rfl ?_; intro K hK) | (with_reducible refine d_nilS ?_) | ((with_reducible refine k_dnil ?_); (with_reducible apply d_nil hK); (· exact nmX); clear hK; clear K) | ((with_reducible refine k_dguard ?_); (first | (refine d_gt rfl ?_) | (refine d_gf rfl ?_) | (refine d_gx rfl ?_) | (refine d_gs rfl ?_))) | ((with_reducible refine k_dop ?_); refine d_step (by first | exact Or.inl rfl | exact Or.inr rfl) ?_) | (with_reducible refine d_back ?_) | ((with_reducible refine k_br ?_); (first | (with_reducible first | refine Br_dec ?_ | refine Br_not ?_ | refine Br_eqF ?_ | refine Br_and ?_ | refine Br_or ?_ | refine Br_neg ?_ | refine Br_band ?_ | refine Br_bor ?_ | refine Br_beq ?_) | (refine Br_t (by first | with_reducible rfl | omega | assumption | rfl) ?_) | (refine Br_f (by first | omega | assumption | decide) ?_) | (with_reducible apply Br_sb <;> intro hbr <;> (first | subst hbr | simp only [hbr] | skip)) | (with_reducible apply Br_s <;> intro hbr))) | (with_reducible refine WN_succ ?_) | ((first | (with_reducible apply q_eqI) | (with_reducible apply q_eqN)); (first | exact nuI | exact nuN)) | ((first | (with_reducible apply q_eqL) | (with_reducible apply q_eqO)); (first | exact liL | exact liO)))
            all_goals first | (exfalso; omega) | exact Fin_sh rfl rfl hpX
          · by_cases b2 : k + u > ca
            · rw [n2 b1 b2]
              repeat' (first | (with_reducible first | refine W_seq ?_ | refine then_n ?_ | refine W_block ?_ | refine blk_n ?_ | refine blk_r ?_ | refine blk_e ?_ | refine W_skip ?_ | refine W_ret ?_ | refine then_r ?_ | refine W_exit ?_ | refine then_e ?_) | (refine blk_j (by decide) ?_) | ((with_reducible refine s_reg ?_); intro K hK) | ((with_reducible refine k_nil ?_); (with_reducible apply s_nil hK); (· exact nmX); clear hK; clear K) | ((with_reducible refine k_cond ?_); (first | ((with_reducible apply s_condT); (· rfl); (· exact nmX)) | ((with_reducible apply s_condF); (· rfl); (· exact nmX)) | ((with_reducible apply s_condS); (· rfl); (· exact nmX); (· exact nmX)))) | ((with_reducible refine k_guard ?_); (first | (refine s_gt rfl ?_) | (refine s_gf1 rfl ?_) | (refine s_gfn rfl ?_) | (refine s_gx1 rfl ?_) | (refine s_gxn rfl ?_) | (refine s_gs rfl ?_))) | ((with_reducible refine k_mv ?_); (refine s_mv rfl ?_)) | ((with_reducible refine k_lss ?_); (refine s_lss rfl rfl ?_)) | ((with_reducible refine k_gtr ?_); (refine s_gtr rfl rfl ?_)) | ((with_reducible refine k_load ?_); (first | ((with_reducible apply s_loadV); (· rfl)) | ((with_reducible apply s_loadP); (· rfl); (· (exact hpX))))) | ((with_reducible refine k_sub ?_); ((with_reducible apply s_sub); (· rfl); (· rfl))) | ((with_reducible refine k_store ?_); ((with_reducible apply s_store0); (· rfl); (· rfl); (· rfl); (· (exact hpX)); (· (exact ⟨rfl, by first | exact Nat.le_of_ble_eq_true rfl | omega | (simp; omega)⟩)); (· ((first | exact liL | exact liO))); (· (first | exact upd_upd | rfl)))) | ((with_reducible refine k_faddr ?_); (first | ((with_reducible apply s_faddrV); (· rfl); (· rfl)) | ((with_reducible apply s_faddrP); (· rfl); (· rfl)))) | ((with_reducible refine k_build ?_); ((with_reducible apply s_build); (· rfl); (· rfl))) | ((with_reducible refine k_mima ?_); (first | ((with_reducible apply s_mima); (· rfl); (· (exact m1))) | ((with_reducible apply s_mima); (· rfl); (· (exact m2))) | ((with_reducible apply s_mima); (· rfl); (· rfl)))) | ((with_reducible refine k_dreg ?_); refine s_dreg rfl rfl ?_; intro K hK) | (with_reducible refine d_nilS ?_) | ((with_reducible refine k_dnil ?_); (with_reducible apply d_nil hK); (· exact nmX); clear hK; clear K) | ((with_reducible refine k_dguard ?_); (first | (refine d_gt rfl ?_) | (refine d_gf rfl ?_) | (refine d_gx rfl ?_) | (refine d_gs rfl ?_))) | ((with_reducible refine k_dop ?_); refine d_step (by first | exact Or.inl rfl | exact Or.inr rfl) ?_) | (with_reducible refine d_back ?_) | ((with_reducible refine k_br ?_); (first | (with_reducible first | refine Br_dec ?_ | refine Br_not ?_ | refine Br_eqF ?_ | refine Br_and ?_ | refine Br_or ?_ | refine Br_neg ?_ | refine Br_band ?_ | refine Br_bor ?_ | refine Br_beq ?_) | (refine Br_t (by first | with_reducible rfl | omega | assumption | rfl) ?_) | (refine Br_f (by first | omega | assumption | decide) ?_) | (with_reducible apply Br_sb <;> intro hbr <;> (first | subst hbr | simp only [hbr] | skip)) | (with_reducible apply Br_s <;> intro hbr))) | (with_reducible refine WN_succ ?_) | ((first | (with_reducible apply q_eqI) | (with_reducible apply q_eqN)); (first | exact nuI | exact nuN)) | ((first | (with_reducible apply q_eqL) | (with_reducible apply q_eqO)); (first | exact liL | exact liO)))
              all_goals first | (exfalso; omega) | exact Fin_sh rfl rfl hpX
            · rw [n3 b1 b2]
              repeat' (first | (with_reducible first | refine W_seq ?_ | refine then_n ?_ | refine W_block ?_ | refine blk_n ?_ | refine blk_r ?_ | refine blk_e ?_ | refine W_skip ?_ | refine W_ret ?_ | refine then_r ?_ | refine W_exit ?_ | refine then_e ?_) | (refine blk_j (by decide) ?_) | ((with_reducible refine s_reg ?_); intro K hK) | ((with_reducible refine k_nil ?_); (with_reducible apply s_nil hK); (· exact nmX); clear hK; clear K) | ((with_reducible refine k_cond ?_); (first | ((with_reducible apply s_condT); (· rfl); (· exact nmX)) | ((with_reducible apply s_condF); (· rfl); (· exact nmX)) | ((with_reducible apply s_condS); (· rfl); (· exact nmX); (· exact nmX)))) | ((with_reducible refine k_guard ?_); (first | (refine s_gt rfl ?_) | (refine s_gf1 rfl ?_) | (refine s_gfn rfl ?_) | (refine s_gx1 rfl ?_) | (refine s_gxn rfl ?_) | (refine s_gs rfl ?_))) | ((with_reducible refine k_mv ?_); (refine s_mv rfl ?_)) | ((with_reducible refine k_lss ?_); (refine s_lss rfl rfl ?_)) | ((with_reducible refine k_gtr ?_); (refine s_gtr rfl rfl ?_)) | ((with_reducible refine k_load ?_); (first | ((with_reducible apply s_loadV); (· rfl)) | ((with_reducible apply s_loadP); (· rfl); (· (exact hpX))))) | ((with_reducible refine k_sub ?_); ((with_reducible apply s_sub); (· rfl); (· rfl))) | ((with_reducible refine k_store ?_); ((with_reducible apply s_store0); (· rfl); (· rfl); (· rfl); (· (exact hpX)); (· (exact ⟨rfl, by first | exact Nat.le_of_ble_eq_true rfl | omega | (simp; omega)⟩)); (· ((first | exact liL | exact liO))); (· (first | exact upd_upd | rfl)))) | ((with_reducible refine k_faddr ?_); (first | ((with_reducible apply s_faddrV); (· rfl); (· rfl)) | ((with_reducible apply s_faddrP); (· rfl); (· rfl)))) | ((with_reducible refine k_build ?_); ((with_reducible apply s_build); (· rfl); (· rfl))) | ((with_reducible refine k_mima ?_); (first | ((with_reducible apply s_mima); (· rfl); (· (exact m1))) | ((with_reducible apply s_mima); (· rfl); (· (exact m2))) | ((with_reducible apply s_mima); (· rfl); (· rfl)))) | ((with_reducible refine k_dreg ?_); refine s_dreg rfl rfl ?_; intro K hK) | (with_reducible refine d_nilS ?_) | ((with_reducible refine k_dnil ?_); (with_reducible apply d_nil hK); (· exact nmX); clear hK; clear K) | ((with_reducible refine k_dguard ?_); (first | (refine d_gt rfl ?_) | (refine d_gf rfl ?_) | (refine d_gx rfl ?_) | (refine d_gs rfl ?_))) | ((with_reducible refine k_dop ?_); refine d_step (by first | exact Or.inl rfl | exact Or.inr rfl) ?_) | (with_reducible refine d_back ?_) | ((with_reducible refine k_br ?_); (first | (with_reducible first | refine Br_dec ?_ | refine Br_not ?_ | refine Br_eqF ?_ | refine Br_and ?_ | refine Br_or ?_ | refine Br_neg ?_ | refine Br_band ?_ | refine Br_bor ?_ | refine Br_beq ?_) | (refine Br_t (by first | with_reducible rfl | omega | assumption | rfl) ?_) | (refine Br_f (by first | omega | assumption | decide) ?_) | (with_reducible apply Br_sb <;> intro hbr <;> (first | subst hbr | simp only [hbr] | skip)) | (with_reducible apply Br_s <;> intro hbr))) | (with_reducible refine WN_succ ?_) | ((first | (with_reducible apply q_eqI) | (with_reducible apply q_eqN)); (first | exact nuI | exact nuN)) | ((first | (with_reducible apply q_eqL) | (with_reducible apply q_eqO)); (first | exact liL | exact liO)))
              all_goals first | (exfalso; omega) | exact Fin_sh rfl rfl hpX
      · rw [if_neg ha]
        obtain ⟨pr, ac, k, u⟩ := a
        dsimp only [Ask.cells] at *
        repeat' (first | (with_reducible first | refine W_seq ?_ | refine then_n ?_ | refine W_block ?_ | refine blk_n ?_ | refine blk_r ?_ | refine blk_e ?_ | refine W_skip ?_ | refine W_ret ?_ | refine then_r ?_ | refine W_exit ?_ | refine then_e ?_) | (refine blk_j (by decide) ?_) | ((with_reducible refine s_reg ?_); intro K hK) | ((with_reducible refine k_nil ?_); (with_reducible apply s_nil hK); (· exact nmX); clear hK; clear K) | ((with_reducible refine k_cond ?_); (first | ((with_reducible apply s_condT); (· rfl); (· exact nmX)) | ((with_reducible apply s_condF); (· rfl); (· exact nmX)) | ((with_reducible apply s_condS); (· rfl); (· exact nmX); (· exact nmX)))) | ((with_reducible refine k_guard ?_); (first | (refine s_gt rfl ?_) | (refine s_gf1 rfl ?_) | (refine s_gfn rfl ?_) | (refine s_gx1 rfl ?_) | (refine s_gxn rfl ?_) | (refine s_gs rfl ?_))) | ((with_reducible refine k_mv ?_); (refine s_mv rfl ?_)) | ((with_reducible refine k_len ?_); (first | (refine s_len rfl rfl ?_) | ((with_reducible apply s_len); (· rfl); (· exact SlOwn.len (by assumption))))) | ((with_reducible refine k_not ?_); (refine s_not rfl (by first | exact Bool.not_true | exact Bool.not_false | rfl) ?_)) | ((with_reducible refine k_neq ?_); (first | (refine s_neq rfl rfl ?_) | (refine s_strNe rfl rfl ?_))) | ((with_reducible refine k_geq ?_); (refine s_geq rfl rfl ?_)) | ((with_reducible refine k_load ?_); (first | ((with_reducible apply s_loadV); (· rfl)) | ((with_reducible apply s_loadP); (· rfl); (· (exact hpX))))) | ((with_reducible refine k_loadA ?_); (first | ((with_reducible apply s_loadAV); (· rfl); (· (first | exact Nat.le_of_ble_eq_true rfl | decide | omega | (simp; done) | (simp; omega) | skip))) | ((with_reducible apply s_loadAP); (· rfl); (· (exact hpX)); (· (first | exact Nat.le_of_ble_eq_true rfl | decide | omega | (simp; done) | (simp; omega) | skip))))) | ((with_reducible refine k_store ?_); ((with_reducible apply s_store0); (· rfl); (· rfl); (· rfl); (· (exact hpX)); (· (exact ⟨rfl, by first | exact Nat.le_of_ble_eq_true rfl | omega | (simp; omega)⟩)); (· ((first | exact liL | exact liO))); (· (first | exact upd_upd | rfl)))) | ((with_reducible refine k_faddr ?_); (first | ((with_reducible apply s_faddrV); (· rfl); (· rfl)) | ((with_reducible apply s_faddrP); (· rfl); (· rfl)))) | ((with_reducible refine k_alloc (dst := some 8) ?_); ((with_reducible apply s_alloc); intro k8 hk8; (try simp only [upd_none] at hk8))) | ((with_reducible refine k_box (dst := some 4) ?_); ((with_reducible apply s_box); (· rfl); (· rfl); intro k4 hk4; (try simp only [upd_none] at hk4))) | ((with_reducible refine k_build ?_); ((with_reducible apply s_build); (· rfl); (· rfl))) | ((with_reducible refine k_callF ?_); (first | ((with_reducible apply s_call1); (· rfl)) | ((with_reducible apply s_calln); (· rfl)))) | ((with_reducible refine k_con ?_); (first | ((with_reducible apply con_val (cv)); (· (exact agX)); (· rfl); (· exact fun _ => rfl)) | ((with_reducible apply con_val (cc)); (· (exact agX)); (· rfl); (· exact fun _ => rfl)))) | ((with_reducible refine k_dreg ?_); refine s_dreg rfl rfl ?_; intro K hK) | (with_reducible refine d_nilS ?_) | ((with_reducible refine k_dnil ?_); (with_reducible apply d_nil hK); (· exact nmX); clear hK; clear K) | ((with_reducible refine k_dguard ?_); (first | (refine d_gt rfl ?_) | (refine d_gf rfl ?_) | (refine d_gx rfl ?_) | (refine d_gs rfl ?_))) | ((with_reducible refine k_dop ?_); refine d_step (by first | exact Or.inl rfl | exact Or.inr rfl) ?_) | (with_reducible refine d_back ?_) | ((with_reducible refine k_br ?_); (first | (with_reducible first | refine Br_dec ?_ | refine Br_not ?_ | refine Br_eqF ?_ | refine Br_and ?_ | refine Br_or ?_ | refine Br_neg ?_ | refine Br_band ?_ | refine Br_bor ?_ | refine Br_beq ?_) | (refine Br_t (by first | with_reducible rfl | omega | assumption | rfl) ?_) | (refine Br_f (by first | omega | assumption | decide) ?_) | (with_reducible apply Br_sb <;> intro hbr <;> (first | subst hbr | simp only [hbr] | skip)) | (with_reducible apply Br_s <;> intro hbr))) | (with_reducible refine WN_succ ?_) | ((first | (with_reducible apply q_eqI) | (with_reducible apply q_eqN)); (first | exact nuI | exact nuN)) | ((first | (with_reducible apply q_eqL) | (with_reducible apply q_eqO)); (first | exact liL | exact liO)))
        all_goals first | (exfalso; omega) | exact Fin_sh rfl rfl hpX
    · rw [if_neg hc]
      generalize chkF l = e at *
      obtain ⟨pr, ac, k, u⟩ := a
      dsimp only [Ask.cells] at *
      repeat' (first | (with_reducible first | refine W_seq ?_ | refine then_n ?_ | refine W_block ?_ | refine blk_n ?_ | refine blk_r ?_ | refine blk_e ?_ | refine W_skip ?_ | refine W_ret ?_ | refine then_r ?_ | refine W_exit ?_ | refine then_e ?_) | (refine blk_j (by decide) ?_) | ((with_reducible refine s_reg ?_); intro K hK) | ((with_reducible refine k_nil ?_); (with_reducible apply s_nil hK); (· exact nmX); clear hK; clear K) | ((with_reducible refine k_cond ?_); (first | ((with_reducible apply s_condT); (· rfl); (· exact nmX)) | ((with_reducible apply s_condF); (· rfl); (· exact nmX)) | ((with_reducible apply s_condS); (· rfl); (· exact nmX); (· exact nmX)))) | ((with_reducible refine k_guard ?_); (first | (refine s_gt rfl ?_) | (refine s_gf1 rfl ?_) | (refine s_gfn rfl ?_) | (refine s_gx1 rfl ?_) | (refine s_gxn rfl ?_) | (refine s_gs rfl ?_))) | ((with_reducible refine k_mv ?_); (refine s_mv rfl ?_)) | ((with_reducible refine k_len ?_); (first | (refine s_len rfl rfl ?_) | ((with_reducible apply s_len); (· rfl); (· exact SlOwn.len (by assumption))))) | ((with_reducible refine k_not ?_); (refine s_not rfl (by first | exact Bool.not_true | exact Bool.not_false | rfl) ?_)) | ((with_reducible refine k_neq ?_); (first | (refine s_neq rfl rfl ?_) | (refine s_strNe rfl rfl ?_))) | ((with_reducible refine k_geq ?_); (refine s_geq rfl rfl ?_)) | ((with_reducible refine k_load ?_); (first | ((with_reducible apply s_loadV); (· rfl)) | ((with_reducible apply s_loadP); (· rfl); (· (exact hpX))))) | ((with_reducible refine k_loadA ?_); (first | ((with_reducible apply s_loadAV); (· rfl); (· (first | exact Nat.le_of_ble_eq_true rfl | decide | omega | (simp; done) | (simp; omega) | skip))) | ((with_reducible apply s_loadAP); (· rfl); (· (exact hpX)); (· (first | exact Nat.le_of_ble_eq_true rfl | decide | omega | (simp; done) | (simp; omega) | skip))))) | ((with_reducible refine k_store ?_); ((with_reducible apply s_store0); (· rfl); (· rfl); (· rfl); (· (exact hpX)); (· (exact ⟨rfl, by first | exact Nat.le_of_ble_eq_true rfl | omega | (simp; omega)⟩)); (· ((first | exact liL | exact liO))); (· (first | exact upd_upd | rfl)))) | ((with_reducible refine k_faddr ?_); (first | ((with_reducible apply s_faddrV); (· rfl); (· rfl)) | ((with_reducible apply s_faddrP); (· rfl); (· rfl)))) | ((with_reducible refine k_alloc (dst := some 8) ?_); ((with_reducible apply s_alloc); intro k8 hk8; (try simp only [upd_none] at hk8))) | ((with_reducible refine k_box (dst := some 4) ?_); ((with_reducible apply s_box); (· rfl); (· rfl); intro k4 hk4; (try simp only [upd_none] at hk4))) | ((with_reducible refine k_build ?_); ((with_reducible apply s_build); (· rfl); (· rfl))) | ((with_reducible refine k_callF ?_); (first | ((with_reducible apply s_call1); (· rfl)) | ((with_reducible apply s_calln); (· rfl)))) | ((with_reducible refine k_con ?_); (first | ((with_reducible apply con_val (cv)); (· (exact agX)); (· rfl); (· exact fun _ => rfl)) | ((with_reducible apply con_val (cc)); (· (exact agX)); (· rfl); (· exact fun _ => rfl)))) | ((with_reducible refine k_dreg ?_); refine s_dreg rfl rfl ?_; intro K hK) | (with_reducible refine d_nilS ?_) | ((with_reducible refine k_dnil ?_); (with_reducible apply d_nil hK); (· exact nmX); clear hK; clear K) | ((with_reducible refine k_dguard ?_); (first | (refine d_gt rfl ?_) | (refine d_gf rfl ?_) | (refine d_gx rfl ?_) | (refine d_gs rfl ?_))) | ((with_reducible refine k_dop ?_); refine d_step (by first | exact Or.inl rfl | exact Or.inr rfl) ?_) | (with_reducible refine d_back ?_) | ((with_reducible refine k_br ?_); (first | (with_reducible first | refine Br_dec ?_ | refine Br_not ?_ | refine Br_eqF ?_ | refine Br_and ?_ | refine Br_or ?_ | refine Br_neg ?_ | refine Br_band ?_ | refine Br_bor ?_ | refine Br_beq ?_) | (refine Br_t (by first | with_reducible rfl | omega | assumption | rfl) ?_) | (refine Br_f (by first | omega | assumption | decide) ?_) | (with_reducible apply Br_sb <;> intro hbr <;> (first | subst hbr | simp only [hbr] | skip)) | (with_reducible apply Br_s <;> intro hbr))) | (with_reducible refine WN_succ ?_) | ((first | (with_reducible apply q_eqI) | (with_reducible apply q_eqN)); (first | exact nuI | exact nuN)) | ((first | (with_reducible apply q_eqL) | (with_reducible apply q_eqO)); (first | exact liL | exact liO)))
      all_goals first | (exfalso; omega) | exact Fin_sh rfl rfl hpX
  · rw [if_neg hv]
    rw [decide_eq_false hv] at cv
    obtain ⟨pr, ac, k, u⟩ := a
    dsimp only [Ask.cells] at *
    repeat' (first | (with_reducible first | refine W_seq ?_ | refine then_n ?_ | refine W_block ?_ | refine blk_n ?_ | refine blk_r ?_ | refine blk_e ?_ | refine W_skip ?_ | refine W_ret ?_ | refine then_r ?_ | refine W_exit ?_ | refine then_e ?_) | (refine blk_j (by decide) ?_) | ((with_reducible refine s_reg ?_); intro K hK) | ((with_reducible refine k_nil ?_); (with_reducible apply s_nil hK); (· exact nmX); clear hK; clear K) | ((with_reducible refine k_cond ?_); (first | ((with_reducible apply s_condT); (· rfl); (· exact nmX)) | ((with_reducible apply s_condF); (· rfl); (· exact nmX)) | ((with_reducible apply s_condS); (· rfl); (· exact nmX); (· exact nmX)))) | ((with_reducible refine k_guard ?_); (first | (refine s_gt rfl ?_) | (refine s_gf1 rfl ?_) | (refine s_gfn rfl ?_) | (refine s_gx1 rfl ?_) | (refine s_gxn rfl ?_) | (refine s_gs rfl ?_))) | ((with_reducible refine k_mv ?_); (refine s_mv rfl ?_)) | ((with_reducible refine k_len ?_); (first | (refine s_len rfl rfl ?_) | ((with_reducible apply s_len); (· rfl); (· exact SlOwn.len (by assumption))))) | ((with_reducible refine k_not ?_); (refine s_not rfl (by first | exact Bool.not_true | exact Bool.not_false | rfl) ?_)) | ((with_reducible refine k_neq ?_); (first | (refine s_neq rfl rfl ?_) | (refine s_strNe rfl rfl ?_))) | ((with_reducible refine k_geq ?_); (refine s_geq rfl rfl ?_)) | ((with_reducible refine k_load ?_); (first | ((with_reducible apply s_loadV); (· rfl)) | ((with_reducible apply s_loadP); (· rfl); (· (exact hpX))))) | ((with_reducible refine k_loadA ?_); (first | ((with_reducible apply s_loadAV); (· rfl); (· (first | exact Nat.le_of_ble_eq_true rfl | decide | omega | (simp; done) | (simp; omega) | skip))) | ((with_reducible apply s_loadAP); (· rfl); (· (exact hpX)); (· (first | exact Nat.le_of_ble_eq_true rfl | decide | omega | (simp; done) | (simp; omega) | skip))))) | ((with_reducible refine k_store ?_); ((with_reducible apply s_store0); (· rfl); (· rfl); (· rfl); (· (exact hpX)); (· (exact ⟨rfl, by first | exact Nat.le_of_ble_eq_true rfl | omega | (simp; omega)⟩)); (· ((first | exact liL | exact liO))); (· (first | exact upd_upd | rfl)))) | ((with_reducible refine k_faddr ?_); (first | ((with_reducible apply s_faddrV); (· rfl); (· rfl)) | ((with_reducible apply s_faddrP); (· rfl); (· rfl)))) | ((with_reducible refine k_alloc (dst := some 8) ?_); ((with_reducible apply s_alloc); intro k8 hk8; (try simp only [upd_none] at hk8))) | ((with_reducible refine k_box (dst := some 4) ?_); ((with_reducible apply s_box); (· rfl); (· rfl); intro k4 hk4; (try simp only [upd_none] at hk4))) | ((with_reducible refine k_build ?_); ((with_reducible apply s_build); (· rfl); (· rfl))) | ((with_reducible refine k_callF ?_); (first | ((with_reducible apply s_call1); (· rfl)) | ((with_reducible apply s_calln); (· rfl)))) | ((with_reducible refine k_con ?_); (first | ((with_reducible apply con_val (cv)); (· (exact agX)); (· rfl); (· exact fun _ => rfl)))) | ((with_reducible refine k_dreg ?_); refine s_dreg rfl rfl ?_; intro K hK) | (with_reducible refine d_nilS ?_) | ((with_reducible refine k_dnil ?_); (with_reducible apply d_nil hK); (· exact nmX); clear hK; clear K) | ((with_reducible refine k_dguard ?_); (first | (refine d_gt rfl ?_) | (refine d_gf rfl ?_) | (refine d_gx rfl ?_) | (refine d_gs rfl ?_))) | ((with_reducible refine k_dop ?_); refine d_step (by first | exact Or.inl rfl | exact Or.inr rfl) ?_) | (with_reducible refine d_back ?_) | ((with_reducible refine k_br ?_); (first | (with_reducible first | refine Br_dec ?_ | refine Br_not ?_ | refine Br_eqF ?_ | refine Br_and ?_ | refine Br_or ?_ | refine Br_neg ?_ | refine Br_band ?_ | refine Br_bor ?_ | refine Br_beq ?_) | (refine Br_t (by first | with_reducible rfl | omega | assumption | rfl) ?_) | (refine Br_f (by first | omega | assumption | decide) ?_) | (with_reducible apply Br_sb <;> intro hbr <;> (first | subst hbr | simp only [hbr] | skip)) | (with_reducible apply Br_s <;> intro hbr))) | (with_reducible refine WN_succ ?_) | ((first | (with_reducible apply q_eqI) | (with_reducible apply q_eqN)); (first | exact nuI | exact nuN)) | ((first | (with_reducible apply q_eqL) | (with_reducible apply q_eqO)); (first | exact liL | exact liO)))
    all_goals first | (exfalso; omega) | exact Fin_sh rfl rfl hpX
end Go.Proofs.Ytbepjnjfnmmpaaa
end
section
/- Asks: what is hopeless. -/
set_option linter.unusedSimpArgs false
set_option linter.unusedVariables false
namespace Go.Proofs.Ytbepjnjfnmmpaaa
open Go.AM Classical
set_option maxRecDepth 100000
set_option maxHeartbeats 4000000
def hopP (a : Ask) (l : List Acct) (no al : Int) : Prop := ¬ vaP a ∨ chkF l ≠ 0 ∨ ¬ a.account < l.length ∨ (∃ x ∈ pathF l a.account, mx l x.toNat < totA a) ∨ a.kernel > no ∨ totA a > al
theorem hope_c (a : Ask) (l : List Acct) (hL : l.length ≤ 9223372036854775807) (no al : Int) : PCon Try.prog 14 [.agg a.cells, accs l, .int .i64 no, .int .i64 al] (.bool (decide (hopP a l no al))) := by
  have cv := gvalid_c a
  have cc := check_c l hL
  have cp := path_c l hL a.account
  have hal := accs_len l
  refine A14p (by simp [A14]) ?_
  simp only [A14, argEnv]
  by_cases hv : vaP a
  · rw [decide_eq_true hv] at cv
    have cT := hv
    by_cases hc : chkF l = 0
    · rw [hc] at cc
      by_cases ha : a.account < l.length
      · obtain ⟨h0, ht, hm, _⟩ := chk_ok hc
        have hpl := pathF_len l a.account
        have hpi := fun x hx => pathF_in (l := l) (a := a.account) (x := x) hx
        have hop : hopP a l no al ↔ (∃ x ∈ pathF l a.account, mx l x.toNat < totA a) ∨ a.kernel > no ∨ totA a > al :=
          ⟨fun h => h.elim (absurd hv) fun h => h.elim (absurd hc) fun h => h.elim (absurd ha) id, fun h => .inr (.inr (.inr h))⟩
        obtain ⟨_, _, i1, i2⟩ := hv
        unfold inR at i1 i2
        generalize hopP a l no al = H at *
        generalize pathF l a.account = p at *
        obtain ⟨pr, ac, k, u⟩ := a
        dsimp only [Ask.cells, totA] at *
        repeat' (first | (with_reducible first | refine W_seq ?_ | refine then_n ?_ | refine W_block ?_ | refine blk_n ?_ | refine blk_r ?_ | refine blk_e ?_ | refine W_skip ?_ | refine W_ret ?_ | refine then_r ?_ | refine W_exit ?_ | refine then_e ?_) | (refine blk_j (by decide) ?_) | ((with_reducible refine s_reg ?_); intro K hK) | ((with_reducible refine k_nil ?_); (with_reducible apply s_nil hK); (· exact nmX); clear hK; clear K) | ((with_reducible refine k_cond ?_); (first | ((with_reducible apply s_condT); (· rfl); (· exact nmX)) | ((with_reducible apply s_condF); (· rfl); (· exact nmX)) | ((with_reducible apply s_condS); (· rfl); (· exact nmX); (· exact nmX)))) | ((with_reducible refine k_guard ?_); (first | (refine s_gt rfl ?_) | (refine s_gf1 rfl ?_) | (refine s_gfn rfl ?_) | (refine s_gx1 rfl ?_) | (refine s_gxn rfl ?_) | (refine s_gs rfl ?_))) | ((with_reducible refine k_mv ?_); (refine s_mv rfl ?_)) | ((with_reducible refine k_len ?_); (first | (refine s_len rfl rfl ?_) | ((with_reducible apply s_len); (· rfl); (· exact SlOwn.len (by assumption))))) | ((with_reducible refine k_pick ?_); (first | (refine s_pickT rfl rfl ?_) | (refine s_pickF rfl rfl ?_))) | ((with_reducible refine k_not ?_); (refine s_not rfl (by first | exact Bool.not_true | exact Bool.not_false | rfl) ?_)) | ((with_reducible refine k_neq ?_); (first | (refine s_neq rfl rfl ?_) | (refine s_strNe rfl rfl ?_))) | ((with_reducible refine k_geq ?_); (refine s_geq rfl rfl ?_)) | ((with_reducible refine k_load ?_); (first | ((with_reducible apply s_loadV); (· rfl)) | ((with_reducible apply s_loadP); (· rfl); (· (exact hpX))))) | ((with_reducible refine k_loadA ?_); (first | ((with_reducible apply s_loadAV); (· rfl); (· (first | exact Nat.le_of_ble_eq_true rfl | decide | omega | (simp; done) | (simp; omega) | skip))) | ((with_reducible apply s_loadAP); (· rfl); (· (exact hpX)); (· (first | exact Nat.le_of_ble_eq_true rfl | decide | omega | (simp; done) | (simp; omega) | skip))))) | ((with_reducible refine k_add ?_); ((with_reducible apply s_add); (· rfl); (· rfl))) | ((with_reducible refine k_faddr ?_); (first | ((with_reducible apply s_faddrV); (· rfl); (· rfl)) | ((with_reducible apply s_faddrP); (· rfl); (· rfl)))) | ((with_reducible refine k_box (dst := some 4) ?_); ((with_reducible apply s_box); (· rfl); (· rfl); intro k4 hk4; (try simp only [upd_none] at hk4))) | ((with_reducible refine k_callF ?_); (first | ((with_reducible apply s_call1); (· rfl)) | ((with_reducible apply s_calln); (· rfl)))) | ((with_reducible refine k_con ?_); (first | ((with_reducible apply con_val (cv)); (· (exact agX)); (· rfl); (· exact fun _ => rfl)) | ((with_reducible apply con_val (cc)); (· (exact agX)); (· rfl); (· exact fun _ => rfl)) | ((with_reducible apply con_of_pcon (cp)); (· (exact agX)); intro kP hkP; (try simp only [upd_none] at hkP); simp only [thaw, thawC, List.map, thawH, owOf, owL]))) | ((with_reducible refine k_br ?_); (first | (with_reducible first | refine Br_dec ?_ | refine Br_not ?_ | refine Br_eqF ?_ | refine Br_and ?_ | refine Br_or ?_ | refine Br_neg ?_ | refine Br_band ?_ | refine Br_bor ?_ | refine Br_beq ?_) | (refine Br_t (by first | with_reducible rfl | omega | assumption | rfl) ?_) | (refine Br_f (by first | omega | assumption | decide) ?_) | (with_reducible apply Br_sb <;> intro hbr <;> (first | subst hbr | simp only [hbr] | skip)) | (with_reducible apply Br_s <;> intro hbr))) | (with_reducible refine WN_succ ?_) | ((first | (with_reducible apply q_eqI) | (with_reducible apply q_eqN)); (first | exact nuI | exact nuN)) | ((first | (with_reducible apply q_eqL) | (with_reducible apply q_eqO)); (first | exact liL | exact liO)))
        all_goals first | (exfalso; omega) | skip
        refine W_for p.length (fun i st => ∃ h', (∀ j (hj : j < i) (h : j < p.length), ¬ mx l p[j].toNat < k + u) ∧ st = ⟨[(1, accs l), (2, .int .i64 no), (3, .int .i64 al), (4, .pt k4 0), (9, .int .i64 (k + u)), (35, .sl kP 1 0 p.length), (36, .int .i64 p.length), (37, .int .i64 i)], h'⟩ ∧ h' k4 = some [.int .i64 pr, .int .i64 ac, .int .i64 k, .int .i64 u] ∧ h' kP = some (p.map (.int .i64))) ⟨_, fun j hj => by omega, rfl, hpX, hpX⟩ ?_ ?_
        · rintro i e' h' hi ⟨h1, hb, he, j4, jP⟩
          cases he
          have hx := hpi p[i] (List.getElem_mem _)
          have hxt : p[i].toNat < l.length := by omega
          have f2 := mx_at hxt
          have g4 := ac4 hxt
          rw [← f2] at g4
          have gp : (p.map (D.int .i64))[i]? = some (.int .i64 p[i]) := by rw [List.getElem?_map, List.getElem?_eq_getElem hi]; rfl
          have hyes : mx l p[i].toNat < k + u → H := fun h => hop.2 (.inl ⟨_, List.getElem_mem hi, h⟩)
          have hnx : ¬ mx l p[i].toNat < k + u → ∀ j, j < i + 1 → ∀ h : j < p.length, ¬ mx l p[j].toNat < k + u := fun hroom j hj h => by
            rcases Nat.lt_succ_iff_lt_or_eq.1 hj with h2 | rfl
            · exact hb j h2 h
            · exact hroom
          clear hb
          generalize mx l p[i].toNat = M at *
          generalize p[i] = x at *
          repeat' (first | (with_reducible first | refine W_seq ?_ | refine then_n ?_ | refine W_block ?_ | refine blk_n ?_ | refine blk_r ?_ | refine blk_e ?_ | refine W_skip ?_ | refine W_ret ?_ | refine then_r ?_ | refine W_exit ?_ | refine then_e ?_) | (refine blk_j (by decide) ?_) | ((with_reducible refine s_reg ?_); intro K hK) | ((with_reducible refine k_nil ?_); (with_reducible apply s_nil hK); (· exact nmX); clear hK; clear K) | ((with_reducible refine k_cond ?_); (first | ((with_reducible apply s_condT); (· rfl); (· exact nmX)) | ((with_reducible apply s_condF); (· rfl); (· exact nmX)) | ((with_reducible apply s_condS); (· rfl); (· exact nmX); (· exact nmX)))) | ((with_reducible refine k_guard ?_); (first | (refine s_gt rfl ?_) | (refine s_gf1 rfl ?_) | (refine s_gfn rfl ?_) | (refine s_gx1 rfl ?_) | (refine s_gxn rfl ?_) | (refine s_gs rfl ?_))) | ((with_reducible refine k_mv ?_); (refine s_mv rfl ?_)) | ((with_reducible refine k_lss ?_); (refine s_lss rfl rfl ?_)) | ((with_reducible refine k_gtr ?_); (refine s_gtr rfl rfl ?_)) | ((with_reducible refine k_iaddr ?_); (first | ((with_reducible apply s_iaddrV); (· rfl); (· rfl); (· (first | omega | exact ⟨rfl, by omega⟩ | skip))) | ((with_reducible apply s_iaddrO); (· rfl); (· rfl); (· (first | omega | exact ⟨rfl, by omega⟩ | skip)); (· (exact hpX))) | ((with_reducible apply s_iaddrSO); (· rfl); (· assumption); (· rfl); (· (first | omega | exact ⟨rfl, by omega⟩ | skip)); (· (first | (simp (disch := omega) only [w64, wu8, wu16, wu32, wu64, tm_nn, td_nn, fd_nn, Int.reduceAdd, Int.reduceSub, Int.reduceMul, Int.reduceDiv, Int.reduceMod, Int.reduceNeg, Int.reduceToNat, Int.toNat_natCast, Int.toNat_zero, Int.zero_add, Int.add_zero, Int.one_mul, Int.reducePow, Nat.mul_one, Nat.zero_add, Nat.add_zero, Nat.zero_mul, Nat.reduceAdd, Nat.reduceMul, Nat.reduceSub, Nat.min_eq_left, IntKind.bits, Nat.sub_zero, gp, g4]; try rfl; done) | rfl)); intro ks hks))) | ((with_reducible refine k_load ?_); (first | ((with_reducible apply s_loadV); (· rfl)) | ((with_reducible apply s_loadP); (· rfl); (· (exact hpX))))) | ((with_reducible refine k_add ?_); ((with_reducible apply s_add); (· rfl); (· rfl))) | ((with_reducible refine k_faddr ?_); (first | ((with_reducible apply s_faddrV); (· rfl); (· rfl)) | ((with_reducible apply s_faddrP); (· rfl); (· rfl)))) | ((with_reducible refine k_br ?_); (first | (with_reducible first | refine Br_dec ?_ | refine Br_not ?_ | refine Br_eqF ?_ | refine Br_and ?_ | refine Br_or ?_ | refine Br_neg ?_ | refine Br_band ?_ | refine Br_bor ?_ | refine Br_beq ?_) | (refine Br_t (by first | with_reducible rfl | omega | assumption | rfl) ?_) | (refine Br_f (by first | omega | assumption | decide) ?_) | (with_reducible apply Br_sb <;> intro hbr <;> (first | subst hbr | simp only [hbr] | skip)) | (with_reducible apply Br_s <;> intro hbr))) | (with_reducible refine WN_succ ?_) | ((first | (with_reducible apply q_eqI) | (with_reducible apply q_eqN)); (first | (simp (disch := omega) only [w64, wu8, wu16, wu32, wu64, tm_nn, td_nn, fd_nn, Int.reduceAdd, Int.reduceSub, Int.reduceMul, Int.reduceDiv, Int.reduceMod, Int.reduceNeg, Int.reduceToNat, Int.toNat_natCast, Int.toNat_zero, Int.zero_add, Int.add_zero, Int.one_mul, Int.reducePow, Nat.mul_one, Nat.zero_add, Nat.add_zero, Nat.zero_mul, Nat.reduceAdd, Nat.reduceMul, Nat.reduceSub, Nat.min_eq_left, IntKind.bits, Nat.sub_zero, gp, g4]; try rfl; done) | rfl)) | ((first | (with_reducible apply q_eqL) | (with_reducible apply q_eqO)); (first | (simp (disch := omega) only [upd_self, upd_ne, upd_upd, rep, splice, List.take_succ_cons, List.take_zero, List.drop_succ_cons, List.drop_zero, List.cons_append, List.nil_append, List.append_nil, List.length_cons, List.length_nil, List.reduceReplicate, List.flatten_cons, List.flatten_nil, Nat.reduceAdd, Nat.reduceMul, Nat.reduceSub, Nat.zero_add, Nat.add_zero, List.getElem?_cons_zero, List.getElem?_cons_succ, gp, g4]; try rfl; done) | rfl)))
          all_goals first | (exfalso; omega) | exact Fin_bt trivial rfl (hyes (by omega)) | exact ⟨_, hnx (by omega), rfl, j4, jP⟩
        · rintro e' h' ⟨h1, hb, he, j4, jP⟩
          cases he
          have hop2 : H ↔ k > no ∨ k + u > al := hop.trans ⟨fun h => h.elim (fun ⟨x, hx, h⟩ => by
            obtain ⟨j, hj, rfl⟩ := List.getElem_of_mem hx
            exact absurd h (hb j hj hj)) id, .inr⟩
          clear hb hop
          repeat' (first | (with_reducible first | refine W_seq ?_ | refine then_n ?_ | refine W_block ?_ | refine blk_n ?_ | refine blk_r ?_ | refine blk_e ?_ | refine W_skip ?_ | refine W_ret ?_ | refine then_r ?_ | refine W_exit ?_ | refine then_e ?_) | (refine blk_j (by decide) ?_) | ((with_reducible refine s_reg ?_); intro K hK) | ((with_reducible refine k_nil ?_); (with_reducible apply s_nil hK); (· exact nmX); clear hK; clear K) | ((with_reducible refine k_cond ?_); (first | ((with_reducible apply s_condT); (· rfl); (· exact nmX)) | ((with_reducible apply s_condF); (· rfl); (· exact nmX)) | ((with_reducible apply s_condS); (· rfl); (· exact nmX); (· exact nmX)))) | ((with_reducible refine k_guard ?_); (first | (refine s_gt rfl ?_) | (refine s_gf1 rfl ?_) | (refine s_gfn rfl ?_) | (refine s_gx1 rfl ?_) | (refine s_gxn rfl ?_) | (refine s_gs rfl ?_))) | ((with_reducible refine k_mv ?_); (refine s_mv rfl ?_)) | ((with_reducible refine k_pick ?_); (first | (refine s_pickT rfl rfl ?_) | (refine s_pickF rfl rfl ?_))) | ((with_reducible refine k_lss ?_); (refine s_lss rfl rfl ?_)) | ((with_reducible refine k_gtr ?_); (refine s_gtr rfl rfl ?_)) | ((with_reducible refine k_load ?_); (first | ((with_reducible apply s_loadV); (· rfl)) | ((with_reducible apply s_loadP); (· rfl); (· (exact hpX))))) | ((with_reducible refine k_faddr ?_); (first | ((with_reducible apply s_faddrV); (· rfl); (· rfl)) | ((with_reducible apply s_faddrP); (· rfl); (· rfl)))) | ((with_reducible refine k_br ?_); (first | (with_reducible first | refine Br_dec ?_ | refine Br_not ?_ | refine Br_eqF ?_ | refine Br_and ?_ | refine Br_or ?_ | refine Br_neg ?_ | refine Br_band ?_ | refine Br_bor ?_ | refine Br_beq ?_) | (refine Br_t (by first | with_reducible rfl | omega | assumption | rfl) ?_) | (refine Br_f (by first | omega | assumption | decide) ?_) | (with_reducible apply Br_sb <;> intro hbr <;> (first | subst hbr | simp only [hbr] | skip)) | (with_reducible apply Br_s <;> intro hbr))) | (with_reducible refine WN_succ ?_) | ((first | (with_reducible apply q_eqI) | (with_reducible apply q_eqN)); (first | exact nuI | exact nuN)) | ((first | (with_reducible apply q_eqL) | (with_reducible apply q_eqO)); (first | exact liL | exact liO)))
          all_goals first | (exfalso; omega) | exact Fin_bt trivial rfl (hop2.2 (by omega)) | exact Fin_bf trivial rfl (fun h => by have := hop2.1 h; omega)
      · have hop : hopP a l no al := .inr (.inr (.inl ha))
        generalize hopP a l no al = H at *
        obtain ⟨pr, ac, k, u⟩ := a
        dsimp only [Ask.cells] at *
        repeat' (first | (with_reducible first | refine W_seq ?_ | refine then_n ?_ | refine W_block ?_ | refine blk_n ?_ | refine blk_r ?_ | refine blk_e ?_ | refine W_skip ?_ | refine W_ret ?_ | refine then_r ?_ | refine W_exit ?_ | refine then_e ?_) | (refine blk_j (by decide) ?_) | ((with_reducible refine s_reg ?_); intro K hK) | ((with_reducible refine k_nil ?_); (with_reducible apply s_nil hK); (· exact nmX); clear hK; clear K) | ((with_reducible refine k_cond ?_); (first | ((with_reducible apply s_condT); (· rfl); (· exact nmX)) | ((with_reducible apply s_condF); (· rfl); (· exact nmX)) | ((with_reducible apply s_condS); (· rfl); (· exact nmX); (· exact nmX)))) | ((with_reducible refine k_guard ?_); (first | (refine s_gt rfl ?_) | (refine s_gf1 rfl ?_) | (refine s_gfn rfl ?_) | (refine s_gx1 rfl ?_) | (refine s_gxn rfl ?_) | (refine s_gs rfl ?_))) | ((with_reducible refine k_mv ?_); (refine s_mv rfl ?_)) | ((with_reducible refine k_len ?_); (first | (refine s_len rfl rfl ?_) | ((with_reducible apply s_len); (· rfl); (· exact SlOwn.len (by assumption))))) | ((with_reducible refine k_pick ?_); (first | (refine s_pickT rfl rfl ?_) | (refine s_pickF rfl rfl ?_))) | ((with_reducible refine k_not ?_); (refine s_not rfl (by first | exact Bool.not_true | exact Bool.not_false | rfl) ?_)) | ((with_reducible refine k_neq ?_); (first | (refine s_neq rfl rfl ?_) | (refine s_strNe rfl rfl ?_))) | ((with_reducible refine k_geq ?_); (refine s_geq rfl rfl ?_)) | ((with_reducible refine k_load ?_); (first | ((with_reducible apply s_loadV); (· rfl)) | ((with_reducible apply s_loadP); (· rfl); (· (exact hpX))))) | ((with_reducible refine k_loadA ?_); (first | ((with_reducible apply s_loadAV); (· rfl); (· (first | exact Nat.le_of_ble_eq_true rfl | decide | omega | (simp; done) | (simp; omega) | skip))) | ((with_reducible apply s_loadAP); (· rfl); (· (exact hpX)); (· (first | exact Nat.le_of_ble_eq_true rfl | decide | omega | (simp; done) | (simp; omega) | skip))))) | ((with_reducible refine k_faddr ?_); (first | ((with_reducible apply s_faddrV); (· rfl); (· rfl)) | ((with_reducible apply s_faddrP); (· rfl); (· rfl)))) | ((with_reducible refine k_box (dst := some 4) ?_); ((with_reducible apply s_box); (· rfl); (· rfl); intro k4 hk4; (try simp only [upd_none] at hk4))) | ((with_reducible refine k_callF ?_); (first | ((with_reducible apply s_call1); (· rfl)) | ((with_reducible apply s_calln); (· rfl)))) | ((with_reducible refine k_con ?_); (first | ((with_reducible apply con_val (cv)); (· (exact agX)); (· rfl); (· exact fun _ => rfl)) | ((with_reducible apply con_val (cc)); (· (exact agX)); (· rfl); (· exact fun _ => rfl)))) | ((with_reducible refine k_br ?_); (first | (with_reducible first | refine Br_dec ?_ | refine Br_not ?_ | refine Br_eqF ?_ | refine Br_and ?_ | refine Br_or ?_ | refine Br_neg ?_ | refine Br_band ?_ | refine Br_bor ?_ | refine Br_beq ?_) | (refine Br_t (by first | with_reducible rfl | omega | assumption | rfl) ?_) | (refine Br_f (by first | omega | assumption | decide) ?_) | (with_reducible apply Br_sb <;> intro hbr <;> (first | subst hbr | simp only [hbr] | skip)) | (with_reducible apply Br_s <;> intro hbr))) | (with_reducible refine WN_succ ?_) | ((first | (with_reducible apply q_eqI) | (with_reducible apply q_eqN)); (first | exact nuI | exact nuN)) | ((first | (with_reducible apply q_eqL) | (with_reducible apply q_eqO)); (first | exact liL | exact liO)))
        all_goals first | (exfalso; omega) | exact Fin_bt trivial rfl hop
    · have hop : hopP a l no al := .inr (.inl hc)
      generalize hopP a l no al = H at *
      generalize chkF l = e at *
      obtain ⟨pr, ac, k, u⟩ := a
      dsimp only [Ask.cells] at *
      repeat' (first | (with_reducible first | refine W_seq ?_ | refine then_n ?_ | refine W_block ?_ | refine blk_n ?_ | refine blk_r ?_ | refine blk_e ?_ | refine W_skip ?_ | refine W_ret ?_ | refine then_r ?_ | refine W_exit ?_ | refine then_e ?_) | (refine blk_j (by decide) ?_) | ((with_reducible refine s_reg ?_); intro K hK) | ((with_reducible refine k_nil ?_); (with_reducible apply s_nil hK); (· exact nmX); clear hK; clear K) | ((with_reducible refine k_cond ?_); (first | ((with_reducible apply s_condT); (· rfl); (· exact nmX)) | ((with_reducible apply s_condF); (· rfl); (· exact nmX)) | ((with_reducible apply s_condS); (· rfl); (· exact nmX); (· exact nmX)))) | ((with_reducible refine k_guard ?_); (first | (refine s_gt rfl ?_) | (refine s_gf1 rfl ?_) | (refine s_gfn rfl ?_) | (refine s_gx1 rfl ?_) | (refine s_gxn rfl ?_) | (refine s_gs rfl ?_))) | ((with_reducible refine k_mv ?_); (refine s_mv rfl ?_)) | ((with_reducible refine k_len ?_); (first | (refine s_len rfl rfl ?_) | ((with_reducible apply s_len); (· rfl); (· exact SlOwn.len (by assumption))))) | ((with_reducible refine k_pick ?_); (first | (refine s_pickT rfl rfl ?_) | (refine s_pickF rfl rfl ?_))) | ((with_reducible refine k_not ?_); (refine s_not rfl (by first | exact Bool.not_true | exact Bool.not_false | rfl) ?_)) | ((with_reducible refine k_neq ?_); (first | (refine s_neq rfl rfl ?_) | (refine s_strNe rfl rfl ?_))) | ((with_reducible refine k_geq ?_); (refine s_geq rfl rfl ?_)) | ((with_reducible refine k_load ?_); (first | ((with_reducible apply s_loadV); (· rfl)) | ((with_reducible apply s_loadP); (· rfl); (· (exact hpX))))) | ((with_reducible refine k_loadA ?_); (first | ((with_reducible apply s_loadAV); (· rfl); (· (first | exact Nat.le_of_ble_eq_true rfl | decide | omega | (simp; done) | (simp; omega) | skip))) | ((with_reducible apply s_loadAP); (· rfl); (· (exact hpX)); (· (first | exact Nat.le_of_ble_eq_true rfl | decide | omega | (simp; done) | (simp; omega) | skip))))) | ((with_reducible refine k_faddr ?_); (first | ((with_reducible apply s_faddrV); (· rfl); (· rfl)) | ((with_reducible apply s_faddrP); (· rfl); (· rfl)))) | ((with_reducible refine k_box (dst := some 4) ?_); ((with_reducible apply s_box); (· rfl); (· rfl); intro k4 hk4; (try simp only [upd_none] at hk4))) | ((with_reducible refine k_callF ?_); (first | ((with_reducible apply s_call1); (· rfl)) | ((with_reducible apply s_calln); (· rfl)))) | ((with_reducible refine k_con ?_); (first | ((with_reducible apply con_val (cv)); (· (exact agX)); (· rfl); (· exact fun _ => rfl)) | ((with_reducible apply con_val (cc)); (· (exact agX)); (· rfl); (· exact fun _ => rfl)))) | ((with_reducible refine k_br ?_); (first | (with_reducible first | refine Br_dec ?_ | refine Br_not ?_ | refine Br_eqF ?_ | refine Br_and ?_ | refine Br_or ?_ | refine Br_neg ?_ | refine Br_band ?_ | refine Br_bor ?_ | refine Br_beq ?_) | (refine Br_t (by first | with_reducible rfl | omega | assumption | rfl) ?_) | (refine Br_f (by first | omega | assumption | decide) ?_) | (with_reducible apply Br_sb <;> intro hbr <;> (first | subst hbr | simp only [hbr] | skip)) | (with_reducible apply Br_s <;> intro hbr))) | (with_reducible refine WN_succ ?_) | ((first | (with_reducible apply q_eqI) | (with_reducible apply q_eqN)); (first | exact nuI | exact nuN)) | ((first | (with_reducible apply q_eqL) | (with_reducible apply q_eqO)); (first | exact liL | exact liO)))
      all_goals first | (exfalso; omega) | exact Fin_bt trivial rfl hop
  · have hop : hopP a l no al := .inl hv
    rw [decide_eq_false hv] at cv
    generalize hopP a l no al = H at *
    obtain ⟨pr, ac, k, u⟩ := a
    dsimp only [Ask.cells] at *
    repeat' (first | (with_reducible first | refine W_seq ?_ | refine then_n ?_ | refine W_block ?_ | refine blk_n ?_ | refine blk_r ?_ | refine blk_e ?_ | refine W_skip ?_ | refine W_ret ?_ | refine then_r ?_ | refine W_exit ?_ | refine then_e ?_) | (refine blk_j (by decide) ?_) | ((with_reducible refine s_reg ?_); intro K hK) | ((with_reducible refine k_nil ?_); (with_reducible apply s_nil hK); (· exact nmX); clear hK; clear K) | ((with_reducible refine k_cond ?_); (first | ((with_reducible apply s_condT); (· rfl); (· exact nmX)) | ((with_reducible apply s_condF); (· rfl); (· exact nmX)) | ((with_reducible apply s_condS); (· rfl); (· exact nmX); (· exact nmX)))) | ((with_reducible refine k_guard ?_); (first | (refine s_gt rfl ?_) | (refine s_gf1 rfl ?_) | (refine s_gfn rfl ?_) | (refine s_gx1 rfl ?_) | (refine s_gxn rfl ?_) | (refine s_gs rfl ?_))) | ((with_reducible refine k_mv ?_); (refine s_mv rfl ?_)) | ((with_reducible refine k_len ?_); (first | (refine s_len rfl rfl ?_) | ((with_reducible apply s_len); (· rfl); (· exact SlOwn.len (by assumption))))) | ((with_reducible refine k_pick ?_); (first | (refine s_pickT rfl rfl ?_) | (refine s_pickF rfl rfl ?_))) | ((with_reducible refine k_not ?_); (refine s_not rfl (by first | exact Bool.not_true | exact Bool.not_false | rfl) ?_)) | ((with_reducible refine k_neq ?_); (first | (refine s_neq rfl rfl ?_) | (refine s_strNe rfl rfl ?_))) | ((with_reducible refine k_geq ?_); (refine s_geq rfl rfl ?_)) | ((with_reducible refine k_load ?_); (first | ((with_reducible apply s_loadV); (· rfl)) | ((with_reducible apply s_loadP); (· rfl); (· (exact hpX))))) | ((with_reducible refine k_loadA ?_); (first | ((with_reducible apply s_loadAV); (· rfl); (· (first | exact Nat.le_of_ble_eq_true rfl | decide | omega | (simp; done) | (simp; omega) | skip))) | ((with_reducible apply s_loadAP); (· rfl); (· (exact hpX)); (· (first | exact Nat.le_of_ble_eq_true rfl | decide | omega | (simp; done) | (simp; omega) | skip))))) | ((with_reducible refine k_faddr ?_); (first | ((with_reducible apply s_faddrV); (· rfl); (· rfl)) | ((with_reducible apply s_faddrP); (· rfl); (· rfl)))) | ((with_reducible refine k_box (dst := some 4) ?_); ((with_reducible apply s_box); (· rfl); (· rfl); intro k4 hk4; (try simp only [upd_none] at hk4))) | ((with_reducible refine k_callF ?_); (first | ((with_reducible apply s_call1); (· rfl)) | ((with_reducible apply s_calln); (· rfl)))) | ((with_reducible refine k_con ?_); (first | ((with_reducible apply con_val (cv)); (· (exact agX)); (· rfl); (· exact fun _ => rfl)))) | ((with_reducible refine k_br ?_); (first | (with_reducible first | refine Br_dec ?_ | refine Br_not ?_ | refine Br_eqF ?_ | refine Br_and ?_ | refine Br_or ?_ | refine Br_neg ?_ | refine Br_band ?_ | refine Br_bor ?_ | refine Br_beq ?_) | (refine Br_t (by first | with_reducible rfl | omega | assumption | rfl) ?_) | (refine Br_f (by first | omega | assumption | decide) ?_) | (with_reducible apply Br_sb <;> intro hbr <;> (first | subst hbr | simp only [hbr] | skip)) | (with_reducible apply Br_s <;> intro hbr))) | (with_reducible refine WN_succ ?_) | ((first | (with_reducible apply q_eqI) | (with_reducible apply q_eqN)); (first | exact nuI | exact nuN)) | ((first | (with_reducible apply q_eqL) | (with_reducible apply q_eqO)); (first | exact liL | exact liO)))
    all_goals first | (exfalso; omega) | exact Fin_bt trivial rfl hop
end Go.Proofs.Ytbepjnjfnmmpaaa
end
section
/- Accounts: paths, sums. -/
set_option linter.unusedSimpArgs false
set_option linter.unusedVariables false
namespace Go.Proofs.Ytbepjnjfnmmpaaa
open Go.AM Classical
set_option maxRecDepth 100000
set_option maxHeartbeats 4000000
theorem pathF_is {l : List Acct} {a : Int} (h : isP l a) : pathF l a = pathG l 8 a := if_pos h
theorem pathG_self {l : List Acct} {f : Nat} {a : Int} (h : 0 ≤ a) : a ∈ pathG l (f + 1) a := by
  rw [pathG, if_pos h]; simp
theorem pathF_self {l : List Acct} {a : Int} (h : isP l a) : a ∈ pathF l a := by rw [pathF_is h]; exact pathG_self h.2.1
theorem pathG_nodup {l : List Acct} (ht : treeP l) : ∀ (f : Nat) (a : Int), a < l.length → (pathG l f a).Nodup
  | 0, a, _ => by simp [pathG]
  | f + 1, a, ha => by
    unfold pathG
    split
    · rename_i h0
      have h1 := pa_lt ht (a := a) ⟨h0, ha⟩
      refine List.nodup_cons.2 ⟨fun hm => ?_, pathG_nodup ht f _ (by omega)⟩
      have := pathG_in ht f _ (by omega) a hm
      omega
    · simp
theorem pathG_mem {l : List Acct} (ht : treeP l) : ∀ (f : Nat) (a : Int), a < l.length → a < f → ∀ x ∈ pathG l f a, (0 ≤ pa l x.toNat → pa l x.toNat ∈ pathG l f a) ∧ (x ≠ a → ∃ c ∈ pathG l f a, 0 < c ∧ pa l c.toNat = x)
  | 0, _, _, _, x, hx => by simp [pathG] at hx
  | f + 1, a, ha, hf, x, hx => by
    unfold pathG at hx ⊢
    split at hx
    · rename_i h0
      rw [if_pos h0]
      have h1 := pa_lt ht (a := a) ⟨h0, ha⟩
      have ih := pathG_mem ht f (pa l a.toNat) (by omega) (by omega)
      rcases List.mem_cons.1 hx with rfl | hx
      · refine ⟨fun h => List.mem_cons_of_mem _ ?_, fun h => absurd rfl h⟩
        obtain ⟨g, rfl⟩ : ∃ g, f = g + 1 := ⟨f - 1, by omega⟩
        exact pathG_self h
      · obtain ⟨i1, i2⟩ := ih x hx
        refine ⟨fun h => List.mem_cons_of_mem _ (i1 h), fun h => ?_⟩
        have hx2 := pathG_in ht f _ (by omega) x hx
        by_cases hxp : x = pa l a.toNat
        · exact ⟨a, by simp, by omega, hxp.symm⟩
        · obtain ⟨c, hc, h2⟩ := i2 hxp
          exact ⟨c, List.mem_cons_of_mem _ hc, h2⟩
    · simp at hx
theorem pathG_gap {l : List Acct} (ht : treeP l) : ∀ (f : Nat) (a : Int), a < l.length → ∀ x ∈ pathG l f a, ∀ y ∈ pathG l f a, y < x → y ≤ pa l x.toNat
  | 0, _, _, x, hx, _, _, _ => by simp [pathG] at hx
  | f + 1, a, ha, x, hx, y, hy, hyx => by
    unfold pathG at hx hy
    split at hx
    · rename_i h0
      rw [if_pos h0] at hy
      have h1 := pa_lt ht (a := a) ⟨h0, ha⟩
      rcases List.mem_cons.1 hx with rfl | hx
      · rcases List.mem_cons.1 hy with rfl | hy
        · omega
        · exact (pathG_in ht f _ (by omega) y hy).2.2
      · have hx2 := pathG_in ht f _ (by omega) x hx
        rcases List.mem_cons.1 hy with rfl | hy
        · omega
        · exact pathG_gap ht f _ (by omega) x hx y hy hyx
    · simp at hx
theorem pathF_up {l : List Acct} {a x : Int} (h : isP l a) (hx : x ∈ pathF l a) (h0 : 0 ≤ pa l x.toNat) : pa l x.toNat ∈ pathF l a := by
  obtain ⟨hl, ht, _⟩ := chk_ok h.1
  have h2 := h.2
  rw [pathF_is h] at hx ⊢
  exact (pathG_mem ht 8 a h2.2 (by omega) x hx).1 h0
theorem pathF_down {l : List Acct} {a x : Int} (h : isP l a) (hx : x ∈ pathF l a) (h0 : x ≠ a) : ∃ c ∈ pathF l a, 0 < c ∧ pa l c.toNat = x := by
  obtain ⟨hl, ht, _⟩ := chk_ok h.1
  have h2 := h.2
  rw [pathF_is h] at hx ⊢
  exact (pathG_mem ht 8 a h2.2 (by omega) x hx).2 h0
theorem pathF_gap {l : List Acct} {a x y : Int} (h : isP l a) (hx : x ∈ pathF l a) (hy : y ∈ pathF l a) (hyx : y < x) : y ≤ pa l x.toNat := by
  obtain ⟨hl, ht, _⟩ := chk_ok h.1
  rw [pathF_is h] at hx hy
  exact pathG_gap ht 8 a h.2.2 x hx y hy hyx
theorem pathF_le {l : List Acct} {a x : Int} (h : isP l a) (hx : x ∈ pathF l a) : x ≤ a := by
  obtain ⟨hl, ht, _⟩ := chk_ok h.1
  rw [pathF_is h] at hx
  exact (pathG_in ht 8 a h.2.2 x hx).2.2
theorem pathF_nodup {l : List Acct} {a : Int} (h : isP l a) : (pathF l a).Nodup := by
  rw [pathF_is h]; exact pathG_nodup (chk_ok h.1).2.1 8 a h.2.2
end Go.Proofs.Ytbepjnjfnmmpaaa
end
section
/- Accounts: plain laws of charges and sums. -/
set_option linter.unusedSimpArgs false
set_option linter.unusedVariables false
namespace Go.Proofs.Ytbepjnjfnmmpaaa
open Go.AM Classical
set_option maxRecDepth 100000
set_option maxHeartbeats 4000000
/-! ### Sums on a path -/
def addA (x : Acct) (n : Int) : Acct := { x with usage := x.usage + n }
theorem addU_get (o : List Acct) (n x : Int) (j : Nat) : (addU o n x)[j]? = o[j]?.map fun y => addA y (if x.toNat = j then n else 0) := by
  unfold addU
  rw [List.getElem?_modify]
  cases o[j]? with
  | none => rfl
  | some y =>
    by_cases h : x.toNat = j
    · simp [h, addA]
    · simp [h, addA]
theorem foldU_get {n : Int} {j : Nat} : ∀ (p : List Int) (o : List Acct), p.Nodup → (∀ x ∈ p, 0 ≤ x) → (p.foldl (fun o x => addU o n x) o)[j]? = o[j]?.map fun y => addA y (if (j : Int) ∈ p then n else 0)
  | [], o, _, _ => by cases h : o[j]? <;> simp [h, addA]
  | x :: r, o, hn, h0 => by
    obtain ⟨hx, hr⟩ := List.nodup_cons.1 hn
    rw [List.foldl_cons, foldU_get r _ hr (fun y hy => h0 y (by simp [hy])), addU_get]
    have hx0 := h0 x (by simp)
    cases h : o[j]? with
    | none => rfl
    | some y =>
      simp only [Option.map_some, addA]
      by_cases h1 : (j : Int) ∈ r
      · have h2 : ¬ x.toNat = j := fun h => hx (by rwa [← h, Int.toNat_of_nonneg hx0] at h1)
        simp [h1, h2]
      · by_cases h2 : x.toNat = j
        · have h3 : (j : Int) = x := by omega
          simp [h1, h2, h3, hx]
        · have h3 : (j : Int) ≠ x := by omega
          simp [h1, h2, h3]
theorem addF_get {l : List Acct} {a n : Int} (h : isP l a) (j : Nat) : (addF l a n)[j]? = l[j]?.map fun y => addA y (if (j : Int) ∈ pathF l a then n else 0) :=
  foldU_get _ _ (pathF_nodup h) fun x hx => (pathF_in hx).1
theorem addF_at {l : List Acct} {a n : Int} (h : isP l a) {j : Nat} (hj : j < (addF l a n).length) (hj' : j < l.length) : (addF l a n)[j] = addA l[j] (if (j : Int) ∈ pathF l a then n else 0) := by
  have := addF_get (n := n) h j
  rw [List.getElem?_eq_getElem hj, List.getElem?_eq_getElem hj'] at this
  simpa using this
theorem addF_us {l : List Acct} {a n : Int} (h : isP l a) {j : Nat} (hj : j < l.length) : us (addF l a n) j = us l j + (if (j : Int) ∈ pathF l a then n else 0) := by
  have hj' : j < (addF l a n).length := by rw [addF_len]; exact hj
  rw [us_at hj', us_at hj, addF_at h hj' hj]; rfl
theorem addF_pa {l : List Acct} {a n : Int} (h : isP l a) (j : Nat) : pa (addF l a n) j = pa l j := by
  by_cases hj : j < l.length
  · have hj' : j < (addF l a n).length := by rw [addF_len]; exact hj
    rw [pa_at hj', pa_at hj, addF_at h hj' hj]; rfl
  · rw [pa, pa, dif_neg hj, dif_neg (by rw [addF_len]; exact hj)]
theorem addF_mx {l : List Acct} {a n : Int} (h : isP l a) (j : Nat) : mx (addF l a n) j = mx l j := by
  by_cases hj : j < l.length
  · have hj' : j < (addF l a n).length := by rw [addF_len]; exact hj
    rw [mx_at hj', mx_at hj, addF_at h hj' hj]; rfl
  · rw [mx, mx, dif_neg hj, dif_neg (by rw [addF_len]; exact hj)]
theorem pathG_congr {l m : List Acct} (h : ∀ j, pa l j = pa m j) : ∀ f a, pathG l f a = pathG m f a
  | 0, _ => rfl
  | f + 1, a => by rw [pathG, pathG, pathG_congr h f, h]
theorem addF_tree {l : List Acct} {a n : Int} (h : isP l a) : treeP (addF l a n) := by
  intro j hj hj'
  have hl : j < l.length := by rw [addF_len] at hj; exact hj
  have := (chk_ok h.1).2.1 j hl hl
  rw [addF_at h hj' hl]
  exact this
theorem kidsTo_add {l : List Acct} {a n : Int} (h : isP l a) (j : Nat) : ∀ c, c ≤ l.length → kidsTo (addF l a n) j c = kidsTo l j c + (if ∃ d : Nat, d < c ∧ 0 < d ∧ (d : Int) ∈ pathF l a ∧ pa l d = j then n else 0)
  | 0, _ => by
    rw [if_neg (by rintro ⟨d, h, _⟩; omega)]; rfl
  | c + 1, hc => by
    unfold kidsTo
    rw [kidsTo_add h j c (by omega), addF_pa h, addF_us h (by omega)]
    by_cases h1 : 0 < c ∧ pa l c = j
    · rw [if_pos h1, if_pos h1]
      by_cases h2 : (c : Int) ∈ pathF l a
      · rw [if_pos h2]
        have h3 : ¬ ∃ d : Nat, d < c ∧ 0 < d ∧ (d : Int) ∈ pathF l a ∧ pa l d = j := by
          rintro ⟨d, hd, hd0, hdm, hdp⟩
          have h4 := pathF_gap h h2 hdm (by omega)
          have h5 := pa_lt (chk_ok h.1).2.1 (a := (d : Int)) (by omega)
          simp only [Int.toNat_natCast] at h4 h5
          omega
        rw [if_neg h3, if_pos ⟨c, by omega, h1.1, h2, h1.2⟩]
        omega
      · rw [if_neg h2]
        have h3 : (∃ d : Nat, d < c + 1 ∧ 0 < d ∧ (d : Int) ∈ pathF l a ∧ pa l d = j) ↔ ∃ d : Nat, d < c ∧ 0 < d ∧ (d : Int) ∈ pathF l a ∧ pa l d = j := by
          constructor
          · rintro ⟨d, hd, h4⟩
            refine ⟨d, ?_, h4⟩
            rcases Nat.lt_succ_iff_lt_or_eq.1 hd with h5 | rfl
            · exact h5
            · exact absurd h4.2.1 h2
          · rintro ⟨d, hd, h4⟩; exact ⟨d, by omega, h4⟩
        simp only [h3]
        omega
    · rw [if_neg h1, if_neg h1]
      have h3 : (∃ d : Nat, d < c + 1 ∧ 0 < d ∧ (d : Int) ∈ pathF l a ∧ pa l d = j) ↔ ∃ d : Nat, d < c ∧ 0 < d ∧ (d : Int) ∈ pathF l a ∧ pa l d = j := by
        constructor
        · rintro ⟨d, hd, h4⟩
          refine ⟨d, ?_, h4⟩
          rcases Nat.lt_succ_iff_lt_or_eq.1 hd with h5 | rfl
          · exact h5
          · exact absurd ⟨h4.1, h4.2.2⟩ h1
        · rintro ⟨d, hd, h4⟩; exact ⟨d, by omega, h4⟩
      simp only [h3]
      omega
theorem kids_add {l : List Acct} {a n : Int} (h : isP l a) (j : Nat) : kids (addF l a n) j = kids l j + (if (j : Int) ∈ pathF l a ∧ (j : Int) ≠ a then n else 0) := by
  unfold kids
  rw [addF_len, kidsTo_add h j _ (Nat.le_refl _)]
  have : (∃ d : Nat, d < l.length ∧ 0 < d ∧ (d : Int) ∈ pathF l a ∧ pa l d = j) ↔ (j : Int) ∈ pathF l a ∧ (j : Int) ≠ a := by
    constructor
    · rintro ⟨d, h1, h2, h3, h4⟩
      have h5 := pathF_up h h3 (by rw [Int.toNat_natCast, h4]; omega)
      rw [Int.toNat_natCast, h4] at h5
      have h6 := pa_lt (chk_ok h.1).2.1 (a := (d : Int)) (by omega)
      have h7 := pathF_le h h3
      rw [Int.toNat_natCast] at h6
      exact ⟨h5, by omega⟩
    · rintro ⟨h1, h2⟩
      obtain ⟨c, h3, h4, h5⟩ := pathF_down h h1 h2
      have h6 := pathF_in h3
      exact ⟨c.toNat, by omega, by omega, by rw [Int.toNat_of_nonneg h6.1]; exact h3, h5⟩
  simp only [this]
theorem own_add {l : List Acct} {a n : Int} (h : isP l a) {j : Nat} (hj : j < l.length) : us (addF l a n) j - kids (addF l a n) j = us l j - kids l j + (if (j : Int) = a then n else 0) := by
  rw [addF_us h hj, kids_add h]
  by_cases h1 : (j : Int) = a
  · have := pathF_self h
    simp [h1, this]; omega
  · by_cases h2 : (j : Int) ∈ pathF l a
    · simp [h1, h2]; omega
    · simp [h1, h2]
theorem chk_add {l : List Acct} {a n : Int} (h : isP l a) (hp : ∀ j : Nat, (j : Int) ∈ pathF l a → 0 ≤ us l j + n ∧ us l j + n ≤ mx l j) (ho : 0 ≤ us l a.toNat - kids l a + n) : chkF (addF l a n) = 0 := by
  obtain ⟨h0, ht, ha, hm, hs⟩ := chk_ok h.1
  have hmem : ∀ {x : Acct}, x ∈ addF l a n → ∃ (j : Nat) (hj : j < l.length), x = addA l[j] (if (j : Int) ∈ pathF l a then n else 0) := by
    intro x hx
    obtain ⟨j, hj, rfl⟩ := List.mem_iff_getElem.1 hx
    have hj' : j < l.length := by rw [addF_len] at hj; exact hj
    exact ⟨j, hj', addF_at h hj hj'⟩
  refine chk_mk (by rw [addF_len]; exact h0) (addF_tree h) ⟨?_, ?_⟩ ?_ ?_
  · intro j hj hj'
    have hl : j < l.length := by rw [addF_len] at hj; exact hj
    have h1 := ha.1 j hl hl
    have h2 := mx_in ha.1 j
    have h3 := hp j
    rw [us_at hl] at h3
    rw [addF_at h hj' hl]
    unfold okA inR at h1
    unfold okA inR addA
    dsimp only
    split
    · have := h3 (by assumption); omega
    · omega
  · intro h1
    have := ha.2 h0.1
    rw [addF_at h h1 h0.1]
    exact this
  · intro x hx
    obtain ⟨j, hj, rfl⟩ := hmem hx
    have h2 := hm _ (List.getElem_mem hj)
    have h3 := hp j
    rw [us_at hj, mx_at hj] at h3
    unfold addA
    dsimp only
    split
    · exact (h3 (by assumption)).2
    · omega
  · intro j hj
    have hl : j < l.length := by rw [addF_len] at hj; exact hj
    have h1 := own_add (n := n) h hl
    have h2 := hs j hl
    by_cases h3 : (j : Int) = a
    · rw [if_pos h3] at h1
      subst h3
      rw [Int.toNat_natCast] at ho
      omega
    · rw [if_neg h3] at h1
      omega
/-! ### Charges that succeed -/
theorem stopL_none {l : List Acct} {n : Int} {p : List Int} : stopL l n p = none ↔ ∀ x ∈ p, n ≤ roomA l x := by
  unfold stopL
  rw [List.find?_eq_none]
  simp
def canP (l : List Acct) (a n : Int) : Prop := isP l a ∧ inR n ∧ ∀ x ∈ pathF l a, n ≤ roomA l x
theorem req_can {l : List Acct} {a n : Int} (h : isP l a) (hn : inR n) : reqF l a n = 0 := by rw [reqF, if_pos h.1, if_pos h, if_pos hn]
theorem chg_can {l : List Acct} {a n : Int} (h : canP l a n) : chgF l a n = (addF l a n, -1, 0) := by
  rw [chgF, if_pos (req_can h.1 h.2.1), stopL_none.2 h.2.2]
theorem can_chk {l : List Acct} {a n : Int} (h : canP l a n) : chkF (addF l a n) = 0 := by
  obtain ⟨h1, h2, h3⟩ := h
  obtain ⟨h0, ht, ha, hm, hs⟩ := chk_ok h1.1
  have h4 := h1.2
  refine chk_add h1 (fun j hj => ?_) ?_
  · have h5 := h3 _ hj
    have h6 := us_in ha.1 j
    unfold roomA at h5
    rw [Int.toNat_natCast] at h5
    unfold inR at h2
    omega
  · have h5 := hs a.toNat (by omega)
    rw [Int.toNat_of_nonneg h4.1] at h5
    unfold inR at h2
    omega
end Go.Proofs.Ytbepjnjfnmmpaaa
end
section
/- Asks: serving a queue. -/
set_option linter.unusedSimpArgs false
set_option linter.unusedVariables false
namespace Go.Proofs.Ytbepjnjfnmmpaaa
open Go.AM Classical
set_option maxRecDepth 100000
set_option maxHeartbeats 4000000
def fitP (a : Ask) (l : List Acct) (no al : Int) : Prop := (∀ x ∈ pathF l a.account, totA a ≤ roomA l x) ∧ a.kernel ≤ no ∧ totA a ≤ al
theorem sh_fit {a : Ask} {l : List Acct} {no al : Int} (hv : vaP a) (hc : chkF l = 0) (ha : a.account < l.length) : (shF a l no al).2 = 0 ∧ ((fitP a l no al ∧ (shF a l no al).1.1 = 0) ∨ (¬ fitP a l no al ∧ 0 < (shF a l no al).1.1)) := by
  unfold shF
  rw [if_pos hv, if_pos hc, if_pos ha]
  have hp : isP l a.account := ⟨hc, hv.2.1, ha⟩
  obtain ⟨_, _, ⟨k1, k2⟩, ⟨u1, u2⟩⟩ := hv
  cases hs : stopL l (totA a) (pathF l a.account) with
  | some x =>
    have h1 := List.find?_some hs
    have hm := List.mem_of_find?_eq_some hs
    have h1 : roomA l x < totA a := by simpa using h1
    refine ⟨rfl, .inr ⟨fun h => ?_, ?_⟩⟩
    · have := h.1 x hm; omega
    · show 0 < totA a - roomA l x; omega
  | none =>
    have h1 := stopL_none.1 hs
    dsimp only [Option.elim]
    have q1 : a.kernel ≤ capF no ↔ a.kernel ≤ no := by unfold capF; split <;> omega
    have q2 : totA a ≤ capF al ↔ totA a ≤ al := by unfold capF totA; split <;> omega
    unfold endF
    by_cases b1 : a.kernel > capF no
    · rw [if_pos b1]
      exact ⟨rfl, .inr ⟨fun h => by have := q1.2 h.2.1; omega, by show 0 < a.kernel - capF no; omega⟩⟩
    · rw [if_neg b1]
      by_cases b2 : totA a > capF al
      · rw [if_pos b2]
        exact ⟨rfl, .inr ⟨fun h => by have := q2.2 h.2.2; omega, by show 0 < totA a - capF al; omega⟩⟩
      · rw [if_neg b2]
        exact ⟨rfl, .inl ⟨⟨h1, q1.1 (by omega), q2.1 (by omega)⟩, rfl⟩⟩
theorem fit_can {a : Ask} {l : List Acct} {no al : Int} (hv : vaP a) (hc : chkF l = 0) (ha : a.account < l.length) (h : fitP a l no al) : canP l a.account (totA a) := by
  have hp : isP l a.account := ⟨hc, hv.2.1, ha⟩
  have h1 := h.1 a.account (pathF_self hp)
  have hm := (chk_ok hc).2.2.1
  have h2 := us_in hm.1 a.account.toNat
  have h3 := mx_in hm.1 a.account.toNat
  obtain ⟨_, _, ⟨k1, k2⟩, ⟨u1, u2⟩⟩ := hv
  unfold roomA at h1
  refine ⟨hp, ⟨?_, ?_⟩, h.1⟩
  · unfold totA; omega
  · omega
noncomputable def srvL : List Ask → List Acct → Int → Int → Nat × List Acct
  | [], l, _, _ => (0, l)
  | a :: r, l, no, al => if fitP a l no al then ((srvL r (addF l a.account (totA a)) (no - a.kernel) (al - totA a)).1 + 1, (srvL r (addF l a.account (totA a)) (no - a.kernel) (al - totA a)).2) else (0, l)
theorem srvL_cons (a : Ask) (r : List Ask) (l : List Acct) (no al : Int) : srvL (a :: r) l no al = if fitP a l no al then ((srvL r (addF l a.account (totA a)) (no - a.kernel) (al - totA a)).1 + 1, (srvL r (addF l a.account (totA a)) (no - a.kernel) (al - totA a)).2) else (0, l) := by rw [srvL]
noncomputable def srvF (q : List Ask) (l : List Acct) (no al : Int) : Nat × List Acct × Int :=
  if qchk q = 0 then (if chkF l = 0 then (if ∃ a ∈ q, l.length ≤ a.account then (0, [], 6) else ((srvL q l no al).1, (srvL q l no al).2, 0)) else (0, [], chkF l)) else (0, [], qchk q)
def srvR (r : Nat × List Acct × Int) : D := .tup [.int .i64 r.1, .ow 5 (r.2.1.flatMap Acct.cells) r.2.1.length, .int .i64 r.2.2]
theorem Fin_srv {t1 t2 t3 kg n : Nat} {e : Env} {h : Heap} {i x : Int} {g : List Acct} {k : Nat} (h1 : AM.get e t1 = some (.int .i64 i)) (h2 : AM.get e t2 = some (.sl kg 5 0 n)) (h3 : AM.get e t3 = some (.int .i64 x)) (hk : h kg = some (g.flatMap Acct.cells)) (hi : i = k) (hn : n = g.length) : AM.Fin [.tmp t1, .tmp t2, .tmp t3] (srvR (k, g, x)) X.ret ⟨e, h⟩ := by
  subst hi hn
  unfold srvR
  exact Fin_own trivial (ds := [.int .i64 k, .sl kg 5 0 g.length, .int .i64 x]) (by simp [resD, resL, h1, h2, h3]) hk (All2.cons (exc_v rfl rfl) (All2.cons (exc_o hk (accs_len g) (accs_scal g)) (All2.cons (exc_v rfl rfl) All2.nil))) (Nat.le_of_ble_eq_true rfl)
theorem serve1_c (a : Ask) (l : List Acct) : PCon Try.prog 41 [.agg a.cells, .vp [accs l] 0] (.bool (decide ((l.length : Int) ≤ a.account))) := by
  refine A41p (by simp [A41]) ?_
  simp only [A41, argEnv]
  obtain ⟨b, c, k, u⟩ := a
  dsimp only [Ask.cells]
  repeat' (first | (with_reducible first | refine W_seq ?_ | refine then_n ?_ | refine W_skip ?_ | refine W_ret ?_ | refine then_r ?_) | ((with_reducible refine s_reg ?_); intro K hK) | ((with_reducible refine k_nil ?_); (with_reducible apply s_nil hK); (· exact nmX); clear hK; clear K) | ((with_reducible refine k_guard ?_); (first | (refine s_gt rfl ?_) | (refine s_gf1 rfl ?_) | (refine s_gfn rfl ?_) | (refine s_gx1 rfl ?_) | (refine s_gxn rfl ?_) | (refine s_gs rfl ?_))) | ((with_reducible refine k_mv ?_); (refine s_mv rfl ?_)) | ((with_reducible refine k_len ?_); (first | (refine s_len rfl rfl ?_) | ((with_reducible apply s_len); (· rfl); (· exact SlOwn.len (by assumption))))) | ((with_reducible refine k_geq ?_); (refine s_geq rfl rfl ?_)) | ((with_reducible refine k_load ?_); (first | ((with_reducible apply s_loadV); (· rfl)) | ((with_reducible apply s_loadP); (· rfl); (· (exact hpX))))) | ((with_reducible refine k_faddr ?_); (first | ((with_reducible apply s_faddrV); (· rfl); (· rfl)) | ((with_reducible apply s_faddrP); (· rfl); (· rfl)))) | ((with_reducible refine k_box (dst := some 2) ?_); ((with_reducible apply s_box); (· rfl); (· rfl); intro k2 hk2; (try simp only [upd_none] at hk2))) | ((with_reducible refine k_br ?_); (first | (with_reducible first | refine Br_dec ?_ | refine Br_not ?_ | refine Br_eqF ?_ | refine Br_and ?_ | refine Br_or ?_ | refine Br_neg ?_ | refine Br_band ?_ | refine Br_bor ?_ | refine Br_beq ?_) | (refine Br_t (by first | with_reducible rfl | omega | assumption | rfl) ?_) | (refine Br_f (by first | omega | assumption | decide) ?_) | (with_reducible apply Br_sb <;> intro hbr <;> (first | subst hbr | simp only [hbr] | skip)) | (with_reducible apply Br_s <;> intro hbr))) | (with_reducible refine WN_succ ?_) | ((first | (with_reducible apply q_eqI) | (with_reducible apply q_eqN)); (first | exact nuI | exact nuN)) | ((first | (with_reducible apply q_eqL) | (with_reducible apply q_eqO)); (first | exact liL | exact liO)))
  all_goals first | exact Fin_bt trivial rfl (by omega) | exact Fin_bf trivial rfl (by omega)
theorem srv_step {q : List Ask} {l g : List Acct} {no al n1 a1 : Int} {i : Nat} (hi : i < q.length) (hE : srvL q l no al = (i + (srvL (q.drop i) g n1 a1).1, (srvL (q.drop i) g n1 a1).2)) :
    (fitP q[i] g n1 a1 → srvL q l no al = (i + 1 + (srvL (q.drop (i + 1)) (addF g q[i].account (totA q[i])) (n1 - q[i].kernel) (a1 - totA q[i])).1, (srvL (q.drop (i + 1)) (addF g q[i].account (totA q[i])) (n1 - q[i].kernel) (a1 - totA q[i])).2)) ∧ (¬ fitP q[i] g n1 a1 → srvL q l no al = (i, g)) := by
  rw [List.drop_eq_getElem_cons hi, srvL_cons] at hE
  constructor
  · intro h
    rw [hE, if_pos h]
    congr 1
    dsimp only
    omega
  · intro h
    rw [hE, if_neg h]; rfl
theorem srv_end {q : List Ask} {l g : List Acct} {no al n1 a1 : Int} (hE : srvL q l no al = (q.length + (srvL (q.drop q.length) g n1 a1).1, (srvL (q.drop q.length) g n1 a1).2)) : srvL q l no al = (q.length, g) := by
  rw [List.drop_length] at hE
  rw [hE]; rfl
theorem serve_c (q : List Ask) (hl : q.length ≤ 100000) (l : List Acct) (hL : l.length ≤ 9223372036854775807) (no al : Int) (hno : no ≤ 9223372036854775807) (hal0 : al ≤ 9223372036854775807) : PCon Try.prog 17 [asks q, accs l, .int .i64 no, .int .i64 al] (srvR (srvF q l no al)) := by
  have c0 := gcheck_c q (by omega)
  have c1 := check_c l hL
  have c2 := acontf_c q (by omega) 41 (.vp [accs l] 0) (fun h => Rd_vp) (fun a => decide ((l.length : Int) ≤ a.account)) (fun a _ => serve1_c a l)
  have hql := asks_len q
  have hacl := accs_len l
  refine A17p (by simp [A17]) ?_
  simp only [A17, argEnv]
  unfold srvF
  by_cases h0 : qchk q = 0
  · rw [if_pos h0]
    rw [h0] at c0
    by_cases h1 : chkF l = 0
    · rw [if_pos h1]
      rw [h1] at c1
      have hlen := (chk_ok h1).1
      have c3 := clone_c l (by omega) (by omega)
      have hf : 0 ≤ firstI (fun a : Ask => decide ((l.length : Int) ≤ a.account)) q ↔ ∃ a ∈ q, l.length ≤ a.account := by
        rw [firstI_nn]; simp
      by_cases h2 : ∃ a ∈ q, l.length ≤ a.account
      · rw [if_pos h2]
        rw [decide_eq_true (hf.2 h2)] at c2
        unfold srvR
        repeat' (first | (with_reducible first | refine W_seq ?_ | refine then_n ?_ | refine W_block ?_ | refine blk_n ?_ | refine blk_r ?_ | refine blk_e ?_ | refine W_skip ?_ | refine W_ret ?_ | refine then_r ?_ | refine W_exit ?_ | refine then_e ?_) | (refine blk_j (by decide) ?_) | ((with_reducible refine s_reg ?_); intro K hK) | ((with_reducible refine k_nil ?_); (with_reducible apply s_nil hK); (· exact nmX); clear hK; clear K) | ((with_reducible refine k_cond ?_); (first | ((with_reducible apply s_condT); (· rfl); (· exact nmX)) | ((with_reducible apply s_condF); (· rfl); (· exact nmX)) | ((with_reducible apply s_condS); (· rfl); (· exact nmX); (· exact nmX)))) | ((with_reducible refine k_guard ?_); (first | (refine s_gt rfl ?_) | (refine s_gf1 rfl ?_) | (refine s_gfn rfl ?_) | (refine s_gx1 rfl ?_) | (refine s_gxn rfl ?_) | (refine s_gs rfl ?_))) | ((with_reducible refine k_mv ?_); (refine s_mv rfl ?_)) | ((with_reducible refine k_neq ?_); (first | (refine s_neq rfl rfl ?_) | (refine s_strNe rfl rfl ?_))) | ((with_reducible refine k_load ?_); (first | ((with_reducible apply s_loadV); (· rfl)) | ((with_reducible apply s_loadP); (· rfl); (· (exact hpX))))) | ((with_reducible refine k_box (dst := some 5) ?_); ((with_reducible apply s_box); (· rfl); (· rfl); intro k5 hk5; (try simp only [upd_none] at hk5))) | ((with_reducible refine k_mkfn ?_); ((with_reducible apply s_mkfn); (· rfl); (· rfl))) | ((with_reducible refine k_callF ?_); (first | ((with_reducible apply s_call1); (· rfl)) | ((with_reducible apply s_calln); (· rfl)))) | ((with_reducible refine k_con ?_); (first | ((with_reducible apply con_val (c0)); (· (repeat (first | exact All2.nil | (apply All2.cons; (· first | ((apply Rd_fnR); (· (repeat (first | exact All2.nil | (apply All2.cons; (· first | ((apply Rd_ptR); (· exact hpX); (· exact agX); (· (first | simp | (intro h; cases h) | skip))) | exact rdX))))); (· (repeat (first | exact All2.nil | (apply All2.cons; (· first | ((apply Rd_ptR); (· exact hpX); (· exact agX); (· (first | simp | (intro h; cases h) | skip))) | exact rdX)))))) | ((apply Rd_ptR); (· exact hpX); (· exact agX); (· (first | simp | (intro h; cases h) | skip))) | exact rdX))))); (· rfl); (· exact fun _ => rfl)) | ((with_reducible apply con_val (c1)); (· (repeat (first | exact All2.nil | (apply All2.cons; (· first | ((apply Rd_fnR); (· (repeat (first | exact All2.nil | (apply All2.cons; (· first | ((apply Rd_ptR); (· exact hpX); (· exact agX); (· (first | simp | (intro h; cases h) | skip))) | exact rdX))))); (· (repeat (first | exact All2.nil | (apply All2.cons; (· first | ((apply Rd_ptR); (· exact hpX); (· exact agX); (· (first | simp | (intro h; cases h) | skip))) | exact rdX)))))) | ((apply Rd_ptR); (· exact hpX); (· exact agX); (· (first | simp | (intro h; cases h) | skip))) | exact rdX))))); (· rfl); (· exact fun _ => rfl)) | ((with_reducible apply con_val (c2)); (· (repeat (first | exact All2.nil | (apply All2.cons; (· first | ((apply Rd_fnR); (· (repeat (first | exact All2.nil | (apply All2.cons; (· first | ((apply Rd_ptR); (· exact hpX); (· exact agX); (· (first | simp | (intro h; cases h) | skip))) | exact rdX))))); (· (repeat (first | exact All2.nil | (apply All2.cons; (· first | ((apply Rd_ptR); (· exact hpX); (· exact agX); (· (first | simp | (intro h; cases h) | skip))) | exact rdX)))))) | ((apply Rd_ptR); (· exact hpX); (· exact agX); (· (first | simp | (intro h; cases h) | skip))) | exact rdX))))); (· rfl); (· exact fun _ => rfl)))) | ((with_reducible refine k_dreg ?_); refine s_dreg rfl rfl ?_; intro K hK) | (with_reducible refine d_nilS ?_) | ((with_reducible refine k_dnil ?_); (with_reducible apply d_nil hK); (· exact nmX); clear hK; clear K) | ((with_reducible refine k_dguard ?_); (first | (refine d_gt rfl ?_) | (refine d_gf rfl ?_) | (refine d_gx rfl ?_) | (refine d_gs rfl ?_))) | ((with_reducible refine k_dop ?_); refine d_step (by first | exact Or.inl rfl | exact Or.inr rfl) ?_) | (with_reducible refine d_back ?_) | ((with_reducible refine k_br ?_); (first | (with_reducible first | refine Br_dec ?_ | refine Br_not ?_ | refine Br_eqF ?_ | refine Br_and ?_ | refine Br_or ?_ | refine Br_neg ?_ | refine Br_band ?_ | refine Br_bor ?_ | refine Br_beq ?_) | (refine Br_t (by first | with_reducible rfl | omega | assumption | rfl) ?_) | (refine Br_f (by first | omega | assumption | decide) ?_) | (with_reducible apply Br_sb <;> intro hbr <;> (first | subst hbr | simp only [hbr] | skip)) | (with_reducible apply Br_s <;> intro hbr))) | (with_reducible refine WN_succ ?_) | ((first | (with_reducible apply q_eqI) | (with_reducible apply q_eqN)); (first | exact nuI | exact nuN)) | ((first | (with_reducible apply q_eqL) | (with_reducible apply q_eqO)); (first | exact liL | exact liO)))
        all_goals first | (exfalso; omega) | (first | exact Fin_flat trivial rfl rfl | (refine Fin_tup trivial rfl ?_ (Nat.le_of_ble_eq_true rfl); (repeat (first | exact All2.nil | (apply All2.cons; (· first | exact exc_n | exact exc_e | exact exc_v rfl rfl | exact exc_o upd_self rfl rfl)))); done) | (refine Fin_own trivial rfl upd_self ?_ (Nat.le_of_ble_eq_true rfl); (repeat (first | exact All2.nil | (apply All2.cons; (· first | exact exc_n | exact exc_e | exact exc_v rfl rfl | exact exc_o upd_self rfl rfl)))); done) | exact Fin_nil trivial rfl | exact Fin_sl trivial rfl upd_self rfl rfl)
      · rw [if_neg h2]
        rw [decide_eq_false (fun h => h2 (hf.1 h))] at c2
        have hva := (qchk_ok.1 h0).1
        have hac : ∀ i (hi : i < q.length), q[i].account < l.length := fun i hi => Classical.byContradiction fun h => h2 ⟨_, List.getElem_mem hi, by omega⟩
        clear hf h2
        repeat' (first | (with_reducible first | refine W_seq ?_ | refine then_n ?_ | refine W_block ?_ | refine blk_n ?_ | refine blk_r ?_ | refine blk_e ?_ | refine W_skip ?_ | refine W_ret ?_ | refine then_r ?_ | refine W_exit ?_ | refine then_e ?_) | (refine blk_j (by decide) ?_) | ((with_reducible refine s_reg ?_); intro K hK) | ((with_reducible refine k_nil ?_); (with_reducible apply s_nil hK); (· exact nmX); clear hK; clear K) | ((with_reducible refine k_cond ?_); (first | ((with_reducible apply s_condT); (· rfl); (· exact nmX)) | ((with_reducible apply s_condF); (· rfl); (· exact nmX)) | ((with_reducible apply s_condS); (· rfl); (· exact nmX); (· exact nmX)))) | ((with_reducible refine k_guard ?_); (first | (refine s_gt rfl ?_) | (refine s_gf1 rfl ?_) | (refine s_gfn rfl ?_) | (refine s_gx1 rfl ?_) | (refine s_gxn rfl ?_) | (refine s_gs rfl ?_))) | ((with_reducible refine k_mv ?_); (refine s_mv rfl ?_)) | ((with_reducible refine k_len ?_); (first | (refine s_len rfl rfl ?_) | ((with_reducible apply s_len); (· rfl); (· exact SlOwn.len (by assumption))))) | ((with_reducible refine k_neq ?_); (first | (refine s_neq rfl rfl ?_) | (refine s_strNe rfl rfl ?_))) | ((with_reducible refine k_load ?_); (first | ((with_reducible apply s_loadV); (· rfl)) | ((with_reducible apply s_loadP); (· rfl); (· (exact hpX))))) | ((with_reducible refine k_store ?_); ((with_reducible apply s_store0); (· rfl); (· rfl); (· rfl); (· (exact hpX)); (· (exact ⟨rfl, by first | exact Nat.le_of_ble_eq_true rfl | omega | (simp; omega)⟩)); (· ((first | exact liL | exact liO))); (· (first | exact upd_upd | rfl)))) | ((with_reducible refine k_box (dst := some 5) ?_); ((with_reducible apply s_box); (· rfl); (· rfl); intro k5 hk5; (try simp only [upd_none] at hk5))) | ((with_reducible refine k_mkfn ?_); ((with_reducible apply s_mkfn); (· rfl); (· rfl))) | ((with_reducible refine k_callF ?_); (first | ((with_reducible apply s_call1); (· rfl)) | ((with_reducible apply s_calln); (· rfl)))) | ((with_reducible refine k_con ?_); (first | ((with_reducible apply con_val (c0)); (· (repeat (first | exact All2.nil | (apply All2.cons; (· first | ((apply Rd_fnR); (· (repeat (first | exact All2.nil | (apply All2.cons; (· first | ((apply Rd_ptR); (· exact hpX); (· exact agX); (· (first | simp | (intro h; cases h) | skip))) | exact rdX))))); (· (repeat (first | exact All2.nil | (apply All2.cons; (· first | ((apply Rd_ptR); (· exact hpX); (· exact agX); (· (first | simp | (intro h; cases h) | skip))) | exact rdX)))))) | ((apply Rd_ptR); (· exact hpX); (· exact agX); (· (first | simp | (intro h; cases h) | skip))) | exact rdX))))); (· rfl); (· exact fun _ => rfl)) | ((with_reducible apply con_val (c1)); (· (repeat (first | exact All2.nil | (apply All2.cons; (· first | ((apply Rd_fnR); (· (repeat (first | exact All2.nil | (apply All2.cons; (· first | ((apply Rd_ptR); (· exact hpX); (· exact agX); (· (first | simp | (intro h; cases h) | skip))) | exact rdX))))); (· (repeat (first | exact All2.nil | (apply All2.cons; (· first | ((apply Rd_ptR); (· exact hpX); (· exact agX); (· (first | simp | (intro h; cases h) | skip))) | exact rdX)))))) | ((apply Rd_ptR); (· exact hpX); (· exact agX); (· (first | simp | (intro h; cases h) | skip))) | exact rdX))))); (· rfl); (· exact fun _ => rfl)) | ((with_reducible apply con_val (c2)); (· (repeat (first | exact All2.nil | (apply All2.cons; (· first | ((apply Rd_fnR); (· (repeat (first | exact All2.nil | (apply All2.cons; (· first | ((apply Rd_ptR); (· exact hpX); (· exact agX); (· (first | simp | (intro h; cases h) | skip))) | exact rdX))))); (· (repeat (first | exact All2.nil | (apply All2.cons; (· first | ((apply Rd_ptR); (· exact hpX); (· exact agX); (· (first | simp | (intro h; cases h) | skip))) | exact rdX)))))) | ((apply Rd_ptR); (· exact hpX); (· exact agX); (· (first | simp | (intro h; cases h) | skip))) | exact rdX))))); (· rfl); (· exact fun _ => rfl)) | ((with_reducible apply con_of_pcon (c3)); (· (repeat (first | exact All2.nil | (apply All2.cons; (· first | ((apply Rd_fnR); (· (repeat (first | exact All2.nil | (apply All2.cons; (· first | ((apply Rd_ptR); (· exact hpX); (· exact agX); (· (first | simp | (intro h; cases h) | skip))) | exact rdX))))); (· (repeat (first | exact All2.nil | (apply All2.cons; (· first | ((apply Rd_ptR); (· exact hpX); (· exact agX); (· (first | simp | (intro h; cases h) | skip))) | exact rdX)))))) | ((apply Rd_ptR); (· exact hpX); (· exact agX); (· (first | simp | (intro h; cases h) | skip))) | exact rdX))))); intro kC hkC; (try simp only [upd_none] at hkC); simp only [thaw, thawC, List.map, thawH, owOf, owL]))) | ((with_reducible refine k_dreg ?_); refine s_dreg rfl rfl ?_; intro K hK) | (with_reducible refine d_nilS ?_) | ((with_reducible refine k_dnil ?_); (with_reducible apply d_nil hK); (· exact nmX); clear hK; clear K) | ((with_reducible refine k_dguard ?_); (first | (refine d_gt rfl ?_) | (refine d_gf rfl ?_) | (refine d_gx rfl ?_) | (refine d_gs rfl ?_))) | ((with_reducible refine k_dop ?_); refine d_step (by first | exact Or.inl rfl | exact Or.inr rfl) ?_) | (with_reducible refine d_back ?_) | ((with_reducible refine k_br ?_); (first | (with_reducible first | refine Br_dec ?_ | refine Br_not ?_ | refine Br_eqF ?_ | refine Br_and ?_ | refine Br_or ?_ | refine Br_neg ?_ | refine Br_band ?_ | refine Br_bor ?_ | refine Br_beq ?_) | (refine Br_t (by first | with_reducible rfl | omega | assumption | rfl) ?_) | (refine Br_f (by first | omega | assumption | decide) ?_) | (with_reducible apply Br_sb <;> intro hbr <;> (first | subst hbr | simp only [hbr] | skip)) | (with_reducible apply Br_s <;> intro hbr))) | (with_reducible refine WN_succ ?_) | ((first | (with_reducible apply q_eqI) | (with_reducible apply q_eqN)); (first | exact nuI | exact nuN)) | ((first | (with_reducible apply q_eqL) | (with_reducible apply q_eqO)); (first | exact liL | exact liO)))
        all_goals first | (exfalso; omega) | skip
        refine W_for q.length (fun i st => ∃ h' g n1 a1 kg, srvL q l no al = (i + (srvL (q.drop i) g n1 a1).1, (srvL (q.drop i) g n1 a1).2) ∧ chkF g = 0 ∧ g.length = l.length ∧ (n1 ≤ 9223372036854775807 ∧ a1 ≤ 9223372036854775807) ∧
          st = ⟨[(0, asks q), (2, .int .i64 n1), (3, .int .i64 a1), (5, .pt k5 0), (33, asks q), (34, .int .i64 q.length), (35, .int .i64 i)], h'⟩ ∧ h' k5 = some [.sl kg 5 0 l.length] ∧ h' kg = some (g.flatMap Acct.cells)) ⟨_, l, no, al, kC, by simp, h1, rfl, ⟨hno, hal0⟩, rfl, upd_self, by rw [upd_ne hkC.1, upd_self]⟩ ?_ ?_
        · rintro i e' h' hi ⟨hh, g, n1, a1, kg, hE, hg, hgl, ⟨b1, b2⟩, he, j5, jg⟩
          cases he
          obtain ⟨s1, s2⟩ := srv_step hi hE
          have hrow := akr hi
          have hvi := hva _ (List.getElem_mem hi)
          have hai : q[i].account < g.length := by rw [hgl]; exact hac i hi
          have cS := short_c q[i] g (by omega) n1 a1
          obtain ⟨f0, f1⟩ := sh_fit (no := n1) (al := a1) hvi hg hai
          have hgc := accs_len g
          have hgs := accs_scal g
          rw [hgl] at hgc
          by_cases hfit : fitP q[i] g n1 a1
          · have hE2 := s1 hfit
            have hz : (shF q[i] g n1 a1).1.1 = 0 := f1.elim (fun h => h.2) (fun h => absurd hfit h.1)
            have hcan := fit_can hvi hg hai hfit
            have cC := charge_c g (by omega) q[i].account (totA q[i])
            rw [chg_can hcan] at cC
            have hg2 := can_chk hcan
            have hl2 := addF_len g q[i].account (totA q[i])
            have hb1 := hfit.2.1
            have hb2 := hfit.2.2
            have hk0 := hvi.2.2
            unfold inR at hk0
            simp only [chgR, hl2] at cC
            clear s1 s2 f1 hE hcan hfit
            generalize shF q[i] g n1 a1 = z at *
            obtain ⟨⟨z1, z2, z3⟩, z4⟩ := z
            dsimp only at hz f0
            subst hz f0
            simp only [shR, accs, hgl] at cS cC hl2
            have hga := accs_len (addF g q[i].account (totA q[i]))
            rw [hl2] at hga
            generalize addF g q[i].account (totA q[i]) = G at *
            generalize q[i] = a at *
            obtain ⟨pr, ac, k, u⟩ := a
            dsimp only [Ask.cells, totA] at cS cC hrow hk0 hb1 hb2 hE2
            repeat' (first | (with_reducible first | refine W_seq ?_ | refine then_n ?_ | refine W_block ?_ | refine blk_n ?_ | refine blk_r ?_ | refine blk_e ?_ | refine W_skip ?_ | refine W_ret ?_ | refine then_r ?_ | refine W_exit ?_ | refine then_e ?_) | (refine blk_j (by decide) ?_) | ((with_reducible refine s_reg ?_); intro K hK) | ((with_reducible refine k_nil ?_); (with_reducible apply s_nil hK); (· exact nmX); clear hK; clear K) | ((with_reducible refine k_cond ?_); (first | ((with_reducible apply s_condT); (· rfl); (· exact nmX)) | ((with_reducible apply s_condF); (· rfl); (· exact nmX)) | ((with_reducible apply s_condS); (· rfl); (· exact nmX); (· exact nmX)))) | ((with_reducible refine k_guard ?_); (first | (refine s_gt rfl ?_) | (refine s_gf1 rfl ?_) | (refine s_gfn rfl ?_) | (refine s_gx1 rfl ?_) | (refine s_gxn rfl ?_) | (refine s_gs rfl ?_))) | ((with_reducible refine k_mv ?_); (refine s_mv rfl ?_)) | ((with_reducible refine k_extract ?_); (refine s_extract rfl rfl ?_)) | ((with_reducible refine k_lss ?_); (refine s_lss rfl rfl ?_)) | ((with_reducible refine k_gtr ?_); (refine s_gtr rfl rfl ?_)) | ((with_reducible refine k_iaddr ?_); (first | ((with_reducible apply s_iaddrV); (· rfl); (· rfl); (· (first | omega | exact ⟨rfl, by omega⟩ | skip))) | ((with_reducible apply s_iaddrO); (· rfl); (· rfl); (· (first | omega | exact ⟨rfl, by omega⟩ | skip)); (· (exact hpX))) | ((with_reducible apply s_iaddrSO); (· rfl); (· assumption); (· rfl); (· (first | omega | exact ⟨rfl, by omega⟩ | skip)); (· (first | (simp (disch := omega) only [w64, wu8, wu16, wu32, wu64, tm_nn, td_nn, fd_nn, Int.reduceAdd, Int.reduceSub, Int.reduceMul, Int.reduceDiv, Int.reduceMod, Int.reduceNeg, Int.reduceToNat, Int.toNat_natCast, Int.toNat_zero, Int.zero_add, Int.add_zero, Int.one_mul, Int.reducePow, Nat.mul_one, Nat.zero_add, Nat.add_zero, Nat.zero_mul, Nat.reduceAdd, Nat.reduceMul, Nat.reduceSub, Nat.min_eq_left, IntKind.bits, Nat.sub_zero, hrow]; try rfl; done) | rfl)); intro ks hks))) | ((with_reducible refine k_load ?_); (first | ((with_reducible apply s_loadV); (· rfl)) | ((with_reducible apply s_loadP); (· rfl); (· (exact hpX))))) | ((with_reducible refine k_loadA ?_); (first | ((with_reducible apply s_loadAV); (· rfl); (· (first | exact Nat.le_of_ble_eq_true rfl | decide | omega | (simp; done) | (simp; omega) | skip))) | ((with_reducible apply s_loadAP); (· rfl); (· (exact hpX)); (· (first | exact Nat.le_of_ble_eq_true rfl | decide | omega | (simp; done) | (simp; omega) | skip))))) | ((with_reducible refine k_add ?_); ((with_reducible apply s_add); (· rfl); (· rfl))) | ((with_reducible refine k_sub ?_); ((with_reducible apply s_sub); (· rfl); (· rfl))) | ((with_reducible refine k_store ?_); ((with_reducible apply s_store0); (· rfl); (· rfl); (· rfl); (· (exact hpX)); (· (exact ⟨rfl, by first | exact Nat.le_of_ble_eq_true rfl | omega | (simp [hrow]; omega)⟩)); (· ((first | (simp (disch := omega) only [upd_self, upd_ne, upd_upd, rep, splice, List.take_succ_cons, List.take_zero, List.drop_succ_cons, List.drop_zero, List.cons_append, List.nil_append, List.append_nil, List.length_cons, List.length_nil, List.reduceReplicate, List.flatten_cons, List.flatten_nil, Nat.reduceAdd, Nat.reduceMul, Nat.reduceSub, Nat.zero_add, Nat.add_zero, List.getElem?_cons_zero, List.getElem?_cons_succ, hrow]; try rfl; done) | rfl))); (· (first | exact upd_upd | rfl)))) | ((with_reducible refine k_faddr ?_); (first | ((with_reducible apply s_faddrV); (· rfl); (· rfl)) | ((with_reducible apply s_faddrP); (· rfl); (· rfl)))) | ((with_reducible refine k_alloc (dst := some 14) ?_); ((with_reducible apply s_alloc); intro k14 hk14; (try simp only [upd_none] at hk14))) | ((with_reducible refine k_alloc (dst := some 15) ?_); ((with_reducible apply s_alloc); intro k15 hk15; (try simp only [upd_none] at hk15))) | ((with_reducible refine k_callF ?_); (first | ((with_reducible apply s_call1); (· rfl)) | ((with_reducible apply s_calln); (· rfl)))) | ((with_reducible refine k_con ?_); (first | ((with_reducible apply con_val (cS)); (· (repeat (first | exact All2.nil | (apply All2.cons; (· first | exact Rd_int | exact Rd_bool | exact Rd_vs | exact Rd_nil | exact Rd_emp | exact Rd_vp | exact Rd_sl0 upd_self rfl rfl | exact Rd_fn0 | exact Rd_flat rfl | ((apply Rd_sl0); (· (exact hpX)); (· first | rfl | exact scal_i | exact scal_b | assumption); (· first | rfl | assumption | (simp [hrow]; done) | (simp [hrow]; omega))) | ((apply Rd_so); (· first | assumption | ((repeat' (first | assumption | (with_reducible apply SlOwn.upd) | (simp only [upd_none]; assumption))); done)); (· first | rfl | exact scal_i | exact scal_b | assumption))))))); (· rfl); (· exact fun _ => rfl)) | ((with_reducible apply con_of_pcon (cC)); (· (repeat (first | exact All2.nil | (apply All2.cons; (· first | exact Rd_int | exact Rd_bool | exact Rd_vs | exact Rd_nil | exact Rd_emp | exact Rd_vp | exact Rd_sl0 upd_self rfl rfl | exact Rd_fn0 | exact Rd_flat rfl | ((apply Rd_sl0); (· (exact hpX)); (· first | rfl | exact scal_i | exact scal_b | assumption); (· first | rfl | assumption | (simp [hrow]; done) | (simp [hrow]; omega))) | ((apply Rd_so); (· first | assumption | ((repeat' (first | assumption | (with_reducible apply SlOwn.upd) | (simp only [upd_none]; assumption))); done)); (· first | rfl | exact scal_i | exact scal_b | assumption))))))); intro kN hkN; (try simp only [upd_none] at hkN); simp only [thaw, thawC, List.map, thawH, owOf, owL]))) | ((with_reducible refine k_dreg ?_); refine s_dreg rfl rfl ?_; intro K hK) | (with_reducible refine d_nilS ?_) | ((with_reducible refine k_dnil ?_); (with_reducible apply d_nil hK); (· exact nmX); clear hK; clear K) | ((with_reducible refine k_dguard ?_); (first | (refine d_gt rfl ?_) | (refine d_gf rfl ?_) | (refine d_gx rfl ?_) | (refine d_gs rfl ?_))) | ((with_reducible refine k_dop ?_); refine d_step (by first | exact Or.inl rfl | exact Or.inr rfl) ?_) | (with_reducible refine d_back ?_) | ((with_reducible refine k_br ?_); (first | (with_reducible first | refine Br_dec ?_ | refine Br_not ?_ | refine Br_eqF ?_ | refine Br_and ?_ | refine Br_or ?_ | refine Br_neg ?_ | refine Br_band ?_ | refine Br_bor ?_ | refine Br_beq ?_) | (refine Br_t (by first | with_reducible rfl | omega | assumption | rfl) ?_) | (refine Br_f (by first | omega | assumption | decide) ?_) | (with_reducible apply Br_sb <;> intro hbr <;> (first | subst hbr | simp only [hbr] | skip)) | (with_reducible apply Br_s <;> intro hbr))) | (with_reducible refine WN_succ ?_) | ((first | (with_reducible apply q_eqI) | (with_reducible apply q_eqN)); (first | (simp (disch := omega) only [w64, wu8, wu16, wu32, wu64, tm_nn, td_nn, fd_nn, Int.reduceAdd, Int.reduceSub, Int.reduceMul, Int.reduceDiv, Int.reduceMod, Int.reduceNeg, Int.reduceToNat, Int.toNat_natCast, Int.toNat_zero, Int.zero_add, Int.add_zero, Int.one_mul, Int.reducePow, Nat.mul_one, Nat.zero_add, Nat.add_zero, Nat.zero_mul, Nat.reduceAdd, Nat.reduceMul, Nat.reduceSub, Nat.min_eq_left, IntKind.bits, Nat.sub_zero, hrow]; try rfl; done) | rfl)) | ((first | (with_reducible apply q_eqL) | (with_reducible apply q_eqO)); (first | (simp (disch := omega) only [upd_self, upd_ne, upd_upd, rep, splice, List.take_succ_cons, List.take_zero, List.drop_succ_cons, List.drop_zero, List.cons_append, List.nil_append, List.append_nil, List.length_cons, List.length_nil, List.reduceReplicate, List.flatten_cons, List.flatten_nil, Nat.reduceAdd, Nat.reduceMul, Nat.reduceSub, Nat.zero_add, Nat.add_zero, List.getElem?_cons_zero, List.getElem?_cons_succ, hrow]; try rfl; done) | rfl)))
            all_goals first | (exfalso; omega) | skip
            all_goals exact ⟨_, G, n1 - k, a1 - (k + u), kN, hE2, hg2, hl2, ⟨by omega, by omega⟩, rfl, upd_self, hpX⟩
          · have hE2 := s2 hfit
            have hz : 0 < (shF q[i] g n1 a1).1.1 := f1.elim (fun h => absurd h.1 hfit) (fun h => h.2)
            rw [hE2]
            clear s1 s2 f1 hE
            generalize shF q[i] g n1 a1 = z at *
            obtain ⟨⟨z1, z2, z3⟩, z4⟩ := z
            dsimp only at hz f0
            subst f0
            simp only [shR, accs, hgl] at cS
            generalize q[i] = a at *
            obtain ⟨pr, ac, k, u⟩ := a
            dsimp only [Ask.cells] at cS hrow
            repeat' (first | (with_reducible first | refine W_seq ?_ | refine then_n ?_ | refine W_block ?_ | refine blk_n ?_ | refine blk_r ?_ | refine blk_e ?_ | refine W_skip ?_ | refine W_ret ?_ | refine then_r ?_ | refine W_exit ?_ | refine then_e ?_) | (refine blk_j (by decide) ?_) | ((with_reducible refine s_reg ?_); intro K hK) | ((with_reducible refine k_nil ?_); (with_reducible apply s_nil hK); (· exact nmX); clear hK; clear K) | ((with_reducible refine k_cond ?_); (first | ((with_reducible apply s_condT); (· rfl); (· exact nmX)) | ((with_reducible apply s_condF); (· rfl); (· exact nmX)) | ((with_reducible apply s_condS); (· rfl); (· exact nmX); (· exact nmX)))) | ((with_reducible refine k_guard ?_); (first | (refine s_gt rfl ?_) | (refine s_gf1 rfl ?_) | (refine s_gfn rfl ?_) | (refine s_gx1 rfl ?_) | (refine s_gxn rfl ?_) | (refine s_gs rfl ?_))) | ((with_reducible refine k_mv ?_); (refine s_mv rfl ?_)) | ((with_reducible refine k_extract ?_); (refine s_extract rfl rfl ?_)) | ((with_reducible refine k_lss ?_); (refine s_lss rfl rfl ?_)) | ((with_reducible refine k_gtr ?_); (refine s_gtr rfl rfl ?_)) | ((with_reducible refine k_iaddr ?_); (first | ((with_reducible apply s_iaddrV); (· rfl); (· rfl); (· (first | omega | exact ⟨rfl, by omega⟩ | skip))) | ((with_reducible apply s_iaddrO); (· rfl); (· rfl); (· (first | omega | exact ⟨rfl, by omega⟩ | skip)); (· (exact hpX))) | ((with_reducible apply s_iaddrSO); (· rfl); (· assumption); (· rfl); (· (first | omega | exact ⟨rfl, by omega⟩ | skip)); (· (first | (simp (disch := omega) only [w64, wu8, wu16, wu32, wu64, tm_nn, td_nn, fd_nn, Int.reduceAdd, Int.reduceSub, Int.reduceMul, Int.reduceDiv, Int.reduceMod, Int.reduceNeg, Int.reduceToNat, Int.toNat_natCast, Int.toNat_zero, Int.zero_add, Int.add_zero, Int.one_mul, Int.reducePow, Nat.mul_one, Nat.zero_add, Nat.add_zero, Nat.zero_mul, Nat.reduceAdd, Nat.reduceMul, Nat.reduceSub, Nat.min_eq_left, IntKind.bits, Nat.sub_zero, hrow]; try rfl; done) | rfl)); intro ks hks))) | ((with_reducible refine k_load ?_); (first | ((with_reducible apply s_loadV); (· rfl)) | ((with_reducible apply s_loadP); (· rfl); (· (exact hpX))))) | ((with_reducible refine k_loadA ?_); (first | ((with_reducible apply s_loadAV); (· rfl); (· (first | exact Nat.le_of_ble_eq_true rfl | decide | omega | (simp; done) | (simp; omega) | skip))) | ((with_reducible apply s_loadAP); (· rfl); (· (exact hpX)); (· (first | exact Nat.le_of_ble_eq_true rfl | decide | omega | (simp; done) | (simp; omega) | skip))))) | ((with_reducible refine k_add ?_); ((with_reducible apply s_add); (· rfl); (· rfl))) | ((with_reducible refine k_sub ?_); ((with_reducible apply s_sub); (· rfl); (· rfl))) | ((with_reducible refine k_store ?_); ((with_reducible apply s_store0); (· rfl); (· rfl); (· rfl); (· (exact hpX)); (· (exact ⟨rfl, by first | exact Nat.le_of_ble_eq_true rfl | omega | (simp [hrow]; omega)⟩)); (· ((first | (simp (disch := omega) only [upd_self, upd_ne, upd_upd, rep, splice, List.take_succ_cons, List.take_zero, List.drop_succ_cons, List.drop_zero, List.cons_append, List.nil_append, List.append_nil, List.length_cons, List.length_nil, List.reduceReplicate, List.flatten_cons, List.flatten_nil, Nat.reduceAdd, Nat.reduceMul, Nat.reduceSub, Nat.zero_add, Nat.add_zero, List.getElem?_cons_zero, List.getElem?_cons_succ, hrow]; try rfl; done) | rfl))); (· (first | exact upd_upd | rfl)))) | ((with_reducible refine k_faddr ?_); (first | ((with_reducible apply s_faddrV); (· rfl); (· rfl)) | ((with_reducible apply s_faddrP); (· rfl); (· rfl)))) | ((with_reducible refine k_alloc (dst := some 14) ?_); ((with_reducible apply s_alloc); intro k14 hk14; (try simp only [upd_none] at hk14))) | ((with_reducible refine k_alloc (dst := some 15) ?_); ((with_reducible apply s_alloc); intro k15 hk15; (try simp only [upd_none] at hk15))) | ((with_reducible refine k_callF ?_); (first | ((with_reducible apply s_call1); (· rfl)) | ((with_reducible apply s_calln); (· rfl)))) | ((with_reducible refine k_con ?_); (first | ((with_reducible apply con_val (cS)); (· (repeat (first | exact All2.nil | (apply All2.cons; (· first | ((apply Rd_sl0); (· exact hpX); (· first | rfl | exact scal_i | exact scal_b | assumption); (· first | rfl | assumption | (simp [hrow]; done) | (simp [hrow]; omega))) | exact rdX))))); (· rfl); (· exact fun _ => rfl)))) | ((with_reducible refine k_dreg ?_); refine s_dreg rfl rfl ?_; intro K hK) | (with_reducible refine d_nilS ?_) | ((with_reducible refine k_dnil ?_); (with_reducible apply d_nil hK); (· exact nmX); clear hK; clear K) | ((with_reducible refine k_dguard ?_); (first | (refine d_gt rfl ?_) | (refine d_gf rfl ?_) | (refine d_gx rfl ?_) | (refine d_gs rfl ?_))) | ((with_reducible refine k_dop ?_); refine d_step (by first | exact Or.inl rfl | exact Or.inr rfl) ?_) | (with_reducible refine d_back ?_) | ((with_reducible refine k_br ?_); (first | (with_reducible first | refine Br_dec ?_ | refine Br_not ?_ | refine Br_eqF ?_ | refine Br_and ?_ | refine Br_or ?_ | refine Br_neg ?_ | refine Br_band ?_ | refine Br_bor ?_ | refine Br_beq ?_) | (refine Br_t (by first | with_reducible rfl | omega | assumption | rfl) ?_) | (refine Br_f (by first | omega | assumption | decide) ?_) | (with_reducible apply Br_sb <;> intro hbr <;> (first | subst hbr | simp only [hbr] | skip)) | (with_reducible apply Br_s <;> intro hbr))) | (with_reducible refine WN_succ ?_) | ((first | (with_reducible apply q_eqI) | (with_reducible apply q_eqN)); (first | (simp (disch := omega) only [w64, wu8, wu16, wu32, wu64, tm_nn, td_nn, fd_nn, Int.reduceAdd, Int.reduceSub, Int.reduceMul, Int.reduceDiv, Int.reduceMod, Int.reduceNeg, Int.reduceToNat, Int.toNat_natCast, Int.toNat_zero, Int.zero_add, Int.add_zero, Int.one_mul, Int.reducePow, Nat.mul_one, Nat.zero_add, Nat.add_zero, Nat.zero_mul, Nat.reduceAdd, Nat.reduceMul, Nat.reduceSub, Nat.min_eq_left, IntKind.bits, Nat.sub_zero, hrow]; try rfl; done) | rfl)) | ((first | (with_reducible apply q_eqL) | (with_reducible apply q_eqO)); (first | (simp (disch := omega) only [upd_self, upd_ne, upd_upd, rep, splice, List.take_succ_cons, List.take_zero, List.drop_succ_cons, List.drop_zero, List.cons_append, List.nil_append, List.append_nil, List.length_cons, List.length_nil, List.reduceReplicate, List.flatten_cons, List.flatten_nil, Nat.reduceAdd, Nat.reduceMul, Nat.reduceSub, Nat.zero_add, Nat.add_zero, List.getElem?_cons_zero, List.getElem?_cons_succ, hrow]; try rfl; done) | rfl)))
            all_goals first | (exfalso; omega) | exact Fin_srv rfl rfl rfl hpX rfl hgl.symm
        · rintro e' h' ⟨hh, g, n1, a1, kg, hE, hg, hgl, ⟨b1, b2⟩, he, j5, jg⟩
          cases he
          rw [srv_end hE]
          repeat' (first | (with_reducible first | refine W_seq ?_ | refine then_n ?_ | refine W_block ?_ | refine blk_n ?_ | refine blk_r ?_ | refine blk_e ?_ | refine W_skip ?_ | refine W_ret ?_ | refine then_r ?_ | refine W_exit ?_ | refine then_e ?_) | (refine blk_j (by decide) ?_) | ((with_reducible refine s_reg ?_); intro K hK) | ((with_reducible refine k_nil ?_); (with_reducible apply s_nil hK); (· exact nmX); clear hK; clear K) | ((with_reducible refine k_cond ?_); (first | ((with_reducible apply s_condT); (· rfl); (· exact nmX)) | ((with_reducible apply s_condF); (· rfl); (· exact nmX)) | ((with_reducible apply s_condS); (· rfl); (· exact nmX); (· exact nmX)))) | ((with_reducible refine k_guard ?_); (first | (refine s_gt rfl ?_) | (refine s_gf1 rfl ?_) | (refine s_gfn rfl ?_) | (refine s_gx1 rfl ?_) | (refine s_gxn rfl ?_) | (refine s_gs rfl ?_))) | ((with_reducible refine k_mv ?_); (refine s_mv rfl ?_)) | ((with_reducible refine k_len ?_); (first | (refine s_len rfl rfl ?_) | ((with_reducible apply s_len); (· rfl); (· exact SlOwn.len (by assumption))))) | ((with_reducible refine k_lss ?_); (refine s_lss rfl rfl ?_)) | ((with_reducible refine k_load ?_); (first | ((with_reducible apply s_loadV); (· rfl)) | ((with_reducible apply s_loadP); (· rfl); (· (exact hpX))))) | ((with_reducible refine k_dreg ?_); refine s_dreg rfl rfl ?_; intro K hK) | (with_reducible refine d_nilS ?_) | ((with_reducible refine k_dnil ?_); (with_reducible apply d_nil hK); (· exact nmX); clear hK; clear K) | ((with_reducible refine k_dguard ?_); (first | (refine d_gt rfl ?_) | (refine d_gf rfl ?_) | (refine d_gx rfl ?_) | (refine d_gs rfl ?_))) | ((with_reducible refine k_dop ?_); refine d_step (by first | exact Or.inl rfl | exact Or.inr rfl) ?_) | (with_reducible refine d_back ?_) | ((with_reducible refine k_br ?_); (first | (with_reducible first | refine Br_dec ?_ | refine Br_not ?_ | refine Br_eqF ?_ | refine Br_and ?_ | refine Br_or ?_ | refine Br_neg ?_ | refine Br_band ?_ | refine Br_bor ?_ | refine Br_beq ?_) | (refine Br_t (by first | with_reducible rfl | omega | assumption | rfl) ?_) | (refine Br_f (by first | omega | assumption | decide) ?_) | (with_reducible apply Br_sb <;> intro hbr <;> (first | subst hbr | simp only [hbr] | skip)) | (with_reducible apply Br_s <;> intro hbr))) | (with_reducible refine WN_succ ?_) | ((first | (with_reducible apply q_eqI) | (with_reducible apply q_eqN)); (first | exact nuI | exact nuN)) | ((first | (with_reducible apply q_eqL) | (with_reducible apply q_eqO)); (first | exact liL | exact liO)))
          all_goals first | (exfalso; omega) | exact Fin_srv rfl rfl rfl jg rfl hgl.symm
    · rw [if_neg h1]
      generalize chkF l = e at *
      unfold srvR
      repeat' (first | (with_reducible first | refine W_seq ?_ | refine then_n ?_ | refine W_block ?_ | refine blk_n ?_ | refine blk_r ?_ | refine blk_e ?_ | refine W_skip ?_ | refine W_ret ?_ | refine then_r ?_ | refine W_exit ?_ | refine then_e ?_) | (refine blk_j (by decide) ?_) | ((with_reducible refine s_reg ?_); intro K hK) | ((with_reducible refine k_nil ?_); (with_reducible apply s_nil hK); (· exact nmX); clear hK; clear K) | ((with_reducible refine k_cond ?_); (first | ((with_reducible apply s_condT); (· rfl); (· exact nmX)) | ((with_reducible apply s_condF); (· rfl); (· exact nmX)) | ((with_reducible apply s_condS); (· rfl); (· exact nmX); (· exact nmX)))) | ((with_reducible refine k_guard ?_); (first | (refine s_gt rfl ?_) | (refine s_gf1 rfl ?_) | (refine s_gfn rfl ?_) | (refine s_gx1 rfl ?_) | (refine s_gxn rfl ?_) | (refine s_gs rfl ?_))) | ((with_reducible refine k_mv ?_); (refine s_mv rfl ?_)) | ((with_reducible refine k_neq ?_); (first | (refine s_neq rfl rfl ?_) | (refine s_strNe rfl rfl ?_))) | ((with_reducible refine k_load ?_); (first | ((with_reducible apply s_loadV); (· rfl)) | ((with_reducible apply s_loadP); (· rfl); (· (exact hpX))))) | ((with_reducible refine k_box (dst := some 5) ?_); ((with_reducible apply s_box); (· rfl); (· rfl); intro k5 hk5; (try simp only [upd_none] at hk5))) | ((with_reducible refine k_mkfn ?_); ((with_reducible apply s_mkfn); (· rfl); (· rfl))) | ((with_reducible refine k_callF ?_); (first | ((with_reducible apply s_call1); (· rfl)) | ((with_reducible apply s_calln); (· rfl)))) | ((with_reducible refine k_con ?_); (first | ((with_reducible apply con_val (c0)); (· (exact agX)); (· rfl); (· exact fun _ => rfl)) | ((with_reducible apply con_val (c1)); (· (exact agX)); (· rfl); (· exact fun _ => rfl)))) | ((with_reducible refine k_dreg ?_); refine s_dreg rfl rfl ?_; intro K hK) | (with_reducible refine d_nilS ?_) | ((with_reducible refine k_dnil ?_); (with_reducible apply d_nil hK); (· exact nmX); clear hK; clear K) | ((with_reducible refine k_dguard ?_); (first | (refine d_gt rfl ?_) | (refine d_gf rfl ?_) | (refine d_gx rfl ?_) | (refine d_gs rfl ?_))) | ((with_reducible refine k_dop ?_); refine d_step (by first | exact Or.inl rfl | exact Or.inr rfl) ?_) | (with_reducible refine d_back ?_) | ((with_reducible refine k_br ?_); (first | (with_reducible first | refine Br_dec ?_ | refine Br_not ?_ | refine Br_eqF ?_ | refine Br_and ?_ | refine Br_or ?_ | refine Br_neg ?_ | refine Br_band ?_ | refine Br_bor ?_ | refine Br_beq ?_) | (refine Br_t (by first | with_reducible rfl | omega | assumption | rfl) ?_) | (refine Br_f (by first | omega | assumption | decide) ?_) | (with_reducible apply Br_sb <;> intro hbr <;> (first | subst hbr | simp only [hbr] | skip)) | (with_reducible apply Br_s <;> intro hbr))) | (with_reducible refine WN_succ ?_) | ((first | (with_reducible apply q_eqI) | (with_reducible apply q_eqN)); (first | exact nuI | exact nuN)) | ((first | (with_reducible apply q_eqL) | (with_reducible apply q_eqO)); (first | exact liL | exact liO)))
      all_goals first | (exfalso; omega) | (first | exact Fin_flat trivial rfl rfl | (refine Fin_tup trivial rfl ?_ (Nat.le_of_ble_eq_true rfl); (repeat (first | exact All2.nil | (apply All2.cons; (· first | exact exc_n | exact exc_e | exact exc_v rfl rfl | exact exc_o upd_self rfl rfl)))); done) | (refine Fin_own trivial rfl upd_self ?_ (Nat.le_of_ble_eq_true rfl); (repeat (first | exact All2.nil | (apply All2.cons; (· first | exact exc_n | exact exc_e | exact exc_v rfl rfl | exact exc_o upd_self rfl rfl)))); done) | exact Fin_nil trivial rfl | exact Fin_sl trivial rfl upd_self rfl rfl)
  · rw [if_neg h0]
    generalize qchk q = e at *
    unfold srvR
    repeat' (first | (with_reducible first | refine W_seq ?_ | refine then_n ?_ | refine W_block ?_ | refine blk_n ?_ | refine blk_r ?_ | refine blk_e ?_ | refine W_skip ?_ | refine W_ret ?_ | refine then_r ?_ | refine W_exit ?_ | refine then_e ?_) | (refine blk_j (by decide) ?_) | ((with_reducible refine s_reg ?_); intro K hK) | ((with_reducible refine k_nil ?_); (with_reducible apply s_nil hK); (· exact nmX); clear hK; clear K) | ((with_reducible refine k_cond ?_); (first | ((with_reducible apply s_condT); (· rfl); (· exact nmX)) | ((with_reducible apply s_condF); (· rfl); (· exact nmX)) | ((with_reducible apply s_condS); (· rfl); (· exact nmX); (· exact nmX)))) | ((with_reducible refine k_guard ?_); (first | (refine s_gt rfl ?_) | (refine s_gf1 rfl ?_) | (refine s_gfn rfl ?_) | (refine s_gx1 rfl ?_) | (refine s_gxn rfl ?_) | (refine s_gs rfl ?_))) | ((with_reducible refine k_mv ?_); (refine s_mv rfl ?_)) | ((with_reducible refine k_neq ?_); (first | (refine s_neq rfl rfl ?_) | (refine s_strNe rfl rfl ?_))) | ((with_reducible refine k_load ?_); (first | ((with_reducible apply s_loadV); (· rfl)) | ((with_reducible apply s_loadP); (· rfl); (· (exact hpX))))) | ((with_reducible refine k_box (dst := some 5) ?_); ((with_reducible apply s_box); (· rfl); (· rfl); intro k5 hk5; (try simp only [upd_none] at hk5))) | ((with_reducible refine k_mkfn ?_); ((with_reducible apply s_mkfn); (· rfl); (· rfl))) | ((with_reducible refine k_callF ?_); (first | ((with_reducible apply s_call1); (· rfl)) | ((with_reducible apply s_calln); (· rfl)))) | ((with_reducible refine k_con ?_); (first | ((with_reducible apply con_val (c0)); (· (exact agX)); (· rfl); (· exact fun _ => rfl)))) | ((with_reducible refine k_dreg ?_); refine s_dreg rfl rfl ?_; intro K hK) | (with_reducible refine d_nilS ?_) | ((with_reducible refine k_dnil ?_); (with_reducible apply d_nil hK); (· exact nmX); clear hK; clear K) | ((with_reducible refine k_dguard ?_); (first | (refine d_gt rfl ?_) | (refine d_gf rfl ?_) | (refine d_gx rfl ?_) | (refine d_gs rfl ?_))) | ((with_reducible refine k_dop ?_); refine d_step (by first | exact Or.inl rfl | exact Or.inr rfl) ?_) | (with_reducible refine d_back ?_) | ((with_reducible refine k_br ?_); (first | (with_reducible first | refine Br_dec ?_ | refine Br_not ?_ | refine Br_eqF ?_ | refine Br_and ?_ | refine Br_or ?_ | refine Br_neg ?_ | refine Br_band ?_ | refine Br_bor ?_ | refine Br_beq ?_) | (refine Br_t (by first | with_reducible rfl | omega | assumption | rfl) ?_) | (refine Br_f (by first | omega | assumption | decide) ?_) | (with_reducible apply Br_sb <;> intro hbr <;> (first | subst hbr | simp only [hbr] | skip)) | (with_reducible apply Br_s <;> intro hbr))) | (with_reducible refine WN_succ ?_) | ((first | (with_reducible apply q_eqI) | (with_reducible apply q_eqN)); (first | exact nuI | exact nuN)) | ((first | (with_reducible apply q_eqL) | (with_reducible apply q_eqO)); (first | exact liL | exact liO)))
    all_goals first | (exfalso; omega) | (first | exact Fin_flat trivial rfl rfl | (refine Fin_tup trivial rfl ?_ (Nat.le_of_ble_eq_true rfl); (repeat (first | exact All2.nil | (apply All2.cons; (· first | exact exc_n | exact exc_e | exact exc_v rfl rfl | exact exc_o upd_self rfl rfl)))); done) | (refine Fin_own trivial rfl upd_self ?_ (Nat.le_of_ble_eq_true rfl); (repeat (first | exact All2.nil | (apply All2.cons; (· first | exact exc_n | exact exc_e | exact exc_v rfl rfl | exact exc_o upd_self rfl rfl)))); done) | exact Fin_nil trivial rfl | exact Fin_sl trivial rfl upd_self rfl rfl)
end Go.Proofs.Ytbepjnjfnmmpaaa
end
section
/- Asks: the reference serves a queue. -/
set_option linter.unusedSimpArgs false
set_option linter.unusedVariables false
namespace Go.Proofs.Ytbepjnjfnmmpaaa
open Go.AM Classical
set_option maxRecDepth 100000
set_option maxHeartbeats 4000000
end Go.Proofs.Ytbepjnjfnmmpaaa
end
section
/- Asks: the example; the laws GrantShorts and GrantServes. -/
set_option linter.unusedSimpArgs false
set_option linter.unusedVariables false
namespace Go.Proofs.Ytbepjnjfnmmpaaa
open Go.AM Classical
set_option maxRecDepth 100000
set_option maxHeartbeats 4000000
abbrev L2 : List Acct := [⟨-1, 4, 0, 0, 10⟩, ⟨0, 3, 0, 0, 5⟩]
abbrev M2 : List Acct := [⟨-1, 6, 0, 0, 10⟩, ⟨0, 5, 0, 0, 5⟩]
abbrev Q1 : List Ask := [⟨2, 1, 1, 1⟩]
abbrev Q2 : List Ask := [⟨2, 1, 1, 1⟩, ⟨3, 1, 1, 1⟩]
theorem two_at {a b : Acct} {i : Nat} (h : i < [a, b].length) : i = 0 ∨ i = 1 := by
  simp at h; omega
theorem chk_L2 : chkF L2 = 0 := by
  refine chk_mk (by decide) ?_ ⟨?_, fun _ => ⟨rfl, rfl⟩⟩ ?_ ?_
  · intro i _ h; rcases two_at h with rfl | rfl <;> simp [okP]
  · intro i _ h; rcases two_at h with rfl | rfl <;> simp [okA, inR]
  · intro a h
    simp at h
    rcases h with rfl | rfl <;> decide
  · intro i h; rcases two_at h with rfl | rfl <;> decide
theorem chk_M2 : chkF M2 = 0 := by
  refine chk_mk (by decide) ?_ ⟨?_, fun _ => ⟨rfl, rfl⟩⟩ ?_ ?_
  · intro i _ h; rcases two_at h with rfl | rfl <;> simp [okP]
  · intro i _ h; rcases two_at h with rfl | rfl <;> simp [okA, inR]
  · intro a h
    simp at h
    rcases h with rfl | rfl <;> decide
  · intro i h; rcases two_at h with rfl | rfl <;> decide
theorem path_L2 : pathF L2 1 = [1, 0] := by rw [pathF, if_pos ⟨chk_L2, by decide, by decide⟩]; decide
theorem path_M2 : pathF M2 1 = [1, 0] := by rw [pathF, if_pos ⟨chk_M2, by decide, by decide⟩]; decide
theorem va_mk {a : Ask} (h : (0 ≤ a.proc ∧ a.proc < 8) ∧ 0 ≤ a.account ∧ (0 ≤ a.kernel ∧ a.kernel ≤ 1048576) ∧ (0 ≤ a.user ∧ a.user ≤ 1048576)) : vaP a := h
theorem sh_L2 {a : Ask} {no al : Int} {r : Sht} (hv : vaP a) (ha : a.account = 1) (h : Option.elim (stopL L2 (totA a) [1, 0]) (endF a no al) (fun x => ((totA a - roomA L2 x, x, false), 0)) = r) : shF a L2 no al = r := by
  unfold shF
  rw [if_pos hv, if_pos chk_L2, ha, if_pos (by decide), path_L2, h]
theorem qchk_Q1 : qchk Q1 = 0 := qchk_ok.2 ⟨fun a h => by simp at h; subst h; exact va_mk (by decide), fun i h => by
  have : i = 0 := by simp at h; omega
  subst this; exact (by decide : ofF Q1 (Q1[0]'(by decide)).proc = ((0 : Nat) : Int))⟩
theorem qchk_Q2 : qchk Q2 = 0 := qchk_ok.2 ⟨fun a h => by simp at h; rcases h with rfl | rfl <;> exact va_mk (by decide), fun i h => by
  have : i = 0 ∨ i = 1 := by simp at h; omega
  rcases this with rfl | rfl
  · exact (by decide : ofF Q2 (Q2[0]'(by decide)).proc = ((0 : Nat) : Int))
  · exact (by decide : ofF Q2 (Q2[1]'(by decide)).proc = ((1 : Nat) : Int))⟩
theorem srv_L2 : srvL Q2 L2 9 9 = (1, M2) := by
  have f1 : fitP ⟨2, 1, 1, 1⟩ L2 9 9 := ⟨fun x hx => by rw [path_L2] at hx; simp at hx; rcases hx with rfl | rfl <;> decide, by decide, by decide⟩
  have e1 : addF L2 1 2 = M2 := by unfold addF; rw [path_L2]; rfl
  have f2 : ¬ fitP ⟨3, 1, 1, 1⟩ M2 8 7 := fun h => by
    have := h.1 1 (by rw [path_M2]; decide)
    exact absurd this (by decide)
  rw [srvL_cons, if_pos f1, srvL_cons]
  have e2 : addF L2 (⟨2, 1, 1, 1⟩ : Ask).account (totA ⟨2, 1, 1, 1⟩) = M2 := e1
  have e3 : (9 : Int) - (⟨2, 1, 1, 1⟩ : Ask).kernel = 8 := by decide
  have e4 : (9 : Int) - totA ⟨2, 1, 1, 1⟩ = 7 := by decide
  rw [e2, e3, e4, if_neg f2]
theorem awake_c : PCon Try.prog 11 [] (.bool true) := by
  have n1 : PCon Try.prog 12 [.agg [.int .i64 2, .int .i64 1, .int .i64 1, .int .i64 2], .vs 5 (L2.flatMap Acct.cells) 2, .int .i64 9, .int .i64 9] (.tup [.agg [.int .i64 1, .int .i64 1, .bool false], .int .i64 0]) := by
    have := short_c ⟨2, 1, 1, 2⟩ L2 (by decide) 9 9
    rwa [sh_L2 (r := ((1, 1, false), 0)) (va_mk (by decide)) rfl (by decide)] at this
  have n2 : PCon Try.prog 12 [.agg [.int .i64 2, .int .i64 1, .int .i64 1, .int .i64 1], .vs 5 (L2.flatMap Acct.cells) 2, .int .i64 0, .int .i64 9] (.tup [.agg [.int .i64 1, .int .i64 (-1), .bool true], .int .i64 0]) := by
    have := short_c ⟨2, 1, 1, 1⟩ L2 (by decide) 0 9
    rwa [sh_L2 (r := ((1, -1, true), 0)) (va_mk (by decide)) rfl (by decide)] at this
  have n3 : PCon Try.prog 12 [.agg [.int .i64 2, .int .i64 1, .int .i64 1, .int .i64 1], .vs 5 (L2.flatMap Acct.cells) 2, .int .i64 1, .int .i64 1] (.tup [.agg [.int .i64 1, .int .i64 (-1), .bool false], .int .i64 0]) := by
    have := short_c ⟨2, 1, 1, 1⟩ L2 (by decide) 1 1
    rwa [sh_L2 (r := ((1, -1, false), 0)) (va_mk (by decide)) rfl (by decide)] at this
  have n4 : PCon Try.prog 12 [.agg [.int .i64 2, .int .i64 1, .int .i64 1, .int .i64 1], .vs 5 (L2.flatMap Acct.cells) 2, .int .i64 1, .int .i64 2] (.tup [.agg [.int .i64 0, .int .i64 (-1), .bool false], .int .i64 0]) := by
    have := short_c ⟨2, 1, 1, 1⟩ L2 (by decide) 1 2
    rwa [sh_L2 (r := ((0, -1, false), 0)) (va_mk (by decide)) rfl (by decide)] at this
  have p1 : PCon Try.prog 26 [.vs 4 (Q1.flatMap Ask.cells) 1, .agg [.int .i64 3, .int .i64 1, .int .i64 1, .int .i64 1]] (.tup [.ow 4 [.int .i64 2, .int .i64 1, .int .i64 1, .int .i64 1, .int .i64 3, .int .i64 1, .int .i64 1, .int .i64 1] 2, .int .i64 0]) := by
    have := push_c Q1 (by decide) ⟨3, 1, 1, 1⟩
    rwa [pushF, if_pos qchk_Q1, if_pos (va_mk (by decide)), if_neg (by decide)] at this
  have s1 : PCon Try.prog 17 [.vs 4 (Q2.flatMap Ask.cells) 2, .vs 5 (L2.flatMap Acct.cells) 2, .int .i64 9, .int .i64 9] (.tup [.int .i64 1, .ow 5 [.int .i64 (-1), .int .i64 6, .int .i64 0, .int .i64 0, .int .i64 10, .int .i64 0, .int .i64 5, .int .i64 0, .int .i64 0, .int .i64 5] 2, .int .i64 0]) := by
    have := serve_c Q2 (by decide) L2 (by decide) 9 9 (by decide) (by decide)
    rwa [srvF, if_pos qchk_Q2, if_pos chk_L2, if_neg (by simp), srv_L2] at this
  have h1 : PCon Try.prog 14 [.agg [.int .i64 0, .int .i64 1, .int .i64 3, .int .i64 3], .vs 5 (L2.flatMap Acct.cells) 2, .int .i64 9, .int .i64 9] (.bool true) := by
    have := hope_c ⟨0, 1, 3, 3⟩ L2 (by decide) 9 9
    rwa [decide_eq_true (.inr (.inr (.inr (.inl ⟨1, by rw [path_L2]; decide, by decide⟩))))] at this
  have h2 : PCon Try.prog 14 [.agg [.int .i64 0, .int .i64 1, .int .i64 3, .int .i64 2], .vs 5 (L2.flatMap Acct.cells) 2, .int .i64 9, .int .i64 9] (.bool false) := by
    have := hope_c ⟨0, 1, 3, 2⟩ L2 (by decide) 9 9
    rwa [decide_eq_false] at this
    rintro (h | h | h | ⟨x, hx, h⟩ | h | h)
    · exact h (va_mk (by decide))
    · exact h chk_L2
    · exact h (by decide)
    · rw [path_L2] at hx
      simp at hx
      rcases hx with rfl | rfl <;> exact absurd h (by decide)
    · exact absurd h (by decide)
    · exact absurd h (by decide)
  refine A11p (by simp [A11]) ?_
  simp only [A11, argEnv]
  repeat' (first | (with_reducible first | refine W_seq ?_ | refine then_n ?_ | refine W_skip ?_ | refine W_ret ?_ | refine then_r ?_) | ((with_reducible refine s_reg ?_); intro K hK) | ((with_reducible refine k_nil ?_); (with_reducible apply s_nil hK); (· exact nmX); clear hK; clear K) | ((with_reducible refine k_guard ?_); (first | (refine s_gt rfl ?_) | (refine s_gf1 rfl ?_) | (refine s_gfn rfl ?_) | (refine s_gx1 rfl ?_) | (refine s_gxn rfl ?_) | (refine s_gs rfl ?_))) | ((with_reducible refine k_mv ?_); (refine s_mv rfl ?_)) | ((with_reducible refine k_extract ?_); (refine s_extract rfl rfl ?_)) | ((with_reducible refine k_store ?_); ((with_reducible apply s_store0); (· rfl); (· rfl); (· rfl); (· (exact hpX)); (· (exact ⟨rfl, by first | exact Nat.le_of_ble_eq_true rfl | omega | (simp; omega)⟩)); (· ((first | exact liL | exact liO))); (· (first | exact upd_upd | rfl)))) | ((with_reducible refine k_alloc (dst := some 2) ?_); ((with_reducible apply s_alloc); intro k2 hk2; (try simp only [upd_none] at hk2))) | ((with_reducible refine k_alloc (dst := some 4) ?_); ((with_reducible apply s_alloc); intro k4 hk4; (try simp only [upd_none] at hk4))) | ((with_reducible refine k_alloc (dst := some 6) ?_); ((with_reducible apply s_alloc); intro k6 hk6; (try simp only [upd_none] at hk6))) | ((with_reducible refine k_alloc (dst := some 8) ?_); ((with_reducible apply s_alloc); intro k8 hk8; (try simp only [upd_none] at hk8))) | ((with_reducible refine k_build ?_); ((with_reducible apply s_build); (· rfl); (· rfl))) | ((with_reducible refine k_buildS (dst := some 17) ?_); ((with_reducible apply s_buildS); (· rfl); (· (exact ⟨rfl, by decide⟩)); (· (first | (simp only [fillB, rep, splice, List.reduceReplicate, List.flatten_cons, List.flatten_nil, List.cons_append, List.nil_append, List.append_nil, List.length_cons, List.length_nil, Nat.reduceAdd, Nat.reduceMul, Nat.reduceLeDiff, Nat.reduceEqDiff, eq_self, Nat.le_refl, Nat.zero_add, and_self, and_true, true_and, if_true, List.take_zero, List.take_succ_cons, List.drop_zero, List.drop_succ_cons, List.drop_nil, List.take_nil]; rfl) | rfl)); intro k17 hk17; (try simp only [upd_none] at hk17))) | ((with_reducible refine k_buildS (dst := some 44) ?_); ((with_reducible apply s_buildS); (· rfl); (· (exact ⟨rfl, by decide⟩)); (· (first | (simp only [fillB, rep, splice, List.reduceReplicate, List.flatten_cons, List.flatten_nil, List.cons_append, List.nil_append, List.append_nil, List.length_cons, List.length_nil, Nat.reduceAdd, Nat.reduceMul, Nat.reduceLeDiff, Nat.reduceEqDiff, eq_self, Nat.le_refl, Nat.zero_add, and_self, and_true, true_and, if_true, List.take_zero, List.take_succ_cons, List.drop_zero, List.drop_succ_cons, List.drop_nil, List.take_nil]; rfl) | rfl)); intro k44 hk44; (try simp only [upd_none] at hk44))) | ((with_reducible refine k_callF ?_); (first | ((with_reducible apply s_call1); (· rfl)) | ((with_reducible apply s_calln); (· rfl)))) | ((with_reducible refine k_con ?_); (first | ((with_reducible apply con_val (n1)); (· (repeat (first | exact All2.nil | (apply All2.cons; (· first | exact Rd_int | exact Rd_bool | exact Rd_vs | exact Rd_nil | exact Rd_emp | exact Rd_vp | exact Rd_sl0 upd_self rfl rfl | exact Rd_fn0 | exact Rd_flat rfl | ((apply Rd_sl0); (· (exact hpX)); (· first | rfl | exact scal_i | exact scal_b | assumption); (· first | rfl | assumption | (simp; done) | (simp; omega))) | ((apply Rd_so); (· first | assumption | ((repeat' (first | assumption | (with_reducible apply SlOwn.upd) | (simp only [upd_none]; assumption))); done)); (· first | rfl | exact scal_i | exact scal_b | assumption))))))); (· rfl); (· exact fun _ => rfl)) | ((with_reducible apply con_val (n2)); (· (repeat (first | exact All2.nil | (apply All2.cons; (· first | exact Rd_int | exact Rd_bool | exact Rd_vs | exact Rd_nil | exact Rd_emp | exact Rd_vp | exact Rd_sl0 upd_self rfl rfl | exact Rd_fn0 | exact Rd_flat rfl | ((apply Rd_sl0); (· (exact hpX)); (· first | rfl | exact scal_i | exact scal_b | assumption); (· first | rfl | assumption | (simp; done) | (simp; omega))) | ((apply Rd_so); (· first | assumption | ((repeat' (first | assumption | (with_reducible apply SlOwn.upd) | (simp only [upd_none]; assumption))); done)); (· first | rfl | exact scal_i | exact scal_b | assumption))))))); (· rfl); (· exact fun _ => rfl)) | ((with_reducible apply con_val (n3)); (· (repeat (first | exact All2.nil | (apply All2.cons; (· first | exact Rd_int | exact Rd_bool | exact Rd_vs | exact Rd_nil | exact Rd_emp | exact Rd_vp | exact Rd_sl0 upd_self rfl rfl | exact Rd_fn0 | exact Rd_flat rfl | ((apply Rd_sl0); (· (exact hpX)); (· first | rfl | exact scal_i | exact scal_b | assumption); (· first | rfl | assumption | (simp; done) | (simp; omega))) | ((apply Rd_so); (· first | assumption | ((repeat' (first | assumption | (with_reducible apply SlOwn.upd) | (simp only [upd_none]; assumption))); done)); (· first | rfl | exact scal_i | exact scal_b | assumption))))))); (· rfl); (· exact fun _ => rfl)) | ((with_reducible apply con_val (n4)); (· (repeat (first | exact All2.nil | (apply All2.cons; (· first | exact Rd_int | exact Rd_bool | exact Rd_vs | exact Rd_nil | exact Rd_emp | exact Rd_vp | exact Rd_sl0 upd_self rfl rfl | exact Rd_fn0 | exact Rd_flat rfl | ((apply Rd_sl0); (· (exact hpX)); (· first | rfl | exact scal_i | exact scal_b | assumption); (· first | rfl | assumption | (simp; done) | (simp; omega))) | ((apply Rd_so); (· first | assumption | ((repeat' (first | assumption | (with_reducible apply SlOwn.upd) | (simp only [upd_none]; assumption))); done)); (· first | rfl | exact scal_i | exact scal_b | assumption))))))); (· rfl); (· exact fun _ => rfl)) | ((with_reducible apply con_of_pcon (p1)); (· (repeat (first | exact All2.nil | (apply All2.cons; (· first | exact Rd_int | exact Rd_bool | exact Rd_vs | exact Rd_nil | exact Rd_emp | exact Rd_vp | exact Rd_sl0 upd_self rfl rfl | exact Rd_fn0 | exact Rd_flat rfl | ((apply Rd_sl0); (· (exact hpX)); (· first | rfl | exact scal_i | exact scal_b | assumption); (· first | rfl | assumption | (simp; done) | (simp; omega))) | ((apply Rd_so); (· first | assumption | ((repeat' (first | assumption | (with_reducible apply SlOwn.upd) | (simp only [upd_none]; assumption))); done)); (· first | rfl | exact scal_i | exact scal_b | assumption))))))); intro kP hkP; (try simp only [upd_none] at hkP); simp only [thaw, thawC, List.map, thawH, owOf, owL]) | ((with_reducible apply con_of_pcon (s1)); (· (repeat (first | exact All2.nil | (apply All2.cons; (· first | exact Rd_int | exact Rd_bool | exact Rd_vs | exact Rd_nil | exact Rd_emp | exact Rd_vp | exact Rd_sl0 upd_self rfl rfl | exact Rd_fn0 | exact Rd_flat rfl | ((apply Rd_sl0); (· (exact hpX)); (· first | rfl | exact scal_i | exact scal_b | assumption); (· first | rfl | assumption | (simp; done) | (simp; omega))) | ((apply Rd_so); (· first | assumption | ((repeat' (first | assumption | (with_reducible apply SlOwn.upd) | (simp only [upd_none]; assumption))); done)); (· first | rfl | exact scal_i | exact scal_b | assumption))))))); intro kS hkS; (try simp only [upd_none] at hkS); simp only [thaw, thawC, List.map, thawH, owOf, owL]) | ((with_reducible apply con_val (h1)); (· (repeat (first | exact All2.nil | (apply All2.cons; (· first | exact Rd_int | exact Rd_bool | exact Rd_vs | exact Rd_nil | exact Rd_emp | exact Rd_vp | exact Rd_sl0 upd_self rfl rfl | exact Rd_fn0 | exact Rd_flat rfl | ((apply Rd_sl0); (· (exact hpX)); (· first | rfl | exact scal_i | exact scal_b | assumption); (· first | rfl | assumption | (simp; done) | (simp; omega))) | ((apply Rd_so); (· first | assumption | ((repeat' (first | assumption | (with_reducible apply SlOwn.upd) | (simp only [upd_none]; assumption))); done)); (· first | rfl | exact scal_i | exact scal_b | assumption))))))); (· rfl); (· exact fun _ => rfl)) | ((with_reducible apply con_val (h2)); (· (repeat (first | exact All2.nil | (apply All2.cons; (· first | exact Rd_int | exact Rd_bool | exact Rd_vs | exact Rd_nil | exact Rd_emp | exact Rd_vp | exact Rd_sl0 upd_self rfl rfl | exact Rd_fn0 | exact Rd_flat rfl | ((apply Rd_sl0); (· (exact hpX)); (· first | rfl | exact scal_i | exact scal_b | assumption); (· first | rfl | assumption | (simp; done) | (simp; omega))) | ((apply Rd_so); (· first | assumption | ((repeat' (first | assumption | (with_reducible apply SlOwn.upd) | (simp only [upd_none]; assumption))); done)); (· first | rfl | exact scal_i | exact scal_b | assumption))))))); (· rfl); (· exact fun _ => rfl)))) | ((with_reducible refine k_br ?_); (first | (with_reducible first | refine Br_dec ?_ | refine Br_not ?_ | refine Br_eqF ?_ | refine Br_and ?_ | refine Br_or ?_ | refine Br_neg ?_ | refine Br_band ?_ | refine Br_bor ?_ | refine Br_beq ?_) | (refine Br_t (by first | with_reducible rfl | omega | assumption | rfl) ?_) | (refine Br_f (by first | omega | assumption | decide) ?_) | (with_reducible apply Br_sb <;> intro hbr <;> (first | subst hbr | simp only [hbr] | skip)) | (with_reducible apply Br_s <;> intro hbr))) | (with_reducible refine WN_succ ?_) | ((first | (with_reducible apply q_eqI) | (with_reducible apply q_eqN)); (first | exact nuI | exact nuN)) | ((first | (with_reducible apply q_eqL) | (with_reducible apply q_eqO)); (first | exact liL | exact liO)))
  repeat' (first | (with_reducible first | refine W_seq ?_ | refine then_n ?_ | refine W_skip ?_ | refine W_ret ?_ | refine then_r ?_) | ((with_reducible refine s_reg ?_); intro K hK) | ((with_reducible refine k_nil ?_); (with_reducible apply s_nil hK); (· exact nmX); clear hK; clear K) | ((with_reducible refine k_guard ?_); (first | (refine s_gt rfl ?_) | (refine s_gf1 rfl ?_) | (refine s_gfn rfl ?_) | (refine s_gx1 rfl ?_) | (refine s_gxn rfl ?_) | (refine s_gs rfl ?_))) | ((with_reducible refine k_mv ?_); (refine s_mv rfl ?_)) | ((with_reducible refine k_len ?_); (first | (refine s_len rfl rfl ?_) | ((with_reducible apply s_len); (· rfl); (· exact SlOwn.len (by assumption))))) | ((with_reducible refine k_pick ?_); (first | (refine s_pickT rfl rfl ?_) | (refine s_pickF rfl rfl ?_))) | ((with_reducible refine k_not ?_); (refine s_not rfl (by first | exact Bool.not_true | exact Bool.not_false | rfl) ?_)) | ((with_reducible refine k_eql ?_); (first | (refine s_eql rfl rfl ?_) | (refine s_strEq rfl rfl ?_))) | ((with_reducible refine k_iaddr ?_); (first | ((with_reducible apply s_iaddrV); (· rfl); (· rfl); (· (first | omega | exact ⟨rfl, by omega⟩ | skip))) | ((with_reducible apply s_iaddrO); (· rfl); (· rfl); (· (first | omega | exact ⟨rfl, by omega⟩ | skip)); (· (exact hpX))) | ((with_reducible apply s_iaddrSO); (· rfl); (· assumption); (· rfl); (· (first | omega | exact ⟨rfl, by omega⟩ | skip)); (· (first | exact nuI | exact nuN)); intro ks hks))) | ((with_reducible refine k_load ?_); (first | ((with_reducible apply s_loadV); (· rfl)) | ((with_reducible apply s_loadP); (· rfl); (· (exact hpX))))) | ((with_reducible refine k_loadA ?_); (first | ((with_reducible apply s_loadAV); (· rfl); (· (first | exact Nat.le_of_ble_eq_true rfl | decide | omega | (simp; done) | (simp; omega) | skip))) | ((with_reducible apply s_loadAP); (· rfl); (· (exact hpX)); (· (first | exact Nat.le_of_ble_eq_true rfl | decide | omega | (simp; done) | (simp; omega) | skip))))) | ((with_reducible refine k_faddr ?_); (first | ((with_reducible apply s_faddrV); (· rfl); (· rfl)) | ((with_reducible apply s_faddrP); (· rfl); (· rfl)))) | ((with_reducible refine k_eqA ?_); ((with_reducible apply s_eqA); (· rfl); (· rfl); (· (repeat (first | exact eqL_n | apply eqL_i | apply eqL_b))); (· rfl))) | ((with_reducible refine k_build ?_); ((with_reducible apply s_build); (· rfl); (· rfl))) | ((with_reducible refine k_callF ?_); (first | ((with_reducible apply s_call1); (· rfl)) | ((with_reducible apply s_calln); (· rfl)))) | ((with_reducible refine k_con ?_); (first | ((with_reducible apply con_val (n1)); (· (repeat (first | exact All2.nil | (apply All2.cons; (· first | exact Rd_int | exact Rd_bool | exact Rd_vs | exact Rd_nil | exact Rd_emp | exact Rd_vp | exact Rd_sl0 upd_self rfl rfl | exact Rd_fn0 | exact Rd_flat rfl | ((apply Rd_sl0); (· (exact hpX)); (· first | rfl | exact scal_i | exact scal_b | assumption); (· first | rfl | assumption | (simp; done) | (simp; omega))) | ((apply Rd_so); (· first | assumption | ((repeat' (first | assumption | (with_reducible apply SlOwn.upd) | (simp only [upd_none]; assumption))); done)); (· first | rfl | exact scal_i | exact scal_b | assumption))))))); (· rfl); (· exact fun _ => rfl)) | ((with_reducible apply con_val (n2)); (· (repeat (first | exact All2.nil | (apply All2.cons; (· first | exact Rd_int | exact Rd_bool | exact Rd_vs | exact Rd_nil | exact Rd_emp | exact Rd_vp | exact Rd_sl0 upd_self rfl rfl | exact Rd_fn0 | exact Rd_flat rfl | ((apply Rd_sl0); (· (exact hpX)); (· first | rfl | exact scal_i | exact scal_b | assumption); (· first | rfl | assumption | (simp; done) | (simp; omega))) | ((apply Rd_so); (· first | assumption | ((repeat' (first | assumption | (with_reducible apply SlOwn.upd) | (simp only [upd_none]; assumption))); done)); (· first | rfl | exact scal_i | exact scal_b | assumption))))))); (· rfl); (· exact fun _ => rfl)) | ((with_reducible apply con_val (n3)); (· (repeat (first | exact All2.nil | (apply All2.cons; (· first | exact Rd_int | exact Rd_bool | exact Rd_vs | exact Rd_nil | exact Rd_emp | exact Rd_vp | exact Rd_sl0 upd_self rfl rfl | exact Rd_fn0 | exact Rd_flat rfl | ((apply Rd_sl0); (· (exact hpX)); (· first | rfl | exact scal_i | exact scal_b | assumption); (· first | rfl | assumption | (simp; done) | (simp; omega))) | ((apply Rd_so); (· first | assumption | ((repeat' (first | assumption | (with_reducible apply SlOwn.upd) | (simp only [upd_none]; assumption))); done)); (· first | rfl | exact scal_i | exact scal_b | assumption))))))); (· rfl); (· exact fun _ => rfl)) | ((with_reducible apply con_val (n4)); (· (repeat (first | exact All2.nil | (apply All2.cons; (· first | exact Rd_int | exact Rd_bool | exact Rd_vs | exact Rd_nil | exact Rd_emp | exact Rd_vp | exact Rd_sl0 upd_self rfl rfl | exact Rd_fn0 | exact Rd_flat rfl | ((apply Rd_sl0); (· (exact hpX)); (· first | rfl | exact scal_i | exact scal_b | assumption); (· first | rfl | assumption | (simp; done) | (simp; omega))) | ((apply Rd_so); (· first | assumption | ((repeat' (first | assumption | (with_reducible apply SlOwn.upd) | (simp only [upd_none]; assumption))); done)); (· first | rfl | exact scal_i | exact scal_b | assumption))))))); (· rfl); (· exact fun _ => rfl)) | ((with_reducible apply con_of_pcon (p1)); (· (repeat (first | exact All2.nil | (apply All2.cons; (· first | exact Rd_int | exact Rd_bool | exact Rd_vs | exact Rd_nil | exact Rd_emp | exact Rd_vp | exact Rd_sl0 upd_self rfl rfl | exact Rd_fn0 | exact Rd_flat rfl | ((apply Rd_sl0); (· (exact hpX)); (· first | rfl | exact scal_i | exact scal_b | assumption); (· first | rfl | assumption | (simp; done) | (simp; omega))) | ((apply Rd_so); (· first | assumption | ((repeat' (first | assumption | (with_reducible apply SlOwn.upd) | (simp only [upd_none]; assumption))); done)); (· first | rfl | exact scal_i | exact scal_b | assumption))))))); intro kP hkP; (try simp only [upd_none] at hkP); simp only [thaw, thawC, List.map, thawH, owOf, owL]) | ((with_reducible apply con_of_pcon (s1)); (· (repeat (first | exact All2.nil | (apply All2.cons; (· first | exact Rd_int | exact Rd_bool | exact Rd_vs | exact Rd_nil | exact Rd_emp | exact Rd_vp | exact Rd_sl0 upd_self rfl rfl | exact Rd_fn0 | exact Rd_flat rfl | ((apply Rd_sl0); (· (exact hpX)); (· first | rfl | exact scal_i | exact scal_b | assumption); (· first | rfl | assumption | (simp; done) | (simp; omega))) | ((apply Rd_so); (· first | assumption | ((repeat' (first | assumption | (with_reducible apply SlOwn.upd) | (simp only [upd_none]; assumption))); done)); (· first | rfl | exact scal_i | exact scal_b | assumption))))))); intro kS hkS; (try simp only [upd_none] at hkS); simp only [thaw, thawC, List.map, thawH, owOf, owL]) | ((with_reducible apply con_val (h1)); (· (repeat (first | exact All2.nil | (apply All2.cons; (· first | exact Rd_int | exact Rd_bool | exact Rd_vs | exact Rd_nil | exact Rd_emp | exact Rd_vp | exact Rd_sl0 upd_self rfl rfl | exact Rd_fn0 | exact Rd_flat rfl | ((apply Rd_sl0); (· (exact hpX)); (· first | rfl | exact scal_i | exact scal_b | assumption); (· first | rfl | assumption | (simp; done) | (simp; omega))) | ((apply Rd_so); (· first | assumption | ((repeat' (first | assumption | (with_reducible apply SlOwn.upd) | (simp only [upd_none]; assumption))); done)); (· first | rfl | exact scal_i | exact scal_b | assumption))))))); (· rfl); (· exact fun _ => rfl)) | ((with_reducible apply con_val (h2)); (· (repeat (first | exact All2.nil | (apply All2.cons; (· first | exact Rd_int | exact Rd_bool | exact Rd_vs | exact Rd_nil | exact Rd_emp | exact Rd_vp | exact Rd_sl0 upd_self rfl rfl | exact Rd_fn0 | exact Rd_flat rfl | ((apply Rd_sl0); (· (exact hpX)); (· first | rfl | exact scal_i | exact scal_b | assumption); (· first | rfl | assumption | (simp; done) | (simp; omega))) | ((apply Rd_so); (· first | assumption | ((repeat' (first | assumption | (with_reducible apply SlOwn.upd) | (simp only [upd_none]; assumption))); done)); (· first | rfl | exact scal_i | exact scal_b | assumption))))))); (· rfl); (· exact fun _ => rfl)))) | ((with_reducible refine k_br ?_); (first | (with_reducible first | refine Br_dec ?_ | refine Br_not ?_ | refine Br_eqF ?_ | refine Br_and ?_ | refine Br_or ?_ | refine Br_neg ?_ | refine Br_band ?_ | refine Br_bor ?_ | refine Br_beq ?_) | (refine Br_t (by first | with_reducible rfl | omega | assumption | rfl) ?_) | (refine Br_f (by first | omega | assumption | decide) ?_) | (with_reducible apply Br_sb <;> intro hbr <;> (first | subst hbr | simp only [hbr] | skip)) | (with_reducible apply Br_s <;> intro hbr))) | (with_reducible refine WN_succ ?_) | ((first | (with_reducible apply q_eqI) | (with_reducible apply q_eqN)); (first | exact nuI | exact nuN)) | ((first | (with_reducible apply q_eqL) | (with_reducible apply q_eqO)); (first | exact liL | exact liO)))
  all_goals first | exact Fin_flat trivial rfl rfl | (refine Fin_tup trivial rfl ?_ (Nat.le_of_ble_eq_true rfl); (repeat (first | exact All2.nil | (apply All2.cons; (· first | exact exc_n | exact exc_e | exact exc_v rfl rfl | exact exc_o upd_self rfl rfl)))); done) | (refine Fin_own trivial rfl upd_self ?_ (Nat.le_of_ble_eq_true rfl); (repeat (first | exact All2.nil | (apply All2.cons; (· first | exact exc_n | exact exc_e | exact exc_v rfl rfl | exact exc_o upd_self rfl rfl)))); done) | exact Fin_nil trivial rfl | exact Fin_sl trivial rfl upd_self rfl rfl
end Go.Proofs.Ytbepjnjfnmmpaaa
end
section
/- Protection: sums over the tree, effective guarantees, who is guarded. -/
set_option linter.unusedSimpArgs false
set_option linter.unusedVariables false
namespace Go.Proofs.Ytbepjnjfnmmpaaa
open Go.AM Classical
set_option maxRecDepth 100000
set_option maxHeartbeats 4000000
end Go.Proofs.Ytbepjnjfnmmpaaa
end
section
/- Protection: plain laws. -/
set_option linter.unusedSimpArgs false
set_option linter.unusedVariables false
namespace Go.Proofs.Ytbepjnjfnmmpaaa
open Go.AM Classical
set_option maxRecDepth 100000
set_option maxHeartbeats 4000000
theorem pathG_fuel {l : List Acct} (ht : treeP l) : ∀ (f g : Nat) (a : Int), a < f → a < g → a < l.length → pathG l f a = pathG l g a
  | 0, 0, _, _, _, _ => rfl
  | 0, g + 1, a, h, _, _ => by rw [pathG, pathG, if_neg (by omega)]
  | f + 1, 0, a, _, h, _ => by rw [pathG, pathG, if_neg (by omega)]
  | f + 1, g + 1, a, h1, h2, h3 => by
    rw [pathG, pathG]
    by_cases h0 : 0 ≤ a
    · have hp := pa_lt ht (a := a) ⟨h0, h3⟩
      rw [if_pos h0, if_pos h0, pathG_fuel ht f g _ (by omega) (by omega) (by omega)]
    · rw [if_neg h0, if_neg h0]
theorem path_mem {l : List Acct} {a : Int} (h : isP l a) {y : Int} : y ∈ pathG l 8 a ↔ y = a ∨ y ∈ pathG l 8 (pa l a.toNat) := by
  obtain ⟨hl, ht, _⟩ := chk_ok h.1
  have hp := pa_lt ht h.2
  have h2 := h.2
  rw [show pathG l 8 a = pathG l (7 + 1) a from rfl, pathG, if_pos h.2.1, List.mem_cons, pathG_fuel ht 7 8 _ (by omega) (by omega) (by omega)]
theorem path_self {l : List Acct} {a : Int} (h : isP l a) : a ∈ pathG l 8 a := (path_mem h).2 (.inl rfl)
theorem path_zero {l : List Acct} {a : Int} (h : isP l a) : 0 ∈ pathG l 8 a := by
  obtain ⟨hl, ht, _⟩ := chk_ok h.1
  suffices H : ∀ n : Nat, ∀ a : Int, a.toNat = n → isP l a → 0 ∈ pathG l 8 a from H a.toNat a rfl h
  intro n
  induction n using Nat.strongRecOn with
  | _ n ih =>
    intro a hn ha
    by_cases h0 : a = 0
    · subst h0; exact path_self ha
    · have ha2 := ha.2
      have h1 := ht a.toNat (by omega) (by omega)
      unfold okP at h1
      rw [← pa_at (by omega)] at h1
      exact (path_mem ha).2 (.inr (ih (pa l a.toNat).toNat (by omega) _ rfl ⟨h.1, by omega, by omega⟩))
end Go.Proofs.Ytbepjnjfnmmpaaa
end
section
/- Asks: plain laws of serving. -/
set_option linter.unusedSimpArgs false
set_option linter.unusedVariables false
namespace Go.Proofs.Ytbepjnjfnmmpaaa
open Go.AM Classical
set_option maxRecDepth 100000
set_option maxHeartbeats 4000000
def kerS : List Ask → Int
  | [] => 0
  | a :: r => a.kernel + kerS r
def totS : List Ask → Int
  | [] => 0
  | a :: r => totA a + totS r
theorem kerS_snoc (a : Ask) : ∀ q : List Ask, kerS (q ++ [a]) = kerS q + a.kernel
  | [] => by simp [kerS]
  | b :: r => by rw [List.cons_append, kerS, kerS, kerS_snoc a r]; omega
theorem totS_snoc (a : Ask) : ∀ q : List Ask, totS (q ++ [a]) = totS q + totA a
  | [] => by simp [totS]
  | b :: r => by rw [List.cons_append, totS, totS, totS_snoc a r]; omega
theorem kerS_in : ∀ {q : List Ask}, (∀ a ∈ q, vaP a) → 0 ≤ kerS q ∧ kerS q ≤ 1048576 * (q.length : Int)
  | [], _ => by simp [kerS]
  | a :: r, h => by
    have h1 := kerS_in fun b hb => h b (List.mem_cons_of_mem _ hb)
    obtain ⟨_, _, ⟨k1, k2⟩, _⟩ := h a (by simp)
    rw [kerS, List.length_cons]
    omega
theorem totS_in : ∀ {q : List Ask}, (∀ a ∈ q, vaP a) → 0 ≤ totS q ∧ totS q ≤ 2097152 * (q.length : Int)
  | [], _ => by simp [totS]
  | a :: r, h => by
    have h1 := totS_in fun b hb => h b (List.mem_cons_of_mem _ hb)
    obtain ⟨_, _, ⟨k1, k2⟩, ⟨u1, u2⟩⟩ := h a (by simp)
    rw [totS, List.length_cons, totA]
    omega
def okQ (q : List Ask) (n : Nat) : Prop := ∀ a ∈ q, vaP a ∧ a.account < n
theorem okQ_cons {a : Ask} {r : List Ask} {n : Nat} (h : okQ (a :: r) n) : (vaP a ∧ a.account < n) ∧ okQ r n := ⟨h a (by simp), fun b hb => h b (List.mem_cons_of_mem _ hb)⟩
theorem okQ_drop {q : List Ask} {n : Nat} (h : okQ q n) (i : Nat) : okQ (q.drop i) n := fun a ha => h a (List.mem_of_mem_drop ha)
theorem srv_all : ∀ (q : List Ask) (l : List Acct) (no al : Int), chkF l = 0 → okQ q l.length → ∀ k g, srvL q l no al = (k, g) →
    k ≤ q.length ∧ chkF g = 0 ∧ g.length = l.length ∧ us g 0 = us l 0 + totS (q.take k) ∧ (0 < k → kerS (q.take k) ≤ no ∧ totS (q.take k) ≤ al) ∧ srvL (q.drop k) g (no - kerS (q.take k)) (al - totS (q.take k)) = (0, g)
  | [], l, no, al, hc, _, k, g, h => by
    rw [srvL] at h
    cases h
    exact ⟨by simp, hc, rfl, by simp [totS], fun h => by omega, by simp [srvL]⟩
  | a :: r, l, no, al, hc, hq, k, g, h => by
    obtain ⟨⟨hv, ha⟩, hr⟩ := okQ_cons hq
    have h0 := h
    rw [srvL_cons] at h
    by_cases hf : fitP a l no al
    · rw [if_pos hf] at h
      have hcan := fit_can hv hc ha hf
      have hg := can_chk hcan
      have hl := addF_len l a.account (totA a)
      generalize hs : srvL r (addF l a.account (totA a)) (no - a.kernel) (al - totA a) = s at h
      obtain ⟨k', g'⟩ := s
      cases h
      obtain ⟨i1, i2, i3, i4, i5, i6⟩ := srv_all r _ _ _ hg (by rw [hl]; exact hr) k' g' hs
      have hz : (0 : Int) ∈ pathF l a.account := by rw [pathF, if_pos hcan.1]; exact path_zero hcan.1
      have hu := addF_us (n := totA a) hcan.1 (j := 0) (by have := (chk_ok hc).1; omega)
      rw [if_pos (show ((0 : Nat) : Int) ∈ _ from hz)] at hu
      refine ⟨by simpa using i1, i2, by rw [i3, hl], ?_, fun _ => ?_, ?_⟩
      · dsimp only; rw [i4, hu, List.take_succ_cons, totS]; omega
      · dsimp only
        rw [List.take_succ_cons, kerS, totS]
        by_cases h0 : 0 < k'
        · have := i5 h0; omega
        · have : k' = 0 := by omega
          subst this
          have := hf.2
          simp [kerS, totS]; omega
      · dsimp only
        rw [List.take_succ_cons, List.drop_succ_cons, kerS, totS, show no - (a.kernel + kerS (r.take k')) = no - a.kernel - kerS (r.take k') by omega, show al - (totA a + totS (r.take k')) = al - totA a - totS (r.take k') by omega]
        exact i6
    · rw [if_neg hf] at h
      cases h
      refine ⟨by simp, hc, rfl, by simp [totS], fun h => by omega, ?_⟩
      rw [List.take_zero, List.drop_zero, kerS, totS, show no - 0 = no by omega, show al - 0 = al by omega]
      exact h0
theorem srv_stop {a : Ask} {r : List Ask} {l : List Acct} {no al : Int} {g : List Acct} (h : srvL (a :: r) l no al = (0, g)) : ¬ fitP a l no al := fun hf => by
  rw [srvL_cons, if_pos hf] at h
  have := congrArg Prod.fst h
  dsimp only at this
  omega
def leA (g l : List Acct) : Prop := g.length = l.length ∧ (∀ j, pa g j = pa l j) ∧ (∀ j, mx g j = mx l j) ∧ ∀ j, us g j ≤ us l j
theorem leA_refl (l : List Acct) : leA l l := ⟨rfl, fun _ => rfl, fun _ => rfl, fun _ => Int.le_refl _⟩
theorem leA_is {g l : List Acct} (h : leA g l) (hg : chkF g = 0) (hl : chkF l = 0) {a : Int} : isP g a ↔ isP l a := by
  unfold isP; rw [h.1]; simp [hg, hl]
theorem leA_path {g l : List Acct} (h : leA g l) (hg : chkF g = 0) (hl : chkF l = 0) (a : Int) : pathF g a = pathF l a := by
  unfold pathF
  rw [pathG_congr h.2.1]
  simp only [leA_is h hg hl]
theorem leA_fit {g l : List Acct} (h : leA g l) (hg : chkF g = 0) (hl : chkF l = 0) {a : Ask} {no al no' al' : Int} (hn : no ≤ no') (ha : al ≤ al') (hf : fitP a l no al) : fitP a g no' al' := by
  refine ⟨fun x hx => ?_, by have := hf.2.1; omega, by have := hf.2.2; omega⟩
  rw [leA_path h hg hl] at hx
  have h1 := hf.1 x hx
  have h2 := h.2.2.1 x.toNat
  have h3 := h.2.2.2 x.toNat
  unfold roomA at *
  omega
theorem us_out {l : List Acct} {j : Nat} (h : ¬ j < l.length) : us l j = 0 := by rw [us, dif_neg h]
theorem leA_add {g l : List Acct} (h : leA g l) (hg : chkF g = 0) (hl : chkF l = 0) {a n : Int} (hp : isP l a) : leA (addF g a n) (addF l a n) := by
  have hq := (leA_is h hg hl).2 hp
  refine ⟨by rw [addF_len, addF_len, h.1], fun j => by rw [addF_pa hq, addF_pa hp, h.2.1], fun j => by rw [addF_mx hq, addF_mx hp, h.2.2.1], fun j => ?_⟩
  by_cases hj : j < l.length
  · rw [addF_us hq (by rw [h.1]; exact hj), addF_us hp hj, leA_path h hg hl]
    have := h.2.2.2 j
    omega
  · rw [us_out (by rw [addF_len, h.1]; exact hj), us_out (by rw [addF_len]; exact hj)]
    omega
theorem leA_up {l : List Acct} {a n : Int} (hp : isP l a) (hn : 0 ≤ n) : leA l (addF l a n) := by
  refine ⟨by rw [addF_len], fun j => by rw [addF_pa hp], fun j => by rw [addF_mx hp], fun j => ?_⟩
  by_cases hj : j < l.length
  · rw [addF_us hp hj]; split <;> omega
  · rw [us_out hj, us_out (by rw [addF_len]; exact hj)]
    omega
theorem srv_mono : ∀ (q : List Ask) (g l : List Acct) (no al no' al' : Int), leA g l → chkF g = 0 → chkF l = 0 → okQ q l.length → no ≤ no' → al ≤ al' → (srvL q l no al).1 ≤ (srvL q g no' al').1
  | [], g, l, no, al, no', al', _, _, _, _, _, _ => by simp [srvL]
  | a :: r, g, l, no, al, no', al', h, hg, hl, hq, hn, ha => by
    obtain ⟨⟨hv, hal⟩, hr⟩ := okQ_cons hq
    rw [srvL_cons, srvL_cons]
    by_cases hf : fitP a l no al
    · have hf2 := leA_fit h hg hl hn ha hf
      rw [if_pos hf, if_pos hf2]
      have hc := fit_can hv hl hal hf
      have hc2 := fit_can hv hg (by rw [h.1]; exact hal) hf2
      have := srv_mono r (addF g a.account (totA a)) (addF l a.account (totA a)) (no - a.kernel) (al - totA a) (no' - a.kernel) (al' - totA a) (leA_add h hg hl hc.1) (can_chk hc2) (can_chk hc) (by rw [addF_len]; exact hr) (by omega) (by omega)
      dsimp only
      omega
    · rw [if_neg hf]
      exact Nat.zero_le _
theorem srv_drop : ∀ (i : Nat) (q : List Ask) (l : List Acct) (no al : Int), chkF l = 0 → okQ q l.length → (srvL q l no al).1 ≤ i + (srvL (q.drop i) l no al).1
  | 0, q, l, no, al, _, _ => by simp
  | i + 1, [], l, no, al, _, _ => by simp [srvL]
  | i + 1, a :: r, l, no, al, hl, hq => by
    obtain ⟨⟨hv, hal⟩, hr⟩ := okQ_cons hq
    rw [srvL_cons, List.drop_succ_cons]
    by_cases hf : fitP a l no al
    · rw [if_pos hf]
      have hc := fit_can hv hl hal hf
      have ht : 0 ≤ totA a ∧ 0 ≤ a.kernel := by
        obtain ⟨_, _, ⟨k1, k2⟩, ⟨u1, u2⟩⟩ := hv
        unfold totA; omega
      have h1 := srv_mono r l (addF l a.account (totA a)) (no - a.kernel) (al - totA a) no al (leA_up hc.1 ht.1) hl (can_chk hc) (by rw [addF_len]; exact hr) (by omega) (by omega)
      have h2 := srv_drop i r l no al hl hr
      dsimp only
      omega
    · rw [if_neg hf]
      exact Nat.zero_le _
/-! ### The empty machine -/
def zeroA (a : Acct) : Acct := { a with usage := 0 }
def freeL (l : List Acct) : List Acct := l.map zeroA
theorem freeL_len (l : List Acct) : (freeL l).length = l.length := by simp [freeL]
theorem freeL_at {l : List Acct} {i : Nat} (h : i < (freeL l).length) (h' : i < l.length) : (freeL l)[i] = zeroA l[i] := by simp [freeL]
theorem freeL_us (l : List Acct) (j : Nat) : us (freeL l) j = 0 := by
  by_cases h : j < (freeL l).length
  · rw [us_at h, freeL_at h (by rwa [freeL_len] at h)]; rfl
  · exact us_out h
theorem freeL_kids (l : List Acct) (j : Int) : ∀ n, kidsTo (freeL l) j n = 0
  | 0 => rfl
  | n + 1 => by rw [kidsTo, freeL_kids l j n, freeL_us]; simp
theorem freeL_chk {l : List Acct} (h : chkF l = 0) : chkF (freeL l) = 0 := by
  obtain ⟨h1, h2, ⟨h3, h4⟩, h5, h6⟩ := chk_ok h
  refine chk_mk (by rw [freeL_len]; exact h1) ?_ ⟨?_, ?_⟩ ?_ ?_
  · intro i hi hi2
    rw [freeL_len] at hi
    rw [freeL_at hi2 hi]
    exact h2 i hi hi
  · intro i hi hi2
    rw [freeL_len] at hi
    rw [freeL_at hi2 hi]
    have := h3 i hi hi
    exact ⟨⟨Int.le_refl 0, show (0 : Int) ≤ 1048576 by decide⟩, this.2.1, this.2.2.1, this.2.2.2⟩
  · intro h0
    have := h4 h1.1
    rw [freeL_at h0 h1.1]
    exact this
  · intro a ha
    obtain ⟨b, hb, rfl⟩ := List.mem_map.1 ha
    obtain ⟨i, hi, rfl⟩ := List.getElem_of_mem hb
    exact (h3 i hi hi).2.2.2.1
  · intro i hi
    unfold kids
    rw [freeL_kids, freeL_us]
    exact Int.le_refl _
theorem freeL_le {l : List Acct} (h : chkF l = 0) : leA (freeL l) l := by
  have h3 := (chk_ok h).2.2.1.1
  refine ⟨freeL_len l, fun j => ?_, fun j => ?_, fun j => by rw [freeL_us]; exact (us_in h3 j).1⟩
  · by_cases hj : j < l.length
    · rw [pa_at hj, pa_at (by rw [freeL_len]; exact hj), freeL_at _ hj]; rfl
    · rw [pa, pa, dif_neg hj, dif_neg (by rw [freeL_len]; exact hj)]
  · by_cases hj : j < l.length
    · rw [mx_at hj, mx_at (by rw [freeL_len]; exact hj), freeL_at _ hj]; rfl
    · rw [mx, mx, dif_neg hj, dif_neg (by rw [freeL_len]; exact hj)]
theorem hop_free {l : List Acct} (h : chkF l = 0) {a : Ask} (hv : vaP a) (ha : a.account < l.length) {no al : Int} : hopP a l no al ↔ ¬ fitP a (freeL l) no al := by
  have hc := freeL_chk h
  have hl := freeL_le h
  have hp := leA_path hl hc h a.account
  have hr : ∀ x : Int, roomA (freeL l) x = mx l x.toNat := fun x => by unfold roomA; rw [hl.2.2.1, freeL_us]; omega
  unfold hopP fitP
  rw [hp]
  simp only [hr]
  constructor
  · rintro (h1 | h1 | h1 | ⟨x, hx, h1⟩ | h1 | h1) hf
    · exact h1 hv
    · exact h1 h
    · exact h1 ha
    · have := hf.1 x hx; omega
    · have := hf.2.1; omega
    · have := hf.2.2; omega
  · intro hf
    by_cases h1 : ∀ x ∈ pathF l a.account, totA a ≤ mx l x.toNat
    · by_cases h2 : a.kernel ≤ no
      · exact .inr (.inr (.inr (.inr (.inr (by have : ¬ totA a ≤ al := fun h3 => hf ⟨h1, h2, h3⟩; omega)))))
      · exact .inr (.inr (.inr (.inr (.inl (by omega)))))
    · obtain ⟨x, hx⟩ := Classical.not_forall.1 h1
      obtain ⟨hx, h2⟩ := Classical.not_imp.1 hx
      exact .inr (.inr (.inr (.inl ⟨x, hx, by omega⟩)))
end Go.Proofs.Ytbepjnjfnmmpaaa
end
section
/- Asks: the laws GrantShorts and GrantServes; asks as arguments. -/
set_option linter.unusedSimpArgs false
set_option linter.unusedVariables false
namespace Go.Proofs.Ytbepjnjfnmmpaaa
open Go.AM Classical
set_option maxRecDepth 100000
set_option maxHeartbeats 4000000
theorem typed_ask {n : Nat} {p : List D} (h : Typed Try.prog (n + 2) 23 p) : ∃ a : Ask, p = a.cells ∧ True := by
  obtain ⟨ps, rfl, h1⟩ := typed_struct' Try.underlying23 h
  obtain ⟨xs, h2, h3, h4⟩ := typed_nums (k := .i64) h1 (by simp [Try.underlying3])
  match xs, h3, h2, h4 with
  | [a, b, c, d], _, h2, h4 => exact ⟨⟨a, b, c, d⟩, h2, trivial⟩
theorem typed_ask1 {d : D} (h : TypedA Try.prog 23 d) : ∃ a : Ask, d = .agg a.cells := by
  obtain ⟨ds, rfl, h1⟩ := typed_agg (agg_yes Try.underlying23 rfl) h
  obtain ⟨a, rfl, _⟩ := typed_ask h1
  exact ⟨a, rfl⟩
theorem typed_asks {d : D} (h : TypedA Try.prog 33 d) : ∃ q : List Ask, d = asks q := by
  obtain ⟨ps, rfl, h1, h2⟩ := typed_slice Try.underlying33 h
  obtain ⟨q, rfl, _⟩ := all_map (f := Ask.cells) (q := fun _ => True) (fun d hd => typed_ask (h2 d hd))
  exact ⟨q, by rw [List.length_map, ← List.flatMap_def, show Try.prog.cellsOf 23 = 4 by kernel_rfl]⟩
theorem typed_two {d : D} (h : TypedA Try.prog 25 d) : ∃ x y : Int, d = .agg [.int .i64 x, .int .i64 y] ∧ (-9223372036854775808 ≤ x ∧ x ≤ 9223372036854775807) ∧ (-9223372036854775808 ≤ y ∧ y ≤ 9223372036854775807) := by
  obtain ⟨ds, rfl, h1⟩ := typed_agg (agg_yes Try.underlying25 rfl) h
  obtain ⟨ps, rfl, h2, h3⟩ := typed_array' Try.underlying25 h1
  match ps, h2 with
  | [a, b], _ =>
    obtain ⟨x, rfl, hx⟩ := typed_int' Try.underlying3 (h3 a (by simp))
    obtain ⟨y, rfl, hy⟩ := typed_int' Try.underlying3 (h3 b (by simp))
    exact ⟨x, y, rfl, wf_i64 hx, wf_i64 hy⟩
theorem gfew_c (q : List Ask) (l : List Acct) : PCon Try.prog 16 [asks q, accs l] (.bool (decide (q.length ≤ 20 ∧ l.length ≤ 20))) := by
  refine A16p (by simp [A16]) ?_
  simp only [A16, argEnv]
  repeat' (first | (with_reducible first | refine W_seq ?_ | refine then_n ?_ | refine W_skip ?_ | refine W_ret ?_ | refine then_r ?_) | ((with_reducible refine s_reg ?_); intro K hK) | ((with_reducible refine k_nil ?_); (with_reducible apply s_nil hK); (· exact nmX); clear hK; clear K) | ((with_reducible refine k_guard ?_); (first | (refine s_gt rfl ?_) | (refine s_gf1 rfl ?_) | (refine s_gfn rfl ?_) | (refine s_gx1 rfl ?_) | (refine s_gxn rfl ?_) | (refine s_gs rfl ?_))) | ((with_reducible refine k_mv ?_); (refine s_mv rfl ?_)) | ((with_reducible refine k_len ?_); (first | (refine s_len rfl rfl ?_) | ((with_reducible apply s_len); (· rfl); (· exact SlOwn.len (by assumption))))) | ((with_reducible refine k_pick ?_); (first | (refine s_pickT rfl rfl ?_) | (refine s_pickF rfl rfl ?_))) | ((with_reducible refine k_leq ?_); (refine s_leq rfl rfl ?_)) | ((with_reducible refine k_br ?_); (first | (with_reducible first | refine Br_dec ?_ | refine Br_not ?_ | refine Br_eqF ?_ | refine Br_and ?_ | refine Br_or ?_ | refine Br_neg ?_ | refine Br_band ?_ | refine Br_bor ?_ | refine Br_beq ?_) | (refine Br_t (by first | with_reducible rfl | omega | assumption | rfl) ?_) | (refine Br_f (by first | omega | assumption | decide) ?_) | (with_reducible apply Br_sb <;> intro hbr <;> (first | subst hbr | simp only [hbr] | skip)) | (with_reducible apply Br_s <;> intro hbr))) | (with_reducible refine WN_succ ?_) | ((first | (with_reducible apply q_eqI) | (with_reducible apply q_eqN)); (first | exact nuI | exact nuN)) | ((first | (with_reducible apply q_eqL) | (with_reducible apply q_eqO)); (first | exact liL | exact liO)))
  all_goals first | exact Fin_bt trivial rfl (by omega) | exact Fin_bf trivial rfl (by omega)
end Go.Proofs.Ytbepjnjfnmmpaaa
end
section
/- Asks: which queues are served, and what is served of them. -/
set_option linter.unusedSimpArgs false
set_option linter.unusedVariables false
namespace Go.Proofs.Ytbepjnjfnmmpaaa
open Go.AM Classical
set_option maxRecDepth 100000
set_option maxHeartbeats 4000000
def accQ (q : List Ask) (n : Nat) : Prop := ∀ i (h : i < q.length), 0 ≤ q[i].account ∧ q[i].account < n
def valQ (q : List Ask) (l : List Acct) : Prop := qchk q = 0 ∧ chkF l = 0 ∧ accQ q l.length
theorem valQ_ok {q : List Ask} {l : List Acct} (h : valQ q l) : okQ q l.length := fun a ha => by
  obtain ⟨i, hi, rfl⟩ := List.getElem_of_mem ha
  exact ⟨(qchk_ok.1 h.1).1 _ ha, (h.2.2 i hi).2⟩
theorem gvalq_c (q : List Ask) (hl : q.length ≤ 1000000) (l : List Acct) (hL : l.length ≤ 9223372036854775807) : PCon Try.prog 20 [asks q, accs l] (.bool (decide (valQ q l))) := by
  refine A20p (by simp [A20]) ?_
  simp only [A20, argEnv]
  have hal := asks_len q
  have c0 := gcheck_c q hl
  have c1 := check_c l hL
  by_cases h0 : qchk q = 0
  · by_cases h1 : chkF l = 0
    · have hv : valQ q l ↔ accQ q l.length := ⟨fun h => h.2.2, fun h => ⟨h0, h1, h⟩⟩
      rw [h0] at c0
      rw [h1] at c1
      simp only [hv]
      clear hv h0 h1
      repeat' (first | (with_reducible first | refine W_seq ?_ | refine then_n ?_ | refine W_block ?_ | refine blk_n ?_ | refine blk_r ?_ | refine blk_e ?_ | refine W_skip ?_ | refine W_ret ?_ | refine then_r ?_ | refine W_exit ?_ | refine then_e ?_) | (refine blk_j (by decide) ?_) | ((with_reducible refine s_reg ?_); intro K hK) | ((with_reducible refine k_nil ?_); (with_reducible apply s_nil hK); (· exact nmX); clear hK; clear K) | ((with_reducible refine k_cond ?_); (first | ((with_reducible apply s_condT); (· rfl); (· exact nmX)) | ((with_reducible apply s_condF); (· rfl); (· exact nmX)) | ((with_reducible apply s_condS); (· rfl); (· exact nmX); (· exact nmX)))) | ((with_reducible refine k_guard ?_); (first | (refine s_gt rfl ?_) | (refine s_gf1 rfl ?_) | (refine s_gfn rfl ?_) | (refine s_gx1 rfl ?_) | (refine s_gxn rfl ?_) | (refine s_gs rfl ?_))) | ((with_reducible refine k_mv ?_); (refine s_mv rfl ?_)) | ((with_reducible refine k_len ?_); (first | (refine s_len rfl rfl ?_) | ((with_reducible apply s_len); (· rfl); (· exact SlOwn.len (by assumption))))) | ((with_reducible refine k_pick ?_); (first | (refine s_pickT rfl rfl ?_) | (refine s_pickF rfl rfl ?_))) | ((with_reducible refine k_neq ?_); (first | (refine s_neq rfl rfl ?_) | (refine s_strNe rfl rfl ?_))) | ((with_reducible refine k_callF ?_); (first | ((with_reducible apply s_call1); (· rfl)) | ((with_reducible apply s_calln); (· rfl)))) | ((with_reducible refine k_con ?_); (first | ((with_reducible apply con_val (c0)); (· (exact agX)); (· rfl); (· exact fun _ => rfl)) | ((with_reducible apply con_val (c1)); (· (exact agX)); (· rfl); (· exact fun _ => rfl)))) | ((with_reducible refine k_br ?_); (first | (with_reducible first | refine Br_dec ?_ | refine Br_not ?_ | refine Br_eqF ?_ | refine Br_and ?_ | refine Br_or ?_ | refine Br_neg ?_ | refine Br_band ?_ | refine Br_bor ?_ | refine Br_beq ?_) | (refine Br_t (by first | with_reducible rfl | omega | assumption | rfl) ?_) | (refine Br_f (by first | omega | assumption | decide) ?_) | (with_reducible apply Br_sb <;> intro hbr <;> (first | subst hbr | simp only [hbr] | skip)) | (with_reducible apply Br_s <;> intro hbr))) | (with_reducible refine WN_succ ?_) | ((first | (with_reducible apply q_eqI) | (with_reducible apply q_eqN)); (first | exact nuI | exact nuN)) | ((first | (with_reducible apply q_eqL) | (with_reducible apply q_eqO)); (first | exact liL | exact liO)))
      refine W_for q.length (fun i st => ∃ h', (∀ j (hj : j < q.length), j < i → 0 ≤ q[j].account ∧ q[j].account < l.length) ∧ st = ⟨[(1, accs l), (15, asks q), (16, .int .i64 q.length), (17, .int .i64 i)], h'⟩) ⟨_, fun j _ hj => by omega, rfl⟩ ?_ ?_
      · rintro i e' h' hi ⟨h1, ht, he⟩
        cases he
        have hrow := akr hi
        by_cases hv : 0 ≤ q[i].account ∧ q[i].account < l.length
        · have hnx : ∀ j (hj : j < q.length), j < i + 1 → 0 ≤ q[j].account ∧ q[j].account < l.length := fun j hj h => by
            rcases Nat.lt_succ_iff_lt_or_eq.1 h with h2 | rfl
            · exact ht j hj h2
            · exact hv
          clear ht
          generalize q[i] = a at *
          obtain ⟨p, c, k, u⟩ := a
          dsimp only [Ask.cells] at hrow hv
          repeat' (first | (with_reducible first | refine W_seq ?_ | refine then_n ?_ | refine W_block ?_ | refine blk_n ?_ | refine blk_r ?_ | refine blk_e ?_ | refine W_skip ?_ | refine W_ret ?_ | refine then_r ?_ | refine W_exit ?_ | refine then_e ?_) | (refine blk_j (by decide) ?_) | ((with_reducible refine s_reg ?_); intro K hK) | ((with_reducible refine k_nil ?_); (with_reducible apply s_nil hK); (· exact nmX); clear hK; clear K) | ((with_reducible refine k_cond ?_); (first | ((with_reducible apply s_condT); (· rfl); (· exact nmX)) | ((with_reducible apply s_condF); (· rfl); (· exact nmX)) | ((with_reducible apply s_condS); (· rfl); (· exact nmX); (· exact nmX)))) | ((with_reducible refine k_guard ?_); (first | (refine s_gt rfl ?_) | (refine s_gf1 rfl ?_) | (refine s_gfn rfl ?_) | (refine s_gx1 rfl ?_) | (refine s_gxn rfl ?_) | (refine s_gs rfl ?_))) | ((with_reducible refine k_mv ?_); (refine s_mv rfl ?_)) | ((with_reducible refine k_len ?_); (first | (refine s_len rfl rfl ?_) | ((with_reducible apply s_len); (· rfl); (· exact SlOwn.len (by assumption))))) | ((with_reducible refine k_pick ?_); (first | (refine s_pickT rfl rfl ?_) | (refine s_pickF rfl rfl ?_))) | ((with_reducible refine k_lss ?_); (refine s_lss rfl rfl ?_)) | ((with_reducible refine k_geq ?_); (refine s_geq rfl rfl ?_)) | ((with_reducible refine k_iaddr ?_); (first | ((with_reducible apply s_iaddrV); (· rfl); (· rfl); (· (first | omega | exact ⟨rfl, by omega⟩ | skip))) | ((with_reducible apply s_iaddrO); (· rfl); (· rfl); (· (first | omega | exact ⟨rfl, by omega⟩ | skip)); (· (exact hpX))) | ((with_reducible apply s_iaddrSO); (· rfl); (· assumption); (· rfl); (· (first | omega | exact ⟨rfl, by omega⟩ | skip)); (· (first | (simp (disch := omega) only [w64, wu8, wu16, wu32, wu64, tm_nn, td_nn, fd_nn, Int.reduceAdd, Int.reduceSub, Int.reduceMul, Int.reduceDiv, Int.reduceMod, Int.reduceNeg, Int.reduceToNat, Int.toNat_natCast, Int.toNat_zero, Int.zero_add, Int.add_zero, Int.one_mul, Int.reducePow, Nat.mul_one, Nat.zero_add, Nat.add_zero, Nat.zero_mul, Nat.reduceAdd, Nat.reduceMul, Nat.reduceSub, Nat.min_eq_left, IntKind.bits, Nat.sub_zero, hrow]; try rfl; done) | rfl)); intro ks hks))) | ((with_reducible refine k_load ?_); (first | ((with_reducible apply s_loadV); (· rfl)) | ((with_reducible apply s_loadP); (· rfl); (· (exact hpX))))) | ((with_reducible refine k_loadA ?_); (first | ((with_reducible apply s_loadAV); (· rfl); (· (first | exact Nat.le_of_ble_eq_true rfl | decide | omega | (simp; done) | (simp; omega) | skip))) | ((with_reducible apply s_loadAP); (· rfl); (· (exact hpX)); (· (first | exact Nat.le_of_ble_eq_true rfl | decide | omega | (simp; done) | (simp; omega) | skip))))) | ((with_reducible refine k_add ?_); ((with_reducible apply s_add); (· rfl); (· rfl))) | ((with_reducible refine k_store ?_); ((with_reducible apply s_store0); (· rfl); (· rfl); (· rfl); (· (exact hpX)); (· (exact ⟨rfl, by first | exact Nat.le_of_ble_eq_true rfl | omega | (simp [hrow]; omega)⟩)); (· ((first | (simp (disch := omega) only [upd_self, upd_ne, upd_upd, rep, splice, List.take_succ_cons, List.take_zero, List.drop_succ_cons, List.drop_zero, List.cons_append, List.nil_append, List.append_nil, List.length_cons, List.length_nil, List.reduceReplicate, List.flatten_cons, List.flatten_nil, Nat.reduceAdd, Nat.reduceMul, Nat.reduceSub, Nat.zero_add, Nat.add_zero, List.getElem?_cons_zero, List.getElem?_cons_succ, hrow]; try rfl; done) | rfl))); (· (first | exact upd_upd | rfl)))) | ((with_reducible refine k_faddr ?_); (first | ((with_reducible apply s_faddrV); (· rfl); (· rfl)) | ((with_reducible apply s_faddrP); (· rfl); (· rfl)))) | ((with_reducible refine k_alloc (dst := some 6) ?_); ((with_reducible apply s_alloc); intro k6 hk6; (try simp only [upd_none] at hk6))) | ((with_reducible refine k_br ?_); (first | (with_reducible first | refine Br_dec ?_ | refine Br_not ?_ | refine Br_eqF ?_ | refine Br_and ?_ | refine Br_or ?_ | refine Br_neg ?_ | refine Br_band ?_ | refine Br_bor ?_ | refine Br_beq ?_) | (refine Br_t (by first | with_reducible rfl | omega | assumption | rfl) ?_) | (refine Br_f (by first | omega | assumption | decide) ?_) | (with_reducible apply Br_sb <;> intro hbr <;> (first | subst hbr | simp only [hbr] | skip)) | (with_reducible apply Br_s <;> intro hbr))) | (with_reducible refine WN_succ ?_) | ((first | (with_reducible apply q_eqI) | (with_reducible apply q_eqN)); (first | (simp (disch := omega) only [w64, wu8, wu16, wu32, wu64, tm_nn, td_nn, fd_nn, Int.reduceAdd, Int.reduceSub, Int.reduceMul, Int.reduceDiv, Int.reduceMod, Int.reduceNeg, Int.reduceToNat, Int.toNat_natCast, Int.toNat_zero, Int.zero_add, Int.add_zero, Int.one_mul, Int.reducePow, Nat.mul_one, Nat.zero_add, Nat.add_zero, Nat.zero_mul, Nat.reduceAdd, Nat.reduceMul, Nat.reduceSub, Nat.min_eq_left, IntKind.bits, Nat.sub_zero, hrow]; try rfl; done) | rfl)) | ((first | (with_reducible apply q_eqL) | (with_reducible apply q_eqO)); (first | (simp (disch := omega) only [upd_self, upd_ne, upd_upd, rep, splice, List.take_succ_cons, List.take_zero, List.drop_succ_cons, List.drop_zero, List.cons_append, List.nil_append, List.append_nil, List.length_cons, List.length_nil, List.reduceReplicate, List.flatten_cons, List.flatten_nil, Nat.reduceAdd, Nat.reduceMul, Nat.reduceSub, Nat.zero_add, Nat.add_zero, List.getElem?_cons_zero, List.getElem?_cons_succ, hrow]; try rfl; done) | rfl)))
          all_goals first | (exfalso; omega) | exact ⟨_, hnx, rfl⟩
        · rw [decide_eq_false (fun h => hv (h i hi))]
          clear ht
          generalize q[i] = a at *
          obtain ⟨p, c, k, u⟩ := a
          dsimp only [Ask.cells] at hrow hv
          repeat' (first | (with_reducible first | refine W_seq ?_ | refine then_n ?_ | refine W_block ?_ | refine blk_n ?_ | refine blk_r ?_ | refine blk_e ?_ | refine W_skip ?_ | refine W_ret ?_ | refine then_r ?_ | refine W_exit ?_ | refine then_e ?_) | (refine blk_j (by decide) ?_) | ((with_reducible refine s_reg ?_); intro K hK) | ((with_reducible refine k_nil ?_); (with_reducible apply s_nil hK); (· exact nmX); clear hK; clear K) | ((with_reducible refine k_cond ?_); (first | ((with_reducible apply s_condT); (· rfl); (· exact nmX)) | ((with_reducible apply s_condF); (· rfl); (· exact nmX)) | ((with_reducible apply s_condS); (· rfl); (· exact nmX); (· exact nmX)))) | ((with_reducible refine k_guard ?_); (first | (refine s_gt rfl ?_) | (refine s_gf1 rfl ?_) | (refine s_gfn rfl ?_) | (refine s_gx1 rfl ?_) | (refine s_gxn rfl ?_) | (refine s_gs rfl ?_))) | ((with_reducible refine k_mv ?_); (refine s_mv rfl ?_)) | ((with_reducible refine k_len ?_); (first | (refine s_len rfl rfl ?_) | ((with_reducible apply s_len); (· rfl); (· exact SlOwn.len (by assumption))))) | ((with_reducible refine k_pick ?_); (first | (refine s_pickT rfl rfl ?_) | (refine s_pickF rfl rfl ?_))) | ((with_reducible refine k_lss ?_); (refine s_lss rfl rfl ?_)) | ((with_reducible refine k_geq ?_); (refine s_geq rfl rfl ?_)) | ((with_reducible refine k_iaddr ?_); (first | ((with_reducible apply s_iaddrV); (· rfl); (· rfl); (· (first | omega | exact ⟨rfl, by omega⟩ | skip))) | ((with_reducible apply s_iaddrO); (· rfl); (· rfl); (· (first | omega | exact ⟨rfl, by omega⟩ | skip)); (· (exact hpX))) | ((with_reducible apply s_iaddrSO); (· rfl); (· assumption); (· rfl); (· (first | omega | exact ⟨rfl, by omega⟩ | skip)); (· (first | (simp (disch := omega) only [w64, wu8, wu16, wu32, wu64, tm_nn, td_nn, fd_nn, Int.reduceAdd, Int.reduceSub, Int.reduceMul, Int.reduceDiv, Int.reduceMod, Int.reduceNeg, Int.reduceToNat, Int.toNat_natCast, Int.toNat_zero, Int.zero_add, Int.add_zero, Int.one_mul, Int.reducePow, Nat.mul_one, Nat.zero_add, Nat.add_zero, Nat.zero_mul, Nat.reduceAdd, Nat.reduceMul, Nat.reduceSub, Nat.min_eq_left, IntKind.bits, Nat.sub_zero, hrow]; try rfl; done) | rfl)); intro ks hks))) | ((with_reducible refine k_load ?_); (first | ((with_reducible apply s_loadV); (· rfl)) | ((with_reducible apply s_loadP); (· rfl); (· (exact hpX))))) | ((with_reducible refine k_loadA ?_); (first | ((with_reducible apply s_loadAV); (· rfl); (· (first | exact Nat.le_of_ble_eq_true rfl | decide | omega | (simp; done) | (simp; omega) | skip))) | ((with_reducible apply s_loadAP); (· rfl); (· (exact hpX)); (· (first | exact Nat.le_of_ble_eq_true rfl | decide | omega | (simp; done) | (simp; omega) | skip))))) | ((with_reducible refine k_add ?_); ((with_reducible apply s_add); (· rfl); (· rfl))) | ((with_reducible refine k_store ?_); ((with_reducible apply s_store0); (· rfl); (· rfl); (· rfl); (· (exact hpX)); (· (exact ⟨rfl, by first | exact Nat.le_of_ble_eq_true rfl | omega | (simp [hrow]; omega)⟩)); (· ((first | (simp (disch := omega) only [upd_self, upd_ne, upd_upd, rep, splice, List.take_succ_cons, List.take_zero, List.drop_succ_cons, List.drop_zero, List.cons_append, List.nil_append, List.append_nil, List.length_cons, List.length_nil, List.reduceReplicate, List.flatten_cons, List.flatten_nil, Nat.reduceAdd, Nat.reduceMul, Nat.reduceSub, Nat.zero_add, Nat.add_zero, List.getElem?_cons_zero, List.getElem?_cons_succ, hrow]; try rfl; done) | rfl))); (· (first | exact upd_upd | rfl)))) | ((with_reducible refine k_faddr ?_); (first | ((with_reducible apply s_faddrV); (· rfl); (· rfl)) | ((with_reducible apply s_faddrP); (· rfl); (· rfl)))) | ((with_reducible refine k_alloc (dst := some 6) ?_); ((with_reducible apply s_alloc); intro k6 hk6; (try simp only [upd_none] at hk6))) | ((with_reducible refine k_br ?_); (first | (with_reducible first | refine Br_dec ?_ | refine Br_not ?_ | refine Br_eqF ?_ | refine Br_and ?_ | refine Br_or ?_ | refine Br_neg ?_ | refine Br_band ?_ | refine Br_bor ?_ | refine Br_beq ?_) | (refine Br_t (by first | with_reducible rfl | omega | assumption | rfl) ?_) | (refine Br_f (by first | omega | assumption | decide) ?_) | (with_reducible apply Br_sb <;> intro hbr <;> (first | subst hbr | simp only [hbr] | skip)) | (with_reducible apply Br_s <;> intro hbr))) | (with_reducible refine WN_succ ?_) | ((first | (with_reducible apply q_eqI) | (with_reducible apply q_eqN)); (first | (simp (disch := omega) only [w64, wu8, wu16, wu32, wu64, tm_nn, td_nn, fd_nn, Int.reduceAdd, Int.reduceSub, Int.reduceMul, Int.reduceDiv, Int.reduceMod, Int.reduceNeg, Int.reduceToNat, Int.toNat_natCast, Int.toNat_zero, Int.zero_add, Int.add_zero, Int.one_mul, Int.reducePow, Nat.mul_one, Nat.zero_add, Nat.add_zero, Nat.zero_mul, Nat.reduceAdd, Nat.reduceMul, Nat.reduceSub, Nat.min_eq_left, IntKind.bits, Nat.sub_zero, hrow]; try rfl; done) | rfl)) | ((first | (with_reducible apply q_eqL) | (with_reducible apply q_eqO)); (first | (simp (disch := omega) only [upd_self, upd_ne, upd_upd, rep, splice, List.take_succ_cons, List.take_zero, List.drop_succ_cons, List.drop_zero, List.cons_append, List.nil_append, List.append_nil, List.length_cons, List.length_nil, List.reduceReplicate, List.flatten_cons, List.flatten_nil, Nat.reduceAdd, Nat.reduceMul, Nat.reduceSub, Nat.zero_add, Nat.add_zero, List.getElem?_cons_zero, List.getElem?_cons_succ, hrow]; try rfl; done) | rfl)))
          all_goals first | (exfalso; omega) | (first | exact Fin_flat trivial rfl rfl | (refine Fin_tup trivial rfl ?_ (Nat.le_of_ble_eq_true rfl); (repeat (first | exact All2.nil | (apply All2.cons; (· first | exact exc_n | exact exc_e | exact exc_v rfl rfl | exact exc_o upd_self rfl rfl)))); done) | (refine Fin_own trivial rfl upd_self ?_ (Nat.le_of_ble_eq_true rfl); (repeat (first | exact All2.nil | (apply All2.cons; (· first | exact exc_n | exact exc_e | exact exc_v rfl rfl | exact exc_o upd_self rfl rfl)))); done) | exact Fin_nil trivial rfl | exact Fin_sl trivial rfl upd_self rfl rfl)
      · rintro e' h' ⟨h1, ht, he⟩
        cases he
        rw [decide_eq_true (show accQ q l.length from fun i h => ht i h h)]
        repeat' (first | (with_reducible first | refine W_seq ?_ | refine then_n ?_ | refine W_block ?_ | refine blk_n ?_ | refine blk_r ?_ | refine blk_e ?_ | refine W_skip ?_ | refine W_ret ?_ | refine then_r ?_ | refine W_exit ?_ | refine then_e ?_) | (refine blk_j (by decide) ?_) | ((with_reducible refine s_reg ?_); intro K hK) | ((with_reducible refine k_nil ?_); (with_reducible apply s_nil hK); (· exact nmX); clear hK; clear K) | ((with_reducible refine k_cond ?_); (first | ((with_reducible apply s_condT); (· rfl); (· exact nmX)) | ((with_reducible apply s_condF); (· rfl); (· exact nmX)) | ((with_reducible apply s_condS); (· rfl); (· exact nmX); (· exact nmX)))) | ((with_reducible refine k_guard ?_); (first | (refine s_gt rfl ?_) | (refine s_gf1 rfl ?_) | (refine s_gfn rfl ?_) | (refine s_gx1 rfl ?_) | (refine s_gxn rfl ?_) | (refine s_gs rfl ?_))) | ((with_reducible refine k_mv ?_); (refine s_mv rfl ?_)) | ((with_reducible refine k_lss ?_); (refine s_lss rfl rfl ?_)) | ((with_reducible refine k_br ?_); (first | (with_reducible first | refine Br_dec ?_ | refine Br_not ?_ | refine Br_eqF ?_ | refine Br_and ?_ | refine Br_or ?_ | refine Br_neg ?_ | refine Br_band ?_ | refine Br_bor ?_ | refine Br_beq ?_) | (refine Br_t (by first | with_reducible rfl | omega | assumption | rfl) ?_) | (refine Br_f (by first | omega | assumption | decide) ?_) | (with_reducible apply Br_sb <;> intro hbr <;> (first | subst hbr | simp only [hbr] | skip)) | (with_reducible apply Br_s <;> intro hbr))) | (with_reducible refine WN_succ ?_) | ((first | (with_reducible apply q_eqI) | (with_reducible apply q_eqN)); (first | exact nuI | exact nuN)) | ((first | (with_reducible apply q_eqL) | (with_reducible apply q_eqO)); (first | exact liL | exact liO)))
        all_goals first | exact Fin_flat trivial rfl rfl | (refine Fin_tup trivial rfl ?_ (Nat.le_of_ble_eq_true rfl); (repeat (first | exact All2.nil | (apply All2.cons; (· first | exact exc_n | exact exc_e | exact exc_v rfl rfl | exact exc_o upd_self rfl rfl)))); done) | (refine Fin_own trivial rfl upd_self ?_ (Nat.le_of_ble_eq_true rfl); (repeat (first | exact All2.nil | (apply All2.cons; (· first | exact exc_n | exact exc_e | exact exc_v rfl rfl | exact exc_o upd_self rfl rfl)))); done) | exact Fin_nil trivial rfl | exact Fin_sl trivial rfl upd_self rfl rfl
    · rw [decide_eq_false (fun h => h1 h.2.1)]
      rw [h0] at c0
      generalize chkF l = e at *
      repeat' (first | (with_reducible first | refine W_seq ?_ | refine then_n ?_ | refine W_block ?_ | refine blk_n ?_ | refine blk_r ?_ | refine blk_e ?_ | refine W_skip ?_ | refine W_ret ?_ | refine then_r ?_ | refine W_exit ?_ | refine then_e ?_) | (refine blk_j (by decide) ?_) | ((with_reducible refine s_reg ?_); intro K hK) | ((with_reducible refine k_nil ?_); (with_reducible apply s_nil hK); (· exact nmX); clear hK; clear K) | ((with_reducible refine k_cond ?_); (first | ((with_reducible apply s_condT); (· rfl); (· exact nmX)) | ((with_reducible apply s_condF); (· rfl); (· exact nmX)) | ((with_reducible apply s_condS); (· rfl); (· exact nmX); (· exact nmX)))) | ((with_reducible refine k_guard ?_); (first | (refine s_gt rfl ?_) | (refine s_gf1 rfl ?_) | (refine s_gfn rfl ?_) | (refine s_gx1 rfl ?_) | (refine s_gxn rfl ?_) | (refine s_gs rfl ?_))) | ((with_reducible refine k_mv ?_); (refine s_mv rfl ?_)) | ((with_reducible refine k_pick ?_); (first | (refine s_pickT rfl rfl ?_) | (refine s_pickF rfl rfl ?_))) | ((with_reducible refine k_neq ?_); (first | (refine s_neq rfl rfl ?_) | (refine s_strNe rfl rfl ?_))) | ((with_reducible refine k_callF ?_); (first | ((with_reducible apply s_call1); (· rfl)) | ((with_reducible apply s_calln); (· rfl)))) | ((with_reducible refine k_con ?_); (first | ((with_reducible apply con_val (c0)); (· (exact agX)); (· rfl); (· exact fun _ => rfl)) | ((with_reducible apply con_val (c1)); (· (exact agX)); (· rfl); (· exact fun _ => rfl)))) | ((with_reducible refine k_br ?_); (first | (with_reducible first | refine Br_dec ?_ | refine Br_not ?_ | refine Br_eqF ?_ | refine Br_and ?_ | refine Br_or ?_ | refine Br_neg ?_ | refine Br_band ?_ | refine Br_bor ?_ | refine Br_beq ?_) | (refine Br_t (by first | with_reducible rfl | omega | assumption | rfl) ?_) | (refine Br_f (by first | omega | assumption | decide) ?_) | (with_reducible apply Br_sb <;> intro hbr <;> (first | subst hbr | simp only [hbr] | skip)) | (with_reducible apply Br_s <;> intro hbr))) | (with_reducible refine WN_succ ?_) | ((first | (with_reducible apply q_eqI) | (with_reducible apply q_eqN)); (first | exact nuI | exact nuN)) | ((first | (with_reducible apply q_eqL) | (with_reducible apply q_eqO)); (first | exact liL | exact liO)))
      all_goals first | (exfalso; omega) | (first | exact Fin_flat trivial rfl rfl | (refine Fin_tup trivial rfl ?_ (Nat.le_of_ble_eq_true rfl); (repeat (first | exact All2.nil | (apply All2.cons; (· first | exact exc_n | exact exc_e | exact exc_v rfl rfl | exact exc_o upd_self rfl rfl)))); done) | (refine Fin_own trivial rfl upd_self ?_ (Nat.le_of_ble_eq_true rfl); (repeat (first | exact All2.nil | (apply All2.cons; (· first | exact exc_n | exact exc_e | exact exc_v rfl rfl | exact exc_o upd_self rfl rfl)))); done) | exact Fin_nil trivial rfl | exact Fin_sl trivial rfl upd_self rfl rfl)
  · rw [decide_eq_false (fun h => h0 h.1)]
    generalize qchk q = e at *
    repeat' (first | (with_reducible first | refine W_seq ?_ | refine then_n ?_ | refine W_block ?_ | refine blk_n ?_ | refine blk_r ?_ | refine blk_e ?_ | refine W_skip ?_ | refine W_ret ?_ | refine then_r ?_ | refine W_exit ?_ | refine then_e ?_) | (refine blk_j (by decide) ?_) | ((with_reducible refine s_reg ?_); intro K hK) | ((with_reducible refine k_nil ?_); (with_reducible apply s_nil hK); (· exact nmX); clear hK; clear K) | ((with_reducible refine k_cond ?_); (first | ((with_reducible apply s_condT); (· rfl); (· exact nmX)) | ((with_reducible apply s_condF); (· rfl); (· exact nmX)) | ((with_reducible apply s_condS); (· rfl); (· exact nmX); (· exact nmX)))) | ((with_reducible refine k_guard ?_); (first | (refine s_gt rfl ?_) | (refine s_gf1 rfl ?_) | (refine s_gfn rfl ?_) | (refine s_gx1 rfl ?_) | (refine s_gxn rfl ?_) | (refine s_gs rfl ?_))) | ((with_reducible refine k_mv ?_); (refine s_mv rfl ?_)) | ((with_reducible refine k_pick ?_); (first | (refine s_pickT rfl rfl ?_) | (refine s_pickF rfl rfl ?_))) | ((with_reducible refine k_neq ?_); (first | (refine s_neq rfl rfl ?_) | (refine s_strNe rfl rfl ?_))) | ((with_reducible refine k_callF ?_); (first | ((with_reducible apply s_call1); (· rfl)) | ((with_reducible apply s_calln); (· rfl)))) | ((with_reducible refine k_con ?_); (first | ((with_reducible apply con_val (c0)); (· (exact agX)); (· rfl); (· exact fun _ => rfl)))) | ((with_reducible refine k_br ?_); (first | (with_reducible first | refine Br_dec ?_ | refine Br_not ?_ | refine Br_eqF ?_ | refine Br_and ?_ | refine Br_or ?_ | refine Br_neg ?_ | refine Br_band ?_ | refine Br_bor ?_ | refine Br_beq ?_) | (refine Br_t (by first | with_reducible rfl | omega | assumption | rfl) ?_) | (refine Br_f (by first | omega | assumption | decide) ?_) | (with_reducible apply Br_sb <;> intro hbr <;> (first | subst hbr | simp only [hbr] | skip)) | (with_reducible apply Br_s <;> intro hbr))) | (with_reducible refine WN_succ ?_) | ((first | (with_reducible apply q_eqI) | (with_reducible apply q_eqN)); (first | exact nuI | exact nuN)) | ((first | (with_reducible apply q_eqL) | (with_reducible apply q_eqO)); (first | exact liL | exact liO)))
    all_goals first | (exfalso; omega) | (first | exact Fin_flat trivial rfl rfl | (refine Fin_tup trivial rfl ?_ (Nat.le_of_ble_eq_true rfl); (repeat (first | exact All2.nil | (apply All2.cons; (· first | exact exc_n | exact exc_e | exact exc_v rfl rfl | exact exc_o upd_self rfl rfl)))); done) | (refine Fin_own trivial rfl upd_self ?_ (Nat.le_of_ble_eq_true rfl); (repeat (first | exact All2.nil | (apply All2.cons; (· first | exact exc_n | exact exc_e | exact exc_v rfl rfl | exact exc_o upd_self rfl rfl)))); done) | exact Fin_nil trivial rfl | exact Fin_sl trivial rfl upd_self rfl rfl)
theorem srvF_ok {q : List Ask} {l : List Acct} {no al : Int} (h0 : qchk q = 0) (h1 : chkF l = 0) (h2 : okQ q l.length) : srvF q l no al = ((srvL q l no al).1, (srvL q l no al).2, 0) := by
  unfold srvF
  rw [if_pos h0, if_pos h1, if_neg (fun ⟨a, ha, h⟩ => by have := (h2 a ha).2; omega)]
theorem kerS_take {q : List Ask} {i : Nat} (h : i < q.length) : kerS (q.take (i + 1)) = kerS (q.take i) + q[i].kernel := by
  rw [List.take_succ_eq_append_getElem h, kerS_snoc]
theorem totS_take {q : List Ask} {i : Nat} (h : i < q.length) : totS (q.take (i + 1)) = totS (q.take i) + totA q[i] := by
  rw [List.take_succ_eq_append_getElem h, totS_snoc]
theorem row_take {c : List D} {i k w : Nat} (h : i < k) : ((c.take (k * w)).drop (i * w)).take w = (c.drop (i * w)).take w := by
  rw [List.drop_take, List.take_take]
  have : (i + 1) * w ≤ k * w := Nat.mul_le_mul_right w h
  rw [Nat.succ_mul] at this
  rw [Nat.min_eq_left (by omega)]
theorem served_c (q : List Ask) (hl : q.length ≤ 100000) (l : List Acct) (hL : l.length ≤ 9223372036854775807) (no al : Int) (hno : no ≤ 9223372036854775807) (hal0 : al ≤ 9223372036854775807) (hv : valQ q l) (k : Nat) (g : List Acct) (hs : srvL q l no al = (k, g)) :
    PCon Try.prog 21 [asks q, accs l, .int .i64 no, .int .i64 al] (.tup [.int .i64 k, .int .i64 (kerS (q.take k)), .int .i64 (totS (q.take k)), .ow 5 (g.flatMap Acct.cells) g.length, .bool true]) := by
  have hq := valQ_ok hv
  obtain ⟨hk, hg, hgl, _⟩ := srv_all q l no al hv.2.1 hq k g hs
  have c1 := serve_c q hl l hL no al hno hal0
  rw [srvF_ok hv.1 hv.2.1 hq, hs] at c1
  simp only [srvR] at c1
  have hal := asks_len q
  have hgc := accs_len g
  have hgs := accs_scal g
  refine A21p (by simp [A21]) ?_
  simp only [A21, argEnv]
  repeat' (first | (with_reducible first | refine W_seq ?_ | refine then_n ?_ | refine W_block ?_ | refine blk_n ?_ | refine blk_r ?_ | refine blk_e ?_ | refine W_skip ?_ | refine W_ret ?_ | refine then_r ?_ | refine W_exit ?_ | refine then_e ?_) | (refine blk_j (by decide) ?_) | ((with_reducible refine s_reg ?_); intro K hK) | ((with_reducible refine k_nil ?_); (with_reducible apply s_nil hK); (· exact nmX); clear hK; clear K) | ((with_reducible refine k_cond ?_); (first | ((with_reducible apply s_condT); (· rfl); (· exact nmX)) | ((with_reducible apply s_condF); (· rfl); (· exact nmX)) | ((with_reducible apply s_condS); (· rfl); (· exact nmX); (· exact nmX)))) | ((with_reducible refine k_guard ?_); (first | (refine s_gt rfl ?_) | (refine s_gf1 rfl ?_) | (refine s_gfn rfl ?_) | (refine s_gx1 rfl ?_) | (refine s_gxn rfl ?_) | (refine s_gs rfl ?_))) | ((with_reducible refine k_mv ?_); (refine s_mv rfl ?_)) | ((with_reducible refine k_extract ?_); (refine s_extract rfl rfl ?_)) | ((with_reducible refine k_len ?_); (first | (refine s_len rfl rfl ?_) | ((with_reducible apply s_len); (· rfl); (· exact SlOwn.len (by assumption))))) | ((with_reducible refine k_pick ?_); (first | (refine s_pickT rfl rfl ?_) | (refine s_pickF rfl rfl ?_))) | ((with_reducible refine k_neq ?_); (first | (refine s_neq rfl rfl ?_) | (refine s_strNe rfl rfl ?_))) | ((with_reducible refine k_lss ?_); (refine s_lss rfl rfl ?_)) | ((with_reducible refine k_gtr ?_); (refine s_gtr rfl rfl ?_)) | ((with_reducible refine k_slice ?_); (first | ((with_reducible apply s_sliceV); (· rfl); (· (first | exact b_none | (apply b_some; (· rfl); (· omega); (· (first | exact nuI | exact nuN))))); (· (first | exact b_none | (apply b_some; (· rfl); (· omega); (· (first | exact nuI | exact nuN))))); (· (first | omega | exact ⟨rfl, by omega⟩ | skip))) | ((with_reducible apply s_sliceO); (· rfl); (· (first | exact b_none | (apply b_some; (· rfl); (· omega); (· (first | exact nuI | exact nuN))))); (· (first | exact b_none | (apply b_some; (· rfl); (· omega); (· (first | exact nuI | exact nuN))))); (· (first | omega | exact ⟨rfl, by omega⟩ | skip))) | ((with_reducible apply s_sliceN); (· rfl); (· (first | exact b_none | (apply b_some; (· rfl); (· omega); (· (first | exact nuI | exact nuN))))); (· (first | exact b_none | (apply b_some; (· rfl); (· omega); (· (first | exact nuI | exact nuN))))); (· (first | omega | exact ⟨rfl, by omega⟩ | skip))))) | ((with_reducible refine k_callF ?_); (first | ((with_reducible apply s_call1); (· rfl)) | ((with_reducible apply s_calln); (· rfl)))) | ((with_reducible refine k_con ?_); (first | ((with_reducible apply con_of_pcon (c1)); (· (exact agX)); intro kG hkG; (try simp only [upd_none] at hkG); simp only [thaw, thawC, List.map, thawH, owOf, owL]))) | ((with_reducible refine k_br ?_); (first | (with_reducible first | refine Br_dec ?_ | refine Br_not ?_ | refine Br_eqF ?_ | refine Br_and ?_ | refine Br_or ?_ | refine Br_neg ?_ | refine Br_band ?_ | refine Br_bor ?_ | refine Br_beq ?_) | (refine Br_t (by first | with_reducible rfl | omega | assumption | rfl) ?_) | (refine Br_f (by first | omega | assumption | decide) ?_) | (with_reducible apply Br_sb <;> intro hbr <;> (first | subst hbr | simp only [hbr] | skip)) | (with_reducible apply Br_s <;> intro hbr))) | (with_reducible refine WN_succ ?_) | ((first | (with_reducible apply q_eqI) | (with_reducible apply q_eqN)); (first | exact nuI | exact nuN)) | ((first | (with_reducible apply q_eqL) | (with_reducible apply q_eqO)); (first | exact liL | exact liO)))
  all_goals first | (exfalso; omega) | skip
  refine W_for k (fun i st => ∃ h', h' kG = some (g.flatMap Acct.cells) ∧ st = ⟨[(8, .int .i64 k), (9, .int .i64 (kerS (q.take i))), (10, .int .i64 (totS (q.take i))), (11, .sl kG 5 0 g.length), (46, .vs 4 ((q.flatMap Ask.cells).take (k * 4)) k), (47, .int .i64 k), (48, .int .i64 i)], h'⟩) ⟨_, upd_self, rfl⟩ ?_ ?_
  · rintro i e' h' hi ⟨h1, hG, he⟩
    cases he
    have hiq : i < q.length := by omega
    have hlc : ((q.flatMap Ask.cells).take (k * 4)).length = k * 4 := by rw [List.length_take, hal, Nat.min_eq_left (by omega)]
    have hrow : (((q.flatMap Ask.cells).take (k * 4)).drop (i * 4)).take 4 = _ := (row_take (by omega)).trans (akr hiq)
    have hva := (qchk_ok.1 hv.1).1
    have b1 := kerS_in (q := q.take i) fun a ha => hva a (List.mem_of_mem_take ha)
    have b2 := totS_in (q := q.take i) fun a ha => hva a (List.mem_of_mem_take ha)
    rw [List.length_take] at b1 b2
    have b3 := (hva _ (List.getElem_mem hiq)).2.2
    rw [kerS_take hiq, totS_take hiq]
    generalize kerS (q.take i) = ks at *
    generalize totS (q.take i) = ts at *
    generalize q[i] = a at *
    obtain ⟨p, c, kr, u⟩ := a
    unfold inR at b3
    dsimp only [Ask.cells, totA] at hrow b3
    dsimp only [totA]
    repeat' (first | (with_reducible first | refine W_seq ?_ | refine then_n ?_ | refine W_block ?_ | refine blk_n ?_ | refine blk_r ?_ | refine blk_e ?_ | refine W_skip ?_ | refine W_ret ?_ | refine then_r ?_ | refine W_exit ?_ | refine then_e ?_) | (refine blk_j (by decide) ?_) | ((with_reducible refine s_reg ?_); intro K hK) | ((with_reducible refine k_nil ?_); (with_reducible apply s_nil hK); (· exact nmX); clear hK; clear K) | ((with_reducible refine k_cond ?_); (first | ((with_reducible apply s_condT); (· rfl); (· exact nmX)) | ((with_reducible apply s_condF); (· rfl); (· exact nmX)) | ((with_reducible apply s_condS); (· rfl); (· exact nmX); (· exact nmX)))) | ((with_reducible refine k_guard ?_); (first | (refine s_gt rfl ?_) | (refine s_gf1 rfl ?_) | (refine s_gfn rfl ?_) | (refine s_gx1 rfl ?_) | (refine s_gxn rfl ?_) | (refine s_gs rfl ?_))) | ((with_reducible refine k_mv ?_); (refine s_mv rfl ?_)) | ((with_reducible refine k_lss ?_); (refine s_lss rfl rfl ?_)) | ((with_reducible refine k_iaddr ?_); (first | ((with_reducible apply s_iaddrV); (· rfl); (· rfl); (· (first | omega | exact ⟨rfl, by omega⟩ | skip))) | ((with_reducible apply s_iaddrO); (· rfl); (· rfl); (· (first | omega | exact ⟨rfl, by omega⟩ | skip)); (· (exact hpX))) | ((with_reducible apply s_iaddrSO); (· rfl); (· assumption); (· rfl); (· (first | omega | exact ⟨rfl, by omega⟩ | skip)); (· (first | (simp (disch := omega) only [w64, wu8, wu16, wu32, wu64, tm_nn, td_nn, fd_nn, Int.reduceAdd, Int.reduceSub, Int.reduceMul, Int.reduceDiv, Int.reduceMod, Int.reduceNeg, Int.reduceToNat, Int.toNat_natCast, Int.toNat_zero, Int.zero_add, Int.add_zero, Int.one_mul, Int.reducePow, Nat.mul_one, Nat.zero_add, Nat.add_zero, Nat.zero_mul, Nat.reduceAdd, Nat.reduceMul, Nat.reduceSub, Nat.min_eq_left, IntKind.bits, Nat.sub_zero, hrow]; try rfl; done) | rfl)); intro ks hks))) | ((with_reducible refine k_load ?_); (first | ((with_reducible apply s_loadV); (· rfl)) | ((with_reducible apply s_loadP); (· rfl); (· (exact hpX))))) | ((with_reducible refine k_loadA ?_); (first | ((with_reducible apply s_loadAV); (· rfl); (· (first | exact Nat.le_of_ble_eq_true rfl | decide | omega | (simp; done) | (simp; omega) | skip))) | ((with_reducible apply s_loadAP); (· rfl); (· (exact hpX)); (· (first | exact Nat.le_of_ble_eq_true rfl | decide | omega | (simp; done) | (simp; omega) | skip))))) | ((with_reducible refine k_add ?_); ((with_reducible apply s_add); (· rfl); (· rfl))) | ((with_reducible refine k_store ?_); ((with_reducible apply s_store0); (· rfl); (· rfl); (· rfl); (· (exact hpX)); (· (exact ⟨rfl, by first | exact Nat.le_of_ble_eq_true rfl | omega | (simp [hrow]; omega)⟩)); (· ((first | (simp (disch := omega) only [upd_self, upd_ne, upd_upd, rep, splice, List.take_succ_cons, List.take_zero, List.drop_succ_cons, List.drop_zero, List.cons_append, List.nil_append, List.append_nil, List.length_cons, List.length_nil, List.reduceReplicate, List.flatten_cons, List.flatten_nil, Nat.reduceAdd, Nat.reduceMul, Nat.reduceSub, Nat.zero_add, Nat.add_zero, List.getElem?_cons_zero, List.getElem?_cons_succ, hrow]; try rfl; done) | rfl))); (· (first | exact upd_upd | rfl)))) | ((with_reducible refine k_faddr ?_); (first | ((with_reducible apply s_faddrV); (· rfl); (· rfl)) | ((with_reducible apply s_faddrP); (· rfl); (· rfl)))) | ((with_reducible refine k_alloc (dst := some 15) ?_); ((with_reducible apply s_alloc); intro k15 hk15; (try simp only [upd_none] at hk15))) | ((with_reducible refine k_br ?_); (first | (with_reducible first | refine Br_dec ?_ | refine Br_not ?_ | refine Br_eqF ?_ | refine Br_and ?_ | refine Br_or ?_ | refine Br_neg ?_ | refine Br_band ?_ | refine Br_bor ?_ | refine Br_beq ?_) | (refine Br_t (by first | with_reducible rfl | omega | assumption | rfl) ?_) | (refine Br_f (by first | omega | assumption | decide) ?_) | (with_reducible apply Br_sb <;> intro hbr <;> (first | subst hbr | simp only [hbr] | skip)) | (with_reducible apply Br_s <;> intro hbr))) | (with_reducible refine WN_succ ?_) | ((first | (with_reducible apply q_eqI) | (with_reducible apply q_eqN)); (first | (simp (disch := omega) only [w64, wu8, wu16, wu32, wu64, tm_nn, td_nn, fd_nn, Int.reduceAdd, Int.reduceSub, Int.reduceMul, Int.reduceDiv, Int.reduceMod, Int.reduceNeg, Int.reduceToNat, Int.toNat_natCast, Int.toNat_zero, Int.zero_add, Int.add_zero, Int.one_mul, Int.reducePow, Nat.mul_one, Nat.zero_add, Nat.add_zero, Nat.zero_mul, Nat.reduceAdd, Nat.reduceMul, Nat.reduceSub, Nat.min_eq_left, IntKind.bits, Nat.sub_zero, hrow]; try rfl; done) | rfl)) | ((first | (with_reducible apply q_eqL) | (with_reducible apply q_eqO)); (first | (simp (disch := omega) only [upd_self, upd_ne, upd_upd, rep, splice, List.take_succ_cons, List.take_zero, List.drop_succ_cons, List.drop_zero, List.cons_append, List.nil_append, List.append_nil, List.length_cons, List.length_nil, List.reduceReplicate, List.flatten_cons, List.flatten_nil, Nat.reduceAdd, Nat.reduceMul, Nat.reduceSub, Nat.zero_add, Nat.add_zero, List.getElem?_cons_zero, List.getElem?_cons_succ, hrow]; try rfl; done) | rfl)))
    all_goals first | (exfalso; omega) | exact ⟨_, hpX, rfl⟩
  · rintro e' h' ⟨h1, hG, he⟩
    cases he
    repeat' (first | (with_reducible first | refine W_seq ?_ | refine then_n ?_ | refine W_block ?_ | refine blk_n ?_ | refine blk_r ?_ | refine blk_e ?_ | refine W_skip ?_ | refine W_ret ?_ | refine then_r ?_ | refine W_exit ?_ | refine then_e ?_) | (refine blk_j (by decide) ?_) | ((with_reducible refine s_reg ?_); intro K hK) | ((with_reducible refine k_nil ?_); (with_reducible apply s_nil hK); (· exact nmX); clear hK; clear K) | ((with_reducible refine k_cond ?_); (first | ((with_reducible apply s_condT); (· rfl); (· exact nmX)) | ((with_reducible apply s_condF); (· rfl); (· exact nmX)) | ((with_reducible apply s_condS); (· rfl); (· exact nmX); (· exact nmX)))) | ((with_reducible refine k_guard ?_); (first | (refine s_gt rfl ?_) | (refine s_gf1 rfl ?_) | (refine s_gfn rfl ?_) | (refine s_gx1 rfl ?_) | (refine s_gxn rfl ?_) | (refine s_gs rfl ?_))) | ((with_reducible refine k_mv ?_); (refine s_mv rfl ?_)) | ((with_reducible refine k_lss ?_); (refine s_lss rfl rfl ?_)) | ((with_reducible refine k_br ?_); (first | (with_reducible first | refine Br_dec ?_ | refine Br_not ?_ | refine Br_eqF ?_ | refine Br_and ?_ | refine Br_or ?_ | refine Br_neg ?_ | refine Br_band ?_ | refine Br_bor ?_ | refine Br_beq ?_) | (refine Br_t (by first | with_reducible rfl | omega | assumption | rfl) ?_) | (refine Br_f (by first | omega | assumption | decide) ?_) | (with_reducible apply Br_sb <;> intro hbr <;> (first | subst hbr | simp only [hbr] | skip)) | (with_reducible apply Br_s <;> intro hbr))) | (with_reducible refine WN_succ ?_) | ((first | (with_reducible apply q_eqI) | (with_reducible apply q_eqN)); (first | exact nuI | exact nuN)) | ((first | (with_reducible apply q_eqL) | (with_reducible apply q_eqO)); (first | exact liL | exact liO)))
    exact Fin_own trivial (ds := [.int .i64 k, .int .i64 (kerS (q.take k)), .int .i64 (totS (q.take k)), .sl kG 5 0 g.length, .bool true]) rfl hG (All2.cons (exc_v rfl rfl) (All2.cons (exc_v rfl rfl) (All2.cons (exc_v rfl rfl) (All2.cons (exc_o hG hgc hgs) (All2.cons (exc_v rfl rfl) All2.nil))))) (Nat.le_of_ble_eq_true rfl)
end Go.Proofs.Ytbepjnjfnmmpaaa
end
section
/- Asks: the laws GrantRest and GrantFifo. -/
set_option linter.unusedSimpArgs false
set_option linter.unusedVariables false
namespace Go.Proofs.Ytbepjnjfnmmpaaa
open Go.AM Classical
set_option maxRecDepth 100000
set_option maxHeartbeats 4000000
theorem firstI_drop {p : Int} {q : List Ask} {i : Nat} (hi : i < q.length) (h : ofF q p = i) (k : Nat) (hk : k ≤ i) : ofF (q.drop k) p = (i - k : Nat) := by
  have h0 : 0 ≤ firstI (isOf p) q := by unfold ofF at h; omega
  unfold ofF firstI at h
  split at h
  · rename_i hl
    have hx : q.findIdx (isOf p) = i := by omega
    obtain ⟨h1, h2⟩ := (List.findIdx_eq hi).1 hx
    unfold ofF
    refine firstI_at (by rw [List.length_drop]; omega) ?_ ?_
    · rw [List.getElem_drop]
      simpa [show k + (i - k) = i by omega] using h1
    · intro j hj
      rw [List.getElem_drop]
      exact h2 (k + j) (by omega)
  · omega
theorem qchk_drop {q : List Ask} (h : qchk q = 0) (k : Nat) : qchk (q.drop k) = 0 := by
  obtain ⟨h1, h2⟩ := qchk_ok.1 h
  refine qchk_ok.2 ⟨fun a ha => h1 a (List.mem_of_mem_drop ha), fun i hi => ?_⟩
  rw [List.length_drop] at hi
  rw [List.getElem_drop]
  have := firstI_drop (by omega) (h2 (k + i) (by omega)) k (by omega)
  rw [this]
  omega
theorem asks_drop (q : List Ask) {k : Nat} (hk : k ≤ q.length) : asks (q.drop k) = .vs 4 (((q.flatMap Ask.cells).drop (k * 4)).take ((q.length - k) * 4)) (q.length - k) := by
  unfold asks
  rw [fm_drop Ask.cells_len, List.take_of_length_le (by rw [asks_len, List.length_drop]; omega), List.length_drop]
theorem rest_c (q : List Ask) (l : List Acct) (hL : l.length ≤ 9223372036854775807) (no al : Int) (hno : -9223372036854775808 ≤ no ∧ no ≤ 9223372036854775807) (hal : -9223372036854775808 ≤ al ∧ al ≤ 9223372036854775807) : PCon Try.prog 5 [asks q, accs l, .agg [.int .i64 no, .int .i64 al]] (.bool true) := by
  refine A5p (by simp [A5]) ?_
  simp only [A5, argEnv]
  have c0 := gfew_c q l
  by_cases hf : q.length ≤ 20 ∧ l.length ≤ 20
  · rw [decide_eq_true hf] at c0
    have cv := gvalq_c q (by omega) l hL
    by_cases hv : valQ q l
    · rw [decide_eq_true hv] at cv
      by_cases hn : 0 ≤ no ∧ 0 ≤ al
      · generalize hs : srvL q l no al = z
        obtain ⟨k, g⟩ := z
        have cS := served_c q (by omega) l hL no al hno.2 hal.2 hv k g hs
        have hq := valQ_ok hv
        obtain ⟨hk, hg, hgl, hu, hb, hr⟩ := srv_all q l no al hv.2.1 hq k g hs
        have hva := (qchk_ok.1 hv.1).1
        have b1 := kerS_in (q := q.take k) fun a ha => hva a (List.mem_of_mem_take ha)
        have b2 := totS_in (q := q.take k) fun a ha => hva a (List.mem_of_mem_take ha)
        rw [List.length_take, Nat.min_eq_left hk] at b1 b2
        have cR := serve_c (q.drop k) (by rw [List.length_drop]; omega) g (by omega) (no - kerS (q.take k)) (al - totS (q.take k)) (by omega) (by omega)
        rw [srvF_ok (qchk_drop hv.1 k) hg (by rw [hgl]; exact okQ_drop hq k), hr, asks_drop q hk] at cR
        simp only [srvR] at cR
        have c3 := same_c g g (by omega)
        rw [decide_eq_true rfl] at c3
        have hal4 := asks_len q
        have hgc := accs_len g
        have hgs := accs_scal g
        clear hs hr hu hb hq hv
        generalize kerS (q.take k) = ks at *
        generalize totS (q.take k) = ts at *
        repeat' (first | (with_reducible first | refine W_seq ?_ | refine then_n ?_ | refine W_skip ?_ | refine W_ret ?_ | refine then_r ?_) | ((with_reducible refine s_reg ?_); intro K hK) | ((with_reducible refine k_nil ?_); (with_reducible apply s_nil hK); (· exact nmX); clear hK; clear K) | ((with_reducible refine k_cond ?_); (first | ((with_reducible apply s_condT); (· rfl); (· exact nmX)) | ((with_reducible apply s_condF); (· rfl); (· exact nmX)) | ((with_reducible apply s_condS); (· rfl); (· exact nmX); (· exact nmX)))) | ((with_reducible refine k_guard ?_); (first | (refine s_gt rfl ?_) | (refine s_gf1 rfl ?_) | (refine s_gfn rfl ?_) | (refine s_gx1 rfl ?_) | (refine s_gxn rfl ?_) | (refine s_gs rfl ?_))) | ((with_reducible refine k_mv ?_); (refine s_mv rfl ?_)) | ((with_reducible refine k_extract ?_); (refine s_extract rfl rfl ?_)) | ((with_reducible refine k_pick ?_); (first | (refine s_pickT rfl rfl ?_) | (refine s_pickF rfl rfl ?_))) | ((with_reducible refine k_not ?_); (refine s_not rfl (by first | exact Bool.not_true | exact Bool.not_false | rfl) ?_)) | ((with_reducible refine k_eql ?_); (first | (refine s_eql rfl rfl ?_) | (refine s_strEq rfl rfl ?_))) | ((with_reducible refine k_lss ?_); (refine s_lss rfl rfl ?_)) | ((with_reducible refine k_iaddrA ?_); (first | ((with_reducible apply s_iaddrAV); (· rfl); (· rfl); (· (first | omega | exact ⟨rfl, by omega⟩ | skip))) | ((with_reducible apply s_iaddrAP); (· rfl); (· rfl); (· (first | omega | exact ⟨rfl, by omega⟩ | skip))))) | ((with_reducible refine k_load ?_); (first | ((with_reducible apply s_loadV); (· rfl)) | ((with_reducible apply s_loadP); (· rfl); (· (exact hpX))))) | ((with_reducible refine k_sub ?_); ((with_reducible apply s_sub); (· rfl); (· rfl))) | ((with_reducible refine k_slice ?_); (first | ((with_reducible apply s_sliceV); (· rfl); (· (first | exact b_none | (apply b_some; (· rfl); (· omega); (· (first | exact nuI | exact nuN))))); (· (first | exact b_none | (apply b_some; (· rfl); (· omega); (· (first | exact nuI | exact nuN))))); (· (first | omega | exact ⟨rfl, by omega⟩ | skip))) | ((with_reducible apply s_sliceO); (· rfl); (· (first | exact b_none | (apply b_some; (· rfl); (· omega); (· (first | exact nuI | exact nuN))))); (· (first | exact b_none | (apply b_some; (· rfl); (· omega); (· (first | exact nuI | exact nuN))))); (· (first | omega | exact ⟨rfl, by omega⟩ | skip))) | ((with_reducible apply s_sliceN); (· rfl); (· (first | exact b_none | (apply b_some; (· rfl); (· omega); (· (first | exact nuI | exact nuN))))); (· (first | exact b_none | (apply b_some; (· rfl); (· omega); (· (first | exact nuI | exact nuN))))); (· (first | omega | exact ⟨rfl, by omega⟩ | skip))))) | ((with_reducible refine k_box (dst := some 5) ?_); ((with_reducible apply s_box); (· rfl); (· rfl); intro k5 hk5; (try simp only [upd_none] at hk5))) | ((with_reducible refine k_callF ?_); (first | ((with_reducible apply s_call1); (· rfl)) | ((with_reducible apply s_calln); (· rfl)))) | ((with_reducible refine k_con ?_); (first | ((with_reducible apply con_val (awake_c)); (· (exact agX)); (· rfl); (· exact fun _ => rfl)) | ((with_reducible apply con_val (c0)); (· (exact agX)); (· rfl); (· exact fun _ => rfl)) | ((with_reducible apply con_val (cv)); (· (exact agX)); (· rfl); (· exact fun _ => rfl)) | ((with_reducible apply con_of_pcon (cS)); (· (exact agX)); intro kG hkG; (try simp only [upd_none] at hkG); simp only [thaw, thawC, List.map, thawH, owOf, owL]) | ((with_reducible apply con_val (c3)); (· (exact agX)); (· rfl); (· exact fun _ => rfl)))) | ((with_reducible refine k_dreg ?_); refine W_dregC (pre := A5d7x) (mid := A5d7m) (suf := A5d7s) rfl rfl rfl rfl rfl rfl ?_; intro K hK) | (with_reducible refine d_nilC ?_) | (with_reducible refine d_nilO ?_) | ((with_reducible apply d_own); (· rfl); (· exact cR); (· (exact agX)); intro kH hkH; (try simp only [upd_none] at hkH); simp only [thaw, thawC, List.map, thawH, owOf, owL]) | ((with_reducible refine k_dreg ?_); refine s_dreg rfl rfl ?_; intro K hK) | (with_reducible refine d_nilS ?_) | ((with_reducible refine k_dnil ?_); (with_reducible apply d_nil hK); (· exact nmX); clear hK; clear K) | ((with_reducible refine k_dguard ?_); (first | (refine d_gt rfl ?_) | (refine d_gf rfl ?_) | (refine d_gx rfl ?_) | (refine d_gs rfl ?_))) | ((with_reducible refine k_dop ?_); refine d_step (by first | exact Or.inl rfl | exact Or.inr rfl) ?_) | (with_reducible refine d_back ?_) | ((with_reducible refine k_br ?_); (first | (with_reducible first | refine Br_dec ?_ | refine Br_not ?_ | refine Br_eqF ?_ | refine Br_and ?_ | refine Br_or ?_ | refine Br_neg ?_ | refine Br_band ?_ | refine Br_bor ?_ | refine Br_beq ?_) | (refine Br_t (by first | with_reducible rfl | omega | assumption | rfl) ?_) | (refine Br_f (by first | omega | assumption | decide) ?_) | (with_reducible apply Br_sb <;> intro hbr <;> (first | subst hbr | simp only [hbr] | skip)) | (with_reducible apply Br_s <;> intro hbr))) | (with_reducible refine WN_succ ?_) | ((first | (with_reducible apply q_eqI) | (with_reducible apply q_eqN)); (first | exact nuI | exact nuN)) | ((first | (with_reducible apply q_eqL) | (with_reducible apply q_eqO)); (first | exact liL | exact liO)))
        all_goals first | (exfalso; omega) | (first | exact Fin_flat trivial rfl rfl | (refine Fin_tup trivial rfl ?_ (Nat.le_of_ble_eq_true rfl); (repeat (first | exact All2.nil | (apply All2.cons; (· first | exact exc_n | exact exc_e | exact exc_v rfl rfl | exact exc_o upd_self rfl rfl)))); done) | (refine Fin_own trivial rfl upd_self ?_ (Nat.le_of_ble_eq_true rfl); (repeat (first | exact All2.nil | (apply All2.cons; (· first | exact exc_n | exact exc_e | exact exc_v rfl rfl | exact exc_o upd_self rfl rfl)))); done) | exact Fin_nil trivial rfl | exact Fin_sl trivial rfl upd_self rfl rfl)
      · repeat' (first | (with_reducible first | refine W_seq ?_ | refine then_n ?_ | refine W_skip ?_ | refine W_ret ?_ | refine then_r ?_) | ((with_reducible refine s_reg ?_); intro K hK) | ((with_reducible refine k_nil ?_); (with_reducible apply s_nil hK); (· exact nmX); clear hK; clear K) | ((with_reducible refine k_cond ?_); (first | ((with_reducible apply s_condT); (· rfl); (· exact nmX)) | ((with_reducible apply s_condF); (· rfl); (· exact nmX)) | ((with_reducible apply s_condS); (· rfl); (· exact nmX); (· exact nmX)))) | ((with_reducible refine k_guard ?_); (first | (refine s_gt rfl ?_) | (refine s_gf1 rfl ?_) | (refine s_gfn rfl ?_) | (refine s_gx1 rfl ?_) | (refine s_gxn rfl ?_) | (refine s_gs rfl ?_))) | ((with_reducible refine k_mv ?_); (refine s_mv rfl ?_)) | ((with_reducible refine k_pick ?_); (first | (refine s_pickT rfl rfl ?_) | (refine s_pickF rfl rfl ?_))) | ((with_reducible refine k_not ?_); (refine s_not rfl (by first | exact Bool.not_true | exact Bool.not_false | rfl) ?_)) | ((with_reducible refine k_lss ?_); (refine s_lss rfl rfl ?_)) | ((with_reducible refine k_iaddrA ?_); (first | ((with_reducible apply s_iaddrAV); (· rfl); (· rfl); (· (first | omega | exact ⟨rfl, by omega⟩ | skip))) | ((with_reducible apply s_iaddrAP); (· rfl); (· rfl); (· (first | omega | exact ⟨rfl, by omega⟩ | skip))))) | ((with_reducible refine k_load ?_); (first | ((with_reducible apply s_loadV); (· rfl)) | ((with_reducible apply s_loadP); (· rfl); (· (exact hpX))))) | ((with_reducible refine k_box (dst := some 5) ?_); ((with_reducible apply s_box); (· rfl); (· rfl); intro k5 hk5; (try simp only [upd_none] at hk5))) | ((with_reducible refine k_callF ?_); (first | ((with_reducible apply s_call1); (· rfl)) | ((with_reducible apply s_calln); (· rfl)))) | ((with_reducible refine k_con ?_); (first | ((with_reducible apply con_val (awake_c)); (· (exact agX)); (· rfl); (· exact fun _ => rfl)) | ((with_reducible apply con_val (c0)); (· (exact agX)); (· rfl); (· exact fun _ => rfl)) | ((with_reducible apply con_val (cv)); (· (exact agX)); (· rfl); (· exact fun _ => rfl)))) | ((with_reducible refine k_dreg ?_); refine s_dreg rfl rfl ?_; intro K hK) | (with_reducible refine d_nilS ?_) | ((with_reducible refine k_dnil ?_); (with_reducible apply d_nil hK); (· exact nmX); clear hK; clear K) | ((with_reducible refine k_dguard ?_); (first | (refine d_gt rfl ?_) | (refine d_gf rfl ?_) | (refine d_gx rfl ?_) | (refine d_gs rfl ?_))) | ((with_reducible refine k_dop ?_); refine d_step (by first | exact Or.inl rfl | exact Or.inr rfl) ?_) | (with_reducible refine d_back ?_) | ((with_reducible refine k_br ?_); (first | (with_reducible first | refine Br_dec ?_ | refine Br_not ?_ | refine Br_eqF ?_ | refine Br_and ?_ | refine Br_or ?_ | refine Br_neg ?_ | refine Br_band ?_ | refine Br_bor ?_ | refine Br_beq ?_) | (refine Br_t (by first | with_reducible rfl | omega | assumption | rfl) ?_) | (refine Br_f (by first | omega | assumption | decide) ?_) | (with_reducible apply Br_sb <;> intro hbr <;> (first | subst hbr | simp only [hbr] | skip)) | (with_reducible apply Br_s <;> intro hbr))) | (with_reducible refine WN_succ ?_) | ((first | (with_reducible apply q_eqI) | (with_reducible apply q_eqN)); (first | exact nuI | exact nuN)) | ((first | (with_reducible apply q_eqL) | (with_reducible apply q_eqO)); (first | exact liL | exact liO)))
        all_goals first | (exfalso; omega) | (first | exact Fin_flat trivial rfl rfl | (refine Fin_tup trivial rfl ?_ (Nat.le_of_ble_eq_true rfl); (repeat (first | exact All2.nil | (apply All2.cons; (· first | exact exc_n | exact exc_e | exact exc_v rfl rfl | exact exc_o upd_self rfl rfl)))); done) | (refine Fin_own trivial rfl upd_self ?_ (Nat.le_of_ble_eq_true rfl); (repeat (first | exact All2.nil | (apply All2.cons; (· first | exact exc_n | exact exc_e | exact exc_v rfl rfl | exact exc_o upd_self rfl rfl)))); done) | exact Fin_nil trivial rfl | exact Fin_sl trivial rfl upd_self rfl rfl)
    · rw [decide_eq_false hv] at cv
      repeat' (first | (with_reducible first | refine W_seq ?_ | refine then_n ?_ | refine W_skip ?_ | refine W_ret ?_ | refine then_r ?_) | ((with_reducible refine s_reg ?_); intro K hK) | ((with_reducible refine k_nil ?_); (with_reducible apply s_nil hK); (· exact nmX); clear hK; clear K) | ((with_reducible refine k_cond ?_); (first | ((with_reducible apply s_condT); (· rfl); (· exact nmX)) | ((with_reducible apply s_condF); (· rfl); (· exact nmX)) | ((with_reducible apply s_condS); (· rfl); (· exact nmX); (· exact nmX)))) | ((with_reducible refine k_guard ?_); (first | (refine s_gt rfl ?_) | (refine s_gf1 rfl ?_) | (refine s_gfn rfl ?_) | (refine s_gx1 rfl ?_) | (refine s_gxn rfl ?_) | (refine s_gs rfl ?_))) | ((with_reducible refine k_mv ?_); (refine s_mv rfl ?_)) | ((with_reducible refine k_pick ?_); (first | (refine s_pickT rfl rfl ?_) | (refine s_pickF rfl rfl ?_))) | ((with_reducible refine k_not ?_); (refine s_not rfl (by first | exact Bool.not_true | exact Bool.not_false | rfl) ?_)) | ((with_reducible refine k_lss ?_); (refine s_lss rfl rfl ?_)) | ((with_reducible refine k_iaddrA ?_); (first | ((with_reducible apply s_iaddrAV); (· rfl); (· rfl); (· (first | omega | exact ⟨rfl, by omega⟩ | skip))) | ((with_reducible apply s_iaddrAP); (· rfl); (· rfl); (· (first | omega | exact ⟨rfl, by omega⟩ | skip))))) | ((with_reducible refine k_load ?_); (first | ((with_reducible apply s_loadV); (· rfl)) | ((with_reducible apply s_loadP); (· rfl); (· (exact hpX))))) | ((with_reducible refine k_box (dst := some 5) ?_); ((with_reducible apply s_box); (· rfl); (· rfl); intro k5 hk5; (try simp only [upd_none] at hk5))) | ((with_reducible refine k_callF ?_); (first | ((with_reducible apply s_call1); (· rfl)) | ((with_reducible apply s_calln); (· rfl)))) | ((with_reducible refine k_con ?_); (first | ((with_reducible apply con_val (awake_c)); (· (exact agX)); (· rfl); (· exact fun _ => rfl)) | ((with_reducible apply con_val (c0)); (· (exact agX)); (· rfl); (· exact fun _ => rfl)) | ((with_reducible apply con_val (cv)); (· (exact agX)); (· rfl); (· exact fun _ => rfl)))) | ((with_reducible refine k_dreg ?_); refine s_dreg rfl rfl ?_; intro K hK) | (with_reducible refine d_nilS ?_) | ((with_reducible refine k_dnil ?_); (with_reducible apply d_nil hK); (· exact nmX); clear hK; clear K) | ((with_reducible refine k_dguard ?_); (first | (refine d_gt rfl ?_) | (refine d_gf rfl ?_) | (refine d_gx rfl ?_) | (refine d_gs rfl ?_))) | ((with_reducible refine k_dop ?_); refine d_step (by first | exact Or.inl rfl | exact Or.inr rfl) ?_) | (with_reducible refine d_back ?_) | ((with_reducible refine k_br ?_); (first | (with_reducible first | refine Br_dec ?_ | refine Br_not ?_ | refine Br_eqF ?_ | refine Br_and ?_ | refine Br_or ?_ | refine Br_neg ?_ | refine Br_band ?_ | refine Br_bor ?_ | refine Br_beq ?_) | (refine Br_t (by first | with_reducible rfl | omega | assumption | rfl) ?_) | (refine Br_f (by first | omega | assumption | decide) ?_) | (with_reducible apply Br_sb <;> intro hbr <;> (first | subst hbr | simp only [hbr] | skip)) | (with_reducible apply Br_s <;> intro hbr))) | (with_reducible refine WN_succ ?_) | ((first | (with_reducible apply q_eqI) | (with_reducible apply q_eqN)); (first | exact nuI | exact nuN)) | ((first | (with_reducible apply q_eqL) | (with_reducible apply q_eqO)); (first | exact liL | exact liO)))
      all_goals first | (exfalso; omega) | (first | exact Fin_flat trivial rfl rfl | (refine Fin_tup trivial rfl ?_ (Nat.le_of_ble_eq_true rfl); (repeat (first | exact All2.nil | (apply All2.cons; (· first | exact exc_n | exact exc_e | exact exc_v rfl rfl | exact exc_o upd_self rfl rfl)))); done) | (refine Fin_own trivial rfl upd_self ?_ (Nat.le_of_ble_eq_true rfl); (repeat (first | exact All2.nil | (apply All2.cons; (· first | exact exc_n | exact exc_e | exact exc_v rfl rfl | exact exc_o upd_self rfl rfl)))); done) | exact Fin_nil trivial rfl | exact Fin_sl trivial rfl upd_self rfl rfl)
  · rw [decide_eq_false hf] at c0
    repeat' (first | (with_reducible first | refine W_seq ?_ | refine then_n ?_ | refine W_skip ?_ | refine W_ret ?_ | refine then_r ?_) | ((with_reducible refine s_reg ?_); intro K hK) | ((with_reducible refine k_nil ?_); (with_reducible apply s_nil hK); (· exact nmX); clear hK; clear K) | ((with_reducible refine k_cond ?_); (first | ((with_reducible apply s_condT); (· rfl); (· exact nmX)) | ((with_reducible apply s_condF); (· rfl); (· exact nmX)) | ((with_reducible apply s_condS); (· rfl); (· exact nmX); (· exact nmX)))) | ((with_reducible refine k_guard ?_); (first | (refine s_gt rfl ?_) | (refine s_gf1 rfl ?_) | (refine s_gfn rfl ?_) | (refine s_gx1 rfl ?_) | (refine s_gxn rfl ?_) | (refine s_gs rfl ?_))) | ((with_reducible refine k_mv ?_); (refine s_mv rfl ?_)) | ((with_reducible refine k_pick ?_); (first | (refine s_pickT rfl rfl ?_) | (refine s_pickF rfl rfl ?_))) | ((with_reducible refine k_not ?_); (refine s_not rfl (by first | exact Bool.not_true | exact Bool.not_false | rfl) ?_)) | ((with_reducible refine k_lss ?_); (refine s_lss rfl rfl ?_)) | ((with_reducible refine k_iaddrA ?_); (first | ((with_reducible apply s_iaddrAV); (· rfl); (· rfl); (· (first | omega | exact ⟨rfl, by omega⟩ | skip))) | ((with_reducible apply s_iaddrAP); (· rfl); (· rfl); (· (first | omega | exact ⟨rfl, by omega⟩ | skip))))) | ((with_reducible refine k_load ?_); (first | ((with_reducible apply s_loadV); (· rfl)) | ((with_reducible apply s_loadP); (· rfl); (· (exact hpX))))) | ((with_reducible refine k_box (dst := some 5) ?_); ((with_reducible apply s_box); (· rfl); (· rfl); intro k5 hk5; (try simp only [upd_none] at hk5))) | ((with_reducible refine k_callF ?_); (first | ((with_reducible apply s_call1); (· rfl)) | ((with_reducible apply s_calln); (· rfl)))) | ((with_reducible refine k_con ?_); (first | ((with_reducible apply con_val (awake_c)); (· (exact agX)); (· rfl); (· exact fun _ => rfl)) | ((with_reducible apply con_val (c0)); (· (exact agX)); (· rfl); (· exact fun _ => rfl)))) | ((with_reducible refine k_dreg ?_); refine s_dreg rfl rfl ?_; intro K hK) | (with_reducible refine d_nilS ?_) | ((with_reducible refine k_dnil ?_); (with_reducible apply d_nil hK); (· exact nmX); clear hK; clear K) | ((with_reducible refine k_dguard ?_); (first | (refine d_gt rfl ?_) | (refine d_gf rfl ?_) | (refine d_gx rfl ?_) | (refine d_gs rfl ?_))) | ((with_reducible refine k_dop ?_); refine d_step (by first | exact Or.inl rfl | exact Or.inr rfl) ?_) | (with_reducible refine d_back ?_) | ((with_reducible refine k_br ?_); (first | (with_reducible first | refine Br_dec ?_ | refine Br_not ?_ | refine Br_eqF ?_ | refine Br_and ?_ | refine Br_or ?_ | refine Br_neg ?_ | refine Br_band ?_ | refine Br_bor ?_ | refine Br_beq ?_) | (refine Br_t (by first | with_reducible rfl | omega | assumption | rfl) ?_) | (refine Br_f (by first | omega | assumption | decide) ?_) | (with_reducible apply Br_sb <;> intro hbr <;> (first | subst hbr | simp only [hbr] | skip)) | (with_reducible apply Br_s <;> intro hbr))) | (with_reducible refine WN_succ ?_) | ((first | (with_reducible apply q_eqI) | (with_reducible apply q_eqN)); (first | exact nuI | exact nuN)) | ((first | (with_reducible apply q_eqL) | (with_reducible apply q_eqO)); (first | exact liL | exact liO)))
    all_goals first | (exfalso; omega) | (first | exact Fin_flat trivial rfl rfl | (refine Fin_tup trivial rfl ?_ (Nat.le_of_ble_eq_true rfl); (repeat (first | exact All2.nil | (apply All2.cons; (· first | exact exc_n | exact exc_e | exact exc_v rfl rfl | exact exc_o upd_self rfl rfl)))); done) | (refine Fin_own trivial rfl upd_self ?_ (Nat.le_of_ble_eq_true rfl); (repeat (first | exact All2.nil | (apply All2.cons; (· first | exact exc_n | exact exc_e | exact exc_v rfl rfl | exact exc_o upd_self rfl rfl)))); done) | exact Fin_nil trivial rfl | exact Fin_sl trivial rfl upd_self rfl rfl)
theorem rest_t : ∀ dts, All2 (TypedA Try.prog) Try.f5.params.toList dts → PCon Try.prog 5 dts (.bool true) := by
  intro dts h
  rw [Try.params5] at h
  obtain ⟨a, b, c, rfl, ha, hb, hc⟩ := three_args h
  obtain ⟨q, rfl⟩ := typed_asks ha
  obtain ⟨l, rfl, hl, _⟩ := typed_accs hb
  obtain ⟨x, y, rfl, hx, hy⟩ := typed_two hc
  exact rest_c q l (maxLen_le hl) x y hx hy
end Go.Proofs.Ytbepjnjfnmmpaaa
end
