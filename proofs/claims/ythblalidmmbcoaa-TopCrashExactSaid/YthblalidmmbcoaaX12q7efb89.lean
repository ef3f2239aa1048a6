import Derived.Test.YthblalidmmbcoaaY2qd7f45e
import Derived.Test.YthblalidmmbcoaaAmZ3qbd265f
import Derived.Test.YthblalidmmbcoaaI2qbad588
section
/- min -/
/- A device that is driven. -/
set_option linter.unusedSimpArgs false
set_option linter.unusedVariables false
namespace Go.Proofs.Ythblalidmmbcoaa
open Go.AM Classical
set_option maxRecDepth 100000
set_option maxHeartbeats 4000000
theorem dPage_v (a : Int) : PCon Try.prog 55 [.int .u8 a] (bD (pg a)) := by
  have := pcon_unow (dPage_c a)
  unfold bD
  rw [pg_len]
  exact this
theorem Rn_dvn {h : Heap} {d : Dv} : Rn h (.agg (dvn d)) (dvD d) := Rn_ag (All2.cons (Rn_scal rfl) (All2.cons (Rn_scal rfl) (All2.cons Rn_vn (All2.cons Rn_vn (All2.cons Rn_vn All2.nil)))))
theorem hv_rn {h : Heap} : ∀ {l : List Ev}, (∀ x ∈ l, x.kind ≠ 1 → x.data = []) → All2 (Rn h) (l.flatMap Ev.hv) (l.flatMap Ev.cells)
  | [], _ => All2.nil
  | x :: r, hx => by
    rw [List.flatMap_cons, List.flatMap_cons]
    refine All2.append ?_ (hv_rn fun y hy => hx y (List.mem_cons_of_mem _ hy))
    refine All2.cons (Rn_scal rfl) (All2.cons (Rn_scal rfl) (All2.cons (Rn_scal rfl) (All2.cons ?_ All2.nil)))
    by_cases hk : x.kind = 1
    · rw [if_pos hk]; exact Rn_vn
    · rw [if_neg hk, hx x List.mem_cons_self hk]; exact Rn_nil
theorem drive_c (l : List Io) (hl : l.length ≤ 20) (hu : ∀ o ∈ l, o.kind < 256 ∧ o.block < 256 ∧ o.value < 256 ∧ o.at_ < 256) :
    PCon Try.prog 34 [iosD l] (.tup [dvD (drvF l).1, bsD drv0.1.blocks, evD (drvF l).2, .bool true]) := by
  have c0 := dPage_v 0
  have cN := new_c [pg 0, pg 0, pg 0] (by simp) (by simp [pg_len])
  refine A34p (by simp [A34]) ?_
  simp only [A34, argEnv]
  repeat' (first | (with_reducible first | refine W_seq ?_ | refine then_n ?_ | refine W_block ?_ | refine W_skip ?_) | ((with_reducible refine s_reg ?_); intro K hK) | ((with_reducible refine k_nil ?_); (with_reducible apply s_nil hK); (· exact nmX); clear hK; clear K) | ((with_reducible refine k_cond ?_); (((with_reducible apply s_condF); (· rfl); (· exact nmX)))) | ((with_reducible refine k_mv ?_); (refine s_mv rfl ?_)) | ((with_reducible refine k_extract ?_); (refine s_extract rfl rfl ?_)) | ((with_reducible refine k_neq ?_); ((refine s_neq rfl rfl ?_))) | ((with_reducible refine k_store ?_); ((with_reducible apply s_store0); (· rfl); (· rfl); (· rfl); (· (exact hpX)); (· (exact ⟨rfl, by exact Nat.le_of_ble_eq_true rfl⟩)); (· ((exact liL))); (· (exact upd_upd)))) | ((with_reducible refine k_alloc (dst := some 2) ?_); ((with_reducible apply s_alloc); intro k2 hk2; (try simp only [upd_none] at hk2))) | ((with_reducible refine k_alloc (dst := some 7) ?_); ((with_reducible apply s_alloc); intro k7 hk7; (try simp only [upd_none] at hk7))) | ((with_reducible refine k_buildS (dst := some 27) ?_); ((with_reducible apply s_buildS); (· rfl); (· (exact ⟨rfl, by decide⟩)); (· ((simp only [fillB, rep, splice, List.reduceReplicate, List.flatten_cons, List.flatten_nil, List.cons_append, List.nil_append, List.append_nil, List.length_cons, List.length_nil, Nat.reduceAdd, Nat.reduceMul, Nat.reduceLeDiff, Nat.reduceEqDiff, eq_self, Nat.le_refl, Nat.zero_add, and_self, and_true, true_and, if_true, List.take_zero, List.take_succ_cons, List.drop_zero, List.drop_succ_cons, List.drop_nil, List.take_nil]; rfl))); intro k27 hk27; (try simp only [upd_none] at hk27))) | ((with_reducible refine k_callF ?_); (((with_reducible apply s_call1); (· rfl)))) | ((with_reducible refine k_con ?_); (first | ((with_reducible apply con_of_pconN (c0)); (· (repeat (first | exact All2.nil | (apply All2.cons; (· first | exact rdX))))); simp only [unow, unowC, List.map, vnw, vnC, vnC1]) | ((with_reducible apply con_of_pconN (cN)); (· (repeat (first | exact All2.nil | (apply All2.cons; (· first | exact Rd_slR upd_self (All2.cons Rd_vn (All2.cons Rd_vn (All2.cons Rd_vn All2.nil))) rfl | exact rdX))))); simp only [unow, unowC, List.map, vnw, vnC, vnC1]))) | ((with_reducible refine k_br ?_); ((refine Br_t (by with_reducible rfl) ?_))))
  have n1 := hk27.1
  have n2 := hk7.1
  have n3 := hk7.2.1
  generalize hH : upd (upd (upd (fun _ => none) k2 _) k27 _) k7 _ = H0
  have b2 : H0 k2 = some [.int .i64 0, .int .i64 0, .nil, .nil, .nil] := by rw [← hH, upd_ne n3.symm, upd_ne n1.symm]; exact upd_self
  have b27 : H0 k27 = some [nD (pg 0), nD (pg 0), nD (pg 0)] := by rw [← hH, upd_ne n2.symm]; exact upd_self
  have b7 : H0 k7 = some (dvn drv0.1) := by rw [← hH]; exact upd_self
  clear hH hk27 hk7
  refine W_for l.length (fun i st => ∃ dh h', st = ⟨[(0, iosD l), (2, .pt k2 0), (6, .sl k27 1 0 3), (7, .pt k7 0), (9, dh), (10, .int .i64 i)], h'⟩ ∧ DrI k2 k27 k7 dh h' (drvF (l.take i)))
    ⟨_, _, rfl, ⟨b2, b27, b7, SlOwn.nil, Fr.nil, Fr.nil, Fr.nil⟩⟩ ?_ ?_
  · clear b2 b27 b7
    rintro i e' h' hi ⟨dh, h1, he, I⟩
    cases he
    have Dd := drv_take l hl i (Nat.le_of_lt hi)
    rw [drv_s hi]
    have hrow := Io.row hi
    have hlL := fm_len Io.cells_len l
    obtain ⟨u1, u2, u3, u4⟩ := hu _ (List.getElem_mem hi)
    generalize drvF (l.take i) = s at *
    generalize l[i] = o at *
    obtain ⟨d, evs⟩ := s
    obtain ⟨ok, ob, ov, oa⟩ := o
    obtain ⟨i2, i27, i7, io, f2, f27, f7⟩ := I
    dsimp only at *
    have hnx := Dd.nx
    have hnx0 := Dd.ok.next
    have hq4 := Dd.q4
    have hel := Dd.el
    have hdep := Dd.dep
    have hbl := Dd.bl
    have hok := Dd.ok
    dsimp only at hnx hnx0 hq4 hel hdep hbl hok
    by_cases hk0 : ok % 4 = 0
    · have cP := dPage_v ((1 + ov % 9 : Nat) : Int)
      have em : ((ob % 3 : Nat) : Int) = (ob : Int) % 3 := by omega
      have cS := submit_c d hok 2 ((ob % 3 : Nat) : Int) (pg ((1 + ov % 9 : Nat) : Int)) (rq_w hbl (Nat.mod_lt _ (by decide)) (pg_len _)) (by omega)
      have hst : drvS (d, evs) ⟨ok, ob, ov, oa⟩ = if d.queue.length = 4 then (d, evs) else (subD d 2 (ob % 3 : Nat) (pg ((1 + ov % 9 : Nat) : Int)), evs ++ [⟨1, d.next, (ob % 3 : Nat), pg ((1 + ov % 9 : Nat) : Int)⟩]) := by
        unfold drvS; rw [if_pos hk0]
      rw [hst]
      rw [em] at cS ⊢
      rw [Int.natCast_add 1 (ov % 9)] at cP cS ⊢
      generalize hpg : pg (((1 : Nat) : Int) + ((ov % 9 : Nat) : Int)) = x at *
      clear hpg hst em
      by_cases hfull : d.queue.length = 4
      · rw [if_pos hfull]
        rw [if_pos (by omega), if_pos (by omega), if_pos (by omega)] at cS
        repeat' (first | (with_reducible first | refine W_seq ?_ | refine then_n ?_ | refine W_block ?_ | refine blk_n ?_ | refine W_skip ?_) | ((with_reducible refine s_reg ?_); intro K hK) | ((with_reducible refine k_nil ?_); (with_reducible apply s_nil hK); (· exact nmX); clear hK; clear K) | ((with_reducible refine k_cond ?_); (first | ((with_reducible apply s_condT); (· rfl); (· exact nmX)) | ((with_reducible apply s_condF); (· rfl); (· exact nmX)))) | ((with_reducible refine k_mv ?_); (refine s_mv rfl ?_)) | ((with_reducible refine k_extract ?_); (refine s_extract rfl rfl ?_)) | ((with_reducible refine k_len ?_); ((refine s_len rfl rfl ?_))) | ((with_reducible refine k_eql ?_); ((refine s_eql rfl rfl ?_))) | ((with_reducible refine k_lss ?_); (refine s_lss rfl rfl ?_)) | ((with_reducible refine k_iaddr ?_); (((with_reducible apply s_iaddrV); (· rfl); (· rfl); (· (omega))))) | ((with_reducible refine k_load ?_); (((with_reducible apply s_loadP); (· rfl); (· (exact hpX))))) | ((with_reducible refine k_loadA ?_); (first | ((with_reducible apply s_loadAV); (· rfl); (· (omega))) | ((with_reducible apply s_loadAP); (· rfl); (· (exact hpX)); (· (exact Nat.le_of_ble_eq_true rfl))))) | ((with_reducible refine k_add ?_); ((with_reducible apply s_add); (· rfl); (· rfl))) | ((with_reducible refine k_rem ?_); ((with_reducible apply s_rem); (· rfl); (· rfl); (· omega))) | ((with_reducible refine k_conv ?_); ((with_reducible apply s_conv); (· rfl))) | ((with_reducible refine k_store ?_); ((with_reducible apply s_store0); (· rfl); (· rfl); (· rfl); (· (exact hpX)); (· (exact ⟨rfl, by exact Nat.le_of_ble_eq_true rfl⟩)); (· (((simp (disch := omega) only [upd_self, upd_ne, upd_upd, rep, splice, List.take_succ_cons, List.take_zero, List.drop_succ_cons, List.drop_zero, List.cons_append, List.nil_append, List.append_nil, List.length_cons, List.length_nil, List.reduceReplicate, List.flatten_cons, List.flatten_nil, Nat.reduceAdd, Nat.reduceMul, Nat.reduceSub, Nat.zero_add, Nat.add_zero, List.getElem?_cons_zero, List.getElem?_cons_succ, hrow, Int.toNat_natCast]; try rfl; done)))); (· (exact upd_upd)))) | ((with_reducible refine k_faddr ?_); (((with_reducible apply s_faddrP); (· rfl); (· rfl)))) | ((with_reducible refine k_alloc (dst := some 11) ?_); ((with_reducible apply s_alloc); intro k11 hk11; (try simp only [upd_none] at hk11))) | ((with_reducible refine k_alloc (dst := some 14) ?_); ((with_reducible apply s_alloc); intro k14 hk14; (try simp only [upd_none] at hk14))) | ((with_reducible refine k_callF ?_); (((with_reducible apply s_call1); (· rfl)))) | ((with_reducible refine k_con ?_); (((with_reducible apply con_of_pconN (cS)); (· (repeat (first | exact All2.nil | (apply All2.cons; (· first | exact Rd_dvn | exact rdX))))); simp only [unow, unowC, List.map, vnw, vnC, vnC1]))) | ((with_reducible refine k_dreg ?_); refine s_dreg rfl rfl ?_; intro K hK) | ((with_reducible refine k_dnil ?_); (with_reducible apply d_nil hK); (· exact nmX); clear hK; clear K) | ((with_reducible refine k_dcall ?_); (((with_reducible apply d_callN); (· rfl); (· exact cP); (· (repeat (first | exact All2.nil | (apply All2.cons; (· first | exact rdX))))); simp only [unow, unowC, List.map, vnw, vnC, vnC1]))) | ((with_reducible refine k_dop ?_); refine d_step (by first | exact Or.inl rfl | exact Or.inr rfl) ?_) | (with_reducible refine d_back ?_) | ((with_reducible refine k_br ?_); (first | (refine Br_t (by omega) ?_) | (refine Br_f (by omega) ?_))) | ((first | (with_reducible apply q_eqI) | (with_reducible apply q_eqN)); ((simp (disch := omega) only [w64, wu8, wu16, wu32, wu64, tm_nn, td_nn, fd_nn, Int.reduceAdd, Int.reduceSub, Int.reduceMul, Int.reduceDiv, Int.reduceMod, Int.reduceNeg, Int.reduceToNat, Int.toNat_natCast, Int.toNat_zero, Int.zero_add, Int.add_zero, Int.one_mul, Int.reducePow, Nat.mul_one, Nat.zero_add, Nat.add_zero, Nat.zero_mul, Nat.reduceAdd, Nat.reduceMul, Nat.reduceSub, Nat.min_eq_left, IntKind.bits, Nat.sub_zero, hrow, Int.toNat_natCast]; try rfl; done))) | ((first | (with_reducible apply q_eqL) | (with_reducible apply q_eqO)); ((simp (disch := omega) only [upd_self, upd_ne, upd_upd, rep, splice, List.take_succ_cons, List.take_zero, List.drop_succ_cons, List.drop_zero, List.cons_append, List.nil_append, List.append_nil, List.length_cons, List.length_nil, List.reduceReplicate, List.flatten_cons, List.flatten_nil, Nat.reduceAdd, Nat.reduceMul, Nat.reduceSub, Nat.zero_add, Nat.add_zero, List.getElem?_cons_zero, List.getElem?_cons_succ, hrow, Int.toNat_natCast]; try rfl; done))))
        have s2 : ∀ {z : Nat} {c y w : List D}, h' z = some c → upd (upd h' k11 y) k14 w z = some c := fun {z c y w} hz => upd_sub (by rw [upd_ne hk14.1]; exact hk14.2) _ _ (upd_sub hk11 _ _ hz)
        exact ⟨_, _, rfl, ⟨s2 i2, s2 i27, s2 i7, so_mv io fun k s o m e c hc => s2 hc, f2, f27, f7⟩⟩
      · rw [if_neg hfull]
        rw [if_neg (by omega), if_neg (by omega), if_neg (by omega)] at cS
        repeat' (first | (with_reducible first | refine W_seq ?_ | refine then_n ?_ | refine W_block ?_ | refine W_skip ?_) | ((with_reducible refine s_reg ?_); intro K hK) | ((with_reducible refine k_nil ?_); (with_reducible apply s_nil hK); (· exact nmX); clear hK; clear K) | ((with_reducible refine k_cond ?_); (((with_reducible apply s_condT); (· rfl); (· exact nmX)))) | ((with_reducible refine k_mv ?_); (refine s_mv rfl ?_)) | ((with_reducible refine k_extract ?_); (refine s_extract rfl rfl ?_)) | ((with_reducible refine k_len ?_); ((refine s_len rfl rfl ?_))) | ((with_reducible refine k_eql ?_); ((refine s_eql rfl rfl ?_))) | ((with_reducible refine k_lss ?_); (refine s_lss rfl rfl ?_)) | ((with_reducible refine k_iaddr ?_); (((with_reducible apply s_iaddrV); (· rfl); (· rfl); (· (omega))))) | ((with_reducible refine k_load ?_); (((with_reducible apply s_loadP); (· rfl); (· (exact hpX))))) | ((with_reducible refine k_loadA ?_); (first | ((with_reducible apply s_loadAV); (· rfl); (· (omega))) | ((with_reducible apply s_loadAP); (· rfl); (· (exact hpX)); (· (exact Nat.le_of_ble_eq_true rfl))))) | ((with_reducible refine k_add ?_); ((with_reducible apply s_add); (· rfl); (· rfl))) | ((with_reducible refine k_rem ?_); ((with_reducible apply s_rem); (· rfl); (· rfl); (· omega))) | ((with_reducible refine k_conv ?_); ((with_reducible apply s_conv); (· rfl))) | ((with_reducible refine k_store ?_); ((with_reducible apply s_store0); (· rfl); (· rfl); (· rfl); (· (exact hpX)); (· (exact ⟨rfl, by exact Nat.le_of_ble_eq_true rfl⟩)); (· (((simp (disch := omega) only [upd_self, upd_ne, upd_upd, rep, splice, List.take_succ_cons, List.take_zero, List.drop_succ_cons, List.drop_zero, List.cons_append, List.nil_append, List.append_nil, List.length_cons, List.length_nil, List.reduceReplicate, List.flatten_cons, List.flatten_nil, Nat.reduceAdd, Nat.reduceMul, Nat.reduceSub, Nat.zero_add, Nat.add_zero, List.getElem?_cons_zero, List.getElem?_cons_succ, hrow, Int.toNat_natCast]; try rfl; done)))); (· (first | exact upd_upd | rfl)))) | ((with_reducible refine k_faddr ?_); (((with_reducible apply s_faddrP); (· rfl); (· rfl)))) | ((with_reducible refine k_alloc (dst := some 11) ?_); ((with_reducible apply s_alloc); intro k11 hk11; (try simp only [upd_none] at hk11))) | ((with_reducible refine k_alloc (dst := some 14) ?_); ((with_reducible apply s_alloc); intro k14 hk14; (try simp only [upd_none] at hk14))) | ((with_reducible refine k_callF ?_); (((with_reducible apply s_call1); (· rfl)))) | ((with_reducible refine k_con ?_); (((with_reducible apply con_of_pconN (cS)); (· (repeat (first | exact All2.nil | (apply All2.cons; (· first | exact Rd_dvn | exact rdX))))); simp only [unow, unowC, List.map, vnw, vnC, vnC1]))) | ((with_reducible refine k_dreg ?_); refine s_dreg rfl rfl ?_; intro K hK) | ((with_reducible refine k_dnil ?_); (with_reducible apply d_nil hK); (· exact nmX); clear hK; clear K) | ((with_reducible refine k_dcall ?_); (((with_reducible apply d_callN); (· rfl); (· exact cP); (· (repeat (first | exact All2.nil | (apply All2.cons; (· first | exact rdX))))); simp only [unow, unowC, List.map, vnw, vnC, vnC1]))) | ((with_reducible refine k_dop ?_); refine d_step (by first | exact Or.inl rfl | exact Or.inr rfl) ?_) | (with_reducible refine d_back ?_) | ((with_reducible refine k_br ?_); ((refine Br_t (by first | with_reducible rfl | omega) ?_))) | ((first | (with_reducible apply q_eqI) | (with_reducible apply q_eqN)); ((simp (disch := omega) only [w64, wu8, wu16, wu32, wu64, tm_nn, td_nn, fd_nn, Int.reduceAdd, Int.reduceSub, Int.reduceMul, Int.reduceDiv, Int.reduceMod, Int.reduceNeg, Int.reduceToNat, Int.toNat_natCast, Int.toNat_zero, Int.zero_add, Int.add_zero, Int.one_mul, Int.reducePow, Nat.mul_one, Nat.zero_add, Nat.add_zero, Nat.zero_mul, Nat.reduceAdd, Nat.reduceMul, Nat.reduceSub, Nat.min_eq_left, IntKind.bits, Nat.sub_zero, hrow, Int.toNat_natCast]; try rfl; done))) | ((first | (with_reducible apply q_eqL) | (with_reducible apply q_eqO)); ((simp (disch := omega) only [upd_self, upd_ne, upd_upd, rep, splice, List.take_succ_cons, List.take_zero, List.drop_succ_cons, List.drop_zero, List.cons_append, List.nil_append, List.append_nil, List.length_cons, List.length_nil, List.reduceReplicate, List.flatten_cons, List.flatten_nil, Nat.reduceAdd, Nat.reduceMul, Nat.reduceSub, Nat.zero_add, Nat.add_zero, List.getElem?_cons_zero, List.getElem?_cons_succ, hrow, Int.toNat_natCast]; try rfl; done))))
        have s2 : ∀ {z : Nat} {c y w : List D}, h' z = some c → upd (upd h' k11 y) k14 w z = some c := fun {z c y w} hz => upd_sub (by rw [upd_ne hk14.1]; exact hk14.2) _ _ (upd_sub hk11 _ _ hz)
        have I : DrI k2 k27 k7 dh (upd (upd (upd h' k11 [.int .u8 ok, .int .u8 ob, .int .u8 ov, .int .u8 oa]) k14 (dvn (subD d 2 ((ob : Int) % 3) x))) k7 (dvn (subD d 2 ((ob : Int) % 3) x))) (subD d 2 ((ob : Int) % 3) x, evs) :=
          ⟨by rw [upd_ne n3.symm]; exact s2 i2, by rw [upd_ne n2.symm]; exact s2 i27, upd_self, so_mv io fun k s o m e c hc => by rw [upd_ne (fun e2 => f7 _ _ _ (by rw [e, e2]))]; exact s2 hc, f2, f27, f7⟩
        generalize upd (upd (upd h' k11 _) k14 _) k7 _ = hA at *
        clear s2 hk11 hk14 i2 i27 i7 io
        obtain ⟨i2, i27, i7, io, f2, f27, f7⟩ := I
        dsimp only at i2 i27 i7 io
        repeat' (first | (with_reducible first | refine then_n ?_ | refine blk_n ?_) | ((with_reducible refine s_reg ?_); intro K hK) | ((with_reducible refine k_nil ?_); (with_reducible apply s_nil hK); (· exact nmX); clear hK; clear K) | ((with_reducible refine k_mv ?_); (refine s_mv rfl ?_)) | ((with_reducible refine k_build ?_); ((with_reducible apply s_build); (· rfl); (· rfl))) | ((with_reducible refine k_buildS (dst := some 106) ?_); ((with_reducible apply s_buildS); (· rfl); (· (exact ⟨rfl, by decide⟩)); (· ((simp only [fillB, rep, splice, List.reduceReplicate, List.flatten_cons, List.flatten_nil, List.cons_append, List.nil_append, List.append_nil, List.length_cons, List.length_nil, Nat.reduceAdd, Nat.reduceMul, Nat.reduceLeDiff, Nat.reduceEqDiff, eq_self, Nat.le_refl, Nat.zero_add, and_self, and_true, true_and, if_true, List.take_zero, List.take_succ_cons, List.drop_zero, List.drop_succ_cons, List.drop_nil, List.take_nil]; rfl))); intro k106 hk106; (try simp only [upd_none] at hk106))) | ((with_reducible refine k_append (dst := some 107) ?_); ((with_reducible apply s_app2); (· rfl); (· rfl); (· first | ((repeat' (first | assumption | (with_reducible apply SlOwn.upd))); done)); (· rfl); (· first | exact srcD_sl upd_self rfl); (· exact ⟨by rfl, by decide, by decide⟩); (· first | (rw [room_n]; omega)); intro ka107 ha107 hn107 hk107 hoth107)))
        have m : ∀ {z : Nat} {c : List D}, hA z = some c → Fr dh z → ha107 z = some c := fun {z c} hz hf => hoth107 z c (upd_sub hk106 _ _ hz) hf
        have nA : ∀ {z : Nat} {c : List D}, hA z = some c → ka107 ≠ z := fun {z c} hz e => by rw [e, upd_sub hk106 _ _ hz] at hn107; cases hn107
        have hll := fm_len Ev.hv_len evs
        have J : DrI k2 k27 k7 (.sl ka107 4 0 (evs.length + 1)) ha107 (subD d 2 ((ob : Int) % 3) x, evs ++ [⟨1, d.next, (ob : Int) % 3, x⟩]) :=
          ⟨m i2 f2, m i27 f27, m i7 f7, by rw [show (subD d 2 ((ob : Int) % 3) x, evs ++ [(⟨1, d.next, (ob : Int) % 3, x⟩ : Ev)]).2.length = evs.length + 1 by simp]; exact SlOwn.sl (by rw [hk107]; simp [Ev.hv]) (by simp [hll, Ev.hv]; omega), Fr.sl (nA i2), Fr.sl (nA i27), Fr.sl (nA i7)⟩
        clear hoth107 hn107 hk107 m nA hk106 i2 i27 i7 io
        have hi20 : (i : Int) < 20 := by omega
        repeat' (first | (with_reducible refine then_n ?_) | ((with_reducible refine k_nil ?_); (with_reducible apply s_nil hK); (· exact nmX); clear hK; clear K) | ((with_reducible refine k_mv ?_); (refine s_mv rfl ?_)) | ((with_reducible refine k_add ?_); ((with_reducible apply s_add); (· rfl); (· rfl))) | (((with_reducible apply q_eqI)); (exact nuI)))
        exact ⟨_, _, rfl, J⟩
    · have hall := Dd.kd
      by_cases hk1 : ok % 4 = 1
      · have cS := submit_c d hok 3 0 [] rq_f (by omega)
        have hst : drvS (d, evs) ⟨ok, ob, ov, oa⟩ = if d.queue.length = 4 then (d, evs) else (subD d 3 0 [], evs) := by
          unfold drvS; rw [if_neg hk0, if_pos hk1]
        rw [hst]
        clear hst
        by_cases hfull : d.queue.length = 4
        · rw [if_pos hfull]
          rw [if_pos (by omega), if_pos (by omega), if_pos (by omega)] at cS
          repeat' (first | (with_reducible first | refine W_seq ?_ | refine then_n ?_ | refine W_block ?_ | refine blk_n ?_ | refine W_skip ?_) | ((with_reducible refine s_reg ?_); intro K hK) | ((with_reducible refine k_nil ?_); (with_reducible apply s_nil hK); (· exact nmX); clear hK; clear K) | ((with_reducible refine k_cond ?_); (first | ((with_reducible apply s_condT); (· rfl); (· exact nmX)) | ((with_reducible apply s_condF); (· rfl); (· exact nmX)))) | ((with_reducible refine k_mv ?_); (refine s_mv rfl ?_)) | ((with_reducible refine k_extract ?_); (refine s_extract rfl rfl ?_)) | ((with_reducible refine k_len ?_); ((refine s_len rfl rfl ?_))) | ((with_reducible refine k_eql ?_); ((refine s_eql rfl rfl ?_))) | ((with_reducible refine k_lss ?_); (refine s_lss rfl rfl ?_)) | ((with_reducible refine k_iaddr ?_); (((with_reducible apply s_iaddrV); (· rfl); (· rfl); (· (omega))))) | ((with_reducible refine k_load ?_); (((with_reducible apply s_loadP); (· rfl); (· (exact hpX))))) | ((with_reducible refine k_loadA ?_); (first | ((with_reducible apply s_loadAV); (· rfl); (· (omega))) | ((with_reducible apply s_loadAP); (· rfl); (· (exact hpX)); (· (exact Nat.le_of_ble_eq_true rfl))))) | ((with_reducible refine k_add ?_); ((with_reducible apply s_add); (· rfl); (· rfl))) | ((with_reducible refine k_rem ?_); ((with_reducible apply s_rem); (· rfl); (· rfl); (· omega))) | ((with_reducible refine k_store ?_); ((with_reducible apply s_store0); (· rfl); (· rfl); (· rfl); (· (exact hpX)); (· (exact ⟨rfl, by exact Nat.le_of_ble_eq_true rfl⟩)); (· (((simp (disch := omega) only [upd_self, upd_ne, upd_upd, rep, splice, List.take_succ_cons, List.take_zero, List.drop_succ_cons, List.drop_zero, List.cons_append, List.nil_append, List.append_nil, List.length_cons, List.length_nil, List.reduceReplicate, List.flatten_cons, List.flatten_nil, Nat.reduceAdd, Nat.reduceMul, Nat.reduceSub, Nat.zero_add, Nat.add_zero, List.getElem?_cons_zero, List.getElem?_cons_succ, hrow, Int.toNat_natCast]; try rfl; done)))); (· (exact upd_upd)))) | ((with_reducible refine k_faddr ?_); (((with_reducible apply s_faddrP); (· rfl); (· rfl)))) | ((with_reducible refine k_alloc (dst := some 11) ?_); ((with_reducible apply s_alloc); intro k11 hk11; (try simp only [upd_none] at hk11))) | ((with_reducible refine k_alloc (dst := some 17) ?_); ((with_reducible apply s_alloc); intro k17 hk17; (try simp only [upd_none] at hk17))) | ((with_reducible refine k_callF ?_); (((with_reducible apply s_call1); (· rfl)))) | ((with_reducible refine k_con ?_); (((with_reducible apply con_of_pconN (cS)); (· (repeat (first | exact All2.nil | (apply All2.cons; (· first | exact Rd_dvn | exact Rd_nil | exact rdX))))); simp only [unow, unowC, List.map, vnw, vnC, vnC1]))) | ((with_reducible refine k_br ?_); (first | (refine Br_t (by omega) ?_) | (refine Br_f (by omega) ?_))) | ((first | (with_reducible apply q_eqI) | (with_reducible apply q_eqN)); ((simp (disch := omega) only [w64, wu8, wu16, wu32, wu64, tm_nn, td_nn, fd_nn, Int.reduceAdd, Int.reduceSub, Int.reduceMul, Int.reduceDiv, Int.reduceMod, Int.reduceNeg, Int.reduceToNat, Int.toNat_natCast, Int.toNat_zero, Int.zero_add, Int.add_zero, Int.one_mul, Int.reducePow, Nat.mul_one, Nat.zero_add, Nat.add_zero, Nat.zero_mul, Nat.reduceAdd, Nat.reduceMul, Nat.reduceSub, Nat.min_eq_left, IntKind.bits, Nat.sub_zero, hrow, Int.toNat_natCast]; try rfl; done))) | ((first | (with_reducible apply q_eqL) | (with_reducible apply q_eqO)); ((simp (disch := omega) only [upd_self, upd_ne, upd_upd, rep, splice, List.take_succ_cons, List.take_zero, List.drop_succ_cons, List.drop_zero, List.cons_append, List.nil_append, List.append_nil, List.length_cons, List.length_nil, List.reduceReplicate, List.flatten_cons, List.flatten_nil, Nat.reduceAdd, Nat.reduceMul, Nat.reduceSub, Nat.zero_add, Nat.add_zero, List.getElem?_cons_zero, List.getElem?_cons_succ, hrow, Int.toNat_natCast]; try rfl; done))))
          have s2 : ∀ {z : Nat} {c y w : List D}, h' z = some c → upd (upd h' k11 y) k17 w z = some c := fun {z c y w} hz => upd_sub (by rw [upd_ne hk17.1]; exact hk17.2) _ _ (upd_sub hk11 _ _ hz)
          exact ⟨_, _, rfl, ⟨s2 i2, s2 i27, s2 i7, so_mv io fun k s o m e c hc => s2 hc, f2, f27, f7⟩⟩
        · rw [if_neg hfull]
          rw [if_neg (by omega), if_neg (by omega), if_neg (by omega)] at cS
          repeat' (first | (with_reducible first | refine W_seq ?_ | refine then_n ?_ | refine W_block ?_ | refine blk_n ?_ | refine W_skip ?_) | ((with_reducible refine s_reg ?_); intro K hK) | ((with_reducible refine k_nil ?_); (with_reducible apply s_nil hK); (· exact nmX); clear hK; clear K) | ((with_reducible refine k_cond ?_); (first | ((with_reducible apply s_condT); (· rfl); (· exact nmX)) | ((with_reducible apply s_condF); (· rfl); (· exact nmX)))) | ((with_reducible refine k_mv ?_); (refine s_mv rfl ?_)) | ((with_reducible refine k_extract ?_); (refine s_extract rfl rfl ?_)) | ((with_reducible refine k_len ?_); ((refine s_len rfl rfl ?_))) | ((with_reducible refine k_eql ?_); ((refine s_eql rfl rfl ?_))) | ((with_reducible refine k_lss ?_); (refine s_lss rfl rfl ?_)) | ((with_reducible refine k_iaddr ?_); (((with_reducible apply s_iaddrV); (· rfl); (· rfl); (· (omega))))) | ((with_reducible refine k_load ?_); (((with_reducible apply s_loadP); (· rfl); (· (exact hpX))))) | ((with_reducible refine k_loadA ?_); (first | ((with_reducible apply s_loadAV); (· rfl); (· (omega))) | ((with_reducible apply s_loadAP); (· rfl); (· (exact hpX)); (· (exact Nat.le_of_ble_eq_true rfl))))) | ((with_reducible refine k_add ?_); ((with_reducible apply s_add); (· rfl); (· rfl))) | ((with_reducible refine k_rem ?_); ((with_reducible apply s_rem); (· rfl); (· rfl); (· omega))) | ((with_reducible refine k_store ?_); ((with_reducible apply s_store0); (· rfl); (· rfl); (· rfl); (· (exact hpX)); (· (exact ⟨rfl, by exact Nat.le_of_ble_eq_true rfl⟩)); (· (((simp (disch := omega) only [upd_self, upd_ne, upd_upd, rep, splice, List.take_succ_cons, List.take_zero, List.drop_succ_cons, List.drop_zero, List.cons_append, List.nil_append, List.append_nil, List.length_cons, List.length_nil, List.reduceReplicate, List.flatten_cons, List.flatten_nil, Nat.reduceAdd, Nat.reduceMul, Nat.reduceSub, Nat.zero_add, Nat.add_zero, List.getElem?_cons_zero, List.getElem?_cons_succ, hrow, Int.toNat_natCast]; try rfl; done)))); (· (first | exact upd_upd | rfl)))) | ((with_reducible refine k_faddr ?_); (((with_reducible apply s_faddrP); (· rfl); (· rfl)))) | ((with_reducible refine k_alloc (dst := some 11) ?_); ((with_reducible apply s_alloc); intro k11 hk11; (try simp only [upd_none] at hk11))) | ((with_reducible refine k_alloc (dst := some 17) ?_); ((with_reducible apply s_alloc); intro k17 hk17; (try simp only [upd_none] at hk17))) | ((with_reducible refine k_callF ?_); (((with_reducible apply s_call1); (· rfl)))) | ((with_reducible refine k_con ?_); (((with_reducible apply con_of_pconN (cS)); (· (repeat (first | exact All2.nil | (apply All2.cons; (· first | exact Rd_dvn | exact Rd_nil | exact rdX))))); simp only [unow, unowC, List.map, vnw, vnC, vnC1]))) | ((with_reducible refine k_br ?_); (first | (refine Br_t (by first | with_reducible rfl | omega) ?_) | (refine Br_f (by omega) ?_))) | ((first | (with_reducible apply q_eqI) | (with_reducible apply q_eqN)); ((simp (disch := omega) only [w64, wu8, wu16, wu32, wu64, tm_nn, td_nn, fd_nn, Int.reduceAdd, Int.reduceSub, Int.reduceMul, Int.reduceDiv, Int.reduceMod, Int.reduceNeg, Int.reduceToNat, Int.toNat_natCast, Int.toNat_zero, Int.zero_add, Int.add_zero, Int.one_mul, Int.reducePow, Nat.mul_one, Nat.zero_add, Nat.add_zero, Nat.zero_mul, Nat.reduceAdd, Nat.reduceMul, Nat.reduceSub, Nat.min_eq_left, IntKind.bits, Nat.sub_zero, hrow, Int.toNat_natCast]; try rfl; done))) | ((first | (with_reducible apply q_eqL) | (with_reducible apply q_eqO)); ((simp (disch := omega) only [upd_self, upd_ne, upd_upd, rep, splice, List.take_succ_cons, List.take_zero, List.drop_succ_cons, List.drop_zero, List.cons_append, List.nil_append, List.append_nil, List.length_cons, List.length_nil, List.reduceReplicate, List.flatten_cons, List.flatten_nil, Nat.reduceAdd, Nat.reduceMul, Nat.reduceSub, Nat.zero_add, Nat.add_zero, List.getElem?_cons_zero, List.getElem?_cons_succ, hrow, Int.toNat_natCast]; try rfl; done))))
          have s2 : ∀ {z : Nat} {c y w : List D}, h' z = some c → upd (upd h' k11 y) k17 w z = some c := fun {z c y w} hz => upd_sub (by rw [upd_ne hk17.1]; exact hk17.2) _ _ (upd_sub hk11 _ _ hz)
          exact ⟨_, _, rfl, ⟨by rw [upd_ne n3.symm]; exact s2 i2, by rw [upd_ne n2.symm]; exact s2 i27, upd_self, so_mv io fun k s o m e c hc => by rw [upd_ne (fun e2 => f7 _ _ _ (by rw [e, e2]))]; exact s2 hc, f2, f27, f7⟩⟩
      · by_cases hq0 : d.queue.length = 0
        · have hst : drvS (d, evs) ⟨ok, ob, ov, oa⟩ = (d, evs) := by
            unfold drvS; rw [if_neg hk0, if_neg hk1]
            dsimp only
            rw [List.getElem?_eq_none (by omega)]
          rw [hst]
          repeat' (first | (with_reducible first | refine W_seq ?_ | refine then_n ?_ | refine W_block ?_ | refine blk_e ?_ | refine W_skip ?_ | refine W_exit ?_ | refine then_e ?_) | (refine blk_j (by decide) ?_) | ((with_reducible refine s_reg ?_); intro K hK) | ((with_reducible refine k_nil ?_); (with_reducible apply s_nil hK); (· exact nmX); clear hK; clear K) | ((with_reducible refine k_cond ?_); (first | ((with_reducible apply s_condT); (· rfl); (· exact nmX)) | ((with_reducible apply s_condF); (· rfl); (· exact nmX)))) | ((with_reducible refine k_mv ?_); (refine s_mv rfl ?_)) | ((with_reducible refine k_len ?_); (first | (refine s_len rfl rfl ?_) | (refine s_lenN rfl ?_))) | ((with_reducible refine k_eql ?_); ((refine s_eql rfl rfl ?_))) | ((with_reducible refine k_lss ?_); (refine s_lss rfl rfl ?_)) | ((with_reducible refine k_iaddr ?_); (((with_reducible apply s_iaddrV); (· rfl); (· rfl); (· (omega))))) | ((with_reducible refine k_load ?_); (((with_reducible apply s_loadP); (· rfl); (· (exact hpX))))) | ((with_reducible refine k_loadA ?_); (((with_reducible apply s_loadAV); (· rfl); (· (omega))))) | ((with_reducible refine k_add ?_); ((with_reducible apply s_add); (· rfl); (· rfl))) | ((with_reducible refine k_rem ?_); ((with_reducible apply s_rem); (· rfl); (· rfl); (· omega))) | ((with_reducible refine k_store ?_); ((with_reducible apply s_store0); (· rfl); (· rfl); (· rfl); (· (exact hpX)); (· (exact ⟨rfl, by exact Nat.le_of_ble_eq_true rfl⟩)); (· (((simp (disch := omega) only [upd_self, upd_ne, upd_upd, rep, splice, List.take_succ_cons, List.take_zero, List.drop_succ_cons, List.drop_zero, List.cons_append, List.nil_append, List.append_nil, List.length_cons, List.length_nil, List.reduceReplicate, List.flatten_cons, List.flatten_nil, Nat.reduceAdd, Nat.reduceMul, Nat.reduceSub, Nat.zero_add, Nat.add_zero, List.getElem?_cons_zero, List.getElem?_cons_succ, hrow, Int.toNat_natCast]; try rfl; done)))); (· (exact upd_upd)))) | ((with_reducible refine k_faddr ?_); (((with_reducible apply s_faddrP); (· rfl); (· rfl)))) | ((with_reducible refine k_alloc (dst := some 11) ?_); ((with_reducible apply s_alloc); intro k11 hk11; (try simp only [upd_none] at hk11))) | ((with_reducible refine k_br ?_); (first | (refine Br_t (by omega) ?_) | (refine Br_f (by omega) ?_))) | ((first | (with_reducible apply q_eqI) | (with_reducible apply q_eqN)); ((simp (disch := omega) only [w64, wu8, wu16, wu32, wu64, tm_nn, td_nn, fd_nn, Int.reduceAdd, Int.reduceSub, Int.reduceMul, Int.reduceDiv, Int.reduceMod, Int.reduceNeg, Int.reduceToNat, Int.toNat_natCast, Int.toNat_zero, Int.zero_add, Int.add_zero, Int.one_mul, Int.reducePow, Nat.mul_one, Nat.zero_add, Nat.add_zero, Nat.zero_mul, Nat.reduceAdd, Nat.reduceMul, Nat.reduceSub, Nat.min_eq_left, IntKind.bits, Nat.sub_zero, hrow, Int.toNat_natCast]; try rfl; done))) | ((first | (with_reducible apply q_eqL) | (with_reducible apply q_eqO)); ((simp (disch := omega) only [upd_self, upd_ne, upd_upd, rep, splice, List.take_succ_cons, List.take_zero, List.drop_succ_cons, List.drop_zero, List.cons_append, List.nil_append, List.append_nil, List.length_cons, List.length_nil, List.reduceReplicate, List.flatten_cons, List.flatten_nil, Nat.reduceAdd, Nat.reduceMul, Nat.reduceSub, Nat.zero_add, Nat.add_zero, List.getElem?_cons_zero, List.getElem?_cons_succ, hrow, Int.toNat_natCast]; try rfl; done))))
          have s1 : ∀ {z : Nat} {c y : List D}, h' z = some c → upd h' k11 y z = some c := fun {z c y} hz => upd_sub hk11 _ _ hz
          exact ⟨_, _, rfl, ⟨s1 i2, s1 i27, s1 i7, so_mv io fun k s o m e c hc => s1 hc, f2, f27, f7⟩⟩
        · have hp : oa % d.queue.length < d.queue.length := Nat.mod_lt _ (by omega)
          have hkq := hall _ (List.getElem_mem hp)
          have hst : drvS (d, evs) ⟨ok, ob, ov, oa⟩ = (comD d (oa % d.queue.length) d.queue[oa % d.queue.length] (decide (ok % 4 = 2)), hapF evs d.queue[oa % d.queue.length] (decide (ok % 4 = 2))) := by
            unfold drvS; rw [if_neg hk0, if_neg hk1]
            dsimp only
            rw [List.getElem?_eq_getElem hp]
          rw [hst]
          have cC := complete_c d hok _ hp hkq (decide (ok % 4 = 2))
          by_cases h2 : ok % 4 = 2
          · rw [decide_eq_true h2] at cC ⊢
            generalize comD d (oa % d.queue.length) d.queue[oa % d.queue.length] true = dn at *
            generalize d.queue[oa % d.queue.length] = q at *
            rw [Int.natCast_emod] at cC
            clear hst hall Dd
            obtain ⟨q1, q2, q3, q4⟩ := q
            dsimp only at hkq
            simp only [Rq.cells] at cC
            repeat' (first | (with_reducible first | refine W_seq ?_ | refine then_n ?_ | refine W_block ?_ | refine W_skip ?_) | ((with_reducible refine s_reg ?_); intro K hK) | ((with_reducible refine k_nil ?_); (with_reducible apply s_nil hK); (· exact nmX); clear hK; clear K) | ((with_reducible refine k_cond ?_); (first | ((with_reducible apply s_condT); (· rfl); (· exact nmX)) | ((with_reducible apply s_condF); (· rfl); (· exact nmX)))) | ((with_reducible refine k_mv ?_); (refine s_mv rfl ?_)) | ((with_reducible refine k_extract ?_); (refine s_extract rfl rfl ?_)) | ((with_reducible refine k_len ?_); (first | (refine s_len rfl rfl ?_) | (refine s_lenN rfl ?_))) | ((with_reducible refine k_eql ?_); ((refine s_eql rfl rfl ?_))) | ((with_reducible refine k_neq ?_); ((refine s_neq rfl rfl ?_))) | ((with_reducible refine k_lss ?_); (refine s_lss rfl rfl ?_)) | ((with_reducible refine k_iaddr ?_); (((with_reducible apply s_iaddrV); (· rfl); (· rfl); (· (omega))))) | ((with_reducible refine k_load ?_); (((with_reducible apply s_loadP); (· rfl); (· (exact hpX))))) | ((with_reducible refine k_loadA ?_); (first | ((with_reducible apply s_loadAV); (· rfl); (· (omega))) | ((with_reducible apply s_loadAP); (· rfl); (· (exact hpX)); (· (exact Nat.le_of_ble_eq_true rfl))))) | ((with_reducible refine k_rem ?_); ((with_reducible apply s_rem); (· rfl); (· rfl); (· omega))) | ((with_reducible refine k_conv ?_); ((with_reducible apply s_conv); (· rfl))) | ((with_reducible refine k_store ?_); ((with_reducible apply s_store0); (· rfl); (· rfl); (· rfl); (· (exact hpX)); (· (exact ⟨rfl, by exact Nat.le_of_ble_eq_true rfl⟩)); (· (((simp (disch := omega) only [upd_self, upd_ne, upd_upd, rep, splice, List.take_succ_cons, List.take_zero, List.drop_succ_cons, List.drop_zero, List.cons_append, List.nil_append, List.append_nil, List.length_cons, List.length_nil, List.reduceReplicate, List.flatten_cons, List.flatten_nil, Nat.reduceAdd, Nat.reduceMul, Nat.reduceSub, Nat.zero_add, Nat.add_zero, List.getElem?_cons_zero, List.getElem?_cons_succ, hrow, Int.toNat_natCast]; try rfl; done)))); (· (first | exact upd_upd | rfl)))) | ((with_reducible refine k_faddr ?_); (((with_reducible apply s_faddrP); (· rfl); (· rfl)))) | ((with_reducible refine k_alloc (dst := some 11) ?_); ((with_reducible apply s_alloc); intro k11 hk11; (try simp only [upd_none] at hk11))) | ((with_reducible refine k_alloc (dst := some 21) ?_); ((with_reducible apply s_alloc); intro k21 hk21; (try simp only [upd_none] at hk21))) | ((with_reducible refine k_alloc (dst := some 22) ?_); ((with_reducible apply s_alloc); intro k22 hk22; (try simp only [upd_none] at hk22))) | ((with_reducible refine k_callF ?_); (((with_reducible apply s_call1); (· rfl)))) | ((with_reducible refine k_dreg ?_); refine W_dregM (pre := A34d27a) (suf := A34d27b) rfl rfl rfl rfl ?_; intro K hK) | (with_reducible refine d_nilS ?_) | ((with_reducible refine k_dcall ?_); (((with_reducible apply d_callN); (· rfl); (· exact cC); (· (repeat (first | exact All2.nil | (apply All2.cons; (· first | exact Rd_dvn | exact rdX))))); simp only [unow, unowC, List.map, vnw, vnC, vnC1]))) | ((with_reducible refine k_dop ?_); refine d_step (by first | exact Or.inl rfl | exact Or.inr rfl) ?_) | (with_reducible refine d_back ?_) | ((with_reducible refine k_br ?_); (first | (refine Br_t (by first | with_reducible rfl | omega) ?_) | (refine Br_f (by omega) ?_))) | ((first | (with_reducible apply q_eqI) | (with_reducible apply q_eqN)); ((simp (disch := omega) only [w64, wu8, wu16, wu32, wu64, tm_nn, td_nn, fd_nn, Int.reduceAdd, Int.reduceSub, Int.reduceMul, Int.reduceDiv, Int.reduceMod, Int.reduceNeg, Int.reduceToNat, Int.toNat_natCast, Int.toNat_zero, Int.zero_add, Int.add_zero, Int.one_mul, Int.reducePow, Nat.mul_one, Nat.zero_add, Nat.add_zero, Nat.zero_mul, Nat.reduceAdd, Nat.reduceMul, Nat.reduceSub, Nat.min_eq_left, IntKind.bits, Nat.sub_zero, hrow, Int.toNat_natCast]; try rfl; done))) | ((first | (with_reducible apply q_eqL) | (with_reducible apply q_eqO)); ((simp (disch := omega) only [upd_self, upd_ne, upd_upd, rep, splice, List.take_succ_cons, List.take_zero, List.drop_succ_cons, List.drop_zero, List.cons_append, List.nil_append, List.append_nil, List.length_cons, List.length_nil, List.reduceReplicate, List.flatten_cons, List.flatten_nil, Nat.reduceAdd, Nat.reduceMul, Nat.reduceSub, Nat.zero_add, Nat.add_zero, List.getElem?_cons_zero, List.getElem?_cons_succ, hrow, Int.toNat_natCast]; try rfl; done))))
            have s3 : ∀ {z : Nat} {c y w v w' v' : List D}, h' z = some c → upd (upd (upd (upd (upd h' k11 y) k21 w) k22 v) k21 w') k22 v' z = some c := fun {z c y w v w' v'} hz => by
              have a1 : k11 ≠ z := fun e => by rw [← e, hk11] at hz; cases hz
              have a2 : k21 ≠ z := fun e => by rw [← e, hk21.2] at hz; cases hz
              have a3 : k22 ≠ z := fun e => by rw [← e, hk22.2.2] at hz; cases hz
              rw [upd_ne a3.symm, upd_ne a2.symm, upd_ne a3.symm, upd_ne a2.symm, upd_ne a1.symm]; exact hz
            have I : ∀ {y w v w' v' : List D}, DrI k2 k27 k7 dh (upd (upd (upd (upd (upd (upd h' k11 y) k21 w) k22 v) k21 w') k22 v') k7 (dvn dn)) (dn, evs) := fun {y w v w' v'} =>
              ⟨by rw [upd_ne n3.symm]; exact s3 i2, by rw [upd_ne n2.symm]; exact s3 i27, upd_self, so_mv io fun k s o m e c hc => by rw [upd_ne (fun e2 => f7 _ _ _ (by rw [e, e2]))]; exact s3 hc, f2, f27, f7⟩
            refine hap_con (I).own (by dsimp only; omega) ⟨q1, q2, q3, q4⟩ hkq true (fun d2 h2' ho hk => ?_)
            have J : DrI k2 k27 k7 d2 h2' (dn, hapF evs ⟨q1, q2, q3, q4⟩ true) := ⟨(hk _ _ (I).b2 f2).1, (hk _ _ (I).b27 f27).1, (hk _ _ (I).b7 f7).1, ho, (hk _ _ (I).b2 f2).2, (hk _ _ (I).b27 f27).2, (hk _ _ (I).b7 f7).2⟩
            clear s3 I hk ho hk22 hk21 hk11 i2 i27 i7 io
            have hi20 : (i : Int) < 20 := by omega
            repeat' (first | (with_reducible first | refine then_n ?_ | refine blk_n ?_) | ((with_reducible refine s_reg ?_); intro K hK) | ((with_reducible refine k_nil ?_); (with_reducible apply s_nil hK); (· exact nmX); clear hK; clear K) | ((with_reducible refine k_mv ?_); (refine s_mv rfl ?_)) | ((with_reducible refine k_add ?_); ((with_reducible apply s_add); (· rfl); (· rfl))) | (((with_reducible apply q_eqI)); (exact nuI)))
            exact ⟨_, _, rfl, J⟩
          · rw [decide_eq_false h2] at cC ⊢
            generalize comD d (oa % d.queue.length) d.queue[oa % d.queue.length] false = dn at *
            generalize d.queue[oa % d.queue.length] = q at *
            rw [Int.natCast_emod] at cC
            clear hst hall Dd
            obtain ⟨q1, q2, q3, q4⟩ := q
            dsimp only at hkq
            simp only [Rq.cells] at cC
            repeat' (first | (with_reducible first | refine W_seq ?_ | refine then_n ?_ | refine W_block ?_ | refine W_skip ?_) | ((with_reducible refine s_reg ?_); intro K hK) | ((with_reducible refine k_nil ?_); (with_reducible apply s_nil hK); (· exact nmX); clear hK; clear K) | ((with_reducible refine k_cond ?_); (first | ((with_reducible apply s_condT); (· rfl); (· exact nmX)) | ((with_reducible apply s_condF); (· rfl); (· exact nmX)))) | ((with_reducible refine k_mv ?_); (refine s_mv rfl ?_)) | ((with_reducible refine k_extract ?_); (refine s_extract rfl rfl ?_)) | ((with_reducible refine k_len ?_); (first | (refine s_len rfl rfl ?_) | (refine s_lenN rfl ?_))) | ((with_reducible refine k_eql ?_); ((refine s_eql rfl rfl ?_))) | ((with_reducible refine k_neq ?_); ((refine s_neq rfl rfl ?_))) | ((with_reducible refine k_lss ?_); (refine s_lss rfl rfl ?_)) | ((with_reducible refine k_iaddr ?_); (((with_reducible apply s_iaddrV); (· rfl); (· rfl); (· (omega))))) | ((with_reducible refine k_load ?_); (((with_reducible apply s_loadP); (· rfl); (· (exact hpX))))) | ((with_reducible refine k_loadA ?_); (first | ((with_reducible apply s_loadAV); (· rfl); (· (omega))) | ((with_reducible apply s_loadAP); (· rfl); (· (exact hpX)); (· (exact Nat.le_of_ble_eq_true rfl))))) | ((with_reducible refine k_rem ?_); ((with_reducible apply s_rem); (· rfl); (· rfl); (· omega))) | ((with_reducible refine k_conv ?_); ((with_reducible apply s_conv); (· rfl))) | ((with_reducible refine k_store ?_); ((with_reducible apply s_store0); (· rfl); (· rfl); (· rfl); (· (exact hpX)); (· (exact ⟨rfl, by exact Nat.le_of_ble_eq_true rfl⟩)); (· (((simp (disch := omega) only [upd_self, upd_ne, upd_upd, rep, splice, List.take_succ_cons, List.take_zero, List.drop_succ_cons, List.drop_zero, List.cons_append, List.nil_append, List.append_nil, List.length_cons, List.length_nil, List.reduceReplicate, List.flatten_cons, List.flatten_nil, Nat.reduceAdd, Nat.reduceMul, Nat.reduceSub, Nat.zero_add, Nat.add_zero, List.getElem?_cons_zero, List.getElem?_cons_succ, hrow, Int.toNat_natCast]; try rfl; done)))); (· (first | exact upd_upd | rfl)))) | ((with_reducible refine k_faddr ?_); (((with_reducible apply s_faddrP); (· rfl); (· rfl)))) | ((with_reducible refine k_alloc (dst := some 11) ?_); ((with_reducible apply s_alloc); intro k11 hk11; (try simp only [upd_none] at hk11))) | ((with_reducible refine k_alloc (dst := some 21) ?_); ((with_reducible apply s_alloc); intro k21 hk21; (try simp only [upd_none] at hk21))) | ((with_reducible refine k_alloc (dst := some 22) ?_); ((with_reducible apply s_alloc); intro k22 hk22; (try simp only [upd_none] at hk22))) | ((with_reducible refine k_callF ?_); (((with_reducible apply s_call1); (· rfl)))) | ((with_reducible refine k_dreg ?_); refine W_dregM (pre := A34d27a) (suf := A34d27b) rfl rfl rfl rfl ?_; intro K hK) | (with_reducible refine d_nilS ?_) | ((with_reducible refine k_dcall ?_); (((with_reducible apply d_callN); (· rfl); (· exact cC); (· (repeat (first | exact All2.nil | (apply All2.cons; (· first | exact Rd_dvn | exact rdX))))); simp only [unow, unowC, List.map, vnw, vnC, vnC1]))) | ((with_reducible refine k_dop ?_); refine d_step (by first | exact Or.inl rfl | exact Or.inr rfl) ?_) | (with_reducible refine d_back ?_) | ((with_reducible refine k_br ?_); (first | (refine Br_t (by first | with_reducible rfl | omega) ?_) | (refine Br_f (by omega) ?_))) | ((first | (with_reducible apply q_eqI) | (with_reducible apply q_eqN)); ((simp (disch := omega) only [w64, wu8, wu16, wu32, wu64, tm_nn, td_nn, fd_nn, Int.reduceAdd, Int.reduceSub, Int.reduceMul, Int.reduceDiv, Int.reduceMod, Int.reduceNeg, Int.reduceToNat, Int.toNat_natCast, Int.toNat_zero, Int.zero_add, Int.add_zero, Int.one_mul, Int.reducePow, Nat.mul_one, Nat.zero_add, Nat.add_zero, Nat.zero_mul, Nat.reduceAdd, Nat.reduceMul, Nat.reduceSub, Nat.min_eq_left, IntKind.bits, Nat.sub_zero, hrow, Int.toNat_natCast]; try rfl; done))) | ((first | (with_reducible apply q_eqL) | (with_reducible apply q_eqO)); ((simp (disch := omega) only [upd_self, upd_ne, upd_upd, rep, splice, List.take_succ_cons, List.take_zero, List.drop_succ_cons, List.drop_zero, List.cons_append, List.nil_append, List.append_nil, List.length_cons, List.length_nil, List.reduceReplicate, List.flatten_cons, List.flatten_nil, Nat.reduceAdd, Nat.reduceMul, Nat.reduceSub, Nat.zero_add, Nat.add_zero, List.getElem?_cons_zero, List.getElem?_cons_succ, hrow, Int.toNat_natCast]; try rfl; done))))
            have s3 : ∀ {z : Nat} {c y w v w' v' : List D}, h' z = some c → upd (upd (upd (upd (upd h' k11 y) k21 w) k22 v) k21 w') k22 v' z = some c := fun {z c y w v w' v'} hz => by
              have a1 : k11 ≠ z := fun e => by rw [← e, hk11] at hz; cases hz
              have a2 : k21 ≠ z := fun e => by rw [← e, hk21.2] at hz; cases hz
              have a3 : k22 ≠ z := fun e => by rw [← e, hk22.2.2] at hz; cases hz
              rw [upd_ne a3.symm, upd_ne a2.symm, upd_ne a3.symm, upd_ne a2.symm, upd_ne a1.symm]; exact hz
            have I : ∀ {y w v w' v' : List D}, DrI k2 k27 k7 dh (upd (upd (upd (upd (upd (upd h' k11 y) k21 w) k22 v) k21 w') k22 v') k7 (dvn dn)) (dn, evs) := fun {y w v w' v'} =>
              ⟨by rw [upd_ne n3.symm]; exact s3 i2, by rw [upd_ne n2.symm]; exact s3 i27, upd_self, so_mv io fun k s o m e c hc => by rw [upd_ne (fun e2 => f7 _ _ _ (by rw [e, e2]))]; exact s3 hc, f2, f27, f7⟩
            refine hap_con (I).own (by dsimp only; omega) ⟨q1, q2, q3, q4⟩ hkq false (fun d2 h2' ho hk => ?_)
            have J : DrI k2 k27 k7 d2 h2' (dn, hapF evs ⟨q1, q2, q3, q4⟩ false) := ⟨(hk _ _ (I).b2 f2).1, (hk _ _ (I).b27 f27).1, (hk _ _ (I).b7 f7).1, ho, (hk _ _ (I).b2 f2).2, (hk _ _ (I).b27 f27).2, (hk _ _ (I).b7 f7).2⟩
            clear s3 I hk ho hk22 hk21 hk11 i2 i27 i7 io
            have hi20 : (i : Int) < 20 := by omega
            repeat' (first | (with_reducible first | refine then_n ?_ | refine blk_n ?_) | ((with_reducible refine s_reg ?_); intro K hK) | ((with_reducible refine k_nil ?_); (with_reducible apply s_nil hK); (· exact nmX); clear hK; clear K) | ((with_reducible refine k_mv ?_); (refine s_mv rfl ?_)) | ((with_reducible refine k_add ?_); ((with_reducible apply s_add); (· rfl); (· rfl))) | (((with_reducible apply q_eqI)); (exact nuI)))
            exact ⟨_, _, rfl, J⟩
  · rintro e' h' ⟨dh, h1, he, I⟩
    cases he
    rw [List.take_length] at I
    have Dd := drv_take l hl l.length (Nat.le_refl _)
    rw [List.take_length] at Dd
    generalize drvF l = s at *
    obtain ⟨d, evs⟩ := s
    obtain ⟨i2, i27, i7, io, f2, f27, f7⟩ := I
    dsimp only at i2 i27 i7 io
    clear b2 b27 b7
    repeat' (first | (with_reducible first | refine W_seq ?_ | refine then_n ?_ | refine blk_e ?_ | refine W_ret ?_ | refine W_exit ?_ | refine then_e ?_) | ((with_reducible refine s_reg ?_); intro K hK) | ((with_reducible refine k_nil ?_); (with_reducible apply s_nil hK); (· exact nmX); clear hK; clear K) | ((with_reducible refine k_cond ?_); (((with_reducible apply s_condF); (· rfl); (· exact nmX)))) | ((with_reducible refine k_mv ?_); (refine s_mv rfl ?_)) | ((with_reducible refine k_len ?_); ((refine s_len rfl rfl ?_))) | ((with_reducible refine k_lss ?_); (refine s_lss rfl rfl ?_)) | ((with_reducible refine k_loadA ?_); (((with_reducible apply s_loadAP); (· rfl); (· (exact hpX)); (· (exact Nat.le_of_ble_eq_true rfl))))) | ((with_reducible refine k_store ?_); ((with_reducible apply s_store0); (· rfl); (· rfl); (· rfl); (· (exact hpX)); (· (exact ⟨rfl, by exact Nat.le_of_ble_eq_true rfl⟩)); (· ((exact liL))); (· (rfl)))) | ((with_reducible refine k_br ?_); ((refine Br_f (by omega) ?_))) | (((with_reducible apply q_eqL)); (exact liL)))
    have io2 : SlOwn (upd h' k2 (dvn d)) dh 4 (evs.flatMap Ev.hv) evs.length := so_mv io fun k s o m e c hc => by rw [upd_ne (fun e2 => f2 _ _ _ (by rw [e, e2]))]; exact hc
    have o27 : SlOwn (upd h' k2 (dvn d)) (.sl k27 1 0 3) 1 [nD (pg 0), nD (pg 0), nD (pg 0)] 3 := SlOwn.sl (by rw [upd_ne n1]; exact i27) rfl
    have hev := Dd.ev
    dsimp only at hev
    refine Fin_tupN trivial (by simp [resD, resL, AM.get, upd_self, memAt, ldD] <;> rfl) (All2.cons Rn_dvn (All2.cons (Rn_so o27 (All2.cons Rn_vn (All2.cons Rn_vn (All2.cons Rn_vn All2.nil)))) (All2.cons (Rn_so io2 (hv_rn hev)) (All2.cons (Rn_scal rfl) All2.nil)))) rfl
end Go.Proofs.Ythblalidmmbcoaa
end
section
/- Images: the closure. -/
set_option linter.unusedSimpArgs false
set_option linter.unusedVariables false
namespace Go.Proofs.Ythblalidmmbcoaa
open Go.AM Classical
set_option maxRecDepth 100000
set_option maxHeartbeats 4000000
abbrev imV (im : List Bs) : D := .vn 1 (im.map bD) im.length
structure ImH (h : Heap) (kA kS kO kI kF : Nat) (C : List (List Bs)) (O : List (List Bs)) (im : List Bs) (dO dI : D) : Prop where
  a : h kA = some [.sl kS 1 0 C.length]
  s : h kS = some (C.map bsD)
  o : h kO = some [dO]
  so : SlOwn h dO 1 (O.map imV) O.length
  i : h kI = some [dI]
  pi : SlPre h dI 1 (im.map bD) im.length
  f : h kF = some [.fn 42 [] [.pt kA 0, .pt kO 0, .pt kI 0, .pt kF 0]]
  ne : (kA ≠ kO ∧ kA ≠ kI) ∧ (kS ≠ kO ∧ kS ≠ kI) ∧ kO ≠ kI ∧ kF ≠ kO ∧ kF ≠ kI
  fO : Fr dO kA ∧ Fr dO kS ∧ Fr dO kO ∧ Fr dO kI ∧ Fr dO kF
  fI : Fr dI kA ∧ Fr dI kS ∧ Fr dI kO ∧ Fr dI kI ∧ Fr dI kF
  dis : Dis dO dI
theorem ImH.mono {h h2 : Heap} {kA kS kO kI kF : Nat} {C O : List (List Bs)} {im : List Bs} {dO dI : D} (H : ImH h kA kS kO kI kF C O im dO dI) (hh : ∀ j c, h j = some c → h2 j = some c) : ImH h2 kA kS kO kI kF C O im dO dI where
  a := hh _ _ H.a
  s := hh _ _ H.s
  o := hh _ _ H.o
  so := slSub H.so hh
  i := hh _ _ H.i
  pi := H.pi.mono fun j c hj _ => hh j c hj
  f := hh _ _ H.f
  ne := H.ne
  fO := H.fO
  fI := H.fI
  dis := H.dis
theorem fr_new {h : Heap} {k j sz n : Nat} {c : List D} (hk : h k = none) (hj : h j = some c) : Fr (.sl k sz 0 n) j := Fr.sl fun e => by rw [e, hj] at hk; cases hk
theorem SlPre.oth {h h' : Heap} {d d0 : D} {sz n : Nat} {cells : List D} (ho : SlPre h d sz cells n) (hd : Dis d0 d) (hh : ∀ j c, h j = some c → Fr d0 j → h' j = some c) : SlPre h' d sz cells n := by
  obtain ⟨hc, h0 | ⟨k, tl, t, rfl, hkc, ht⟩⟩ := ho
  · exact ⟨hc, .inl h0⟩
  · refine ⟨hc, .inr ⟨k, tl, t, rfl, hh k _ hkc ?_, ht⟩⟩
    rcases hd k with h1 | h1
    · exact h1
    · exact absurd rfl (h1 sz 0 n)
theorem SlPre.upd' {h : Heap} {d : D} {sz n k : Nat} {cells c : List D} (ho : SlPre h d sz cells n) (hk : Fr d k) : SlPre (AM.upd h k c) d sz cells n :=
  ho.mono fun j c hj ⟨sz, off, n, hd⟩ => by rw [upd_ne (fun e => by subst e; exact hk _ _ _ hd)]; exact hj
theorem ImH.out {h h' : Heap} {kA kS kO kI kF ka : Nat} {C O : List (List Bs)} {im : List Bs} {dO dI : D} (H : ImH h kA kS kO kI kF C O im dO dI) (hn : h ka = none) (hk : h' ka = some (O.map imV ++ [imV im])) (hh : ∀ j c, h j = some c → Fr dO j → h' j = some c) :
    ImH (upd h' kO [.sl ka 1 0 (O.length + 1)]) kA kS kO kI kF C (O ++ [im]) im (.sl ka 1 0 (O.length + 1)) dI := by
  obtain ⟨⟨n1, n2⟩, ⟨n3, n4⟩, n5, n6, n7⟩ := H.ne
  obtain ⟨o1, o2, o3, o4, o5⟩ := H.fO
  have hka : ka ≠ kO := fun e => by rw [e, H.o] at hn; cases hn
  have hln : (O.map imV).length = O.length := List.length_map _
  refine ⟨?_, ?_, upd_self, ?_, ?_, ?_, ?_, H.ne, ⟨fr_new hn H.a, fr_new hn H.s, fr_new hn H.o, fr_new hn H.i, fr_new hn H.f⟩, H.fI, ?_⟩
  · rw [upd_ne n1]; exact hh _ _ H.a o1
  · rw [upd_ne n3]; exact hh _ _ H.s o2
  · rw [List.map_append, List.length_append, List.length_singleton]
    exact SlOwn.sl (by rw [upd_ne hka, hk]; rfl) (by rw [List.length_append, hln, Nat.mul_one]; rfl)
  · rw [upd_ne n5.symm]; exact hh _ _ H.i o4
  · exact (H.pi.oth H.dis hh).upd' H.fI.2.2.1
  · rw [upd_ne n6]; exact hh _ _ H.f o5
  · intro j
    by_cases hj : ka = j
    · subst hj
      right
      intro sz off n hd
      obtain ⟨-, ⟨-, h0 | h0⟩ | ⟨k, tl, t, h0, hkc, -⟩⟩ := H.pi
      · rw [h0] at hd; cases hd
      · rw [h0] at hd; cases hd
      · rw [h0] at hd; injection hd with hd; subst hd; rw [hn] at hkc; cases hkc
    · exact .inl (Fr.sl hj)
theorem ImH.put {h h' : Heap} {kA kS kO kI kF : Nat} {C O : List (List Bs)} {im : List Bs} {c : Bs} {dO dI da : D} (H : ImH h kA kS kO kI kF C O im dO dI) (hp : SlPre h' da 1 (im.map bD ++ [bD c]) (im.length + 1)) (hh : ∀ j c, h j = some c → Fr dI j → h' j = some c ∧ Fr da j) :
    ImH (upd h' kI [da]) kA kS kO kI kF C O (im ++ [c]) dO da := by
  obtain ⟨⟨n1, n2⟩, ⟨n3, n4⟩, n5, n6, n7⟩ := H.ne
  obtain ⟨i1, i2, i3, i4, i5⟩ := H.fI
  refine ⟨?_, ?_, ?_, ?_, upd_self, ?_, ?_, H.ne, H.fO, ⟨(hh _ _ H.a i1).2, (hh _ _ H.s i2).2, (hh _ _ H.o i3).2, (hh _ _ H.i i4).2, (hh _ _ H.f i5).2⟩, ?_⟩
  · rw [upd_ne n2]; exact (hh _ _ H.a i1).1
  · rw [upd_ne n4]; exact (hh _ _ H.s i2).1
  · rw [upd_ne n5]; exact (hh _ _ H.o i3).1
  · exact (H.so.oth H.dis.symm fun j c hj hf => (hh j c hj hf).1).upd' H.fO.2.2.2.1
  · rw [List.map_append, List.length_append, List.length_singleton]
    exact hp.upd' (hh _ _ H.i i4).2
  · rw [upd_ne n7]; exact (hh _ _ H.f i5).1
  · intro j
    by_cases hj : Fr dO j
    · exact .inl hj
    · right
      obtain ⟨-, ⟨-, h0⟩ | ⟨k, h0, hkc⟩⟩ := H.so
      · rcases h0 with h0 | h0 <;> exact absurd (fun sz off n hd => by rw [h0] at hd; cases hd) hj
      · have hjk : k = j := Classical.byContradiction fun h => hj (h0 ▸ Fr.sl h)
        subst hjk
        rcases H.dis k with h1 | h1
        · exact absurd h1 hj
        · exact (hh k _ hkc h1).2
theorem ImH.cut {h : Heap} {kA kS kO kI kF : Nat} {C O : List (List Bs)} {im : List Bs} {c : Bs} {dO dI : D} (H : ImH h kA kS kO kI kF C O (im ++ [c]) dO dI) : ∃ k, dI = .sl k 1 0 (im.length + 1) ∧
    ImH (upd h kI [.sl k 1 0 im.length]) kA kS kO kI kF C O im dO (.sl k 1 0 im.length) ∧ ∃ cs, h k = some cs ∧ im.length + 1 ≤ cs.length := by
  obtain ⟨⟨n1, n2⟩, ⟨n3, n4⟩, n5, n6, n7⟩ := H.ne
  obtain ⟨i1, i2, i3, i4, i5⟩ := H.fI
  have hp := H.pi
  rw [List.map_append, List.length_append, List.length_singleton] at hp
  obtain ⟨k, tl, t, rfl, hk, ht⟩ := hp.pos (by omega)
  have hf : ∀ {j}, Fr (.sl k 1 0 ((im ++ [c]).length)) j → Fr (.sl k 1 0 im.length) j := fun {j} hj => Fr.sl fun e => hj 1 0 _ (by rw [e])
  rw [show im.length + 1 = (im ++ [c]).length by simp] at *
  refine ⟨k, rfl, ⟨?_, ?_, ?_, H.so.upd' H.fO.2.2.2.1, upd_self, ?_, ?_, H.ne, H.fO, ⟨hf i1, hf i2, hf i3, hf i4, hf i5⟩, fun j => (H.dis j).imp id hf⟩, _, hk, ?_⟩
  · rw [upd_ne n2]; exact H.a
  · rw [upd_ne n4]; exact H.s
  · rw [upd_ne n5]; exact H.o
  · refine SlPre.upd' ⟨by simp, .inr ⟨k, bD c :: tl, t + 1, rfl, ?_, by simp [ht]⟩⟩ (hf i4)
    rw [hk]; simp
  · rw [upd_ne n7]; exact H.f
  · simp
end Go.Proofs.Ythblalidmmbcoaa
end
section
/- min -/
/- Images: the closure's walk. -/
set_option linter.unusedSimpArgs false
set_option linter.unusedVariables false
namespace Go.Proofs.Ythblalidmmbcoaa
open Go.AM Classical
set_option maxRecDepth 100000
set_option maxHeartbeats 4000000
theorem Rd_bD {h : Heap} (L : List Bs) : All2 (Rd h) (L.map bD) (L.map bD) := by
  refine ⟨rfl, fun i c d hc hd => ?_⟩
  rw [hc] at hd; injection hd with hd; subst hd
  rw [List.getElem?_map] at hc
  cases hb : L[i]? with
  | none => rw [hb] at hc; cases hc
  | some b => rw [hb] at hc; injection hc with hc; subst hc; exact Rd_vs
theorem choose_con {C : List (List Bs)} (hCl : C.length ≤ 1000000) (hC1 : ∀ c ∈ C, c.length ≤ 1000000 ∧ ∀ b ∈ c, b.length ≤ 1000000) {kA kS kO kI kF : Nat} :
    ∀ (r block : Nat) (im : List Bs) (O : List (List Bs)) (dO dI : D) (h : Heap) (Q : D → Heap → Prop), C.length = block + r → im.length = block → (∀ b ∈ im, b.length ≤ 1000000) → O.length + preP (C.drop block) ≤ 64 → ImH h kA kS kO kI kF C O im dO dI →
    (∀ h2 dO2 dI2, ImH h2 kA kS kO kI kF C (O ++ (prodF (C.drop block)).map (im ++ ·)) im dO2 dI2 → Q (.tup []) h2) →
    Con Try.prog 42 [.int .i64 block, .pt kA 0, .pt kO 0, .pt kI 0, .pt kF 0] h Q
  | 0, block, im, O, dO, dI, h, Q, hb, him, hib, hn, H, hQ => by
    refine con_of_W mixed Try.func42 A42k A42c (by simp [A42]) ?_
    simp only [A42, argEnv]
    have hd : C.drop block = [] := List.drop_eq_nil_of_le (by omega)
    rw [hd] at hQ hn
    have e1 : (prodF []).map (im ++ ·) = [im] := by simp [prodF]
    rw [e1] at hQ
    have ha := H.a
    have hs := H.s
    have ho := H.o
    have hii := H.i
    have hso := H.so
    have c1 := copies_c im (by omega) hib
    have hpi := H.pi
    have hle : C.length = block := by omega
    have hp1 : O.length + 1 ≤ 64 := hn
    repeat' (first | (with_reducible first | refine W_seq ?_ | refine then_n ?_) | ((with_reducible refine s_reg ?_); intro K hK) | ((with_reducible refine k_nil ?_); (with_reducible apply s_nil hK); (· exact nmX); clear hK; clear K) | ((with_reducible refine k_cond ?_); (((with_reducible apply s_condT); (· rfl); (· exact nmX)))) | ((with_reducible refine k_mv ?_); (refine s_mv rfl ?_)) | ((with_reducible refine k_len ?_); ((refine s_len rfl rfl ?_))) | ((with_reducible refine k_eql ?_); ((refine s_eql rfl rfl ?_))) | ((with_reducible refine k_load ?_); (((with_reducible apply s_loadP); (· rfl); (· (exact hpX))))) | ((with_reducible refine k_buildS (dst := some 15) ?_); ((with_reducible apply s_buildS); (· rfl); (· (exact ⟨rfl, by decide⟩)); (· ((simp only [fillB, rep, splice, List.reduceReplicate, List.flatten_cons, List.flatten_nil, List.cons_append, List.nil_append, List.append_nil, List.length_cons, List.length_nil, Nat.reduceAdd, Nat.reduceMul, Nat.reduceLeDiff, Nat.reduceEqDiff, eq_self, Nat.le_refl, Nat.zero_add, and_self, and_true, true_and, if_true, List.take_zero, List.take_succ_cons, List.drop_zero, List.drop_succ_cons, List.drop_nil, List.take_nil]; rfl))); intro k15 hk15; (try simp only [upd_none] at hk15))) | ((with_reducible refine k_append (dst := some 16) ?_); ((with_reducible apply s_app2); (· rfl); (· rfl); (· first | ((repeat' (first | assumption | (with_reducible apply SlOwn.upd))); done)); (· rfl); (· first | exact srcD_sl upd_self rfl); (· exact ⟨by rfl, by decide, by decide⟩); (· first | (rw [room_n]; omega)); intro ka16 ha16 hn16 hk16 hoth16)) | ((with_reducible refine k_dreg ?_); refine W_dregM (pre := A42d2a) (suf := A42d2b) rfl rfl rfl rfl ?_; intro K hK) | (with_reducible refine d_nilS ?_) | ((with_reducible refine k_dcall ?_); (((with_reducible apply d_callN); (· rfl); (· exact c1); (· (repeat (first | exact All2.nil | (apply All2.cons; (· first | exact Rd_pre hpi (Rd_bD _)))))); simp only [unow, unowC, List.map, vnw, vnC, vnC1]))) | ((with_reducible refine k_dop ?_); refine d_step (by exact Or.inr rfl) ?_) | (with_reducible refine d_back ?_) | ((with_reducible refine k_br ?_); ((refine Br_t (by omega) ?_))) | (((with_reducible apply q_eqO)); (exact liO)))
    all_goals first | (exfalso; omega) | skip
    have q1 := hoth16 kO _ (upd_sub hk15 _ _ ho) H.fO.2.2.1
    repeat' (first | (with_reducible first | refine then_n ?_ | refine W_ret ?_ | refine then_r ?_) | ((with_reducible refine k_nil ?_); (with_reducible apply s_nil hK); (· exact nmX); clear hK; clear K) | ((with_reducible refine k_store ?_); ((with_reducible apply s_store0); (· rfl); (· rfl); (· rfl); (· (exact hpX)); (· (exact ⟨rfl, by exact Nat.le_of_ble_eq_true rfl⟩)); (· ((exact liL))); (· (rfl)))))
    all_goals exact ⟨trivial, _, rfl, hQ _ _ _ (ImH.out (H.mono (upd_sub hk15)) hn16 hk16 hoth16)⟩
  | r + 1, block, im, O, dO, dI, h, Q, hb, him, hib, hn, H, hQ => by
    refine con_of_W mixed Try.func42 A42k A42c (by simp [A42]) ?_
    simp only [A42, argEnv]
    have hlt : block < C.length := by omega
    have hd : C.drop block = C[block] :: C.drop (block + 1) := List.drop_eq_getElem_cons hlt
    have ha := H.a
    have hs := H.s
    have ho := H.o
    have hii := H.i
    have g1 : (C.map bsD)[block]? = some (bsD C[block]) := by rw [List.getElem?_map, List.getElem?_eq_getElem hlt]; rfl
    obtain ⟨hc1, hc2⟩ := hC1 C[block] (List.getElem_mem hlt)
    rw [hd] at hQ hn
    have ih := choose_con hCl hC1 (kA := kA) (kS := kS) (kO := kO) (kI := kI) (kF := kF) r (block + 1)
    generalize C[block] = c at *
    have hal := bs_len c
    repeat' (first | (with_reducible first | refine W_seq ?_ | refine then_n ?_ | refine W_block ?_ | refine W_skip ?_) | ((with_reducible refine s_reg ?_); intro K hK) | ((with_reducible refine k_nil ?_); (with_reducible apply s_nil hK); (· exact nmX); clear hK; clear K) | ((with_reducible refine k_cond ?_); (((with_reducible apply s_condF); (· rfl); (· exact nmX)))) | ((with_reducible refine k_mv ?_); (refine s_mv rfl ?_)) | ((with_reducible refine k_len ?_); ((refine s_len rfl rfl ?_))) | ((with_reducible refine k_eql ?_); ((refine s_eql rfl rfl ?_))) | ((with_reducible refine k_iaddr ?_); (((with_reducible apply s_iaddrO); (· rfl); (· rfl); (· (omega)); (· (exact hpX))))) | ((with_reducible refine k_load ?_); (((with_reducible apply s_loadP); (· rfl); (· (exact hpX))))) | ((with_reducible refine k_br ?_); ((refine Br_f (by omega) ?_))) | (((with_reducible apply q_eqN)); ((simp (disch := omega) only [w64, wu8, wu16, wu32, wu64, tm_nn, td_nn, fd_nn, Int.reduceAdd, Int.reduceSub, Int.reduceMul, Int.reduceDiv, Int.reduceMod, Int.reduceNeg, Int.reduceToNat, Int.toNat_natCast, Int.toNat_zero, Int.zero_add, Int.add_zero, Int.one_mul, Int.reducePow, Nat.mul_one, Nat.zero_add, Nat.add_zero, Nat.zero_mul, Nat.reduceAdd, Nat.reduceMul, Nat.reduceSub, Nat.min_eq_left, IntKind.bits, Nat.sub_zero, g1]; try rfl; done))) | (((with_reducible apply q_eqO)); ((simp (disch := omega) only [upd_self, upd_ne, upd_upd, rep, splice, List.take_succ_cons, List.take_zero, List.drop_succ_cons, List.drop_zero, List.cons_append, List.nil_append, List.append_nil, List.length_cons, List.length_nil, List.reduceReplicate, List.flatten_cons, List.flatten_nil, Nat.reduceAdd, Nat.reduceMul, Nat.reduceSub, Nat.zero_add, Nat.add_zero, List.getElem?_cons_zero, List.getElem?_cons_succ, g1]; try rfl; done))))
    all_goals first | (exfalso; omega) | skip
    have e0 : ((block + 1 : Nat) : Int) = (block : Int) + 1 := by omega
    simp only [e0] at ih
    have hpp : preP (c :: C.drop (block + 1)) = c.length * preP (C.drop (block + 1)) := rfl
    rw [hpp] at hn
    have hpl := prodF_len (C.drop (block + 1))
    have e2 : ∀ i (hi : i < c.length), (c.take (i + 1)).flatMap (fun x => (prodF (C.drop (block + 1))).map (im ++ [x] ++ ·)) = (c.take i).flatMap (fun x => (prodF (C.drop (block + 1))).map (im ++ [x] ++ ·)) ++ (prodF (C.drop (block + 1))).map (im ++ [c[i]] ++ ·) := fun i hi => by
      rw [List.take_add_one, List.getElem?_eq_getElem hi, List.flatMap_append]; simp
    have e3 : ∀ i, ((c.take i).flatMap (fun x => (prodF (C.drop (block + 1))).map (im ++ [x] ++ ·))).length = (c.take i).length * preP (C.drop (block + 1)) := fun i => by
      rw [← hpl]
      generalize c.take i = z
      induction z with
      | nil => simp
      | cons x z ih => rw [List.flatMap_cons, List.length_append, ih, List.length_map, List.length_cons, Nat.add_mul, Nat.one_mul, Nat.add_comm]
    have e4 : (prodF (c :: C.drop (block + 1))).map (im ++ ·) = c.flatMap (fun x => (prodF (C.drop (block + 1))).map (im ++ [x] ++ ·)) := by
      rw [prodF, List.map_flatMap]
      congr 1
      funext x
      rw [List.map_map]
      congr 1
      funext z
      simp
    rw [e4] at hQ
    clear e4
    generalize prodF (C.drop (block + 1)) = R at *
    generalize preP (C.drop (block + 1)) = pr at *
    refine W_for c.length (fun i st => ∃ h', st = ⟨[(0, .int .i64 block), (3, .pt kI 0), (4, .pt kF 0), (20, bsD c), (21, .int .i64 c.length), (22, .int .i64 i)], h'⟩ ∧ ∃ dO2 dI2, ImH h' kA kS kO kI kF C (O ++ (c.take i).flatMap (fun x => R.map (im ++ [x] ++ ·))) im dO2 dI2) ⟨_, rfl, dO, dI, by simpa using H⟩ ?_ ?_
    · rintro i e' h' hi ⟨h1, he, dO2, dI2, H2⟩
      cases he
      have g2 := bsg hi
      have hx := hc2 c[i] (List.getElem_mem hi)
      rw [e2 i hi, ← List.append_assoc]
      have hO2 : (O ++ (c.take i).flatMap (fun x => R.map (im ++ [x] ++ ·))).length + pr ≤ 64 := by
        rw [List.length_append, e3, List.length_take, Nat.min_eq_left (by omega)]
        have : (i + 1) * pr ≤ c.length * pr := Nat.mul_le_mul_right _ (by omega)
        rw [Nat.add_mul] at this
        omega
      generalize O ++ (c.take i).flatMap (fun x => R.map (im ++ [x] ++ ·)) = O2 at *
      generalize c[i] = x at *
      have hi2 := H2.i
      have hf2 := H2.f
      have hp2 := H2.pi
      repeat' (first | (with_reducible first | refine W_seq ?_ | refine then_n ?_ | refine W_block ?_ | refine W_skip ?_) | ((with_reducible refine s_reg ?_); intro K hK) | ((with_reducible refine k_nil ?_); (with_reducible apply s_nil hK); (· exact nmX); clear hK; clear K) | ((with_reducible refine k_cond ?_); (((with_reducible apply s_condT); (· rfl); (· exact nmX)))) | ((with_reducible refine k_mv ?_); (refine s_mv rfl ?_)) | ((with_reducible refine k_lss ?_); (refine s_lss rfl rfl ?_)) | ((with_reducible refine k_iaddr ?_); (((with_reducible apply s_iaddrV); (· rfl); (· rfl); (· (omega))))) | ((with_reducible refine k_load ?_); (first | ((with_reducible apply s_loadV); (· rfl)) | ((with_reducible apply s_loadP); (· rfl); (· (exact hpX))))) | ((with_reducible refine k_buildS (dst := some 28) ?_); ((with_reducible apply s_buildS); (· rfl); (· (exact ⟨rfl, by decide⟩)); (· ((simp only [fillB, rep, splice, List.reduceReplicate, List.flatten_cons, List.flatten_nil, List.cons_append, List.nil_append, List.append_nil, List.length_cons, List.length_nil, Nat.reduceAdd, Nat.reduceMul, Nat.reduceLeDiff, Nat.reduceEqDiff, eq_self, Nat.le_refl, Nat.zero_add, and_self, and_true, true_and, if_true, List.take_zero, List.take_succ_cons, List.drop_zero, List.drop_succ_cons, List.drop_nil, List.take_nil]; rfl))); intro k28 hk28; (try simp only [upd_none] at hk28))) | ((with_reducible refine k_br ?_); ((refine Br_t (by omega) ?_))) | (((with_reducible apply q_eqN)); ((simp (disch := omega) only [w64, wu8, wu16, wu32, wu64, tm_nn, td_nn, fd_nn, Int.reduceAdd, Int.reduceSub, Int.reduceMul, Int.reduceDiv, Int.reduceMod, Int.reduceNeg, Int.reduceToNat, Int.toNat_natCast, Int.toNat_zero, Int.zero_add, Int.add_zero, Int.one_mul, Int.reducePow, Nat.mul_one, Nat.zero_add, Nat.add_zero, Nat.zero_mul, Nat.reduceAdd, Nat.reduceMul, Nat.reduceSub, Nat.min_eq_left, IntKind.bits, Nat.sub_zero, g2]; try rfl; done))) | (((with_reducible apply q_eqO)); ((simp (disch := omega) only [upd_self, upd_ne, upd_upd, rep, splice, List.take_succ_cons, List.take_zero, List.drop_succ_cons, List.drop_zero, List.cons_append, List.nil_append, List.append_nil, List.length_cons, List.length_nil, List.reduceReplicate, List.flatten_cons, List.flatten_nil, Nat.reduceAdd, Nat.reduceMul, Nat.reduceSub, Nat.zero_add, Nat.add_zero, List.getElem?_cons_zero, List.getElem?_cons_succ, g2]; try rfl; done))))
      all_goals first | (exfalso; omega) | skip
      refine s_appP rfl rfl (hp2.mono fun j c hj _ => upd_sub hk28 j c hj) rfl (srcD_sl upd_self rfl) ⟨rfl, by decide⟩ (by rw [room_n]; omega) fun da ha hso hoth => ?_
      have H3 := (H2.mono (upd_sub hk28)).put hso fun j c hj hf => hoth j c hj hf
      obtain ⟨ka, tl, t, rfl, hO, ht⟩ := hso.pos (by omega)
      have q1 := (hoth kI _ (upd_sub hk28 _ _ hi2) H2.fI.2.2.2.1).1
      repeat' (first | (with_reducible first | refine W_seq ?_ | refine then_n ?_) | ((with_reducible refine s_reg ?_); intro K hK) | ((with_reducible refine k_nil ?_); (with_reducible apply s_nil hK); (· exact nmX); clear hK; clear K) | ((with_reducible refine k_store ?_); ((with_reducible apply s_store0); (· rfl); (· rfl); (· rfl); (· (exact hpX)); (· (exact ⟨rfl, by exact Nat.le_of_ble_eq_true rfl⟩)); (· ((exact liL))); (· (rfl)))))
      all_goals first | (exfalso; omega) | skip
      have hf3 := H3.f
      have hi3 := H3.i
      have ih2 := fun {Q : D → Heap → Prop} q => ih (im ++ [x]) O2 dO2 _ _ Q (by omega) (by simp; omega) (fun b hb => by rcases List.mem_append.1 hb with h1 | h1; exact hib b h1; rw [List.mem_singleton.1 h1]; exact hx) hO2 H3 q
      repeat' (first | (with_reducible first | refine then_n ?_ | refine blk_n ?_) | ((with_reducible refine s_reg ?_); intro K hK) | ((with_reducible refine k_nil ?_); (with_reducible apply s_nil hK); (· exact nmX); clear hK; clear K) | ((with_reducible refine k_mv ?_); (refine s_mv rfl ?_)) | ((with_reducible refine k_load ?_); (((with_reducible apply s_loadP); (· rfl); (· (exact hpX))))) | ((with_reducible refine k_add ?_); ((with_reducible apply s_add); (· rfl); (· rfl))) | ((with_reducible refine k_store ?_); ((with_reducible apply s_store0); (· rfl); (· rfl); (· rfl); (· (exact hpX)); (· (exact ⟨rfl, by exact Nat.le_of_ble_eq_true rfl⟩)); (· ((exact liL))); (· (rfl)))) | ((with_reducible refine k_slice ?_); (((with_reducible apply s_sliceO); (· rfl); (· (exact b_none)); (· ((apply b_some; (· rfl); (· omega); (· (exact nuN))))); (· (omega))))) | ((with_reducible refine k_callT ?_); ((with_reducible apply s_callt); (· rfl); (· rfl); (· rfl))) | ((with_reducible refine k_con ?_); ((refine ih2 ?_; intro h5 dO5 dI5 H5; have hi5 := H5.i; obtain ⟨k5, e5, H6, cs5, hk5, hl5⟩ := H5.cut; subst e5))) | ((first | (with_reducible apply q_eqI) | (with_reducible apply q_eqN)); (first | exact nuI | exact nuN)) | (((with_reducible apply q_eqO)); (exact liO)))
      all_goals first | (exfalso; omega) | skip
      rw [him] at H6
      exact ⟨_, rfl, _, _, H6⟩
    · rintro e' h' ⟨h1, he, dO2, dI2, H2⟩
      cases he
      rw [List.take_length] at H2
      repeat' (first | (with_reducible first | refine W_seq ?_ | refine then_n ?_ | refine blk_e ?_ | refine W_exit ?_ | refine then_e ?_) | ((with_reducible refine s_reg ?_); intro K hK) | ((with_reducible refine k_nil ?_); (with_reducible apply s_nil hK); (· exact nmX); clear hK; clear K) | ((with_reducible refine k_cond ?_); (((with_reducible apply s_condF); (· rfl); (· exact nmX)))) | ((with_reducible refine k_lss ?_); (refine s_lss rfl rfl ?_)) | ((with_reducible refine k_br ?_); ((refine Br_f (by omega) ?_))))
      all_goals first | (exfalso; omega) | exact ⟨trivial, _, rfl, hQ _ _ _ H2⟩
end Go.Proofs.Ythblalidmmbcoaa
end
section
/- min -/
/- Images. -/
set_option linter.unusedSimpArgs false
set_option linter.unusedVariables false
namespace Go.Proofs.Ythblalidmmbcoaa
open Go.AM Classical
set_option maxRecDepth 100000
set_option maxHeartbeats 4000000
def chL (B : List Bs) (l : List Ev) : List (List Bs) := (List.range B.length).map (chF B l)
theorem chL_len (B : List Bs) (l : List Ev) : (chL B l).length = B.length := by simp [chL]
theorem chL_get {B : List Bs} {l : List Ev} {i : Nat} (h : i < (chL B l).length) : (chL B l)[i] = chF B l i := by simp [chL]
def limI (C : List (List Bs)) : Prop := ∃ i < C.length, 64 < preP (C.take (i + 1))
noncomputable def imR (B : List Bs) (l : List Ev) : D := if chkR B l = 0 then (if limI (chL B l) then .tup [.vs 1 [] 0, .int .i64 9] else .tup [.vs 1 ((prodF (chL B l)).map bsD) (prodF (chL B l)).length, .int .i64 0]) else .tup [.vs 1 [] 0, .int .i64 (chkR B l)]
theorem imV_rn {h : Heap} (L : List (List Bs)) : All2 (Rn h) (L.map imV) (L.map bsD) := by
  refine ⟨by simp, fun i c d hc hd => ?_⟩
  rw [List.getElem?_map] at hc hd
  cases hb : L[i]? with
  | none => rw [hb] at hd; cases hd
  | some b => rw [hb] at hc hd; injection hc with hc; injection hd with hd; subst hc; subst hd; exact Rn_vn
def allC (C : List (List Bs)) (i : Nat) : List D := (C.take i).map bsD ++ List.replicate (C.length - i) .nil
theorem allC_len (C : List (List Bs)) {i : Nat} (h : i ≤ C.length) : (allC C i).length = C.length := by
  unfold allC; rw [List.length_append, List.length_map, List.length_take, List.length_replicate]; omega
theorem allC_set {C : List (List Bs)} {i : Nat} (h : i < C.length) : splice (allC C i) i [bsD C[i]] = allC C (i + 1) := by
  have hl := allC_len C (Nat.le_of_lt h)
  have hm : ((C.take i).map bsD).length = i := by rw [List.length_map, List.length_take]; omega
  unfold splice allC
  rw [List.take_left' hm, List.length_singleton]
  rw [show C.length - i = (C.length - (i + 1)) + 1 by omega, List.replicate_succ, List.drop_append, List.drop_eq_nil_of_le (by omega), hm]
  rw [List.take_add_one, List.getElem?_eq_getElem h, List.map_append]
  simp
theorem allC_get {C : List (List Bs)} {i : Nat} (h : i < C.length) : (allC C (i + 1))[i]? = some (bsD C[i]) := by
  have hm : ((C.take (i + 1)).map bsD).length = i + 1 := by rw [List.length_map, List.length_take]; omega
  unfold allC
  rw [List.getElem?_append_left (by omega), List.getElem?_map, List.getElem?_take, if_pos (by omega), List.getElem?_eq_getElem h]
  rfl
theorem allC_end (C : List (List Bs)) : allC C C.length = C.map bsD := by unfold allC; simp
theorem rep_nil (n : Nat) : rep n [D.nil] = List.replicate n .nil := by
  unfold rep; induction n with
  | zero => rfl
  | succ n ih => rw [List.replicate_succ, List.flatten_cons, ih, List.replicate_succ]; rfl
theorem dimages_c {B : List Bs} {l : List Ev} (Ho : HOk B l) : PCon Try.prog 18 [bsD B, evD l] (imR B l) := by
  refine A18p (by simp [A18]) ?_
  simp only [A18, argEnv]
  unfold imR
  have hB := Ho.nB
  have hL := Ho.nL
  have hal := bs_len B
  have hlen := chL_len B l
  by_cases hc : chkR B l = 0
  · rw [if_pos hc]
    repeat' (first | (with_reducible first | refine W_seq ?_ | refine then_n ?_ | refine W_block ?_ | refine W_skip ?_) | ((with_reducible refine s_reg ?_); intro K hK) | ((with_reducible refine k_nil ?_); (with_reducible apply s_nil hK); (· exact nmX); clear hK; clear K) | ((with_reducible refine k_cond ?_); (((with_reducible apply s_condF); (· rfl); (· exact nmX)))) | ((with_reducible refine k_mv ?_); (refine s_mv rfl ?_)) | ((with_reducible refine k_extract ?_); (refine s_extract rfl rfl ?_)) | ((with_reducible refine k_len ?_); ((refine s_len rfl rfl ?_))) | ((with_reducible refine k_neq ?_); ((refine s_neq rfl rfl ?_))) | ((with_reducible refine k_mkslice (dst := some 25) ?_); ((with_reducible apply s_mkslice); (· rfl); (· rfl); (· (exact ⟨rfl, by decide, by omega, by omega, by (rw [room_i]; omega), by omega⟩)); (· ((exact nuN))); intro k25 hk25; (try simp only [upd_none] at hk25))) | ((with_reducible refine k_store ?_); ((with_reducible apply s_store0); (· rfl); (· rfl); (· rfl); (· (exact hpX)); (· (exact ⟨rfl, by exact Nat.le_of_ble_eq_true rfl⟩)); (· ((exact liL))); (· (exact upd_upd)))) | ((with_reducible refine k_alloc (dst := some 8) ?_); ((with_reducible apply s_alloc); intro k8 hk8; (try simp only [upd_none] at hk8))) | ((with_reducible refine k_callF ?_); (((with_reducible apply s_call1); (· rfl)))) | ((with_reducible refine k_con ?_); ((refine after_ok hB hL Ho.id hc ?_; intro h2 k kF kC dO H hh))) | ((with_reducible refine k_br ?_); ((refine Br_t (by with_reducible rfl) ?_))))
    all_goals first | (exfalso; omega) | skip
    have hle : ∀ i (hi : i < (chL B l).length), ((chL B l)[i]).length ≤ 902 := fun i hi => by rw [chL_get]; have := ch_len (B := B) (l := l) (b := i); omega
    have h32 : ∀ i (hi : i < (chL B l).length), ∀ b ∈ (chL B l)[i], b.length = 32 := fun i hi b hb => by rw [chL_get] at hb; exact ch_32 hc (by omega) hb
    have pk : ∀ {h : Heap} (hs : ∀ j c, h2 j = some c → h j = some c) (i : Nat) (hi : i < (chL B l).length), PK Try.prog h [.pt k 0, .int .i64 i] 41 (bsD (chL B l)[i]) := fun hs i hi => by rw [chL_get]; exact stch_pk Ho hc (H.mono hs) i (by omega)
    generalize hC : chL B l = C at *
    have hCB : C.length ≤ 1000000 := by omega
    rw [← hlen]
    have hps : ∀ i (hi : i < C.length), preP (C.take (i + 1)) = preP (C.take i) * (C[i]).length := fun i hi => by rw [List.take_add_one, List.getElem?_eq_getElem hi]; exact preP_snoc _ _
    refine W_for C.length (fun i st => ∃ h', st = ⟨[(6, .pt k 0), (8, .pt k8 0), (9, .int .i64 (preP (C.take i) : Nat)), (27, .int .i64 C.length), (28, .int .i64 i)], h'⟩ ∧ h' k8 = some [.sl k25 1 0 C.length] ∧ h' k25 = some (allC C i) ∧ (∀ j c, h2 j = some c → h' j = some c) ∧ (preP (C.take i) ≤ 64 ∧ ∀ t, t < i → preP (C.take (t + 1)) ≤ 64)) ⟨_, rfl, upd_self, ?_, fun j c hj => upd_sub (by rw [upd_ne hk8.1]; exact hk8.2) j c (upd_sub hk25 j c hj), by simp [preP], fun t ht => by omega⟩ ?_ ?_
    · rw [upd_ne hk8.1.symm, upd_self, rep_nil]; simp [allC]
    · rintro i e' h' hi ⟨h1, he, q1, q2, hs, hp, ht⟩
      cases he
      have hb0 := hle i hi
      have p1 := pk hs i hi
      have hcl := allC_len C (Nat.le_of_lt hi)
      have hst := allC_set hi
      have hgt := allC_get hi
      have hlim : 64 < preP (C.take (i + 1)) → limI C := fun h => ⟨i, hi, h⟩
      have hmul : ((preP (C.take i) : Nat) : Int) * ((C[i]).length : Nat) = (preP (C.take (i + 1)) : Nat) := by rw [hps i hi]; simp
      have hpb : preP (C.take (i + 1)) ≤ 64 * 902 := by rw [hps i hi]; exact Nat.mul_le_mul hp hb0
      have hal2 := bs_len C[i]
      generalize C[i] = c at *
      generalize preP (C.take i) = pi at *
      generalize hpj : preP (C.take (i + 1)) = pj at *
      generalize allC C i = A at *
      generalize allC C (i + 1) = A2 at *
      unfold splice at hst
      rw [List.length_singleton] at hst
      repeat' (first | (with_reducible first | refine W_seq ?_ | refine then_n ?_ | refine W_block ?_ | refine blk_n ?_ | refine blk_r ?_ | refine W_skip ?_ | refine W_ret ?_ | refine then_r ?_) | ((with_reducible refine s_reg ?_); intro K hK) | ((with_reducible refine k_nil ?_); (with_reducible apply s_nil hK); (· exact nmX); clear hK; clear K) | ((with_reducible refine k_cond ?_); (first | ((with_reducible apply s_condT); (· rfl); (· exact nmX)) | ((with_reducible apply s_condF); (· rfl); (· exact nmX)))) | ((with_reducible refine k_mv ?_); (refine s_mv rfl ?_)) | ((with_reducible refine k_len ?_); ((refine s_len rfl rfl ?_))) | ((with_reducible refine k_lss ?_); (refine s_lss rfl rfl ?_)) | ((with_reducible refine k_gtr ?_); (refine s_gtr rfl rfl ?_)) | ((with_reducible refine k_iaddr ?_); (((with_reducible apply s_iaddrO); (· rfl); (· rfl); (· (omega)); (· (exact hpX))))) | ((with_reducible refine k_load ?_); (((with_reducible apply s_loadP); (· rfl); (· (exact hpX))))) | ((with_reducible refine k_add ?_); ((with_reducible apply s_add); (· rfl); (· rfl))) | ((with_reducible refine k_mul ?_); ((with_reducible apply s_mul); (· rfl); (· rfl))) | ((with_reducible refine k_store ?_); ((with_reducible apply s_store0); (· rfl); (· rfl); (· rfl); (· (exact hpX)); (· (exact ⟨rfl, by omega⟩)); (· (((simp (disch := omega) only [upd_self, upd_ne, upd_upd, rep, splice, List.take_succ_cons, List.take_zero, List.drop_succ_cons, List.drop_zero, List.cons_append, List.nil_append, List.append_nil, List.length_cons, List.length_nil, List.reduceReplicate, List.flatten_cons, List.flatten_nil, Nat.reduceAdd, Nat.reduceMul, Nat.reduceSub, Nat.zero_add, Nat.add_zero, List.getElem?_cons_zero, List.getElem?_cons_succ, hst, hgt, hmul]; try rfl; done)))); (· (rfl)))) | ((with_reducible refine k_dreg ?_); refine s_dregS (pre := A18d10p) rfl rfl rfl ?_; intro K hK) | (with_reducible refine d_nilS ?_) | ((with_reducible refine k_dcall ?_); (((with_reducible apply d_callK); (· rfl); (· exact p1); (· rfl)))) | ((with_reducible refine k_dop ?_); refine d_step (by first | exact Or.inl rfl | exact Or.inr rfl) ?_) | (with_reducible refine d_back ?_) | ((with_reducible refine k_br ?_); (first | (refine Br_t (by omega) ?_) | (with_reducible apply Br_s <;> intro hbr))) | ((first | (with_reducible apply q_eqI) | (with_reducible apply q_eqN)); ((simp (disch := omega) only [w64, wu8, wu16, wu32, wu64, tm_nn, td_nn, fd_nn, Int.reduceAdd, Int.reduceSub, Int.reduceMul, Int.reduceDiv, Int.reduceMod, Int.reduceNeg, Int.reduceToNat, Int.toNat_natCast, Int.toNat_zero, Int.zero_add, Int.add_zero, Int.one_mul, Int.reducePow, Nat.mul_one, Nat.zero_add, Nat.add_zero, Nat.zero_mul, Nat.reduceAdd, Nat.reduceMul, Nat.reduceSub, Nat.min_eq_left, IntKind.bits, Nat.sub_zero, hst, hgt, hmul]; try rfl; done))) | (((with_reducible apply q_eqO)); ((simp (disch := omega) only [upd_self, upd_ne, upd_upd, rep, splice, List.take_succ_cons, List.take_zero, List.drop_succ_cons, List.drop_zero, List.cons_append, List.nil_append, List.append_nil, List.length_cons, List.length_nil, List.reduceReplicate, List.flatten_cons, List.flatten_nil, Nat.reduceAdd, Nat.reduceMul, Nat.reduceSub, Nat.zero_add, Nat.add_zero, List.getElem?_cons_zero, List.getElem?_cons_succ, hst, hgt, hmul]; try rfl; done))))
      all_goals first | (exfalso; omega) | skip
      · rw [if_pos (hlim (by omega))]
        exact Fin_tupN trivial rfl (All2.cons Rn_nil (All2.cons (Rn_scal rfl) All2.nil)) rfl
      · refine ⟨_, rfl, ?_, upd_self, fun j c hj => ?_, by omega, fun t ht2 => ?_⟩
        · rw [upd_ne hk8.1]; exact q1
        · rw [upd_ne (fun e => by rw [e, hk25] at hj; cases hj)]; exact hs j c hj
        · rcases Nat.lt_succ_iff_lt_or_eq.1 ht2 with h3 | rfl
          · exact ht t h3
          · rw [hpj]; omega
    · rintro e' h' ⟨h1, he, q1, q2, hs, hp, ht⟩
      cases he
      rw [if_neg (fun ⟨i, hi, h⟩ => by have := ht i hi; omega)]
      rw [allC_end] at q2
      clear hps
      rw [List.take_length] at hp
      repeat' (first | (with_reducible first | refine W_seq ?_ | refine then_n ?_ | refine blk_e ?_ | refine W_exit ?_ | refine then_e ?_) | ((with_reducible refine s_reg ?_); intro K hK) | ((with_reducible refine k_nil ?_); (with_reducible apply s_nil hK); (· exact nmX); clear hK; clear K) | ((with_reducible refine k_cond ?_); (((with_reducible apply s_condF); (· rfl); (· exact nmX)))) | ((with_reducible refine k_lss ?_); (refine s_lss rfl rfl ?_)) | ((with_reducible refine k_load ?_); (((with_reducible apply s_loadP); (· rfl); (· (exact hpX))))) | ((with_reducible refine k_store ?_); ((with_reducible apply s_store0); (· rfl); (· rfl); (· rfl); (· (exact hpX)); (· (exact ⟨rfl, by exact Nat.le_of_ble_eq_true rfl⟩)); (· ((exact liL))); (· (exact upd_upd)))) | ((with_reducible refine k_alloc (dst := some 11) ?_); ((with_reducible apply s_alloc); intro k11 hk11; (try simp only [upd_none] at hk11))) | ((with_reducible refine k_alloc (dst := some 12) ?_); ((with_reducible apply s_alloc); intro k12 hk12; (try simp only [upd_none] at hk12))) | ((with_reducible refine k_alloc (dst := some 13) ?_); ((with_reducible apply s_alloc); intro k13 hk13; (try simp only [upd_none] at hk13))) | ((with_reducible refine k_mkfn ?_); ((with_reducible apply s_mkfn); (· rfl); (· rfl))) | ((with_reducible refine k_callT ?_); ((with_reducible apply s_callt); (· rfl); (· rfl); (· rfl))) | ((with_reducible refine k_br ?_); ((refine Br_f (by omega) ?_))) | (((with_reducible apply q_eqO)); (exact liO)))
      all_goals first | (exfalso; omega) | skip
      have hC1 : ∀ c ∈ C, c.length ≤ 1000000 ∧ ∀ b ∈ c, b.length ≤ 1000000 := fun c hcm => by
        obtain ⟨i, hi, rfl⟩ := List.mem_iff_getElem.1 hcm
        refine ⟨by have := hle i hi; omega, fun b hb => ?_⟩
        have h32 := h32 i hi b hb
        omega
      refine choose_con hCB hC1 (kA := k8) (kS := k25) C.length 0 [] [] .nil .nil _ _ (by omega) rfl (by simp) (by simpa using hp) ?_ (fun h5 dO5 dI5 H5 => ?_)
      · have n8 : ∀ {j}, h' j = none → k8 ≠ j := fun hj e => by rw [← e, q1] at hj; cases hj
        have n25 : ∀ {j}, h' j = none → k25 ≠ j := fun hj e => by rw [← e, q2] at hj; cases hj
        obtain ⟨a1, a2⟩ := hk12
        obtain ⟨b1, b2, b3⟩ := hk13
        refine ⟨?_, ?_, ?_, SlOwn.nil, ?_, SlPre.nil, upd_self, ⟨⟨n8 hk11, n8 a2⟩, ⟨n25 hk11, n25 a2⟩, Ne.symm a1, b2, b1⟩, ⟨Fr.nil, Fr.nil, Fr.nil, Fr.nil, Fr.nil⟩, ⟨Fr.nil, Fr.nil, Fr.nil, Fr.nil, Fr.nil⟩, fun j => .inl Fr.nil⟩
        · rw [upd_ne (n8 b3), upd_ne (n8 a2), upd_ne (n8 hk11)]; exact q1
        · rw [upd_ne (n25 b3), upd_ne (n25 a2), upd_ne (n25 hk11)]; exact q2
        · rw [upd_ne (Ne.symm b2), upd_ne (Ne.symm a1)]; exact upd_self
        · rw [upd_ne (Ne.symm b1)]; exact upd_self
      · have ho5 := H5.o
        have so5 := H5.so
        repeat' (first | (with_reducible first | refine W_seq ?_ | refine then_n ?_ | refine W_ret ?_) | ((with_reducible refine s_reg ?_); intro K hK) | ((with_reducible refine k_nil ?_); (with_reducible apply s_nil hK); (· exact nmX); clear hK; clear K) | ((with_reducible refine k_mv ?_); (refine s_mv rfl ?_)) | ((with_reducible refine k_load ?_); (((with_reducible apply s_loadP); (· rfl); (· (exact hpX))))) | (((with_reducible apply q_eqO)); (exact liO)))
        all_goals first | (exfalso; omega) | skip
        have e5 : [] ++ (prodF (C.drop 0)).map ([] ++ ·) = prodF C := by simp
        rw [e5] at so5
        exact Fin_tupN trivial rfl (All2.cons (Rn_so so5 (imV_rn _)) (All2.cons (Rn_scal rfl) All2.nil)) rfl
  · rw [if_neg hc]
    have c1 := fun {h : Heap} {Q : D → Heap → Prop} q => after_no (h := h) (Q := Q) hB hL Ho.id hc q
    generalize chkR B l = e at *
    repeat' (first | (with_reducible first | refine W_seq ?_ | refine then_n ?_ | refine W_ret ?_ | refine then_r ?_) | ((with_reducible refine s_reg ?_); intro K hK) | ((with_reducible refine k_nil ?_); (with_reducible apply s_nil hK); (· exact nmX); clear hK; clear K) | ((with_reducible refine k_cond ?_); (((with_reducible apply s_condT); (· rfl); (· exact nmX)))) | ((with_reducible refine k_mv ?_); (refine s_mv rfl ?_)) | ((with_reducible refine k_extract ?_); (refine s_extract rfl rfl ?_)) | ((with_reducible refine k_neq ?_); ((refine s_neq rfl rfl ?_))) | ((with_reducible refine k_callF ?_); (((with_reducible apply s_call1); (· rfl)))) | ((with_reducible refine k_con ?_); ((refine c1 ?_; intro h2 hh))) | ((with_reducible refine k_br ?_); ((refine Br_f (by omega) ?_))))
    all_goals first | (exfalso; omega) | exact Fin_tupN trivial rfl (All2.cons Rn_nil (All2.cons (Rn_scal rfl) All2.nil)) rfl
end Go.Proofs.Ythblalidmmbcoaa
end
section
/- min -/
/- The example of a device that is driven. -/
set_option linter.unusedSimpArgs false
set_option linter.unusedVariables false
namespace Go.Proofs.Ythblalidmmbcoaa
open Go.AM Classical
set_option maxRecDepth 100000
set_option maxHeartbeats 4000000
def exL : List Io := [⟨0, 1, 4, 0⟩, ⟨2, 0, 0, 0⟩, ⟨0, 1, 5, 0⟩]
def exB : List Bs := [pg 0, pg 0, pg 0]
def exD : Dv := ⟨4, 2, exB, [⟨1, pg 5⟩], [⟨1, 2, 1, pg 6⟩]⟩
def exH : List Ev := [⟨1, 0, 1, pg 5⟩, ⟨2, 0, 0, []⟩, ⟨1, 1, 1, pg 6⟩]
theorem ex_drv : drvF exL = (exD, exH) := by rfl
theorem ex_chk : chkR exB exH = 0 := by decide
theorem ex_chL : chL exB exH = [[pg 0], [pg 0, pg 5, pg 6], [pg 0]] := by decide
theorem ex_lim : ¬ limI (chL exB exH) := by
  rw [ex_chL]
  rintro ⟨i, hi, h⟩
  match i with
  | 0 => exact absurd h (by decide)
  | 1 => exact absurd h (by decide)
  | 2 => exact absurd h (by decide)
  | i + 3 => simp at hi; omega
theorem ex_im : imR exB exH = .tup [.vs 1 ((prodF [[pg 0], [pg 0, pg 5, pg 6], [pg 0]]).map bsD) 3, .int .i64 0] := by
  unfold imR
  rw [if_pos ex_chk, if_neg ex_lim, ex_chL]
  rfl
theorem ex_cr : crF [false, true] exD.blocks 0 (caW exD.cache ++ quW exD.queue) = [pg 0, pg 6, pg 0] := by decide
theorem pg_by {a : Int} (h : 0 ≤ a ∧ a ≤ 255) : byB (pg a) := fun x hx => by rw [List.eq_of_mem_replicate hx]; exact h
theorem ex_HOk : HOk exB exH := ⟨by decide, by decide, by decide, fun b hb => by simp [exB] at hb; rw [hb]; exact pg_by (by decide), fun x hx => by
    simp [exH] at hx
    rcases hx with rfl | rfl | rfl
    · exact pg_by (by decide)
    · exact fun a ha => by simp at ha
    · exact pg_by (by decide)⟩
theorem driven_c : PCon Try.prog 33 [] (.bool true) := by
  have c1 := drive_c exL (by decide) (by decide)
  rw [ex_drv] at c1
  have c2 := dimages_c ex_HOk
  rw [ex_im] at c2
  have ok : DvOk exD := by
    have := drv_take exL (by decide) 3 (by decide)
    rw [show exL.take 3 = exL from rfl, ex_drv] at this
    exact this.ok
  have c3 := crash_c exD ok [false, true]
  rw [ex_cr] at c3
  have hg : (([pg 0, pg 6, pg 0] : List Bs).map bD)[1]? = some (bD (pg 6)) := rfl
  have hl : ([pg 0, pg 6, pg 0] : List Bs).length = 3 := rfl
  generalize ([pg 0, pg 6, pg 0] : List Bs) = CB at *
  have hm : (CB.map bD).length = 3 := by rw [List.length_map, hl]
  have c4 := dPage_v 6
  refine A33p (by simp [A33]) ?_
  simp only [A33, argEnv]
  repeat' (first | (with_reducible first | refine W_seq ?_ | refine then_n ?_ | refine W_ret ?_) | ((with_reducible refine s_reg ?_); intro K hK) | ((with_reducible refine k_nil ?_); (with_reducible apply s_nil hK); (· exact nmX); clear hK; clear K) | ((with_reducible refine k_mv ?_); (refine s_mv rfl ?_)) | ((with_reducible refine k_extract ?_); (refine s_extract rfl rfl ?_)) | ((with_reducible refine k_len ?_); ((refine s_len rfl rfl ?_))) | ((with_reducible refine k_pick ?_); ((refine s_pickT rfl rfl ?_))) | ((with_reducible refine k_eql ?_); (first | (refine s_eql rfl rfl ?_) | (refine s_strEq rfl rfl ?_))) | ((with_reducible refine k_iaddr ?_); (((with_reducible apply s_iaddrV); (· rfl); (· rfl); (· (omega))))) | ((with_reducible refine k_load ?_); (first | ((with_reducible apply s_loadV); (· rfl)) | ((with_reducible apply s_loadP); (· rfl); (· (exact hpX))))) | ((with_reducible refine k_loadA ?_); (((with_reducible apply s_loadAP); (· rfl); (· (exact hpX)); (· (exact Nat.le_of_ble_eq_true rfl))))) | ((with_reducible refine k_store ?_); ((with_reducible apply s_store0); (· rfl); (· rfl); (· rfl); (· (exact hpX)); (· (exact ⟨rfl, by exact Nat.le_of_ble_eq_true rfl⟩)); (· (((simp (disch := omega) only [upd_self, upd_ne, upd_upd, rep, splice, List.take_succ_cons, List.take_zero, List.drop_succ_cons, List.drop_zero, List.cons_append, List.nil_append, List.append_nil, List.length_cons, List.length_nil, List.reduceReplicate, List.flatten_cons, List.flatten_nil, Nat.reduceAdd, Nat.reduceMul, Nat.reduceSub, Nat.zero_add, Nat.add_zero, List.getElem?_cons_zero, List.getElem?_cons_succ, hg, Int.toNat_natCast]; try rfl; done)))); (· (exact upd_upd)))) | ((with_reducible refine k_faddr ?_); (((with_reducible apply s_faddrP); (· rfl); (· rfl)))) | ((with_reducible refine k_strB ?_); ((with_reducible apply s_strB); (· rfl); (· (exact strD_vs0 _)))) | ((with_reducible refine k_alloc (dst := some 1) ?_); ((with_reducible apply s_alloc); intro k1 hk1; (try simp only [upd_none] at hk1))) | ((with_reducible refine k_alloc (dst := some 7) ?_); ((with_reducible apply s_alloc); intro k7 hk7; (try simp only [upd_none] at hk7))) | ((with_reducible refine k_build ?_); ((with_reducible apply s_build); (· rfl); (· rfl))) | ((with_reducible refine k_buildS (dst := some 13) ?_); ((with_reducible apply s_buildS); (· rfl); (· (exact ⟨rfl, by decide⟩)); (· ((simp only [fillB, rep, splice, List.reduceReplicate, List.flatten_cons, List.flatten_nil, List.cons_append, List.nil_append, List.append_nil, List.length_cons, List.length_nil, Nat.reduceAdd, Nat.reduceMul, Nat.reduceLeDiff, Nat.reduceEqDiff, eq_self, Nat.le_refl, Nat.zero_add, and_self, and_true, true_and, if_true, List.take_zero, List.take_succ_cons, List.drop_zero, List.drop_succ_cons, List.drop_nil, List.take_nil]; rfl))); intro k13 hk13; (try simp only [upd_none] at hk13))) | ((with_reducible refine k_buildS (dst := some 27) ?_); ((with_reducible apply s_buildS); (· rfl); (· (exact ⟨rfl, by decide⟩)); (· ((simp only [fillB, rep, splice, List.reduceReplicate, List.flatten_cons, List.flatten_nil, List.cons_append, List.nil_append, List.append_nil, List.length_cons, List.length_nil, Nat.reduceAdd, Nat.reduceMul, Nat.reduceLeDiff, Nat.reduceEqDiff, eq_self, Nat.le_refl, Nat.zero_add, and_self, and_true, true_and, if_true, List.take_zero, List.take_succ_cons, List.drop_zero, List.drop_succ_cons, List.drop_nil, List.take_nil]; rfl))); intro k27 hk27; (try simp only [upd_none] at hk27))) | ((with_reducible refine k_callF ?_); (((with_reducible apply s_call1); (· rfl)))) | ((with_reducible refine k_con ?_); (first | ((with_reducible apply con_val (c1)); (· (repeat (first | exact All2.nil | (apply All2.cons; (· first | exact rdX))))); (· rfl); (· exact fun _ => rfl)) | ((with_reducible apply con_val (c2)); (· (repeat (first | exact All2.nil | (apply All2.cons; (· first | exact rdX))))); (· rfl); (· exact fun _ => rfl)) | ((with_reducible apply con_val (c3)); (· (repeat (first | exact All2.nil | (apply All2.cons; (· first | exact Rd_dv | exact rdX))))); (· rfl); (· exact fun _ => rfl)))) | ((with_reducible refine k_dreg ?_); refine s_dreg rfl rfl ?_; intro K hK) | ((with_reducible refine k_dnil ?_); (with_reducible apply d_nil hK); (· exact nmX); clear hK; clear K) | ((with_reducible refine k_dguard ?_); ((refine d_gt rfl ?_))) | ((with_reducible refine k_dcall ?_); (((with_reducible apply d_call); (· rfl); (· exact c4); (· (repeat (first | exact All2.nil | (apply All2.cons; (· first | exact rdX))))); simp only [unow, unowC, List.map]))) | ((with_reducible refine k_dop ?_); refine d_step (by first | exact Or.inl rfl | exact Or.inr rfl) ?_) | (with_reducible refine d_back ?_) | ((with_reducible refine k_br ?_); ((refine Br_t (by first | with_reducible rfl | omega | rfl) ?_))) | (((with_reducible apply q_eqN)); ((simp (disch := omega) only [w64, wu8, wu16, wu32, wu64, tm_nn, td_nn, fd_nn, Int.reduceAdd, Int.reduceSub, Int.reduceMul, Int.reduceDiv, Int.reduceMod, Int.reduceNeg, Int.reduceToNat, Int.toNat_natCast, Int.toNat_zero, Int.zero_add, Int.add_zero, Int.one_mul, Int.reducePow, Nat.mul_one, Nat.zero_add, Nat.add_zero, Nat.zero_mul, Nat.reduceAdd, Nat.reduceMul, Nat.reduceSub, Nat.min_eq_left, IntKind.bits, Nat.sub_zero, hg, Int.toNat_natCast]; try rfl; done))) | ((first | (with_reducible apply q_eqL) | (with_reducible apply q_eqO)); ((simp (disch := omega) only [upd_self, upd_ne, upd_upd, rep, splice, List.take_succ_cons, List.take_zero, List.drop_succ_cons, List.drop_zero, List.cons_append, List.nil_append, List.append_nil, List.length_cons, List.length_nil, List.reduceReplicate, List.flatten_cons, List.flatten_nil, Nat.reduceAdd, Nat.reduceMul, Nat.reduceSub, Nat.zero_add, Nat.add_zero, List.getElem?_cons_zero, List.getElem?_cons_succ, hg, Int.toNat_natCast]; try rfl; done))))
  rw [beq_self_eq_true]
  first | exact Fin_flat trivial rfl rfl | (refine Fin_tup trivial rfl ?_ (Nat.le_of_ble_eq_true rfl); (repeat (first | exact All2.nil | (apply All2.cons; (· first | exact exc_n | exact exc_e | exact exc_v rfl rfl | exact exc_o upd_self rfl rfl)))); done) | (refine Fin_own trivial rfl upd_self ?_ (Nat.le_of_ble_eq_true rfl); (repeat (first | exact All2.nil | (apply All2.cons; (· first | exact exc_n | exact exc_e | exact exc_v rfl rfl | exact exc_o upd_self rfl rfl)))); done) | exact Fin_nil trivial rfl | exact Fin_sl trivial rfl upd_self rfl rfl
end Go.Proofs.Ythblalidmmbcoaa
end
section
/- A driven device and its history. No program. -/
set_option linter.unusedSimpArgs false
set_option linter.unusedVariables false
namespace Go.Proofs.Ythblalidmmbcoaa
open Go.AM Classical
set_option maxRecDepth 100000
set_option maxHeartbeats 4000000
def okS : Sd → List Int → List Ev → Prop
  | _, _, [] => True
  | s, ids, x :: r => wroS s ids x = 0 ∧ okS (appS s x) (idsS ids x) r
def s0 (B : List Bs) : Sd := { firm := B, cache := List.replicate B.length none, out := [] }
theorem stS_fold (B : List Bs) (l : List Ev) : ∀ n, n ≤ l.length → stS B l n = (l.take n).foldl appS (s0 B)
  | 0, _ => rfl
  | n + 1, h => by rw [stS_s (by omega), stS_fold B l n (by omega), take_s (by omega), List.foldl_append]; rfl
theorem idS_fold (l : List Ev) : ∀ n, n ≤ l.length → idS l n = (l.take n).foldl idsS []
  | 0, _ => rfl
  | n + 1, h => by rw [idS_s (by omega), idS_fold l n (by omega), take_s (by omega), List.foldl_append]; rfl
theorem okS_app : ∀ {l : List Ev} {s : Sd} {ids : List Int} {x : Ev}, okS s ids (l ++ [x]) ↔ okS s ids l ∧ wroS (l.foldl appS s) (l.foldl idsS ids) x = 0
  | [], s, ids, x => by simp [okS]
  | a :: r, s, ids, x => by
    show (_ ∧ okS _ _ (r ++ [x])) ↔ _
    rw [okS_app]
    simp only [okS, List.foldl_cons, and_assoc]
theorem okS_take {B : List Bs} {l : List Ev} : ∀ n, n ≤ l.length → (okS (s0 B) [] (l.take n) ↔ ∀ i, i < n → errS B l i = 0)
  | 0, _ => by simp [okS]
  | n + 1, h => by
    rw [take_s (by omega), okS_app, okS_take n (by omega), ← stS_fold B l n (by omega), ← idS_fold l n (by omega), ← errS_s (by omega)]
    constructor
    · rintro ⟨h1, h2⟩ i hi
      rcases Nat.lt_succ_iff_lt_or_eq.1 hi with h3 | rfl
      · exact h1 i h3
      · exact h2
    · exact fun h1 => ⟨fun i hi => h1 i (by omega), h1 n (by omega)⟩
theorem chk_ok {B : List Bs} {l : List Ev} (hB : okB B) (h : okS (s0 B) [] l) : chkR B l = 0 := by
  rw [← chk_eq]
  unfold chkS
  rw [if_pos hB]
  exact fE_zero.2 ((okS_take l.length (Nat.le_refl _)).1 (by rw [List.take_length]; exact h))
/-! ### A write that is taken out of the history -/
theorem erase_P {α : Type} {p : α → Bool} : ∀ {l : List α} (k : Nat) (hk : k < l.length), p l[k] = true → (∀ j (hj : j < k), p (l[j]'(by omega)) = false) → l.eraseIdx k = l.eraseP p
  | [], k, hk, _, _ => by simp at hk
  | a :: r, 0, hk, h1, _ => by rw [List.eraseIdx_cons_zero, List.eraseP_cons_of_pos (by simpa using h1)]
  | a :: r, k + 1, hk, h1, h2 => by
    have ha : p a = false := h2 0 (by omega)
    rw [List.eraseIdx_cons_succ, List.eraseP_cons_of_neg (by simp [ha])]
    rw [erase_P k (by simpa using hk) (by simpa using h1) fun j hj => by simpa using h2 (j + 1) (by omega)]
theorem done_eq {s : Sd} {i : Int} (h : 0 ≤ firstI (isO i) s.out) : ∃ w, s.out.find? (isO i) = some w ∧ doneS s i = { firm := s.firm, cache := s.cache.set w.block.toNat (some w.data), out := s.out.eraseP (isO i) } := by
  obtain ⟨hk, h1, h2⟩ := firstI_sp h
  refine ⟨s.out[(firstI (isO i) s.out).toNat], ?_, ?_⟩
  · exact List.find?_eq_some_iff_getElem.2 ⟨h1, _, hk, rfl, fun j hj => by rw [h2 j hj]; rfl⟩
  · unfold doneS
    rw [List.getElem?_eq_getElem hk, erase_P _ hk h1 h2]
def rmO (i : Int) (s : Sd) : Sd := { firm := s.firm, cache := s.cache, out := s.out.filter fun w => decide (w.id ≠ i) }
theorem fil_find {α : Type} {p q : α → Bool} (h : ∀ x, p x = true → q x = true) : ∀ (l : List α), (l.filter q).find? p = l.find? p
  | [] => rfl
  | a :: r => by
    rw [List.filter_cons]
    cases hp : p a with
    | true => rw [if_pos (h a hp), List.find?_cons_of_pos (by simpa using hp), List.find?_cons_of_pos (by simpa using hp)]
    | false =>
      rw [List.find?_cons_of_neg (by simp [hp]), ← fil_find h r]
      split
      · rw [List.find?_cons_of_neg (by simp [hp])]
      · rfl
theorem fil_erase {α : Type} {p q : α → Bool} (h : ∀ x, p x = true → q x = true) : ∀ (l : List α), (l.filter q).eraseP p = (l.eraseP p).filter q
  | [] => rfl
  | a :: r => by
    rw [List.filter_cons]
    cases hp : p a with
    | true => rw [if_pos (h a hp), List.eraseP_cons_of_pos (by simpa using hp), List.eraseP_cons_of_pos (by simpa using hp)]
    | false =>
      rw [List.eraseP_cons_of_neg (by simp [hp]), List.filter_cons, ← fil_erase h r]
      split
      · rw [List.eraseP_cons_of_neg (by simp [hp])]
      · rfl
def keepE (i : Int) (e : Ev) : Bool := decide (e.kind ≠ 1 ∨ e.id ≠ i)
theorem rm_step {i : Int} {s : Sd} {ids ids' : List Int} {x : Ev} (h : wroS s ids x = 0) (h1 : x.kind = 1 → x.id ≠ i) (h2 : x.kind = 2 → x.id ≠ i) (hs : ∀ j ∈ ids', j ∈ ids) :
    wroS (rmO i s) ids' x = 0 ∧ appS (rmO i s) x = rmO i (appS s x) := by
  unfold wroS at h ⊢
  unfold appS
  split at h
  · rename_i hk
    rw [if_pos hk, if_pos hk, if_pos hk]
    split at h
    · cases h
    · rename_i h3
      split at h
      · cases h
      · rename_i h4
        split at h
        · cases h
        · rename_i h5
          have h3' : ¬(x.block < 0 ∨ ((rmO i s).firm.length : Int) ≤ x.block) := h3
          refine ⟨by rw [if_neg h3', if_neg h4, if_neg fun h6 => h5 (hs _ h6)], ?_⟩
          unfold rmO
          simp only [List.filter_append, List.filter_cons, List.filter_nil]
          rw [if_pos (decide_eq_true (show x.wr.id ≠ i from h1 hk))]
  · rename_i hk1
    rw [if_neg hk1, if_neg hk1, if_neg hk1]
    split at h
    · rename_i hk
      rw [if_pos hk, if_pos hk, if_pos hk]
      split at h
      · cases h
      · rename_i h3
        split at h
        · cases h
        · rename_i h4
          have hsub : ∀ w : Wr, isO x.id w = true → (decide (w.id ≠ i)) = true := fun w hw => by
            have : w.id = x.id := by simpa [isO] using hw
            simpa [this] using h2 hk
          have h5 : 0 ≤ firstI (isO x.id) (rmO i s).out := by
            obtain ⟨w, hw, hp⟩ := firstI_nn.1 (by omega : 0 ≤ firstI (isO x.id) s.out)
            exact firstI_nn.2 ⟨w, List.mem_filter.2 ⟨hw, hsub w hp⟩, hp⟩
          refine ⟨by rw [if_neg h3, if_neg (by omega)], ?_⟩
          obtain ⟨w1, e1, e2⟩ := done_eq h5
          obtain ⟨w2, e3, e4⟩ := done_eq (by omega : 0 ≤ firstI (isO x.id) s.out)
          rw [e2, e4]
          have : w1 = w2 := by
            have e5 : (rmO i s).out.find? (isO x.id) = s.out.find? (isO x.id) := fil_find hsub s.out
            rw [e5, e3] at e1
            injection e1 with e1
            exact e1.symm
          subst this
          unfold rmO
          simp only []
          rw [fil_erase hsub]
    · rename_i hk2
      rw [if_neg hk2, if_neg hk2, if_neg hk2]
      split at h
      · rename_i hk
        rw [if_pos hk, if_pos hk, if_pos hk]
        exact ⟨h, rfl⟩
      · cases h
theorem fil_ok {i : Int} : ∀ (l : List Ev) (s : Sd) (ids ids' : List Int), okS s ids l → (∀ x ∈ l, x.kind = 2 → x.id ≠ i) → (∀ j ∈ ids', j ∈ ids) →
    okS (rmO i s) ids' (l.filter (keepE i)) ∧ (l.filter (keepE i)).foldl appS (rmO i s) = rmO i (l.foldl appS s) ∧ ∀ j ∈ (l.filter (keepE i)).foldl idsS ids', j ∈ l.foldl idsS ids
  | [], s, ids, ids', _, _, hs => ⟨trivial, rfl, hs⟩
  | x :: r, s, ids, ids', ⟨h1, h2⟩, hd, hs => by
    rw [List.filter_cons]
    have hids : ∀ j ∈ ids', j ∈ idsS ids x := fun j hj => by unfold idsS; split; exact List.mem_cons_of_mem _ (hs j hj); exact hs j hj
    by_cases hk : keepE i x = true
    · rw [if_pos hk]
      obtain ⟨a1, a2⟩ := rm_step (i := i) h1 (fun h => by unfold keepE at hk; have := of_decide_eq_true hk; omega) (hd x List.mem_cons_self) hs
      obtain ⟨b1, b2, b3⟩ := fil_ok r (appS s x) (idsS ids x) (idsS ids' x) h2 (fun y hy => hd y (List.mem_cons_of_mem _ hy)) fun j hj => by
        unfold idsS at hj ⊢
        split at hj
        · rename_i hk1; rw [if_pos hk1]
          rcases List.mem_cons.1 hj with h | h
          · rw [h]; exact List.mem_cons_self
          · exact List.mem_cons_of_mem _ (hs j h)
        · rename_i hk1; rw [if_neg hk1]; exact hs j hj
      refine ⟨⟨a1, by rw [a2]; exact b1⟩, ?_, b3⟩
      rw [List.foldl_cons, List.foldl_cons, a2]
      exact b2
    · rw [if_neg hk]
      have hk2 : x.kind = 1 ∧ x.id = i := by
        have hk' : ¬ (x.kind ≠ 1 ∨ x.id ≠ i) := fun h => hk (decide_eq_true h)
        omega
      have e : rmO i (appS s x) = rmO i s := by
        unfold appS rmO
        rw [if_pos hk2.1]
        simp [Ev.wr, hk2.2]
      have := fil_ok r (appS s x) (idsS ids x) ids' h2 (fun y hy => hd y (List.mem_cons_of_mem _ hy)) hids
      rw [e] at this
      exact this
/-! ### The cache, the blocks -/
theorem setC_in {C : List Ca} {b : Int} {x : Bs} : (⟨b, x⟩ : Ca) ∈ setC C b x := by
  unfold setC
  split
  · rename_i h
    obtain ⟨h1, _⟩ := hasC_t h
    exact List.mem_iff_getElem.2 ⟨lbC C b, by simpa using h1, by simp⟩
  · simp
theorem setC_old {C : List Ca} {b : Int} {x : Bs} {c : Ca} (hc : c ∈ C) (hb : c.block ≠ b) : c ∈ setC C b x := by
  unfold setC
  split
  · rename_i h
    obtain ⟨h1, h2⟩ := hasC_t h
    obtain ⟨i, hi, rfl⟩ := List.mem_iff_getElem.1 hc
    refine List.mem_iff_getElem.2 ⟨i, by simpa using hi, ?_⟩
    rw [List.getElem_set, if_neg]
    rintro rfl
    exact hb h2
  · rw [← List.take_append_drop (lbC C b) C] at hc
    rcases List.mem_append.1 hc with h | h
    · simp [h]
    · simp [h]
theorem ca_uniq {C : List Ca} (hp : C.Pairwise (fun a b => a.block < b.block)) {a b : Ca} (ha : a ∈ C) (hb : b ∈ C) (h : a.block = b.block) : a = b := by
  obtain ⟨i, hi, rfl⟩ := List.mem_iff_getElem.1 ha
  obtain ⟨j, hj, rfl⟩ := List.mem_iff_getElem.1 hb
  rw [List.pairwise_iff_getElem] at hp
  rcases Nat.lt_trichotomy i j with h1 | h1 | h1
  · have := hp i j hi hj h1; omega
  · subst h1; rfl
  · have := hp j i hj hi h1; omega
theorem setC_iff {C : List Ca} {n : Int} {b : Int} {x : Bs} (hp : C.Pairwise (fun a b => a.block < b.block)) (hc : ∀ c ∈ C, 0 ≤ c.block ∧ c.block < n) (hb : 0 ≤ b ∧ b < n) (b' : Int) (x' : Bs) :
    (⟨b', x'⟩ : Ca) ∈ setC C b x ↔ if b = b' then x = x' else (⟨b', x'⟩ : Ca) ∈ C := by
  have hp2 := (setC_ok (x := x) hp hc hb).1
  by_cases e : b = b'
  · subst e
    rw [if_pos rfl]
    constructor
    · intro h
      have := ca_uniq hp2 setC_in h rfl
      injection this
    · rintro rfl; exact setC_in
  · rw [if_neg e]
    constructor
    · intro h
      rcases setC_mem h with h | h
      · exact h
      · injection h with h1 h2; exact absurd h1.symm e
    · exact fun h => setC_old h fun h2 => e h2.symm
theorem fluB_get : ∀ {B : List Bs} {C : List Ca} {n : Int}, C.Pairwise (fun a b => a.block < b.block) → (∀ c ∈ C, 0 ≤ c.block ∧ c.block < n) → n ≤ B.length → ∀ (b : Nat), (∀ x, (⟨b, x⟩ : Ca) ∈ C → (fluB B C).getD b [] = x) ∧ ((∀ x, (⟨b, x⟩ : Ca) ∉ C) → (fluB B C).getD b [] = B.getD b [])
  | B, [], n, _, _, _, b => ⟨fun x h => by simp at h, fun _ => rfl⟩
  | B, c :: r, n, hp, hc, hn, b => by
    obtain ⟨hp1, hp2⟩ := List.pairwise_cons.1 hp
    have hcb := hc c List.mem_cons_self
    obtain ⟨i1, i2⟩ := fluB_get (B := B.set c.block.toNat c.data) (C := r) (n := n) hp2 (fun c' h => hc c' (List.mem_cons_of_mem _ h)) (by simpa using hn) b
    have hg := set_getD (l := B) (i := c.block.toNat) (j := b) (a := c.data) (d := []) (by omega)
    refine ⟨fun x h => ?_, fun h => ?_⟩
    · rcases List.mem_cons.1 h with h | h
      · show (fluB (B.set _ _) r).getD b [] = x
        rw [i2 fun y hy => ?_, hg, if_pos]
        · rw [← h]
        · rw [← h]; simp
        · have := hp1 _ hy
          rw [← h] at this
          simp at this
      · exact i1 x h
    · show (fluB (B.set _ _) r).getD b [] = _
      rw [i2 fun y hy => h y (List.mem_cons_of_mem _ hy), hg, if_neg]
      intro e
      refine h c.data ?_
      have : c = ⟨(b : Int), c.data⟩ := by
        obtain ⟨c1, c2⟩ := c
        dsimp only at e hcb ⊢
        rw [show c1 = (b : Int) by omega]
      rw [← this]
      exact List.mem_cons_self
theorem con_get {d : Dv} (ok : DvOk d) {b : Nat} (hb : b < d.blocks.length) : (∀ x, (⟨b, x⟩ : Ca) ∈ d.cache → conD d b = x) ∧ ((∀ x, (⟨b, x⟩ : Ca) ∉ d.cache) → conD d b = d.blocks.getD b []) := by
  obtain ⟨hp, hc⟩ := ordC_iff.1 ok.ord
  unfold conD
  cases hh : hasC d.cache b with
  | true =>
    obtain ⟨h1, h2⟩ := hasC_t hh
    rw [if_pos rfl, List.getElem?_eq_getElem h1]
    have hm := List.getElem_mem h1
    refine ⟨fun x hx => ?_, fun h => absurd hm (by
      have := h (d.cache[lbC d.cache b]).data
      generalize d.cache[lbC d.cache b] = c at *
      obtain ⟨c1, c2⟩ := c
      dsimp only at h2
      rw [h2]
      exact this)⟩
    have := ca_uniq hp hm hx h2
    dsimp only
    rw [this]
  | false =>
    rw [if_neg (by simp), List.getElem?_eq_getElem hb]
    refine ⟨fun x hx => ?_, fun _ => by simp [List.getElem?_eq_getElem hb]⟩
    exfalso
    obtain ⟨i, hi, e⟩ := List.mem_iff_getElem.1 hx
    rcases Nat.lt_trichotomy i (lbC d.cache b) with h1 | h1 | h1
    · have := lbC_lt i hi h1; rw [e] at this; exact absurd this (Int.lt_irrefl _)
    · subst h1
      exact hasC_f hh hi (by rw [e])
    · have h2 : lbC d.cache b < d.cache.length := by omega
      have h3 := lbC_ge h2
      have h4 := List.pairwise_iff_getElem.1 hp _ i h2 hi h1
      rw [e] at h4
      dsimp only at h4
      omega
end Go.Proofs.Ythblalidmmbcoaa
end
section
/- A driven device and its history: what ties them. No program. -/
set_option linter.unusedSimpArgs false
set_option linter.unusedVariables false
namespace Go.Proofs.Ythblalidmmbcoaa
open Go.AM Classical
set_option maxRecDepth 100000
set_option maxHeartbeats 4000000
abbrev bs0 : List Bs := [pg 0, pg 0, pg 0]
def Rq.wr (q : Rq) : Wr := ⟨q.id, q.block, q.data⟩
def wrs (Q : List Rq) : List Wr := (Q.filter fun q => decide (q.kind = 2)).map Rq.wr
theorem er_filter : ∀ {Q : List Rq}, Q.Pairwise (fun a b => a.id < b.id) → ∀ (p : Nat) (hp : p < Q.length), Q.eraseIdx p = Q.filter fun q => decide (q.id ≠ Q[p].id)
  | [], _, p, hp => by simp at hp
  | a :: r, h, 0, hp => by
    obtain ⟨h1, h2⟩ := List.pairwise_cons.1 h
    rw [List.eraseIdx_cons_zero, List.filter_cons, if_neg (by simp)]
    exact (List.filter_eq_self.2 fun q hq => by
      have := h1 q hq
      simp only [List.getElem_cons_zero]
      exact decide_eq_true (by omega)).symm
  | a :: r, h, p + 1, hp => by
    obtain ⟨h1, h2⟩ := List.pairwise_cons.1 h
    have hp' : p < r.length := by simpa using hp
    rw [List.eraseIdx_cons_succ, List.filter_cons, if_pos, er_filter h2 p hp']
    · rfl
    · have := h1 _ (List.getElem_mem hp')
      simp only [List.getElem_cons_succ]
      exact decide_eq_true (by omega)
theorem wrs_filter (Q : List Rq) (i : Int) : wrs (Q.filter fun q => decide (q.id ≠ i)) = (wrs Q).filter fun w => decide (w.id ≠ i) := by
  unfold wrs
  rw [List.filter_map, List.filter_filter, List.filter_filter]
  congr 1
  refine List.filter_congr fun q _ => ?_
  simp only [Rq.wr, Function.comp]
  exact Bool.and_comm _ _
theorem erP_filter {i : Int} : ∀ {o : List Wr}, o.Pairwise (fun a b => a.id < b.id) → o.eraseP (isO i) = o.filter fun w => decide (w.id ≠ i)
  | [], _ => rfl
  | a :: r, h => by
    obtain ⟨h1, h2⟩ := List.pairwise_cons.1 h
    by_cases hi : a.id = i
    · rw [List.eraseP_cons_of_pos (by simpa [isO] using hi), List.filter_cons, if_neg (by simpa using hi)]
      exact (List.filter_eq_self.2 fun q hq => by
        have := h1 q hq
        exact decide_eq_true (by omega)).symm
    · rw [List.eraseP_cons_of_neg (by simpa [isO] using hi), List.filter_cons, if_pos (by simpa using hi), erP_filter h2]
theorem wrs_pw {Q : List Rq} (h : Q.Pairwise (fun a b => a.id < b.id)) : (wrs Q).Pairwise (fun a b => a.id < b.id) :=
  List.pairwise_map.2 ((h.sublist List.filter_sublist).imp fun h => h)
theorem wrs_mem {Q : List Rq} {w : Wr} : w ∈ wrs Q ↔ ∃ q ∈ Q, q.kind = 2 ∧ q.wr = w := by
  unfold wrs
  simp only [List.mem_map, List.mem_filter, decide_eq_true_eq]
  constructor
  · rintro ⟨q, ⟨h1, h2⟩, h3⟩; exact ⟨q, h1, h2, h3⟩
  · rintro ⟨q, h1, h2, h3⟩; exact ⟨q, ⟨h1, h2⟩, h3⟩
theorem rq_uniq {Q : List Rq} (hp : Q.Pairwise (fun a b => a.id < b.id)) {a b : Rq} (ha : a ∈ Q) (hb : b ∈ Q) (h : a.id = b.id) : a = b := by
  obtain ⟨i, hi, rfl⟩ := List.mem_iff_getElem.1 ha
  obtain ⟨j, hj, rfl⟩ := List.mem_iff_getElem.1 hb
  rw [List.pairwise_iff_getElem] at hp
  rcases Nat.lt_trichotomy i j with h1 | h1 | h1
  · have := hp i j hi hj h1; omega
  · subst h1; rfl
  · have := hp j i hj hi h1; omega
structure Tie (d : Dv) (S : Sd) : Prop where
  firm : S.firm = d.blocks
  clen : S.cache.length = 3
  cache : ∀ (b : Nat) x, b < 3 → (S.cache.getD b none = some x ↔ (⟨b, x⟩ : Ca) ∈ d.cache)
  out : S.out = wrs d.queue
structure TieH (s : Dv × List Ev) : Prop where
  ok : okS (s0 bs0) [] s.2
  tie : Tie s.1 (s.2.foldl appS (s0 bs0))
  ids : ∀ i ∈ s.2.foldl idsS [], i < s.1.next
  dn : ∀ x ∈ s.2, x.kind = 2 → x.id < s.1.next ∧ ∀ q ∈ s.1.queue, q.id ≠ x.id
  ev : ∀ x ∈ s.2, 0 ≤ x.id ∧ x.id ≤ s.1.next ∧ byB x.data
theorem tie_w {d : Dv} {h : List Ev} (T : TieH (d, h)) (hbl : d.blocks.length = 3) (hn : 0 ≤ d.next) {b : Nat} (hb : b < 3) {x : Bs} (hx : x.length = 32) (hy : byB x) : TieH (subD d 2 b x, h ++ [⟨1, d.next, b, x⟩]) := by
  obtain ⟨ok, ⟨t1, t2, t3, t4⟩, ids, dn, ev⟩ := T
  dsimp only at *
  refine ⟨okS_app.2 ⟨ok, ?_⟩, ?_, ?_, ?_, ?_⟩
  · unfold wroS
    rw [if_pos rfl, t1, hbl, if_neg (by dsimp only; omega), if_neg (by simpa using hx), if_neg fun h => absurd (ids _ h) (Int.lt_irrefl _)]
  · dsimp only
    rw [List.foldl_append]
    refine ⟨t1, t2, t3, ?_⟩
    show (h.foldl appS (s0 bs0)).out ++ [_] = wrs (d.queue ++ [_])
    unfold wrs
    rw [List.filter_append, List.map_append, ← wrs, ← t4]
    rfl
  · dsimp only
    rw [List.foldl_append]
    intro i hi
    show i < d.next + 1
    rcases List.mem_cons.1 (show i ∈ d.next :: h.foldl idsS [] from hi) with h | h
    · omega
    · have := ids i h; omega
  · intro y hy2 hk
    rcases List.mem_append.1 hy2 with h | h
    · obtain ⟨h1, h2⟩ := dn y h hk
      refine ⟨by show _ < d.next + 1; omega, fun q hq => ?_⟩
      rcases List.mem_append.1 hq with h3 | h3
      · exact h2 q h3
      · rw [List.mem_singleton.1 h3]; show d.next ≠ _; omega
    · rw [List.mem_singleton.1 h] at hk; simp at hk
  · intro y hy2
    show _ ∧ _ ≤ d.next + 1 ∧ _
    rcases List.mem_append.1 hy2 with h | h
    · obtain ⟨h1, h2, h3⟩ := ev y h
      exact ⟨h1, by omega, h3⟩
    · rw [List.mem_singleton.1 h]; exact ⟨hn, by show d.next ≤ _; omega, hy⟩
theorem tie_f {d : Dv} {h : List Ev} (T : TieH (d, h)) : TieH (subD d 3 0 [], h) := by
  obtain ⟨ok, ⟨t1, t2, t3, t4⟩, ids, dn, ev⟩ := T
  dsimp only at *
  refine ⟨ok, ⟨t1, t2, t3, ?_⟩, fun i hi => by show i < d.next + 1; have := ids i hi; omega, fun y hy hk => ?_, fun y hy => ?_⟩
  · show _ = wrs (d.queue ++ [_])
    unfold wrs
    rw [List.filter_append, List.map_append, ← wrs, t4]
    simp
  · obtain ⟨h1, h2⟩ := dn y hy hk
    refine ⟨by show _ < d.next + 1; omega, fun q hq => ?_⟩
    rcases List.mem_append.1 hq with h3 | h3
    · exact h2 q h3
    · rw [List.mem_singleton.1 h3]; show d.next ≠ _; omega
  · obtain ⟨h1, h2, h3⟩ := ev y hy
    exact ⟨h1, by show _ ≤ d.next + 1; omega, h3⟩
theorem wrs_er2 {d : Dv} (ok : DvOk d) {p : Nat} (hp : p < d.queue.length) : wrs (d.queue.eraseIdx p) = (wrs d.queue).filter fun w => decide (w.id ≠ d.queue[p].id) := by
  rw [er_filter (ordQ_iff.1 ok.qord).1 p hp, wrs_filter]
theorem wrs_er3 {d : Dv} (ok : DvOk d) {p : Nat} (hp : p < d.queue.length) (hk : d.queue[p].kind ≠ 2) : wrs (d.queue.eraseIdx p) = wrs d.queue := by
  rw [wrs_er2 ok hp]
  refine List.filter_eq_self.2 fun w hw => decide_eq_true fun e => ?_
  obtain ⟨q, hq, hk2, rfl⟩ := wrs_mem.1 hw
  have := rq_uniq (ordQ_iff.1 ok.qord).1 hq (List.getElem_mem hp) e
  rw [this] at hk2
  exact hk hk2
theorem dn_er {d : Dv} {x : Ev} {p : Nat} (h : ∀ q ∈ d.queue, q.id ≠ x.id) : ∀ q ∈ d.queue.eraseIdx p, q.id ≠ x.id := fun q hq => h q (List.mem_of_mem_eraseIdx hq)
theorem tie_bad {d : Dv} {h : List Ev} (T : TieH (d, h)) (okd : DvOk d) {p : Nat} (hp : p < d.queue.length) (hk : d.queue[p].kind = 2 ∨ d.queue[p].kind = 3) : TieH (comD d p d.queue[p] false, hapF h d.queue[p] false) := by
  obtain ⟨ok, ⟨t1, t2, t3, t4⟩, ids, dn, ev⟩ := T
  dsimp only at *
  unfold comD hapF
  rw [if_pos rfl, if_neg (by simp)]
  by_cases h2 : d.queue[p].kind = 2
  · rw [if_neg (by simp [h2]), if_neg (by simp)]
    obtain ⟨f1, f2, f3⟩ := fil_ok (i := d.queue[p].id) h (s0 bs0) [] [] ok (fun x hx hk => fun e => (dn x hx hk).2 _ (List.getElem_mem hp) e.symm) fun j hj => hj
    have e0 : rmO d.queue[p].id (s0 bs0) = s0 bs0 := rfl
    rw [e0] at f1 f2
    refine ⟨f1, ?_, fun i hi => ids i (f3 i hi), fun y hy hky => ?_, fun y hy => ev y (List.mem_filter.1 hy).1⟩
    · show Tie _ ((h.filter (keepE _)).foldl appS (s0 bs0))
      rw [f2]
      refine ⟨t1, t2, t3, ?_⟩
      show _ = wrs (d.queue.eraseIdx p)
      rw [wrs_er2 okd hp, ← t4]
      rfl
    · obtain ⟨h3, h4⟩ := dn y (List.mem_filter.1 hy).1 hky
      exact ⟨h3, dn_er h4⟩
  · rw [if_pos (by simpa using h2)]
    refine ⟨ok, ⟨t1, t2, t3, ?_⟩, ids, fun y hy hky => ⟨(dn y hy hky).1, dn_er (dn y hy hky).2⟩, ev⟩
    show _ = wrs (d.queue.eraseIdx p)
    rw [wrs_er3 okd hp h2, ← t4]
theorem tie_ok3 {d : Dv} {h : List Ev} (T : TieH (d, h)) (okd : DvOk d) (hbl : d.blocks.length = 3) {p : Nat} (hp : p < d.queue.length) (hk : d.queue[p].kind = 3) : TieH (comD d p d.queue[p] true, hapF h d.queue[p] true) := by
  obtain ⟨ok, ⟨t1, t2, t3, t4⟩, ids, dn, ev⟩ := T
  dsimp only at *
  unfold comD hapF
  rw [if_neg (by simp), if_neg (by rw [hk]; decide), if_pos ⟨hk, rfl⟩]
  refine ⟨okS_app.2 ⟨ok, by unfold wroS; simp⟩, ?_, ?_, fun y hy hky => ?_, fun y hy => ?_⟩
  · dsimp only
    rw [List.foldl_append]
    have hz := fun (b : Nat) (hb : b < 3) => zip_getD (F := (h.foldl appS (s0 bs0)).firm) (C := (h.foldl appS (s0 bs0)).cache) (by rw [t1, t2, hbl]) (b := b) (by rw [t1, hbl]; exact hb)
    obtain ⟨hpw, hcb⟩ := ordC_iff.1 okd.ord
    have hg := fun b => fluB_get (B := d.blocks) hpw hcb (Int.le_refl _) b
    refine ⟨?_, ?_, ?_, ?_⟩
    · show List.zipWith _ _ _ = fluB d.blocks d.cache
      apply List.ext_getElem
      · rw [List.length_zipWith, t1, t2, hbl, fluB_len, hbl]; rfl
      · intro i h1 h2
        rw [List.length_zipWith, t1, t2, hbl] at h1
        have h3 : i < 3 := by omega
        have z1 := hz i h3
        rw [List.getD_eq_getElem?_getD, List.getElem?_eq_getElem (by rw [List.length_zipWith, t1, t2, hbl]; omega)] at z1
        simp only [Option.getD_some] at z1
        rw [z1, t1]
        have z2 : (fluB d.blocks d.cache).getD i [] = (fluB d.blocks d.cache)[i] := by rw [List.getD_eq_getElem?_getD, List.getElem?_eq_getElem h2]; rfl
        rw [← z2]
        cases hc : (h.foldl appS (s0 bs0)).cache.getD i none with
        | some x => rw [(hg i).1 x ((t3 i x h3).1 hc)]; rfl
        | none =>
          rw [(hg i).2 fun x hx => by have := (t3 i x h3).2 hx; rw [hc] at this; cases this]
          rfl
    · show (List.map _ _).length = 3
      rw [List.length_map, t2]
    · intro b x hb
      show (List.map _ _).getD b none = some x ↔ _ ∈ []
      rw [List.getD_eq_getElem?_getD, List.getElem?_map]
      cases (h.foldl appS (s0 bs0)).cache[b]? <;> simp
    · show _ = wrs (d.queue.eraseIdx p)
      rw [wrs_er3 okd hp (by rw [hk]; decide), ← t4]
      rfl
  · dsimp only
    rw [List.foldl_append]
    exact fun i hi => ids i hi
  · rcases List.mem_append.1 hy with h1 | h1
    · exact ⟨(dn y h1 hky).1, dn_er (dn y h1 hky).2⟩
    · rw [List.mem_singleton.1 h1] at hky; simp at hky
  · rcases List.mem_append.1 hy with h1 | h1
    · exact ev y h1
    · rw [List.mem_singleton.1 h1]
      exact ⟨Int.le_refl _, okd.next.1, fun a ha => by simp at ha⟩
theorem tie_ok2 {d : Dv} {h : List Ev} (T : TieH (d, h)) (okd : DvOk d) (hbl : d.blocks.length = 3) {p : Nat} (hp : p < d.queue.length) (hk : d.queue[p].kind = 2) : TieH (comD d p d.queue[p] true, hapF h d.queue[p] true) := by
  obtain ⟨ok, ⟨t1, t2, t3, t4⟩, ids, dn, ev⟩ := T
  dsimp only at *
  unfold comD hapF
  rw [if_neg (by simp), if_pos hk, if_neg (by rw [hk]; simp), if_neg (by simp [hk]), if_pos rfl]
  obtain ⟨hqp, hqb⟩ := ordQ_iff.1 okd.qord
  obtain ⟨hpw, hcb⟩ := ordC_iff.1 okd.ord
  have hin := List.getElem_mem hp
  have hqi := hqb _ hin
  have hqok := okd.req _ hin
  have hblk := hqok.2.2.1 (by rw [hk]; decide)
  have hw : d.queue[p].wr ∈ wrs d.queue := wrs_mem.2 ⟨_, hin, hk, rfl⟩
  have hfi : 0 ≤ firstI (isO d.queue[p].id) (h.foldl appS (s0 bs0)).out := firstI_nn.2 ⟨_, by rw [t4]; exact hw, by simp [isO, Rq.wr]⟩
  obtain ⟨w, e1, e2⟩ := done_eq hfi
  have hwq : w = d.queue[p].wr := by
    rw [t4] at e1
    have hm := List.mem_of_find?_eq_some e1
    have hid := List.find?_some e1
    obtain ⟨q, hq, hkq, rfl⟩ := wrs_mem.1 hm
    rw [rq_uniq hqp hq hin (of_decide_eq_true hid)]
  subst hwq
  refine ⟨okS_app.2 ⟨ok, ?_⟩, ?_, ?_, fun y hy hky => ?_, fun y hy => ?_⟩
  · unfold wroS
    rw [if_neg (by simp), if_pos rfl, if_neg (by simp), if_neg (by dsimp only; omega)]
  · dsimp only
    rw [List.foldl_append]
    have e3 : List.foldl appS (h.foldl appS (s0 bs0)) [(⟨2, d.queue[p].id, 0, []⟩ : Ev)] = doneS (h.foldl appS (s0 bs0)) d.queue[p].id := rfl
    rw [e3, e2]
    refine ⟨t1, by dsimp only; rw [List.length_set, t2], fun b x hb => ?_, ?_⟩
    · dsimp only
      rw [setC_iff hpw hcb hblk, set_getD (by rw [t2]; show (d.queue[p].block).toNat < 3; omega)]
      by_cases e : d.queue[p].block = b
      · rw [if_pos (by show d.queue[p].block.toNat = b; omega), if_pos e]
        constructor
        · intro h; injection h
        · intro h; rw [← h]; rfl
      · rw [if_neg (by show d.queue[p].block.toNat ≠ b; omega), if_neg e]
        exact t3 b x hb
    · show List.eraseP _ _ = wrs (d.queue.eraseIdx p)
      rw [wrs_er2 okd hp, t4, erP_filter (wrs_pw hqp)]
  · dsimp only
    rw [List.foldl_append]
    exact fun i hi => ids i hi
  · rcases List.mem_append.1 hy with h1 | h1
    · exact ⟨(dn y h1 hky).1, dn_er (dn y h1 hky).2⟩
    · rw [List.mem_singleton.1 h1]
      refine ⟨hqi.2, fun q hq => ?_⟩
      have hq' : q ∈ d.queue.eraseIdx p := hq
      rw [er_filter hqp p hp] at hq'
      have := (List.mem_filter.1 hq').2
      simpa using this
  · rcases List.mem_append.1 hy with h1 | h1
    · exact ev y h1
    · rw [List.mem_singleton.1 h1]
      exact ⟨hqi.1, Int.le_of_lt hqi.2, fun a ha => by simp at ha⟩
theorem pg_byB {a : Int} (h : 0 ≤ a ∧ a ≤ 255) : byB (pg a) := fun x hx => by rw [List.eq_of_mem_replicate hx]; exact h
theorem tie_s {n : Nat} {s : Dv × List Ev} (D : Dri n s) (T : TieH s) (o : Io) : TieH (drvS s o) := by
  obtain ⟨d, h⟩ := s
  unfold drvS
  dsimp only
  split
  · split
    · exact T
    · exact tie_w T D.bl D.ok.next.1 (Nat.mod_lt _ (by decide)) (pg_len _) (pg_byB (by omega))
  · split
    · split
      · exact T
      · exact tie_f T
    · split
      · exact T
      · rename_i q hq
        obtain ⟨hp, rfl⟩ := List.getElem?_eq_some_iff.1 hq
        have hk := D.kd _ (List.getElem_mem hp)
        by_cases h2 : o.kind % 4 = 2
        · rw [decide_eq_true h2]
          rcases hk with hk | hk
          · exact tie_ok2 T D.ok D.bl hp hk
          · exact tie_ok3 T D.ok D.bl hp hk
        · rw [decide_eq_false h2]
          exact tie_bad T D.ok hp hk
theorem tie_0 : TieH drv0 := ⟨trivial, ⟨rfl, rfl, fun b x hb => by
  match b, hb with
  | 0, _ => simp [drv0, s0]
  | 1, _ => simp [drv0, s0]
  | 2, _ => simp [drv0, s0], rfl⟩, fun i hi => by simp [drv0] at hi, fun x hx => by simp [drv0] at hx, fun x hx => by simp [drv0] at hx⟩
theorem tie_all : ∀ (l : List Io) {n : Nat} {s : Dv × List Ev}, Dri n s → TieH s → n + l.length ≤ 1000 → TieH (l.foldl drvS s)
  | [], n, s, _, T, _ => T
  | a :: r, n, s, D, T, h => by
    rw [List.length_cons] at h
    exact tie_all r (drv_ok D (by omega) a) (tie_s D T a) (by omega)
end Go.Proofs.Ythblalidmmbcoaa
end
section
/- What a crash of a driven device may leave. No program. -/
set_option linter.unusedSimpArgs false
set_option linter.unusedVariables false
namespace Go.Proofs.Ythblalidmmbcoaa
open Go.AM Classical
set_option maxRecDepth 100000
set_option maxHeartbeats 4000000
theorem prod_mem : ∀ {C : List (List Bs)} {im : List Bs}, im ∈ prodF C ↔ im.length = C.length ∧ ∀ i (h1 : i < im.length) (h2 : i < C.length), im[i] ∈ C[i]
  | [], im => by
    simp only [prodF, List.mem_singleton, List.length_nil]
    constructor
    · rintro rfl; exact ⟨rfl, fun i h => by simp at h⟩
    · rintro ⟨h, -⟩; exact List.length_eq_zero_iff.1 h
  | c :: C, im => by
    simp only [prodF, List.mem_flatMap, List.mem_map]
    constructor
    · rintro ⟨x, hx, im2, h2, rfl⟩
      obtain ⟨h3, h4⟩ := prod_mem.1 h2
      refine ⟨by simp [h3], fun i h5 h6 => ?_⟩
      cases i with
      | zero => exact hx
      | succ i => exact h4 i (by simpa using h5) (by simpa using h6)
    · rintro ⟨h3, h4⟩
      cases im with
      | nil => simp at h3
      | cons x im =>
        exact ⟨x, h4 0 (by simp) (by simp), im, prod_mem.2 ⟨by simpa using h3, fun i h5 h6 => h4 (i + 1) (by simpa using h5) (by simpa using h6)⟩, rfl⟩
theorem bs0_ok : okB bs0 := fun b hb => by simp [bs0] at hb; rw [hb]; exact pg_len 0
def wlF (d : Dv) : List (Nat × Bs) := caW d.cache ++ quW d.queue
theorem wlF_len (d : Dv) : (wlF d).length = choN d := by simp [wlF, caW, quW, choN]
structure Fin0 (d : Dv) (h : List Ev) : Prop where
  ok : DvOk d
  bl : d.blocks.length = 3
  kd : ∀ q ∈ d.queue, q.kind = 2 ∨ q.kind = 3
  chk : chkR bs0 h = 0
  hok : HOk bs0 h
  lat : ∀ b : Nat, b < 3 → uptoF bs0 h h.length b = conD d b
  ch : ∀ (b : Nat) c, b < 3 → (c ∈ chF bs0 h b ↔ c = d.blocks.getD b [] ∨ (b, c) ∈ wlF d)
  wb : ∀ w ∈ wlF d, w.1 < 3
theorem fin0 (l : List Io) (hl : l.length ≤ 20) : Fin0 (drvF l).1 (drvF l).2 := by
  have D := drv_all l drv_zero (by omega)
  have T := tie_all l drv_zero tie_0 (by omega)
  rw [show l.foldl drvS drv0 = drvF l from rfl] at D T
  generalize drvF l = s at *
  obtain ⟨d, h⟩ := s
  obtain ⟨ok, dep, hbl, kd, nx, el, ev⟩ := D
  obtain ⟨okh, ⟨t1, t2, t3, t4⟩, ids, dn, hev⟩ := T
  dsimp only at *
  have hchk := chk_ok bs0_ok okh
  obtain ⟨_, I⟩ := chk_inv hchk
  have hS : stS bs0 h h.length = h.foldl appS (s0 bs0) := by rw [stS_fold bs0 h h.length (Nat.le_refl _), List.take_length]
  have hcon : ∀ b : Nat, b < 3 → ((h.foldl appS (s0 bs0)).cache.getD b none).getD (d.blocks.getD b []) = conD d b := fun b hb => by
    obtain ⟨g1, g2⟩ := con_get ok (by omega : b < d.blocks.length)
    cases hc : (h.foldl appS (s0 bs0)).cache.getD b none with
    | some x => rw [g1 x ((t3 b x hb).1 hc)]; rfl
    | none => rw [g2 fun x hx => by have := (t3 b x hb).2 hx; rw [hc] at this; cases this]; rfl
  have hlat : ∀ b : Nat, b < 3 → uptoF bs0 h h.length b = conD d b := fun b hb => by
    have := I.lat b hb
    rw [hS, t1, hcon b hb] at this
    exact this.symm
  obtain ⟨hpw, hcb⟩ := ordC_iff.1 ok.ord
  have hwb : ∀ w ∈ wlF d, w.1 < 3 := fun w hw => by
    rcases List.mem_append.1 hw with h1 | h1
    · obtain ⟨c, hc, rfl⟩ := List.mem_map.1 h1
      have := hcb c hc
      show c.block.toNat < 3
      omega
    · obtain ⟨q, hq, rfl⟩ := List.mem_map.1 h1
      obtain ⟨hq1, hq2⟩ := List.mem_filter.1 hq
      have := (ok.req q hq1).2.2.1 (by rw [of_decide_eq_true hq2]; decide)
      show q.block.toNat < 3
      omega
  refine ⟨ok, hbl, kd, hchk, ⟨by decide, by omega, fun x hx => by have := hev x hx; have := ok.next; omega, fun b hb => by simp [bs0] at hb; rw [hb]; exact pg_byB (by decide), fun x hx => (hev x hx).2.2⟩, hlat, fun b c hb => ?_, hwb⟩
  unfold chF
  rw [ddF_mem, hlat b hb, ← I.firm b hb, hS, t1, ← outS_eq I b, hS, t4]
  simp only [List.mem_append, List.mem_cons, List.not_mem_nil, or_false]
  have hout : c ∈ outS (wrs d.queue) b ↔ (b, c) ∈ quW d.queue := by
    unfold outS quW
    simp only [List.mem_map, List.mem_filter, wrs_mem, decide_eq_true_eq]
    constructor
    · rintro ⟨w, ⟨⟨q, h1, h2, rfl⟩, h3⟩, h4⟩
      refine ⟨q, ⟨h1, h2⟩, ?_⟩
      have h5 : q.block = b := h3
      have h6 : q.data = c := h4
      rw [h5, h6]; simp
    · rintro ⟨q, ⟨h1, h2⟩, h3⟩
      injection h3 with h4 h5
      have := (ok.req q h1).2.2.1 (by rw [h2]; decide)
      exact ⟨q.wr, ⟨⟨q, h1, h2, rfl⟩, by show q.block = b; omega⟩, h5⟩
  rw [hout]
  have hca : (b, c) ∈ caW d.cache ↔ (⟨b, c⟩ : Ca) ∈ d.cache := by
    unfold caW
    rw [List.mem_map]
    constructor
    · rintro ⟨a, h1, h2⟩
      injection h2 with h3 h4
      have := hcb a h1
      obtain ⟨a1, a2⟩ := a
      dsimp only at h3 h4 this
      rw [← h4, show (b : Int) = a1 by omega]
      exact h1
    · exact fun h1 => ⟨_, h1, by simp⟩
  unfold wlF
  rw [List.mem_append, hca]
  obtain ⟨g1, g2⟩ := con_get ok (by omega : b < d.blocks.length)
  constructor
  · rintro ((h1 | h1) | h1)
    · exact .inl h1
    · by_cases hx : ∃ x, (⟨b, x⟩ : Ca) ∈ d.cache
      · obtain ⟨x, hx⟩ := hx
        rw [g1 x hx] at h1
        rw [h1]
        exact .inr (.inl hx)
      · rw [g2 fun x h => hx ⟨x, h⟩] at h1
        exact .inl h1
    · exact .inr (.inr h1)
  · rintro (h1 | h1 | h1)
    · exact .inl (.inl h1)
    · exact .inl (.inr (g1 c h1).symm)
    · exact .inr h1
theorem cr_in (p : List Bool) : ∀ (W : List (Nat × Bs)) (n : Nat) (B : List Bs) (b : Nat), b < B.length → (crF p B n W).getD b [] = B.getD b [] ∨ (b, (crF p B n W).getD b []) ∈ W
  | [], n, B, b, hb => .inl rfl
  | w :: r, n, B, b, hb => by
    show (crF p (crS p B n w) (n + 1) r).getD b [] = _ ∨ (b, (crF p (crS p B n w) (n + 1) r).getD b []) ∈ _
    rcases cr_in p r (n + 1) (crS p B n w) b (by rw [crS_len]; exact hb) with h | h
    · rw [h]
      unfold crS
      split
      · by_cases e : w.1 = b
        · have : (B.set w.1 w.2).getD b [] = w.2 := by rw [set_getD (by omega), if_pos e]
          rw [this]
          exact .inr (by rw [← e]; exact List.mem_cons_self)
        · by_cases hw : w.1 < B.length
          · rw [set_getD hw, if_neg e]; exact .inl rfl
          · rw [List.set_eq_of_length_le (by omega)]; exact .inl rfl
      · exact .inl rfl
    · exact .inr (List.mem_cons_of_mem _ h)
theorem cr_pick {W : List (Nat × Bs)} {B : List Bs} (hw : ∀ w ∈ W, w.1 < B.length) (f : Nat → Option Nat) (hf : ∀ b k, f b = some k → ∃ h : k < W.length, W[k].1 = b) (p : List Bool) (hp : ∀ k (h : k < W.length), pk p k = decide (f W[k].1 = some k)) (b : Nat) (hb : b < B.length) :
    ∀ n, n ≤ W.length → (crF p B 0 (W.take n)).getD b [] = match f b with | some k => if k < n then (W.getD k (0, [])).2 else B.getD b [] | none => B.getD b []
  | 0, _ => by
    rw [List.take_zero]
    show B.getD b [] = _
    split <;> simp
  | n + 1, h => by
    have hn : n < W.length := by omega
    have hl := crF_len p B 0 (W.take n)
    have hW : W.getD n (0, []) = W[n] := by rw [List.getD_eq_getElem?_getD, List.getElem?_eq_getElem hn]; rfl
    have hwn := hw _ (List.getElem_mem hn)
    rw [take_s hn, crF_app, List.length_take, Nat.min_eq_left (Nat.le_of_lt hn), Nat.zero_add]
    have ih := cr_pick hw f hf p hp b hb n (Nat.le_of_lt hn)
    unfold crS
    rw [hp n hn]
    by_cases hpk : f W[n].1 = some n
    · rw [decide_eq_true hpk, if_pos rfl, set_getD (by omega)]
      by_cases e : W[n].1 = b
      · rw [if_pos e]
        rw [e] at hpk
        rw [hpk]
        dsimp only
        rw [if_pos (by omega), hW]
      · rw [if_neg e, ih]
        cases hfb : f b with
        | none => rfl
        | some k =>
          obtain ⟨hk, e2⟩ := hf b k hfb
          have : k ≠ n := fun h => by subst h; exact e e2
          dsimp only
          by_cases h1 : k < n
          · rw [if_pos h1, if_pos (by omega)]
          · rw [if_neg h1, if_neg (by omega)]
    · rw [decide_eq_false hpk, if_neg (by simp), ih]
      cases hfb : f b with
      | none => rfl
      | some k =>
        obtain ⟨hk, e2⟩ := hf b k hfb
        have : k ≠ n := fun h => by subst h; rw [e2] at hpk; exact hpk hfb
        dsimp only
        by_cases h1 : k < n
        · rw [if_pos h1, if_pos (by omega)]
        · rw [if_neg h1, if_neg (by omega)]
def pkF (n m : Nat) : List Bool := (List.range n).map fun k => decide (m / 2 ^ k % 2 = 1)
theorem pkF_len (n m : Nat) : (pkF n m).length = n := by simp [pkF]
def toM : List Bool → Nat
  | [] => 0
  | b :: r => (if b = true then 1 else 0) + 2 * toM r
theorem toM_lt : ∀ p : List Bool, toM p < 2 ^ p.length
  | [] => by simp [toM]
  | b :: r => by
    have := toM_lt r
    unfold toM
    rw [List.length_cons, Nat.pow_succ]
    split <;> omega
theorem toM_bit : ∀ (p : List Bool) (k : Nat) (h : k < p.length), decide (toM p / 2 ^ k % 2 = 1) = p[k]
  | [], k, h => by simp at h
  | b :: r, 0, h => by
    unfold toM
    cases b <;> simp <;> omega
  | b :: r, k + 1, h => by
    have ih := toM_bit r k (by simpa using h)
    unfold toM
    rw [Nat.pow_succ, Nat.mul_comm (2 ^ k) 2, ← Nat.div_div_eq_div_mul]
    have : ((if b = true then 1 else 0) + 2 * toM r) / 2 = toM r := by split <;> omega
    rw [this, ih]
    rfl
theorem toM_pk (p : List Bool) : pkF p.length (toM p) = p := by
  apply List.ext_getElem (by simp [pkF])
  intro i h1 h2
  have : (pkF p.length (toM p))[i] = decide (toM p / 2 ^ i % 2 = 1) := by simp [pkF]
  rw [this]
  exact toM_bit p i h2
def crW (d : Dv) (p : List Bool) : List Bs := crF p d.blocks 0 (wlF d)
theorem crW_len {d : Dv} (hb : d.blocks.length = 3) (p : List Bool) : (crW d p).length = 3 := by rw [crW, crF_len, hb]
theorem getD_get {B : List Bs} {i : Nat} (h : i < B.length) : B.getD i [] = B[i] := by rw [List.getD_eq_getElem?_getD, List.getElem?_eq_getElem h]; rfl
theorem cr_ch {d : Dv} {h : List Ev} (F : Fin0 d h) (p : List Bool) (i : Nat) (hi : i < (crW d p).length) : (crW d p)[i] ∈ chF bs0 h i := by
  have h3 := crW_len F.bl p
  have hb := F.bl
  rw [F.ch i _ (by omega), ← getD_get hi]
  exact cr_in p (wlF d) 0 d.blocks i (by omega)
theorem cr_img {d : Dv} {h : List Ev} (F : Fin0 d h) (p : List Bool) : crW d p ∈ prodF (chL bs0 h) := by
  refine prod_mem.2 ⟨by rw [crW_len F.bl, chL_len]; rfl, fun i h1 h2 => ?_⟩
  rw [chL_get]
  exact cr_ch F p i h1
theorem img_cr {d : Dv} {h : List Ev} (F : Fin0 d h) {im : List Bs} (him : im ∈ prodF (chL bs0 h)) : ∃ m, m < 2 ^ choN d ∧ crW d (pkF (choN d) m) = im := by
  obtain ⟨h1, h2⟩ := prod_mem.1 him
  have hbl := F.bl
  rw [chL_len] at h1
  have h3 : im.length = 3 := h1
  have hch : ∀ b (hb : b < 3), im.getD b [] = d.blocks.getD b [] ∨ (b, im.getD b []) ∈ wlF d := fun b hb => by
    have := h2 b (by omega) (by rw [chL_len]; exact hb)
    rw [chL_get, F.ch b _ hb, ← getD_get] at this
    exact this
  have hex : ∀ b, ∃ o : Option Nat, (∀ k, o = some k → ∃ h : k < (wlF d).length, (wlF d)[k].1 = b ∧ (wlF d)[k].2 = im.getD b []) ∧ (b < 3 → o = none → im.getD b [] = d.blocks.getD b []) := fun b => by
    by_cases hb : b < 3
    · rcases hch b hb with h | h
      · exact ⟨none, fun k h => by (cases h), fun _ _ => h⟩
      · obtain ⟨k, hk, e⟩ := List.mem_iff_getElem.1 h
        exact ⟨some k, fun k' h' => by injection h' with h'; subst h'; exact ⟨hk, by rw [e], by rw [e]⟩, fun _ h => by cases h⟩
    · exact ⟨none, fun k h => by (cases h), fun h => absurd h hb⟩
  obtain ⟨f, hf⟩ := Classical.axiomOfChoice hex
  clear hex
  let p : List Bool := (List.range (wlF d).length).map fun k => decide (f ((wlF d).getD k (0, [])).1 = some k)
  have hpl : p.length = (wlF d).length := by simp [p]
  have hpk : ∀ k (h : k < (wlF d).length), pk p k = decide (f (wlF d)[k].1 = some k) := fun k hk => by
    unfold pk
    rw [List.getElem?_eq_getElem (by omega)]
    simp only [p, List.getElem_map, List.getElem_range]
    rw [List.getD_eq_getElem?_getD, List.getElem?_eq_getElem hk]
    rfl
  refine ⟨toM p, by rw [← wlF_len, ← hpl]; exact toM_lt p, ?_⟩
  rw [← wlF_len, ← hpl, toM_pk]
  generalize p = p at *
  have hcl := crW_len hbl p
  apply List.ext_getElem (by omega)
  intro b hb hb2
  have := cr_pick (W := wlF d) (B := d.blocks) (fun w hw => by rw [hbl]; exact F.wb w hw) f (fun b k h => by obtain ⟨a1, a2, _⟩ := (hf b).1 k h; exact ⟨a1, a2⟩) p hpk b (by omega) (wlF d).length (Nat.le_refl _)
  rw [List.take_length] at this
  rw [← getD_get hb, ← getD_get hb2]
  show (crF p d.blocks 0 (wlF d)).getD b [] = _
  rw [this]
  cases hfb : f b with
  | none => exact ((hf b).2 (by omega) hfb).symm
  | some k =>
    obtain ⟨a1, a2, a3⟩ := (hf b).1 k hfb
    dsimp only
    rw [if_pos a1, List.getD_eq_getElem?_getD, List.getElem?_eq_getElem a1]
    exact a3
end Go.Proofs.Ythblalidmmbcoaa
end
section
/- min -/
/- A crash leaves what is allowed: the walk. -/
set_option linter.unusedSimpArgs false
set_option linter.unusedVariables false
namespace Go.Proofs.Ythblalidmmbcoaa
open Go.AM Classical
set_option maxRecDepth 100000
set_option maxHeartbeats 4000000
def IoIn (o : Io) : Prop := o.kind < 256 ∧ o.block < 256 ∧ o.value < 256 ∧ o.at_ < 256
theorem typed_io {n : Nat} {d : List D} (h : Typed Try.prog (n + 4) 83 d) : ∃ x : Io, d = x.cells ∧ IoIn x := by
  obtain ⟨ps, rfl, h1⟩ := typed_struct' Try.underlying83 h
  match ps, h1.1 with
  | [a, b, c, e], _ =>
    obtain ⟨x, rfl, hx⟩ := typed_int' Try.underlying5 (h1.2 0 _ a rfl rfl)
    obtain ⟨y, rfl, hy⟩ := typed_int' Try.underlying5 (h1.2 1 _ b rfl rfl)
    obtain ⟨z, rfl, hz⟩ := typed_int' Try.underlying5 (h1.2 2 _ c rfl rfl)
    obtain ⟨w, rfl, hw⟩ := typed_int' Try.underlying5 (h1.2 3 _ e rfl rfl)
    have := wf_u8 hx
    have := wf_u8 hy
    have := wf_u8 hz
    have := wf_u8 hw
    refine ⟨⟨x.toNat, y.toNat, z.toNat, w.toNat⟩, ?_, by show x.toNat < 256; omega, by show y.toNat < 256; omega, by show z.toNat < 256; omega, by show w.toNat < 256; omega⟩
    unfold Io.cells
    dsimp only
    rw [Int.toNat_of_nonneg (by omega), Int.toNat_of_nonneg (by omega), Int.toNat_of_nonneg (by omega), Int.toNat_of_nonneg (by omega)]
    rfl
theorem typed_ios {d : D} (h : TypedA Try.prog 47 d) : ∃ l : List Io, d = iosD l ∧ ∀ x ∈ l, IoIn x := by
  obtain ⟨ps, rfl, h1, h2⟩ := typed_slice Try.underlying47 h
  obtain ⟨l, rfl, h3⟩ := all_map (f := Io.cells) (q := IoIn) (fun p hp => typed_io (h2 p hp))
  refine ⟨l, ?_, h3⟩
  rw [List.length_map, ← List.flatMap_def, show Try.prog.cellsOf 83 = 4 by kernel_rfl]
end Go.Proofs.Ythblalidmmbcoaa
end
section
/- min -/
/- A crash leaves exactly the images: the walk. -/
set_option linter.unusedSimpArgs false
set_option linter.unusedVariables false
namespace Go.Proofs.Ythblalidmmbcoaa
open Go.AM Classical
set_option maxRecDepth 100000
set_option maxHeartbeats 4000000
theorem W_forX {P : Program} {c : ACode} {e : Env} {h : Heap} {Q : X → St → Prop} (n : Nat) (I : Nat → St → Prop) (lab : Nat) (E : St → Prop) (h0 : I 0 ⟨e, h⟩) (hE : ∀ e' h', E ⟨e', h'⟩ → Q (.exit lab) ⟨e', h'⟩)
    (round : ∀ i e' h', i < n → I i ⟨e', h'⟩ → W P c (X.then (I (i + 1)) fun x st => x = .exit lab ∧ E st) ⟨e', h'⟩) (last : ∀ e' h', I n ⟨e', h'⟩ → W P c (X.then (fun _ => False) fun x st => x = .exit lab ∧ E st) ⟨e', h'⟩) : W P (.loop c) Q ⟨e, h⟩ :=
  W_mono (fun x st hx => by obtain ⟨rfl, h2⟩ := hx; exact hE st.env st.heap h2) (W_for n I h0 round last)
def FC (N : Nat) (g : Nat → Bool) : List D := (List.range N).map fun j => .bool (g j)
theorem FC_len (N : Nat) (g : Nat → Bool) : (FC N g).length = N := by simp [FC]
theorem FC_get {N i : Nat} (h : i < N) (g : Nat → Bool) : (FC N g)[i]? = some (.bool (g i)) := by simp [FC, h]
theorem FC_congr {N : Nat} {f g : Nat → Bool} (h : ∀ i, i < N → f i = g i) : FC N f = FC N g := by
  unfold FC
  refine List.map_congr_left fun j hj => ?_
  rw [h j (List.mem_range.1 hj)]
theorem FC_set {N i : Nat} (h : i < N) (g : Nat → Bool) : splice (FC N g) i [.bool true] = FC N fun j => if j = i then true else g j := by
  have hl := FC_len N g
  have hs : splice (FC N g) i [D.bool true] = (FC N g).set i (.bool true) := by
    unfold splice
    rw [List.set_eq_take_append_cons_drop, if_pos (by omega)]
    simp
  rw [hs]
  apply List.ext_getElem
  · simp [FC]
  · intro j h1 h2
    have e2 : ∀ (g : Nat → Bool) (h : j < (FC N g).length), (FC N g)[j] = .bool (g j) := fun g h => by simp [FC]
    rw [List.getElem_set, e2, e2]
    by_cases e : i = j
    · subst e; simp
    · rw [if_neg e, if_neg fun e2 => e e2.symm]
theorem FC_0 (N : Nat) : rep N [D.bool false] = FC N fun _ => false := by
  unfold rep FC
  induction N with
  | zero => rfl
  | succ n ih => rw [List.replicate_succ, List.flatten_cons, ih, List.range_succ_eq_map]; simp
noncomputable def fnd (d : Dv) (n : Nat) (P : List (List Bs)) (m j : Nat) : Bool := decide (∃ m', m' < m ∧ crW d (pkF n m') = P.getD j [])
theorem fnd_0 (d : Dv) (n : Nat) (P : List (List Bs)) (j : Nat) : fnd d n P 0 j = false := decide_eq_false (by rintro ⟨m, h, _⟩; omega)
theorem fnd_s (d : Dv) (n : Nat) (P : List (List Bs)) (m j : Nat) : fnd d n P (m + 1) j = (fnd d n P m j || decide (crW d (pkF n m) = P.getD j [])) := by
  unfold fnd
  rw [← Bool.decide_or, decide_eq_decide]
  constructor
  · rintro ⟨m', h1, h2⟩
    rcases Nat.lt_succ_iff_lt_or_eq.1 h1 with h3 | rfl
    · exact .inl ⟨m', h3, h2⟩
    · exact .inr h2
  · rintro (⟨m', h1, h2⟩ | h)
    · exact ⟨m', by omega, h2⟩
    · exact ⟨m, by omega, h⟩
theorem pk_bit (m j : Nat) : ((m : Int).fdiv (2 ^ j)).tmod 2 = 1 ↔ m / 2 ^ j % 2 = 1 := by
  rw [show (2 : Int) ^ j = ((2 ^ j : Nat) : Int) by simp]
  rw [Int.fdiv_eq_ediv_of_nonneg _ (Int.natCast_nonneg _), ← Int.natCast_ediv]
  generalize m / 2 ^ j = x
  rw [Int.tmod_eq_emod_of_nonneg (Int.natCast_nonneg _)]
  omega
theorem pkF_take {n m j : Nat} (h : j < n) : (pkF n m).take (j + 1) = (pkF n m).take j ++ [decide (m / 2 ^ j % 2 = 1)] := by
  rw [take_s (by rw [pkF_len]; exact h)]
  congr 2
  simp [pkF]
noncomputable def eqB (im C : List Bs) (b : Nat) : Bool := decide (∀ b', b' < b → im.getD b' [] = C.getD b' [])
noncomputable def eqI (im C : List Bs) : Bool := decide (im = C)
theorem eqB_0 (im C : List Bs) : eqB im C 0 = true := decide_eq_true fun b' h => by omega
theorem eqB_s (im C : List Bs) (b : Nat) : eqB im C (b + 1) = (eqB im C b && decide (im.getD b [] = C.getD b [])) := by
  unfold eqB
  rw [← Bool.decide_and, decide_eq_decide]
  constructor
  · exact fun h => ⟨fun b' hb => h b' (by omega), h b (by omega)⟩
  · rintro ⟨h1, h2⟩ b' hb
    rcases Nat.lt_succ_iff_lt_or_eq.1 hb with h3 | rfl
    · exact h1 b' h3
    · exact h2
theorem eqB_3 {im C : List Bs} (h1 : im.length = 3) (h2 : C.length = 3) : eqB im C 3 = eqI im C := by
  unfold eqB eqI
  rw [decide_eq_decide]
  constructor
  · intro h
    apply List.ext_getElem (by omega)
    intro i hi1 hi2
    rw [← getD_get hi1, ← getD_get hi2]
    exact h i (by omega)
  · rintro rfl _ _; rfl
theorem eqB_f {im C : List Bs} {b : Nat} (h : eqB im C b = false) : eqI im C = false := by
  unfold eqB at h
  unfold eqI
  refine decide_eq_false ?_
  rintro rfl
  exact of_decide_eq_false h fun _ _ => rfl
noncomputable def hitF (P : List (List Bs)) (C : List Bs) (i : Nat) : Bool := decide (∃ j, j < i ∧ P.getD j [] = C)
noncomputable def mkF (d : Dv) (n m : Nat) (P : List (List Bs)) (C : List Bs) (i j : Nat) : Bool := fnd d n P m j || (decide (j < i) && eqI (P.getD j []) C)
theorem hit_0 (P : List (List Bs)) (C : List Bs) : hitF P C 0 = false := decide_eq_false (by rintro ⟨j, h, _⟩; omega)
theorem hit_s (P : List (List Bs)) (C : List Bs) (i : Nat) : hitF P C (i + 1) = (hitF P C i || eqI (P.getD i []) C) := by
  unfold hitF eqI
  rw [← Bool.decide_or, decide_eq_decide]
  constructor
  · rintro ⟨j, h1, h2⟩
    rcases Nat.lt_succ_iff_lt_or_eq.1 h1 with h3 | rfl
    · exact .inl ⟨j, h3, h2⟩
    · exact .inr h2
  · rintro (⟨j, h1, h2⟩ | h)
    · exact ⟨j, by omega, h2⟩
    · exact ⟨i, by omega, h⟩
theorem hit_n {P : List (List Bs)} {C : List Bs} (h : C ∈ P) : hitF P C P.length = true := by
  obtain ⟨j, hj, e⟩ := List.mem_iff_getElem.1 h
  exact decide_eq_true ⟨j, hj, by rw [List.getD_eq_getElem?_getD, List.getElem?_eq_getElem hj]; exact e⟩
theorem mk_0 (d : Dv) (n m : Nat) (P : List (List Bs)) (C : List Bs) (j : Nat) : mkF d n m P C 0 j = fnd d n P m j := by unfold mkF; simp
theorem mk_f {d : Dv} {n m : Nat} {P : List (List Bs)} {C : List Bs} {i : Nat} (h : eqI (P.getD i []) C = false) (j : Nat) : mkF d n m P C (i + 1) j = mkF d n m P C i j := by
  unfold mkF
  by_cases e : j = i
  · subst e; rw [h]; simp
  · rw [show decide (j < i + 1) = decide (j < i) from decide_eq_decide.2 (by omega)]
theorem mk_t {d : Dv} {n m : Nat} {P : List (List Bs)} {C : List Bs} {i : Nat} (h : eqI (P.getD i []) C = true) (j : Nat) : mkF d n m P C (i + 1) j = if j = i then true else mkF d n m P C i j := by
  unfold mkF
  by_cases e : j = i
  · subst e; rw [h, if_pos rfl]; simp
  · rw [if_neg e, show decide (j < i + 1) = decide (j < i) from decide_eq_decide.2 (by omega)]
theorem mk_n {d : Dv} {n m : Nat} {P : List (List Bs)} {C : List Bs} (hC : crW d (pkF n m) = C) {j : Nat} (hj : j < P.length) : mkF d n m P C P.length j = fnd d n P (m + 1) j := by
  unfold mkF
  rw [fnd_s, decide_eq_true hj, Bool.true_and, hC]
  congr 1
  unfold eqI
  exact decide_eq_decide.2 ⟨fun h => h.symm, fun h => h.symm⟩
theorem lim_len {C : List (List Bs)} (h : ¬ limI C) : (prodF C).length ≤ 64 := by
  rw [prodF_len]
  by_cases h0 : C.length = 0
  · rw [List.length_eq_zero_iff.1 h0]; simp [preP]
  · refine Classical.byContradiction fun hn => h ⟨C.length - 1, by omega, ?_⟩
    rw [show C.length - 1 + 1 = C.length by omega, List.take_length]; omega
theorem exact_c (l : List Io) (hu : ∀ o ∈ l, o.kind < 256 ∧ o.block < 256 ∧ o.value < 256 ∧ o.at_ < 256) : PCon Try.prog 12 [iosD l] (.bool true) := by
  have c0 := driven_c
  refine A12p (by simp [A12]) ?_
  simp only [A12, argEnv]
  by_cases hl : l.length ≤ 20
  · have c1 := drive_c l hl hu
    have F := fin0 l hl
    generalize drvF l = s at *
    obtain ⟨d, h⟩ := s
    dsimp only at c1 F
    have c2 := Choices_c d F.ok
    have c3 := dimages_c F.hok
    rw [show drv0.1.blocks = bs0 from rfl] at c1
    unfold imR at c3
    rw [if_pos F.chk] at c3
    by_cases hlim : limI (chL bs0 h)
    · rw [if_pos hlim] at c3
      generalize bs0 = B0 at *
      clear F hlim
      by_cases hn : choN d ≤ 6
      · repeat' (first | (with_reducible first | refine W_seq ?_ | refine then_n ?_ | refine W_skip ?_ | refine W_ret ?_ | refine then_r ?_) | ((with_reducible refine s_reg ?_); intro K hK) | ((with_reducible refine k_nil ?_); (with_reducible apply s_nil hK); (· exact nmX); clear hK; clear K) | ((with_reducible refine k_cond ?_); (first | ((with_reducible apply s_condT); (· rfl); (· exact nmX)) | ((with_reducible apply s_condF); (· rfl); (· exact nmX)))) | ((with_reducible refine k_guard ?_); ((refine s_gt rfl ?_))) | ((with_reducible refine k_mv ?_); (refine s_mv rfl ?_)) | ((with_reducible refine k_extract ?_); (refine s_extract rfl rfl ?_)) | ((with_reducible refine k_len ?_); ((refine s_len rfl rfl ?_))) | ((with_reducible refine k_pick ?_); ((refine s_pickF rfl rfl ?_))) | ((with_reducible refine k_not ?_); (refine s_not rfl (by exact Bool.not_true) ?_)) | ((with_reducible refine k_eql ?_); ((refine s_eql rfl rfl ?_))) | ((with_reducible refine k_lss ?_); (refine s_lss rfl rfl ?_)) | ((with_reducible refine k_gtr ?_); (refine s_gtr rfl rfl ?_)) | ((with_reducible refine k_loadA ?_); (((with_reducible apply s_loadAP); (· rfl); (· (exact hpX)); (· (exact Nat.le_of_ble_eq_true rfl))))) | ((with_reducible refine k_store ?_); ((with_reducible apply s_store0); (· rfl); (· rfl); (· rfl); (· (exact hpX)); (· (exact ⟨rfl, by exact Nat.le_of_ble_eq_true rfl⟩)); (· ((exact liL))); (· (exact upd_upd)))) | ((with_reducible refine k_alloc (dst := some 3) ?_); ((with_reducible apply s_alloc); intro k3 hk3; (try simp only [upd_none] at hk3))) | ((with_reducible refine k_callF ?_); (((with_reducible apply s_call1); (· rfl)))) | ((with_reducible refine k_con ?_); (first | ((with_reducible apply con_val (c0)); (· (repeat (exact All2.nil))); (· rfl); (· exact fun _ => rfl)) | ((with_reducible apply con_val (c1)); (· (repeat (first | exact All2.nil | (apply All2.cons; (· first | exact rdX))))); (· rfl); (· exact fun _ => rfl)) | ((with_reducible apply con_val (c2)); (· (repeat (first | exact All2.nil | (apply All2.cons; (· first | exact Rd_dv))))); (· rfl); (· exact fun _ => rfl)) | ((with_reducible apply con_val (c3)); (· (repeat (first | exact All2.nil | (apply All2.cons; (· first | exact rdX))))); (· rfl); (· exact fun _ => rfl)))) | ((with_reducible refine k_br ?_); (first | (refine Br_t (by with_reducible rfl) ?_) | (refine Br_f (by omega) ?_))) | (((with_reducible apply q_eqL)); (exact liL)))
        first | exact Fin_flat trivial rfl rfl | (refine Fin_tup trivial rfl ?_ (Nat.le_of_ble_eq_true rfl); (repeat (first | exact All2.nil | (apply All2.cons; (· first | exact exc_n | exact exc_e | exact exc_v rfl rfl | exact exc_o upd_self rfl rfl)))); done) | (refine Fin_own trivial rfl upd_self ?_ (Nat.le_of_ble_eq_true rfl); (repeat (first | exact All2.nil | (apply All2.cons; (· first | exact exc_n | exact exc_e | exact exc_v rfl rfl | exact exc_o upd_self rfl rfl)))); done) | exact Fin_nil trivial rfl | exact Fin_sl trivial rfl upd_self rfl rfl
      · repeat' (first | (with_reducible first | refine W_seq ?_ | refine then_n ?_ | refine W_skip ?_ | refine W_ret ?_ | refine then_r ?_) | ((with_reducible refine s_reg ?_); intro K hK) | ((with_reducible refine k_nil ?_); (with_reducible apply s_nil hK); (· exact nmX); clear hK; clear K) | ((with_reducible refine k_cond ?_); (first | ((with_reducible apply s_condT); (· rfl); (· exact nmX)) | ((with_reducible apply s_condF); (· rfl); (· exact nmX)))) | ((with_reducible refine k_guard ?_); (first | (refine s_gt rfl ?_) | (refine s_gf1 rfl ?_))) | ((with_reducible refine k_mv ?_); (refine s_mv rfl ?_)) | ((with_reducible refine k_extract ?_); (refine s_extract rfl rfl ?_)) | ((with_reducible refine k_len ?_); ((refine s_len rfl rfl ?_))) | ((with_reducible refine k_pick ?_); (first | (refine s_pickT rfl rfl ?_) | (refine s_pickF rfl rfl ?_))) | ((with_reducible refine k_not ?_); (refine s_not rfl (by exact Bool.not_true) ?_)) | ((with_reducible refine k_lss ?_); (refine s_lss rfl rfl ?_)) | ((with_reducible refine k_gtr ?_); (refine s_gtr rfl rfl ?_)) | ((with_reducible refine k_loadA ?_); (((with_reducible apply s_loadAP); (· rfl); (· (exact hpX)); (· (exact Nat.le_of_ble_eq_true rfl))))) | ((with_reducible refine k_store ?_); ((with_reducible apply s_store0); (· rfl); (· rfl); (· rfl); (· (exact hpX)); (· (exact ⟨rfl, by exact Nat.le_of_ble_eq_true rfl⟩)); (· ((exact liL))); (· (exact upd_upd)))) | ((with_reducible refine k_alloc (dst := some 3) ?_); ((with_reducible apply s_alloc); intro k3 hk3; (try simp only [upd_none] at hk3))) | ((with_reducible refine k_callF ?_); (((with_reducible apply s_call1); (· rfl)))) | ((with_reducible refine k_con ?_); (first | ((with_reducible apply con_val (c0)); (· (repeat (exact All2.nil))); (· rfl); (· exact fun _ => rfl)) | ((with_reducible apply con_val (c1)); (· (repeat (first | exact All2.nil | (apply All2.cons; (· first | exact rdX))))); (· rfl); (· exact fun _ => rfl)) | ((with_reducible apply con_val (c2)); (· (repeat (first | exact All2.nil | (apply All2.cons; (· first | exact Rd_dv))))); (· rfl); (· exact fun _ => rfl)) | ((with_reducible apply con_val (c3)); (· (repeat (first | exact All2.nil | (apply All2.cons; (· first | exact rdX))))); (· rfl); (· exact fun _ => rfl)))) | ((with_reducible refine k_br ?_); (first | (refine Br_t (by omega) ?_) | (refine Br_f (by omega) ?_))) | (((with_reducible apply q_eqL)); (exact liL)))
        first | exact Fin_flat trivial rfl rfl | (refine Fin_tup trivial rfl ?_ (Nat.le_of_ble_eq_true rfl); (repeat (first | exact All2.nil | (apply All2.cons; (· first | exact exc_n | exact exc_e | exact exc_v rfl rfl | exact exc_o upd_self rfl rfl)))); done) | (refine Fin_own trivial rfl upd_self ?_ (Nat.le_of_ble_eq_true rfl); (repeat (first | exact All2.nil | (apply All2.cons; (· first | exact exc_n | exact exc_e | exact exc_v rfl rfl | exact exc_o upd_self rfl rfl)))); done) | exact Fin_nil trivial rfl | exact Fin_sl trivial rfl upd_self rfl rfl
    · rw [if_neg hlim] at c3
      by_cases hn : choN d ≤ 6
      · have hP := lim_len hlim
        have hin := fun p => cr_img F p
        have hex := fun im him => @img_cr d h F im him
        have hP3 : ∀ im ∈ prodF (chL bs0 h), im.length = 3 ∧ ∀ c ∈ im, byB c := fun im him => by
          obtain ⟨h1, h2⟩ := prod_mem.1 him
          have h3 : im.length = 3 := by rw [h1, chL_len]; rfl
          refine ⟨h3, fun c hc => ?_⟩
          obtain ⟨i, hi, rfl⟩ := List.mem_iff_getElem.1 hc
          have := h2 i hi (by rw [chL_len]; exact (by omega : i < 3))
          rw [chL_get] at this
          exact F.hok.ch (b := i) (by show i < 3; omega) this
        have hbl := F.bl
        have cC := fun p => crash_c d F.ok p
        have hcr : ∀ p, crF p d.blocks 0 (caW d.cache ++ quW d.queue) = crW d p := fun p => rfl
        simp only [hcr] at cC
        clear hcr hlim F
        generalize prodF (chL bs0 h) = P at *
        generalize bs0 = B0 at *
        generalize choN d = n at *
        repeat' (first | (with_reducible first | refine W_seq ?_ | refine then_n ?_ | refine W_block ?_ | refine W_skip ?_) | ((with_reducible refine s_reg ?_); intro K hK) | ((with_reducible refine k_nil ?_); (with_reducible apply s_nil hK); (· exact nmX); clear hK; clear K) | ((with_reducible refine k_cond ?_); (((with_reducible apply s_condF); (· rfl); (· exact nmX)))) | ((with_reducible refine k_guard ?_); ((refine s_gt rfl ?_))) | ((with_reducible refine k_mv ?_); (refine s_mv rfl ?_)) | ((with_reducible refine k_extract ?_); (refine s_extract rfl rfl ?_)) | ((with_reducible refine k_len ?_); ((refine s_len rfl rfl ?_))) | ((with_reducible refine k_pick ?_); ((refine s_pickF rfl rfl ?_))) | ((with_reducible refine k_not ?_); (refine s_not rfl (by exact Bool.not_true) ?_)) | ((with_reducible refine k_eql ?_); ((refine s_eql rfl rfl ?_))) | ((with_reducible refine k_lss ?_); (refine s_lss rfl rfl ?_)) | ((with_reducible refine k_gtr ?_); (refine s_gtr rfl rfl ?_)) | ((with_reducible refine k_loadA ?_); (((with_reducible apply s_loadAP); (· rfl); (· (exact hpX)); (· (exact Nat.le_of_ble_eq_true rfl))))) | ((with_reducible refine k_mkslice (dst := some 55) ?_); ((with_reducible apply s_mkslice); (· rfl); (· rfl); (· (exact ⟨rfl, by decide, by omega, by omega, by (rw [room_i]; omega), by omega⟩)); (· ((exact nuN))); intro k55 hk55; (try simp only [upd_none] at hk55))) | ((with_reducible refine k_store ?_); ((with_reducible apply s_store0); (· rfl); (· rfl); (· rfl); (· (exact hpX)); (· (exact ⟨rfl, by exact Nat.le_of_ble_eq_true rfl⟩)); (· ((exact liL))); (· (exact upd_upd)))) | ((with_reducible refine k_alloc (dst := some 3) ?_); ((with_reducible apply s_alloc); intro k3 hk3; (try simp only [upd_none] at hk3))) | ((with_reducible refine k_callF ?_); (((with_reducible apply s_call1); (· rfl)))) | ((with_reducible refine k_con ?_); (first | ((with_reducible apply con_val (c1)); (· (repeat (first | exact All2.nil | (apply All2.cons; (· first | exact rdX))))); (· rfl); (· exact fun _ => rfl)) | ((with_reducible apply con_val (c2)); (· (repeat (first | exact All2.nil | (apply All2.cons; (· first | exact Rd_dv))))); (· rfl); (· exact fun _ => rfl)) | ((with_reducible apply con_val (c3)); (· (repeat (first | exact All2.nil | (apply All2.cons; (· first | exact rdX))))); (· rfl); (· exact fun _ => rfl)))) | ((with_reducible refine k_br ?_); ((refine Br_f (by omega) ?_))) | (((with_reducible apply q_eqL)); (exact liL)))
        have b3 : ∀ y, upd (upd (fun _ => none) k3 (dvL d)) k55 y k3 = some (dvL d) := fun y => by rw [upd_ne hk55.1.symm]; exact upd_self
        generalize hH : upd (upd (fun _ => none) k3 _) k55 _ = H0
        have a3 : H0 k3 = some (dvL d) := by rw [← hH]; exact b3 _
        have a55 : H0 k55 = some (FC P.length (fnd d n P 0)) := by
          rw [← hH, upd_self, FC_0]
          exact congrArg some (FC_congr fun i hi => (fnd_0 d n P i).symm)
        clear hH b3
        have n55 := hk55.1
        have hPl : (P.map bsD).length = P.length := List.length_map _
        have h2n : 1 ≤ 2 ^ n ∧ 2 ^ n ≤ 64 := ⟨Nat.one_le_two_pow, Nat.le_trans (Nat.pow_le_pow_right (by decide) hn) (by decide)⟩
        clear hk55 hk3 c1 c2 c3
        have hsh : IntKind.i64.wrap (2 ^ n) = ((2 ^ n : Nat) : Int) := by
          rw [show ((2 ^ n : Nat) : Int) = 2 ^ n by simp]
          exact w64 (by rw [show (2 : Int) ^ n = ((2 ^ n : Nat) : Int) by simp]; omega)
        generalize 2 ^ n = T at *
        refine W_for T (fun m st => ∃ h', st = ⟨[(3, .pt k3 0), (7, .int .i64 n), (8, .vs 1 (P.map bsD) P.length), (9, .int .i64 0), (10, .sl k55 1 0 P.length), (11, .int .i64 m)], h'⟩ ∧ h' k3 = some (dvL d) ∧ h' k55 = some (FC P.length (fnd d n P m)))
          ⟨_, rfl, a3, a55⟩ ?_ ?_
        · clear a3 a55
          rintro m e' h' hm ⟨h1, he, a3, a55⟩
          cases he
          repeat' (first | (with_reducible first | refine W_seq ?_ | refine then_n ?_ | refine W_block ?_ | refine W_skip ?_) | ((with_reducible refine s_reg ?_); intro K hK) | ((with_reducible refine k_nil ?_); (with_reducible apply s_nil hK); (· exact nmX); clear hK; clear K) | ((with_reducible refine k_cond ?_); (((with_reducible apply s_condT); (· rfl); (· exact nmX)))) | ((with_reducible refine k_mv ?_); (refine s_mv rfl ?_)) | ((with_reducible refine k_lss ?_); (refine s_lss rfl rfl ?_)) | ((with_reducible refine k_shl ?_); ((with_reducible apply s_shl); (· rfl); (· rfl); (· omega))) | ((with_reducible refine k_conv ?_); ((with_reducible apply s_conv); (· rfl))) | ((with_reducible refine k_br ?_); ((refine Br_t (by omega) ?_))) | (((with_reducible apply q_eqI)); ((simp (disch := omega) only [w64, wu8, wu16, wu32, wu64, tm_nn, td_nn, fd_nn, Int.reduceAdd, Int.reduceSub, Int.reduceMul, Int.reduceDiv, Int.reduceMod, Int.reduceNeg, Int.reduceToNat, Int.toNat_natCast, Int.toNat_zero, Int.zero_add, Int.add_zero, Int.one_mul, Int.reducePow, Nat.mul_one, Nat.zero_add, Nat.add_zero, Nat.zero_mul, Nat.reduceAdd, Nat.reduceMul, Nat.reduceSub, Nat.min_eq_left, IntKind.bits, Nat.sub_zero, hsh]; try rfl; done))))
          refine W_for n (fun j st => ∃ dp h2, st = ⟨[(3, .pt k3 0), (7, .int .i64 n), (8, .vs 1 (P.map bsD) P.length), (9, .int .i64 0), (10, .sl k55 1 0 P.length), (11, .int .i64 m), (12, dp), (13, .int .i64 j)], h2⟩ ∧ h2 k3 = some (dvL d) ∧ h2 k55 = some (FC P.length (fnd d n P m)) ∧ SlOwn h2 dp 1 (((pkF n m).take j).map .bool) j ∧ Fr dp k3 ∧ Fr dp k55)
            ⟨_, _, rfl, a3, a55, SlOwn.nil, Fr.nil, Fr.nil⟩ ?_ ?_
          · clear a3 a55
            rintro j e' h' hj ⟨dp, h1, he, a3, a55, op, f3, f55⟩
            cases he
            repeat' (first | (with_reducible first | refine W_seq ?_ | refine then_n ?_ | refine W_block ?_ | refine blk_n ?_ | refine W_skip ?_) | ((with_reducible refine s_reg ?_); intro K hK) | ((with_reducible refine k_nil ?_); (with_reducible apply s_nil hK); (· exact nmX); clear hK; clear K) | ((with_reducible refine k_cond ?_); (((with_reducible apply s_condT); (· rfl); (· exact nmX)))) | ((with_reducible refine k_mv ?_); (refine s_mv rfl ?_)) | ((with_reducible refine k_eql ?_); ((refine s_eql rfl rfl ?_))) | ((with_reducible refine k_lss ?_); (refine s_lss rfl rfl ?_)) | ((with_reducible refine k_add ?_); ((with_reducible apply s_add); (· rfl); (· rfl))) | ((with_reducible refine k_rem ?_); ((with_reducible apply s_rem); (· rfl); (· rfl); (· omega))) | ((with_reducible refine k_shr ?_); ((with_reducible apply s_shr); (· rfl); (· rfl); (· omega))) | ((with_reducible refine k_conv ?_); ((with_reducible apply s_conv); (· rfl))) | ((with_reducible refine k_buildS (dst := some 75) ?_); ((with_reducible apply s_buildS); (· rfl); (· (exact ⟨rfl, by decide⟩)); (· ((simp only [fillB, rep, splice, List.reduceReplicate, List.flatten_cons, List.flatten_nil, List.cons_append, List.nil_append, List.append_nil, List.length_cons, List.length_nil, Nat.reduceAdd, Nat.reduceMul, Nat.reduceLeDiff, Nat.reduceEqDiff, eq_self, Nat.le_refl, Nat.zero_add, and_self, and_true, true_and, if_true, List.take_zero, List.take_succ_cons, List.drop_zero, List.drop_succ_cons, List.drop_nil, List.take_nil]; rfl))); intro k75 hk75; (try simp only [upd_none] at hk75))) | ((with_reducible refine k_append (dst := some 76) ?_); ((with_reducible apply s_app2); (· rfl); (· rfl); (· first | ((repeat' (first | assumption | (with_reducible apply SlOwn.upd))); done)); (· rfl); (· first | exact srcD_sl upd_self rfl); (· exact ⟨by rfl, by decide, by decide⟩); (· first | (rw [room_n]; omega)); intro ka76 ha76 hn76 hk76 hoth76)) | ((with_reducible refine k_br ?_); (first | (refine Br_t (by omega) ?_) | (with_reducible apply Br_s <;> intro hbr))) | (((with_reducible apply q_eqI)); (exact nuI)))
            all_goals
              have hb := pk_bit m j
              have m3 := hoth76 k3 _ (upd_sub hk75 _ _ a3) f3
              have m55 := hoth76 k55 _ (upd_sub hk75 _ _ a55) f55
              have q3 : ka76 ≠ k3 := fun e => by rw [e, upd_sub hk75 _ _ a3] at hn76; cases hn76
              have q55 : ka76 ≠ k55 := fun e => by rw [e, upd_sub hk75 _ _ a55] at hn76; cases hn76
              have hpl : ((pkF n m).take j).length = j := by rw [List.length_take, pkF_len]; omega
              refine ⟨_, _, rfl, m3, m55, ?_, Fr.sl q3, Fr.sl q55⟩
              rw [pkF_take hj, List.map_append]
            · rw [decide_eq_true (hb.1 hbr)]
              exact SlOwn.sl hk76 (by simp only [List.length_append, List.length_map, hpl, List.length_singleton, Nat.mul_one])
            · rw [decide_eq_false fun h => hbr (hb.2 h)]
              exact SlOwn.sl hk76 (by simp only [List.length_append, List.length_map, hpl, List.length_singleton, Nat.mul_one])
          · clear a3 a55
            rintro e' h' ⟨dp, h1, he, a3, a55, op, f3, f55⟩
            cases he
            rw [show (pkF n m).take n = pkF n m by rw [List.take_of_length_le]; rw [pkF_len]; exact Nat.le_refl _] at op
            have cD := cC (pkF n m)
            have hrd : Rd h' dp (bsl (pkF n m)) := by
              show Rd h' dp (.vs 1 _ (pkF n m).length)
              rw [pkF_len]
              exact Rd_sov op (All2_map fun _ => Rd_bool)
            have hcl := crW_len hbl (pkF n m)
            have hcin := hin (pkF n m)
            generalize hC : crW d (pkF n m) = C at *
            repeat' (first | (with_reducible first | refine W_seq ?_ | refine then_n ?_ | refine W_block ?_ | refine blk_e ?_ | refine W_skip ?_ | refine W_exit ?_ | refine then_e ?_) | ((with_reducible refine s_reg ?_); intro K hK) | ((with_reducible refine k_nil ?_); (with_reducible apply s_nil hK); (· exact nmX); clear hK; clear K) | ((with_reducible refine k_cond ?_); (((with_reducible apply s_condF); (· rfl); (· exact nmX)))) | ((with_reducible refine k_guard ?_); ((refine s_gt rfl ?_))) | ((with_reducible refine k_mv ?_); (refine s_mv rfl ?_)) | ((with_reducible refine k_extract ?_); (refine s_extract rfl rfl ?_)) | ((with_reducible refine k_len ?_); ((refine s_len rfl rfl ?_))) | ((with_reducible refine k_pick ?_); ((refine s_pickF rfl rfl ?_))) | ((with_reducible refine k_neq ?_); ((refine s_neq rfl rfl ?_))) | ((with_reducible refine k_lss ?_); (refine s_lss rfl rfl ?_)) | ((with_reducible refine k_load ?_); (((with_reducible apply s_loadP); (· rfl); (· (exact hpX))))) | ((with_reducible refine k_loadA ?_); (((with_reducible apply s_loadAP); (· rfl); (· (exact hpX)); (· (exact Nat.le_of_ble_eq_true rfl))))) | ((with_reducible refine k_store ?_); ((with_reducible apply s_store0); (· rfl); (· rfl); (· rfl); (· (exact hpX)); (· (exact ⟨rfl, by exact Nat.le_of_ble_eq_true rfl⟩)); (· ((exact liL))); (· (exact upd_upd)))) | ((with_reducible refine k_faddr ?_); (((with_reducible apply s_faddrP); (· rfl); (· rfl)))) | ((with_reducible refine k_alloc (dst := some 14) ?_); ((with_reducible apply s_alloc); intro k14 hk14; (try simp only [upd_none] at hk14))) | ((with_reducible refine k_callF ?_); (((with_reducible apply s_call1); (· rfl)))) | ((with_reducible refine k_con ?_); (((with_reducible apply con_val (cD)); (· (repeat (first | exact All2.nil | (apply All2.cons; (· first | exact Rd_dv | exact hrd))))); (· rfl); (· exact fun _ => rfl)))) | ((with_reducible refine k_br ?_); (first | (refine Br_t (by first | with_reducible rfl | omega) ?_) | (refine Br_f (by omega) ?_))) | ((first | (with_reducible apply q_eqL) | (with_reducible apply q_eqO)); (first | exact liL | exact liO)))
            have live : ∀ {x : Nat} {c y : List D}, h' x = some c → upd h' k14 y x = some c := fun {x c y} hx => upd_sub hk14 _ _ hx
            have b3 : upd h' k14 (dvL ⟨d.depth, d.next, C, [], []⟩) k3 = some (dvL d) := live a3
            have b55 : upd h' k14 (dvL ⟨d.depth, d.next, C, [], []⟩) k55 = some (FC P.length (fnd d n P m)) := live a55
            have b14 : upd h' k14 (dvL ⟨d.depth, d.next, C, [], []⟩) k14 = some (dvL ⟨d.depth, d.next, C, [], []⟩) := upd_self
            have n143 : k14 ≠ k3 := fun e => by rw [e, a3] at hk14; cases hk14
            have n145 : k14 ≠ k55 := fun e => by rw [e, a55] at hk14; cases hk14
            clear live hrd cD cC op f3 f55 a3 a55 hk14 hsh
            generalize upd h' k14 (dvL ⟨d.depth, d.next, C, [], []⟩) = hA at *
            refine W_for P.length (fun i st => ∃ h2, st = ⟨[(3, .pt k3 0), (7, .int .i64 n), (8, .vs 1 (P.map bsD) P.length), (9, .int .i64 0), (10, .sl k55 1 0 P.length), (11, .int .i64 m), (14, .pt k14 0), (16, .bool (hitF P C i)), (17, .int .i64 i)], h2⟩ ∧ h2 k3 = some (dvL d) ∧ h2 k14 = some (dvL ⟨d.depth, d.next, C, [], []⟩) ∧ h2 k55 = some (FC P.length (mkF d n m P C i)))
              ⟨_, by rw [hit_0]; rfl, b3, b14, by rw [b55]; exact congrArg some (FC_congr fun j _ => (mk_0 d n m P C j).symm)⟩ ?_ ?_
            · clear b3 b55 b14
              rintro i e' h' hi ⟨h1, he, b3, b14, b55⟩
              cases he
              have hPi : (P.map bsD)[i]? = some (bsD (P.getD i [])) := by rw [List.getElem?_map, List.getD_eq_getElem?_getD, List.getElem?_eq_getElem hi]; rfl
              obtain ⟨him3, himy⟩ := hP3 (P.getD i []) (by rw [List.getD_eq_getElem?_getD, List.getElem?_eq_getElem hi]; exact List.getElem_mem hi)
              rw [hit_s]
              have hkt := @mk_t d n m P C i
              have hkf := @mk_f d n m P C i
              have hFl := FC_len P.length (mkF d n m P C i)
              obtain ⟨_, hCy⟩ := hP3 C hcin
              have hml : ((P.getD i []).map bD).length = 3 := by rw [List.length_map, him3]
              have hmc : (C.map bD).length = 3 := by rw [List.length_map, hcl]
              generalize P.getD i [] = im at *
              generalize hitF P C i = hit at *
              repeat' (first | (with_reducible first | refine W_seq ?_ | refine then_n ?_ | refine W_block ?_ | refine W_skip ?_) | ((with_reducible refine s_reg ?_); intro K hK) | ((with_reducible refine k_nil ?_); (with_reducible apply s_nil hK); (· exact nmX); clear hK; clear K) | ((with_reducible refine k_cond ?_); (((with_reducible apply s_condT); (· rfl); (· exact nmX)))) | ((with_reducible refine k_mv ?_); (refine s_mv rfl ?_)) | ((with_reducible refine k_len ?_); ((refine s_len rfl rfl ?_))) | ((with_reducible refine k_eql ?_); ((refine s_eql rfl rfl ?_))) | ((with_reducible refine k_lss ?_); (refine s_lss rfl rfl ?_)) | ((with_reducible refine k_iaddr ?_); (((with_reducible apply s_iaddrV); (· rfl); (· rfl); (· (omega))))) | ((with_reducible refine k_load ?_); (((with_reducible apply s_loadV); (· rfl)))) | ((with_reducible refine k_br ?_); ((refine Br_t (by omega) ?_))) | (((with_reducible apply q_eqN)); ((simp (disch := omega) only [w64, wu8, wu16, wu32, wu64, tm_nn, td_nn, fd_nn, Int.reduceAdd, Int.reduceSub, Int.reduceMul, Int.reduceDiv, Int.reduceMod, Int.reduceNeg, Int.reduceToNat, Int.toNat_natCast, Int.toNat_zero, Int.zero_add, Int.add_zero, Int.one_mul, Int.reducePow, Nat.mul_one, Nat.zero_add, Nat.add_zero, Nat.zero_mul, Nat.reduceAdd, Nat.reduceMul, Nat.reduceSub, Nat.min_eq_left, IntKind.bits, Nat.sub_zero, hPi, Int.toNat_natCast]; try rfl; done))) | (((with_reducible apply q_eqO)); ((simp (disch := omega) only [upd_self, upd_ne, upd_upd, rep, splice, List.take_succ_cons, List.take_zero, List.drop_succ_cons, List.drop_zero, List.cons_append, List.nil_append, List.append_nil, List.length_cons, List.length_nil, List.reduceReplicate, List.flatten_cons, List.flatten_nil, Nat.reduceAdd, Nat.reduceMul, Nat.reduceSub, Nat.zero_add, Nat.add_zero, List.getElem?_cons_zero, List.getElem?_cons_succ, hPi, Int.toNat_natCast]; try rfl; done))))
              refine W_forX 3 (fun b st => st = ⟨[(3, .pt k3 0), (7, .int .i64 n), (8, .vs 1 (P.map bsD) P.length), (9, .int .i64 0), (10, .sl k55 1 0 P.length), (11, .int .i64 m), (14, .pt k14 0), (16, .bool hit), (17, .int .i64 i), (18, .bool (eqB im C b)), (19, .int .i64 b)], h'⟩) 6 (fun st => st = ⟨[(3, .pt k3 0), (7, .int .i64 n), (8, .vs 1 (P.map bsD) P.length), (9, .int .i64 0), (10, .sl k55 1 0 P.length), (11, .int .i64 m), (14, .pt k14 0), (16, .bool hit), (17, .int .i64 i), (18, .bool (eqI im C))], h'⟩) (by rw [eqB_0]; rfl) ?_ ?_ ?_
              · rintro e2 h2 he
                cases he
                cases hq : eqI im C with
                | true =>
                  repeat' (first | (with_reducible first | refine W_seq ?_ | refine then_n ?_ | refine blk_n ?_ | refine blk_e ?_) | ((with_reducible refine s_reg ?_); intro K hK) | ((with_reducible refine k_nil ?_); (with_reducible apply s_nil hK); (· exact nmX); clear hK; clear K) | ((with_reducible refine k_cond ?_); (((with_reducible apply s_condT); (· rfl); (· exact nmX)))) | ((with_reducible refine k_mv ?_); (refine s_mv rfl ?_)) | ((with_reducible refine k_iaddr ?_); (((with_reducible apply s_iaddrO); (· rfl); (· rfl); (· (omega)); (· (exact hpX))))) | ((with_reducible refine k_add ?_); ((with_reducible apply s_add); (· rfl); (· rfl))) | ((with_reducible refine k_store ?_); ((with_reducible apply s_store0); (· rfl); (· rfl); (· rfl); (· (exact hpX)); (· (exact ⟨rfl, by omega⟩)); (· ((exact liL))); (· (rfl)))) | ((first | (with_reducible apply q_eqI) | (with_reducible apply q_eqN)); (first | exact nuI | exact nuN)))
                  refine ⟨_, by rw [Bool.or_true]; rfl, by rw [upd_ne n55.symm]; exact b3, by rw [upd_ne n145]; exact b14, ?_⟩
                  rw [upd_self]
                  refine congrArg some ((FC_set hi (mkF d n m P C i)).trans (FC_congr fun j _ => (hkt hq j).symm))
                | false =>
                  repeat' (first | (with_reducible first | refine W_seq ?_ | refine then_n ?_ | refine blk_n ?_ | refine blk_e ?_ | refine W_skip ?_) | ((with_reducible refine s_reg ?_); intro K hK) | ((with_reducible refine k_nil ?_); (with_reducible apply s_nil hK); (· exact nmX); clear hK; clear K) | ((with_reducible refine k_cond ?_); (((with_reducible apply s_condF); (· rfl); (· exact nmX)))) | ((with_reducible refine k_mv ?_); (refine s_mv rfl ?_)) | ((with_reducible refine k_add ?_); ((with_reducible apply s_add); (· rfl); (· rfl))) | (((with_reducible apply q_eqI)); (exact nuI)))
                  exact ⟨_, by rw [Bool.or_false]; rfl, b3, b14, by rw [b55]; exact congrArg some (FC_congr fun j _ => (hkf hq j).symm)⟩
              · rintro b e2 h2 hb he
                cases he
                cases hq : eqB im C b with
                | false =>
                  repeat' (first | (with_reducible first | refine W_seq ?_ | refine then_n ?_ | refine W_exit ?_ | refine then_e ?_) | ((with_reducible refine s_reg ?_); intro K hK) | ((with_reducible refine k_nil ?_); (with_reducible apply s_nil hK); (· exact nmX); clear hK; clear K) | ((with_reducible refine k_cond ?_); (((with_reducible apply s_condF); (· rfl); (· exact nmX)))) | ((with_reducible refine k_guard ?_); ((refine s_gt rfl ?_))) | ((with_reducible refine k_mv ?_); (refine s_mv rfl ?_)) | ((with_reducible refine k_pick ?_); ((refine s_pickT rfl rfl ?_))) | ((with_reducible refine k_lss ?_); (refine s_lss rfl rfl ?_)) | ((with_reducible refine k_br ?_); ((refine Br_t (by omega) ?_))))
                  exact ⟨rfl, by rw [eqB_f hq]⟩
                | true =>
                  have g1 : (im.map bD)[b]? = some (bD (im.getD b [])) := by rw [List.getElem?_map, List.getD_eq_getElem?_getD, List.getElem?_eq_getElem (by omega)]; rfl
                  have g2 : (C.map bD)[b]? = some (bD (C.getD b [])) := by rw [List.getElem?_map, List.getD_eq_getElem?_getD, List.getElem?_eq_getElem (by omega)]; rfl
                  have hst := strOf_eq (himy (im.getD b []) (by rw [getD_get (by omega)]; exact List.getElem_mem _)) (hCy (C.getD b []) (by rw [getD_get (by omega)]; exact List.getElem_mem _))
                  rw [eqB_s, hq, Bool.true_and]
                  generalize im.getD b [] = x at *
                  generalize C.getD b [] = y at *
                  repeat' (first | (with_reducible first | refine W_seq ?_ | refine then_n ?_ | refine W_block ?_ | refine blk_n ?_ | refine W_skip ?_) | ((with_reducible refine s_reg ?_); intro K hK) | ((with_reducible refine k_nil ?_); (with_reducible apply s_nil hK); (· exact nmX); clear hK; clear K) | ((with_reducible refine k_cond ?_); (((with_reducible apply s_condT); (· rfl); (· exact nmX)))) | ((with_reducible refine k_guard ?_); ((refine s_gt rfl ?_))) | ((with_reducible refine k_mv ?_); (refine s_mv rfl ?_)) | ((with_reducible refine k_pick ?_); ((refine s_pickT rfl rfl ?_))) | ((with_reducible refine k_eql ?_); ((refine s_strEq rfl rfl ?_))) | ((with_reducible refine k_lss ?_); (refine s_lss rfl rfl ?_)) | ((with_reducible refine k_iaddr ?_); (((with_reducible apply s_iaddrV); (· rfl); (· rfl); (· (omega))))) | ((with_reducible refine k_load ?_); (first | ((with_reducible apply s_loadV); (· rfl)) | ((with_reducible apply s_loadP); (· rfl); (· (exact hpX))))) | ((with_reducible refine k_add ?_); ((with_reducible apply s_add); (· rfl); (· rfl))) | ((with_reducible refine k_faddr ?_); (((with_reducible apply s_faddrP); (· rfl); (· rfl)))) | ((with_reducible refine k_strB ?_); ((with_reducible apply s_strB); (· rfl); (· (exact strD_vs0 _)))) | ((with_reducible refine k_dreg ?_); refine s_dreg rfl rfl ?_; intro K hK) | ((with_reducible refine k_dnil ?_); (with_reducible apply d_nil hK); (· exact nmX); clear hK; clear K) | ((with_reducible refine k_dop ?_); refine d_step (by first | exact Or.inl rfl | exact Or.inr rfl) ?_) | (with_reducible refine d_back ?_) | ((with_reducible refine k_br ?_); ((refine Br_t (by omega) ?_))) | ((first | (with_reducible apply q_eqI) | (with_reducible apply q_eqN)); ((simp (disch := omega) only [w64, wu8, wu16, wu32, wu64, tm_nn, td_nn, fd_nn, Int.reduceAdd, Int.reduceSub, Int.reduceMul, Int.reduceDiv, Int.reduceMod, Int.reduceNeg, Int.reduceToNat, Int.toNat_natCast, Int.toNat_zero, Int.zero_add, Int.add_zero, Int.one_mul, Int.reducePow, Nat.mul_one, Nat.zero_add, Nat.add_zero, Nat.zero_mul, Nat.reduceAdd, Nat.reduceMul, Nat.reduceSub, Nat.min_eq_left, IntKind.bits, Nat.sub_zero, hPi, g1, g2, Int.toNat_natCast]; try rfl; done))) | (((with_reducible apply q_eqO)); ((simp (disch := omega) only [upd_self, upd_ne, upd_upd, rep, splice, List.take_succ_cons, List.take_zero, List.drop_succ_cons, List.drop_zero, List.cons_append, List.nil_append, List.append_nil, List.length_cons, List.length_nil, List.reduceReplicate, List.flatten_cons, List.flatten_nil, Nat.reduceAdd, Nat.reduceMul, Nat.reduceSub, Nat.zero_add, Nat.add_zero, List.getElem?_cons_zero, List.getElem?_cons_succ, hPi, g1, g2, Int.toNat_natCast]; try rfl; done))))
                  rw [hst]
                  rfl
              · rintro e2 h2 he
                cases he
                rw [eqB_3 him3 hcl]
                repeat' (first | (with_reducible first | refine W_seq ?_ | refine then_n ?_ | refine W_exit ?_ | refine then_e ?_) | ((with_reducible refine s_reg ?_); intro K hK) | ((with_reducible refine k_nil ?_); (with_reducible apply s_nil hK); (· exact nmX); clear hK; clear K) | ((with_reducible refine k_cond ?_); (((with_reducible apply s_condF); (· rfl); (· exact nmX)))) | ((with_reducible refine k_guard ?_); ((refine s_gf1 rfl ?_))) | ((with_reducible refine k_mv ?_); (refine s_mv rfl ?_)) | ((with_reducible refine k_pick ?_); ((refine s_pickF rfl rfl ?_))) | ((with_reducible refine k_lss ?_); (refine s_lss rfl rfl ?_)) | ((with_reducible refine k_br ?_); ((refine Br_f (by omega) ?_))))
                exact ⟨rfl, rfl⟩
            · clear b3 b55 b14
              rintro e' h' ⟨h1, he, b3, b14, b55⟩
              cases he
              rw [hit_n hcin]
              repeat' (first | (with_reducible first | refine W_seq ?_ | refine then_n ?_ | refine blk_n ?_ | refine blk_e ?_ | refine W_skip ?_ | refine W_exit ?_ | refine then_e ?_) | ((with_reducible refine s_reg ?_); intro K hK) | ((with_reducible refine k_nil ?_); (with_reducible apply s_nil hK); (· exact nmX); clear hK; clear K) | ((with_reducible refine k_cond ?_); (((with_reducible apply s_condF); (· rfl); (· exact nmX)))) | ((with_reducible refine k_mv ?_); (refine s_mv rfl ?_)) | ((with_reducible refine k_len ?_); ((refine s_len rfl rfl ?_))) | ((with_reducible refine k_not ?_); (refine s_not rfl (by exact Bool.not_true) ?_)) | ((with_reducible refine k_lss ?_); (refine s_lss rfl rfl ?_)) | ((with_reducible refine k_add ?_); ((with_reducible apply s_add); (· rfl); (· rfl))) | ((with_reducible refine k_br ?_); ((refine Br_f (by omega) ?_))) | (((with_reducible apply q_eqI)); (exact nuI)))
              exact ⟨_, rfl, b3, by rw [b55]; exact congrArg some (FC_congr fun j hj => mk_n hC hj)⟩
        · clear a3 a55
          rintro e' h' ⟨h1, he, a3, a55⟩
          cases he
          have hall : ∀ j, j < P.length → fnd d n P T j = true := fun j hj => by
            obtain ⟨m, hm, e⟩ := hex _ (List.getElem_mem hj)
            exact decide_eq_true ⟨m, hm, by rw [e, List.getD_eq_getElem?_getD, List.getElem?_eq_getElem hj]; rfl⟩
          have hFl := FC_len P.length (fnd d n P T)
          repeat' (first | (with_reducible first | refine W_seq ?_ | refine then_n ?_ | refine W_block ?_ | refine blk_e ?_ | refine W_exit ?_ | refine then_e ?_) | ((with_reducible refine s_reg ?_); intro K hK) | ((with_reducible refine k_nil ?_); (with_reducible apply s_nil hK); (· exact nmX); clear hK; clear K) | ((with_reducible refine k_cond ?_); (((with_reducible apply s_condF); (· rfl); (· exact nmX)))) | ((with_reducible refine k_mv ?_); (refine s_mv rfl ?_)) | ((with_reducible refine k_lss ?_); (refine s_lss rfl rfl ?_)) | ((with_reducible refine k_shl ?_); ((with_reducible apply s_shl); (· rfl); (· rfl); (· omega))) | ((with_reducible refine k_conv ?_); ((with_reducible apply s_conv); (· rfl))) | ((with_reducible refine k_br ?_); ((refine Br_f (by omega) ?_))) | (((with_reducible apply q_eqI)); ((simp (disch := omega) only [w64, wu8, wu16, wu32, wu64, tm_nn, td_nn, fd_nn, Int.reduceAdd, Int.reduceSub, Int.reduceMul, Int.reduceDiv, Int.reduceMod, Int.reduceNeg, Int.reduceToNat, Int.toNat_natCast, Int.toNat_zero, Int.zero_add, Int.add_zero, Int.one_mul, Int.reducePow, Nat.mul_one, Nat.zero_add, Nat.add_zero, Nat.zero_mul, Nat.reduceAdd, Nat.reduceMul, Nat.reduceSub, Nat.min_eq_left, IntKind.bits, Nat.sub_zero, hsh]; try rfl; done))))
          refine W_for P.length (fun i st => st = ⟨[(9, .int .i64 0), (10, .sl k55 1 0 P.length), (20, .int .i64 i)], h'⟩) rfl ?_ ?_
          · rintro i e2 h2 hi he
            cases he
            have hg := FC_get hi (fnd d n P T)
            rw [hall i hi] at hg
            repeat' (first | (with_reducible first | refine W_seq ?_ | refine then_n ?_ | refine W_block ?_ | refine blk_n ?_ | refine W_skip ?_) | ((with_reducible refine s_reg ?_); intro K hK) | ((with_reducible refine k_nil ?_); (with_reducible apply s_nil hK); (· exact nmX); clear hK; clear K) | ((with_reducible refine k_cond ?_); (first | ((with_reducible apply s_condT); (· rfl); (· exact nmX)) | ((with_reducible apply s_condF); (· rfl); (· exact nmX)))) | ((with_reducible refine k_mv ?_); (refine s_mv rfl ?_)) | ((with_reducible refine k_len ?_); ((refine s_len rfl rfl ?_))) | ((with_reducible refine k_not ?_); (refine s_not rfl (by exact Bool.not_true) ?_)) | ((with_reducible refine k_lss ?_); (refine s_lss rfl rfl ?_)) | ((with_reducible refine k_iaddr ?_); (((with_reducible apply s_iaddrO); (· rfl); (· rfl); (· (omega)); (· (exact hpX))))) | ((with_reducible refine k_load ?_); (((with_reducible apply s_loadP); (· rfl); (· (exact hpX))))) | ((with_reducible refine k_add ?_); ((with_reducible apply s_add); (· rfl); (· rfl))) | ((with_reducible refine k_br ?_); ((refine Br_t (by omega) ?_))) | ((first | (with_reducible apply q_eqI) | (with_reducible apply q_eqN)); ((simp (disch := omega) only [w64, wu8, wu16, wu32, wu64, tm_nn, td_nn, fd_nn, Int.reduceAdd, Int.reduceSub, Int.reduceMul, Int.reduceDiv, Int.reduceMod, Int.reduceNeg, Int.reduceToNat, Int.toNat_natCast, Int.toNat_zero, Int.zero_add, Int.add_zero, Int.one_mul, Int.reducePow, Nat.mul_one, Nat.zero_add, Nat.add_zero, Nat.zero_mul, Nat.reduceAdd, Nat.reduceMul, Nat.reduceSub, Nat.min_eq_left, IntKind.bits, Nat.sub_zero, hg, Int.toNat_natCast]; try rfl; done))) | (((with_reducible apply q_eqO)); ((simp (disch := omega) only [upd_self, upd_ne, upd_upd, rep, splice, List.take_succ_cons, List.take_zero, List.drop_succ_cons, List.drop_zero, List.cons_append, List.nil_append, List.append_nil, List.length_cons, List.length_nil, List.reduceReplicate, List.flatten_cons, List.flatten_nil, Nat.reduceAdd, Nat.reduceMul, Nat.reduceSub, Nat.zero_add, Nat.add_zero, List.getElem?_cons_zero, List.getElem?_cons_succ, hg, Int.toNat_natCast]; try rfl; done))))
            rfl
          · rintro e2 h2 he
            cases he
            repeat' (first | (with_reducible first | refine W_seq ?_ | refine then_n ?_ | refine blk_e ?_ | refine W_ret ?_ | refine W_exit ?_ | refine then_e ?_) | ((with_reducible refine s_reg ?_); intro K hK) | ((with_reducible refine k_nil ?_); (with_reducible apply s_nil hK); (· exact nmX); clear hK; clear K) | ((with_reducible refine k_cond ?_); (((with_reducible apply s_condF); (· rfl); (· exact nmX)))) | ((with_reducible refine k_guard ?_); ((refine s_gt rfl ?_))) | ((with_reducible refine k_mv ?_); (refine s_mv rfl ?_)) | ((with_reducible refine k_len ?_); ((refine s_len rfl rfl ?_))) | ((with_reducible refine k_pick ?_); ((refine s_pickT rfl rfl ?_))) | ((with_reducible refine k_eql ?_); ((refine s_eql rfl rfl ?_))) | ((with_reducible refine k_lss ?_); (refine s_lss rfl rfl ?_)) | ((with_reducible refine k_callF ?_); (((with_reducible apply s_call1); (· rfl)))) | ((with_reducible refine k_con ?_); (((with_reducible apply con_val (c0)); (· (exact agX)); (· rfl); (· exact fun _ => rfl)))) | ((with_reducible refine k_br ?_); (first | (refine Br_t (by with_reducible rfl) ?_) | (refine Br_f (by omega) ?_))))
            first | exact Fin_flat trivial rfl rfl | (refine Fin_tup trivial rfl ?_ (Nat.le_of_ble_eq_true rfl); (repeat (first | exact All2.nil | (apply All2.cons; (· first | exact exc_n | exact exc_e | exact exc_v rfl rfl | exact exc_o upd_self rfl rfl)))); done) | (refine Fin_own trivial rfl upd_self ?_ (Nat.le_of_ble_eq_true rfl); (repeat (first | exact All2.nil | (apply All2.cons; (· first | exact exc_n | exact exc_e | exact exc_v rfl rfl | exact exc_o upd_self rfl rfl)))); done) | exact Fin_nil trivial rfl | exact Fin_sl trivial rfl upd_self rfl rfl
      · generalize prodF (chL bs0 h) = P at *
        generalize bs0 = B0 at *
        clear F hlim
        repeat' (first | (with_reducible first | refine W_seq ?_ | refine then_n ?_ | refine W_skip ?_ | refine W_ret ?_ | refine then_r ?_) | ((with_reducible refine s_reg ?_); intro K hK) | ((with_reducible refine k_nil ?_); (with_reducible apply s_nil hK); (· exact nmX); clear hK; clear K) | ((with_reducible refine k_cond ?_); (first | ((with_reducible apply s_condT); (· rfl); (· exact nmX)) | ((with_reducible apply s_condF); (· rfl); (· exact nmX)))) | ((with_reducible refine k_guard ?_); (first | (refine s_gt rfl ?_) | (refine s_gf1 rfl ?_))) | ((with_reducible refine k_mv ?_); (refine s_mv rfl ?_)) | ((with_reducible refine k_extract ?_); (refine s_extract rfl rfl ?_)) | ((with_reducible refine k_len ?_); ((refine s_len rfl rfl ?_))) | ((with_reducible refine k_pick ?_); (first | (refine s_pickT rfl rfl ?_) | (refine s_pickF rfl rfl ?_))) | ((with_reducible refine k_not ?_); (refine s_not rfl (by exact Bool.not_true) ?_)) | ((with_reducible refine k_lss ?_); (refine s_lss rfl rfl ?_)) | ((with_reducible refine k_gtr ?_); (refine s_gtr rfl rfl ?_)) | ((with_reducible refine k_loadA ?_); (((with_reducible apply s_loadAP); (· rfl); (· (exact hpX)); (· (exact Nat.le_of_ble_eq_true rfl))))) | ((with_reducible refine k_store ?_); ((with_reducible apply s_store0); (· rfl); (· rfl); (· rfl); (· (exact hpX)); (· (exact ⟨rfl, by exact Nat.le_of_ble_eq_true rfl⟩)); (· ((exact liL))); (· (exact upd_upd)))) | ((with_reducible refine k_alloc (dst := some 3) ?_); ((with_reducible apply s_alloc); intro k3 hk3; (try simp only [upd_none] at hk3))) | ((with_reducible refine k_callF ?_); (((with_reducible apply s_call1); (· rfl)))) | ((with_reducible refine k_con ?_); (first | ((with_reducible apply con_val (c0)); (· (repeat (exact All2.nil))); (· rfl); (· exact fun _ => rfl)) | ((with_reducible apply con_val (c1)); (· (repeat (first | exact All2.nil | (apply All2.cons; (· first | exact rdX))))); (· rfl); (· exact fun _ => rfl)) | ((with_reducible apply con_val (c2)); (· (repeat (first | exact All2.nil | (apply All2.cons; (· first | exact Rd_dv))))); (· rfl); (· exact fun _ => rfl)) | ((with_reducible apply con_val (c3)); (· (repeat (first | exact All2.nil | (apply All2.cons; (· first | exact rdX))))); (· rfl); (· exact fun _ => rfl)))) | ((with_reducible refine k_br ?_); (first | (refine Br_t (by omega) ?_) | (refine Br_f (by omega) ?_))) | (((with_reducible apply q_eqL)); (exact liL)))
        first | exact Fin_flat trivial rfl rfl | (refine Fin_tup trivial rfl ?_ (Nat.le_of_ble_eq_true rfl); (repeat (first | exact All2.nil | (apply All2.cons; (· first | exact exc_n | exact exc_e | exact exc_v rfl rfl | exact exc_o upd_self rfl rfl)))); done) | (refine Fin_own trivial rfl upd_self ?_ (Nat.le_of_ble_eq_true rfl); (repeat (first | exact All2.nil | (apply All2.cons; (· first | exact exc_n | exact exc_e | exact exc_v rfl rfl | exact exc_o upd_self rfl rfl)))); done) | exact Fin_nil trivial rfl | exact Fin_sl trivial rfl upd_self rfl rfl
  · repeat' (first | (with_reducible first | refine W_seq ?_ | refine then_n ?_ | refine W_ret ?_ | refine then_r ?_) | ((with_reducible refine s_reg ?_); intro K hK) | ((with_reducible refine k_nil ?_); (with_reducible apply s_nil hK); (· exact nmX); clear hK; clear K) | ((with_reducible refine k_cond ?_); (((with_reducible apply s_condT); (· rfl); (· exact nmX)))) | ((with_reducible refine k_mv ?_); (refine s_mv rfl ?_)) | ((with_reducible refine k_len ?_); ((refine s_len rfl rfl ?_))) | ((with_reducible refine k_gtr ?_); (refine s_gtr rfl rfl ?_)) | ((with_reducible refine k_callF ?_); (((with_reducible apply s_call1); (· rfl)))) | ((with_reducible refine k_con ?_); (((with_reducible apply con_val (c0)); (· (exact agX)); (· rfl); (· exact fun _ => rfl)))) | ((with_reducible refine k_br ?_); ((refine Br_t (by omega) ?_))))
    first | exact Fin_flat trivial rfl rfl | (refine Fin_tup trivial rfl ?_ (Nat.le_of_ble_eq_true rfl); (repeat (first | exact All2.nil | (apply All2.cons; (· first | exact exc_n | exact exc_e | exact exc_v rfl rfl | exact exc_o upd_self rfl rfl)))); done) | (refine Fin_own trivial rfl upd_self ?_ (Nat.le_of_ble_eq_true rfl); (repeat (first | exact All2.nil | (apply All2.cons; (· first | exact exc_n | exact exc_e | exact exc_v rfl rfl | exact exc_o upd_self rfl rfl)))); done) | exact Fin_nil trivial rfl | exact Fin_sl trivial rfl upd_self rfl rfl
theorem exact_top_t : ∀ dts, All2 (TypedA Try.prog) Try.f12.params.toList dts → PCon Try.prog 12 dts (.bool true) := by
  intro dts h
  rw [Try.params12] at h
  obtain ⟨a, rfl, ha⟩ := one_arg h
  obtain ⟨l, rfl, hl⟩ := typed_ios ha
  exact exact_c l hl
end Go.Proofs.Ythblalidmmbcoaa
end
