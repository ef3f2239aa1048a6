import Derived.Test.YthblalidmmbcoaaF2q43fff7
import Derived.Test.YthblalidmmbcoaaAmZ3q643cc1
section
/- min -/
/- Images. -/
set_option linter.unusedSimpArgs false
set_option linter.unusedVariables false
namespace Go.Proofs.Ythblalidmmbcoaa
open Go.AM Classical
set_option maxRecDepth 100000
set_option maxHeartbeats 4000000
def chL (B : List Bs) (l : List Ev) : List (List Bs) := (List.range B.length).map (chF B l)
theorem chL_len (B : List Bs) (l : List Ev) : (chL B l).length = B.length := by simp [chL]
theorem chL_get {B : List Bs} {l : List Ev} {i : Nat} (h : i < (chL B l).length) : (chL B l)[i] = chF B l i := by simp [chL]
def limI (C : List (List Bs)) : Prop := ∃ i < C.length, 64 < preP (C.take (i + 1))
noncomputable def imR (B : List Bs) (l : List Ev) : D := if chkR B l = 0 then (if limI (chL B l) then .tup [.vs 1 [] 0, .int .i64 9] else .tup [.vs 1 ((prodF (chL B l)).map bsD) (prodF (chL B l)).length, .int .i64 0]) else .tup [.vs 1 [] 0, .int .i64 (chkR B l)]
theorem imV_rn {h : Heap} (L : List (List Bs)) : All2 (Rn h) (L.map imV) (L.map bsD) := by
  refine ⟨by simp, fun i c d hc hd => ?_⟩
  rw [List.getElem?_map] at hc hd
  cases hb : L[i]? with
  | none => rw [hb] at hd; cases hd
  | some b => rw [hb] at hc hd; injection hc with hc; injection hd with hd; subst hc; subst hd; exact Rn_vn
def allC (C : List (List Bs)) (i : Nat) : List D := (C.take i).map bsD ++ List.replicate (C.length - i) .nil
theorem allC_len (C : List (List Bs)) {i : Nat} (h : i ≤ C.length) : (allC C i).length = C.length := by
  unfold allC; rw [List.length_append, List.length_map, List.length_take, List.length_replicate]; omega
theorem allC_set {C : List (List Bs)} {i : Nat} (h : i < C.length) : splice (allC C i) i [bsD C[i]] = allC C (i + 1) := by
  have hl := allC_len C (Nat.le_of_lt h)
  have hm : ((C.take i).map bsD).length = i := by rw [List.length_map, List.length_take]; omega
  unfold splice allC
  rw [List.take_left' hm, List.length_singleton]
  rw [show C.length - i = (C.length - (i + 1)) + 1 by omega, List.replicate_succ, List.drop_append, List.drop_eq_nil_of_le (by omega), hm]
  rw [List.take_add_one, List.getElem?_eq_getElem h, List.map_append]
  simp
theorem allC_get {C : List (List Bs)} {i : Nat} (h : i < C.length) : (allC C (i + 1))[i]? = some (bsD C[i]) := by
  have hm : ((C.take (i + 1)).map bsD).length = i + 1 := by rw [List.length_map, List.length_take]; omega
  unfold allC
  rw [List.getElem?_append_left (by omega), List.getElem?_map, List.getElem?_take, if_pos (by omega), List.getElem?_eq_getElem h]
  rfl
theorem allC_end (C : List (List Bs)) : allC C C.length = C.map bsD := by unfold allC; simp
theorem rep_nil (n : Nat) : rep n [D.nil] = List.replicate n .nil := by
  unfold rep; induction n with
  | zero => rfl
  | succ n ih => rw [List.replicate_succ, List.flatten_cons, ih, List.replicate_succ]; rfl
theorem dimages_c {B : List Bs} {l : List Ev} (Ho : HOk B l) : PCon Try.prog 18 [bsD B, evD l] (imR B l) := by
  refine A18p (by simp [A18]) ?_
  simp only [A18, argEnv]
  unfold imR
  have hB := Ho.nB
  have hL := Ho.nL
  have hal := bs_len B
  have hlen := chL_len B l
  by_cases hc : chkR B l = 0
  · rw [if_pos hc]
    repeat' (first | (with_reducible first | refine W_seq ?_ | refine then_n ?_ | refine W_block ?_ | refine blk_n ?_ | refine blk_r ?_ | refine blk_e ?_ | refine W_skip ?_ | refine W_ret ?_ | refine then_r ?_ | refine W_exit ?_ | refine then_e ?_) | ((with_reducible refine s_reg ?_); intro K hK) | ((with_reducible refine k_nil ?_); (with_reducible apply s_nil hK); (· exact nmX); clear hK; clear K) | ((with_reducible refine k_cond ?_); (first | ((with_reducible apply s_condT); (· rfl); (· exact nmX)) | ((with_reducible apply s_condF); (· rfl); (· exact nmX)) | ((with_reducible apply s_condS); (· rfl); (· exact nmX); (· exact nmX)))) | ((with_reducible refine k_mv ?_); (refine s_mv rfl ?_)) | ((with_reducible refine k_extract ?_); (refine s_extract rfl rfl ?_)) | ((with_reducible refine k_len ?_); (first | (refine s_len rfl rfl ?_) | ((with_reducible apply s_len); (· rfl); (· exact SlOwn.len (by assumption))) | ((with_reducible apply s_len); (· rfl); (· assumption)))) | ((with_reducible refine k_neq ?_); (first | (refine s_neq rfl rfl ?_) | (refine s_strNe rfl rfl ?_))) | ((with_reducible refine k_mkslice (dst := some 25) ?_); ((with_reducible apply s_mkslice); (· rfl); (· rfl); (· (exact ⟨rfl, by decide, by omega, by omega, by (rw [room_i]; omega), by omega⟩)); (· ((first | exact nuI | exact nuN))); intro k25 hk25; (try simp only [upd_none] at hk25))) | ((with_reducible refine k_store ?_); ((with_reducible apply s_store0); (· rfl); (· rfl); (· rfl); (· (exact hpX)); (· (exact ⟨rfl, by first | exact Nat.le_of_ble_eq_true rfl | omega | (simp; omega)⟩)); (· ((first | exact liL | exact liO))); (· (first | exact upd_upd | rfl)))) | ((with_reducible refine k_alloc (dst := some 8) ?_); ((with_reducible apply s_alloc); intro k8 hk8; (try simp only [upd_none] at hk8))) | ((with_reducible refine k_callF ?_); (first | ((with_reducible apply s_call1); (· rfl)) | ((with_reducible apply s_calln); (· rfl)))) | ((with_reducible refine k_con ?_); (first | (refine after_ok hB hL Ho.id hc ?_; intro h2 k kF kC dO H hh))) | ((with_reducible refine k_br ?_); (first | (with_reducible first | refine Br_dec ?_ | refine Br_not ?_ | refine Br_eqF ?_ | refine Br_and ?_ | refine Br_or ?_ | refine Br_neg ?_ | refine Br_band ?_ | refine Br_bor ?_ | refine Br_beq ?_) | (refine Br_t (by first | with_reducible rfl | omega | assumption | rfl) ?_) | (refine Br_f (by first | omega | assumption | decide) ?_) | (with_reducible apply Br_sb <;> intro hbr <;> (first | subst hbr | simp only [hbr] | skip)) | (with_reducible apply Br_s <;> intro hbr))))
    all_goals first | (exfalso; omega) | skip
    have hle : ∀ i (hi : i < (chL B l).length), ((chL B l)[i]).length ≤ 902 := fun i hi => by rw [chL_get]; have := ch_len (B := B) (l := l) (b := i); omega
    have h32 : ∀ i (hi : i < (chL B l).length), ∀ b ∈ (chL B l)[i], b.length = 32 := fun i hi b hb => by rw [chL_get] at hb; exact ch_32 hc (by omega) hb
    have pk : ∀ {h : Heap} (hs : ∀ j c, h2 j = some c → h j = some c) (i : Nat) (hi : i < (chL B l).length), PK Try.prog h [.pt k 0, .int .i64 i] 41 (bsD (chL B l)[i]) := fun hs i hi => by rw [chL_get]; exact stch_pk Ho hc (H.mono hs) i (by omega)
    generalize hC : chL B l = C at *
    have hCB : C.length ≤ 1000000 := by omega
    rw [← hlen]
    have hps : ∀ i (hi : i < C.length), preP (C.take (i + 1)) = preP (C.take i) * (C[i]).length := fun i hi => by rw [List.take_add_one, List.getElem?_eq_getElem hi]; exact preP_snoc _ _
    refine W_for C.length (fun i st => ∃ h', st = ⟨[(6, .pt k 0), (8, .pt k8 0), (9, .int .i64 (preP (C.take i) : Nat)), (27, .int .i64 C.length), (28, .int .i64 i)], h'⟩ ∧ h' k8 = some [.sl k25 1 0 C.length] ∧ h' k25 = some (allC C i) ∧ (∀ j c, h2 j = some c → h' j = some c) ∧ (preP (C.take i) ≤ 64 ∧ ∀ t, t < i → preP (C.take (t + 1)) ≤ 64)) ⟨_, rfl, upd_self, ?_, fun j c hj => upd_sub (by rw [upd_ne hk8.1]; exact hk8.2) j c (upd_sub hk25 j c hj), by simp [preP], fun t ht => by omega⟩ ?_ ?_
    · rw [upd_ne hk8.1.symm, upd_self, rep_nil]; simp [allC]
    · rintro i e' h' hi ⟨h1, he, q1, q2, hs, hp, ht⟩
      cases he
      have hb0 := hle i hi
      have p1 := pk hs i hi
      have hcl := allC_len C (Nat.le_of_lt hi)
      have hst := allC_set hi
      have hgt := allC_get hi
      have hlim : 64 < preP (C.take (i + 1)) → limI C := fun h => ⟨i, hi, h⟩
      have hmul : ((preP (C.take i) : Nat) : Int) * ((C[i]).length : Nat) = (preP (C.take (i + 1)) : Nat) := by rw [hps i hi]; simp
      have hpb : preP (C.take (i + 1)) ≤ 64 * 902 := by rw [hps i hi]; exact Nat.mul_le_mul hp hb0
      have hal2 := bs_len C[i]
      generalize C[i] = c at *
      generalize preP (C.take i) = pi at *
      generalize hpj : preP (C.take (i + 1)) = pj at *
      generalize allC C i = A at *
      generalize allC C (i + 1) = A2 at *
      unfold splice at hst
      rw [List.length_singleton] at hst
      repeat' (first | (with_reducible first | refine W_seq ?_ | refine then_n ?_ | refine W_block ?_ | refine blk_n ?_ | refine blk_r ?_ | refine blk_e ?_ | refine W_skip ?_ | refine W_ret ?_ | refine then_r ?_ | refine W_exit ?_ | refine then_e ?_) | ((with_reducible refine s_reg ?_); intro K hK) | ((with_reducible refine k_nil ?_); (with_reducible apply s_nil hK); (· exact nmX); clear hK; clear K) | ((with_reducible refine k_cond ?_); (first | ((with_reducible apply s_condT); (· rfl); (· exact nmX)) | ((with_reducible apply s_condF); (· rfl); (· exact nmX)) | ((with_reducible apply s_condS); (· rfl); (· exact nmX); (· exact nmX)))) | ((with_reducible refine k_mv ?_); (refine s_mv rfl ?_)) | ((with_reducible refine k_len ?_); (first | (refine s_len rfl rfl ?_) | ((with_reducible apply s_len); (· rfl); (· exact SlOwn.len (by assumption))) | ((with_reducible apply s_len); (· rfl); (· assumption)))) | ((with_reducible refine k_lss ?_); (refine s_lss rfl rfl ?_)) | ((with_reducible refine k_gtr ?_); (refine s_gtr rfl rfl ?_)) | ((with_reducible refine k_iaddr ?_); (first | ((with_reducible apply s_iaddrV); (· rfl); (· rfl); (· (first | omega | exact ⟨rfl, by omega⟩ | skip))) | ((with_reducible apply s_iaddrO); (· rfl); (· rfl); (· (first | omega | exact ⟨rfl, by omega⟩ | skip)); (· (exact hpX))) | ((with_reducible apply s_iaddrSO); (· rfl); (· assumption); (· rfl); (· (first | omega | exact ⟨rfl, by omega⟩ | skip)); (· (first | (simp (disch := omega) only [w64, wu8, wu16, wu32, wu64, tm_nn, td_nn, fd_nn, Int.reduceAdd, Int.reduceSub, Int.reduceMul, Int.reduceDiv, Int.reduceMod, Int.reduceNeg, Int.reduceToNat, Int.toNat_natCast, Int.toNat_zero, Int.zero_add, Int.add_zero, Int.one_mul, Int.reducePow, Nat.mul_one, Nat.zero_add, Nat.add_zero, Nat.zero_mul, Nat.reduceAdd, Nat.reduceMul, Nat.reduceSub, Nat.min_eq_left, IntKind.bits, Nat.sub_zero, hst, hgt, hmul]; try rfl; done) | rfl)); intro ks hks))) | ((with_reducible refine k_load ?_); (first | ((with_reducible apply s_loadV); (· rfl)) | ((with_reducible apply s_loadP); (· rfl); (· (exact hpX))))) | ((with_reducible refine k_add ?_); ((with_reducible apply s_add); (· rfl); (· rfl))) | ((with_reducible refine k_mul ?_); ((with_reducible apply s_mul); (· rfl); (· rfl))) | ((with_reducible refine k_store ?_); ((with_reducible apply s_store0); (· rfl); (· rfl); (· rfl); (· (exact hpX)); (· (exact ⟨rfl, by first | exact Nat.le_of_ble_eq_true rfl | omega | (simp [hst, hgt, hmul]; omega)⟩)); (· ((first | (simp (disch := omega) only [upd_self, upd_ne, upd_upd, rep, splice, List.take_succ_cons, List.take_zero, List.drop_succ_cons, List.drop_zero, List.cons_append, List.nil_append, List.append_nil, List.length_cons, List.length_nil, List.reduceReplicate, List.flatten_cons, List.flatten_nil, Nat.reduceAdd, Nat.reduceMul, Nat.reduceSub, Nat.zero_add, Nat.add_zero, List.getElem?_cons_zero, List.getElem?_cons_succ, hst, hgt, hmul]; try rfl; done) | rfl))); (· (first | exact upd_upd | rfl)))) | ((with_reducible refine k_dreg ?_); refine s_dregS (pre := A18d10p) rfl rfl rfl ?_; intro K hK) | (with_reducible refine d_nilS ?_) | ((with_reducible refine k_dcall ?_); (first | ((with_reducible apply d_callK); (· rfl); (· exact p1); (· rfl)))) | ((with_reducible refine k_dop ?_); refine d_step (by first | exact Or.inl rfl | exact Or.inr rfl) ?_) | (with_reducible refine d_back ?_) | ((with_reducible refine k_br ?_); (first | (with_reducible first | refine Br_dec ?_ | refine Br_not ?_ | refine Br_eqF ?_ | refine Br_and ?_ | refine Br_or ?_ | refine Br_neg ?_ | refine Br_band ?_ | refine Br_bor ?_ | refine Br_beq ?_) | (refine Br_t (by first | with_reducible rfl | omega | assumption | rfl) ?_) | (refine Br_f (by first | omega | assumption | decide) ?_) | (with_reducible apply Br_sb <;> intro hbr <;> (first | subst hbr | simp only [hbr] | skip)) | (with_reducible apply Br_s <;> intro hbr))) | ((first | (with_reducible apply q_eqI) | (with_reducible apply q_eqN)); (first | (simp (disch := omega) only [w64, wu8, wu16, wu32, wu64, tm_nn, td_nn, fd_nn, Int.reduceAdd, Int.reduceSub, Int.reduceMul, Int.reduceDiv, Int.reduceMod, Int.reduceNeg, Int.reduceToNat, Int.toNat_natCast, Int.toNat_zero, Int.zero_add, Int.add_zero, Int.one_mul, Int.reducePow, Nat.mul_one, Nat.zero_add, Nat.add_zero, Nat.zero_mul, Nat.reduceAdd, Nat.reduceMul, Nat.reduceSub, Nat.min_eq_left, IntKind.bits, Nat.sub_zero, hst, hgt, hmul]; try rfl; done) | rfl)) | ((first | (with_reducible apply q_eqL) | (with_reducible apply q_eqO)); (first | (simp (disch := omega) only [upd_self, upd_ne, upd_upd, rep, splice, List.take_succ_cons, List.take_zero, List.drop_succ_cons, List.drop_zero, List.cons_append, List.nil_append, List.append_nil, List.length_cons, List.length_nil, List.reduceReplicate, List.flatten_cons, List.flatten_nil, Nat.reduceAdd, Nat.reduceMul, Nat.reduceSub, Nat.zero_add, Nat.add_zero, List.getElem?_cons_zero, List.getElem?_cons_succ, hst, hgt, hmul]; try rfl; done) | rfl)))
      all_goals first | (exfalso; omega) | skip
      · rw [if_pos (hlim (by omega))]
        exact Fin_tupN trivial rfl (All2.cons Rn_nil (All2.cons (Rn_scal rfl) All2.nil)) rfl
      · refine ⟨_, rfl, ?_, upd_self, fun j c hj => ?_, by omega, fun t ht2 => ?_⟩
        · rw [upd_ne hk8.1]; exact q1
        · rw [upd_ne (fun e => by rw [e, hk25] at hj; cases hj)]; exact hs j c hj
        · rcases Nat.lt_succ_iff_lt_or_eq.1 ht2 with h3 | rfl
          · exact ht t h3
          · rw [hpj]; omega
    · rintro e' h' ⟨h1, he, q1, q2, hs, hp, ht⟩
      cases he
      rw [if_neg (fun ⟨i, hi, h⟩ => by have := ht i hi; omega)]
      rw [allC_end] at q2
      clear hps
      rw [List.take_length] at hp
      repeat' (first | (with_reducible first | refine W_seq ?_ | refine then_n ?_ | refine W_block ?_ | refine blk_n ?_ | refine blk_r ?_ | refine blk_e ?_ | refine W_skip ?_ | refine W_ret ?_ | refine then_r ?_ | refine W_exit ?_ | refine then_e ?_) | ((with_reducible refine s_reg ?_); intro K hK) | ((with_reducible refine k_nil ?_); (with_reducible apply s_nil hK); (· exact nmX); clear hK; clear K) | ((with_reducible refine k_cond ?_); (first | ((with_reducible apply s_condT); (· rfl); (· exact nmX)) | ((with_reducible apply s_condF); (· rfl); (· exact nmX)) | ((with_reducible apply s_condS); (· rfl); (· exact nmX); (· exact nmX)))) | ((with_reducible refine k_lss ?_); (refine s_lss rfl rfl ?_)) | ((with_reducible refine k_load ?_); (first | ((with_reducible apply s_loadV); (· rfl)) | ((with_reducible apply s_loadP); (· rfl); (· (exact hpX))))) | ((with_reducible refine k_store ?_); ((with_reducible apply s_store0); (· rfl); (· rfl); (· rfl); (· (exact hpX)); (· (exact ⟨rfl, by first | exact Nat.le_of_ble_eq_true rfl | omega | (simp; omega)⟩)); (· ((first | exact liL | exact liO))); (· (first | exact upd_upd | rfl)))) | ((with_reducible refine k_alloc (dst := some 11) ?_); ((with_reducible apply s_alloc); intro k11 hk11; (try simp only [upd_none] at hk11))) | ((with_reducible refine k_alloc (dst := some 12) ?_); ((with_reducible apply s_alloc); intro k12 hk12; (try simp only [upd_none] at hk12))) | ((with_reducible refine k_alloc (dst := some 13) ?_); ((with_reducible apply s_alloc); intro k13 hk13; (try simp only [upd_none] at hk13))) | ((with_reducible refine k_mkfn ?_); ((with_reducible apply s_mkfn); (· rfl); (· rfl))) | ((with_reducible refine k_callT ?_); ((with_reducible apply s_callt); (· rfl); (· rfl); (· rfl))) | ((with_reducible refine k_br ?_); (first | (with_reducible first | refine Br_dec ?_ | refine Br_not ?_ | refine Br_eqF ?_ | refine Br_and ?_ | refine Br_or ?_ | refine Br_neg ?_ | refine Br_band ?_ | refine Br_bor ?_ | refine Br_beq ?_) | (refine Br_t (by first | with_reducible rfl | omega | assumption | rfl) ?_) | (refine Br_f (by first | omega | assumption | decide) ?_) | (with_reducible apply Br_sb <;> intro hbr <;> (first | subst hbr | simp only [hbr] | skip)) | (with_reducible apply Br_s <;> intro hbr))) | ((first | (with_reducible apply q_eqL) | (with_reducible apply q_eqO)); (first | exact liL | exact liO)))
      all_goals first | (exfalso; omega) | skip
      have hC1 : ∀ c ∈ C, c.length ≤ 1000000 ∧ ∀ b ∈ c, b.length ≤ 1000000 := fun c hcm => by
        obtain ⟨i, hi, rfl⟩ := List.mem_iff_getElem.1 hcm
        refine ⟨by have := hle i hi; omega, fun b hb => ?_⟩
        have h32 := h32 i hi b hb
        omega
      refine choose_con hCB hC1 (kA := k8) (kS := k25) C.length 0 [] [] .nil .nil _ _ (by omega) rfl (by simp) (by simpa using hp) ?_ (fun h5 dO5 dI5 H5 => ?_)
      · have n8 : ∀ {j}, h' j = none → k8 ≠ j := fun hj e => by rw [← e, q1] at hj; cases hj
        have n25 : ∀ {j}, h' j = none → k25 ≠ j := fun hj e => by rw [← e, q2] at hj; cases hj
        obtain ⟨a1, a2⟩ := hk12
        obtain ⟨b1, b2, b3⟩ := hk13
        refine ⟨?_, ?_, ?_, SlOwn.nil, ?_, SlPre.nil, upd_self, ⟨⟨n8 hk11, n8 a2⟩, ⟨n25 hk11, n25 a2⟩, Ne.symm a1, b2, b1⟩, ⟨Fr.nil, Fr.nil, Fr.nil, Fr.nil, Fr.nil⟩, ⟨Fr.nil, Fr.nil, Fr.nil, Fr.nil, Fr.nil⟩, fun j => .inl Fr.nil⟩
        · rw [upd_ne (n8 b3), upd_ne (n8 a2), upd_ne (n8 hk11)]; exact q1
        · rw [upd_ne (n25 b3), upd_ne (n25 a2), upd_ne (n25 hk11)]; exact q2
        · rw [upd_ne (Ne.symm b2), upd_ne (Ne.symm a1)]; exact upd_self
        · rw [upd_ne (Ne.symm b1)]; exact upd_self
      · have ho5 := H5.o
        have so5 := H5.so
        repeat' (first | (with_reducible first | refine W_seq ?_ | refine then_n ?_ | refine W_block ?_ | refine blk_n ?_ | refine blk_r ?_ | refine blk_e ?_ | refine W_skip ?_ | refine W_ret ?_ | refine then_r ?_ | refine W_exit ?_ | refine then_e ?_) | ((with_reducible refine s_reg ?_); intro K hK) | ((with_reducible refine k_nil ?_); (with_reducible apply s_nil hK); (· exact nmX); clear hK; clear K) | ((with_reducible refine k_mv ?_); (refine s_mv rfl ?_)) | ((with_reducible refine k_load ?_); (first | ((with_reducible apply s_loadV); (· rfl)) | ((with_reducible apply s_loadP); (· rfl); (· (exact hpX))))) | ((first | (with_reducible apply q_eqL) | (with_reducible apply q_eqO)); (first | exact liL | exact liO)))
        all_goals first | (exfalso; omega) | skip
        have e5 : [] ++ (prodF (C.drop 0)).map ([] ++ ·) = prodF C := by simp
        rw [e5] at so5
        exact Fin_tupN trivial rfl (All2.cons (Rn_so so5 (imV_rn _)) (All2.cons (Rn_scal rfl) All2.nil)) rfl
  · rw [if_neg hc]
    have c1 := fun {h : Heap} {Q : D → Heap → Prop} q => after_no (h := h) (Q := Q) hB hL Ho.id hc q
    generalize chkR B l = e at *
    repeat' (first | (with_reducible first | refine W_seq ?_ | refine then_n ?_ | refine W_block ?_ | refine blk_n ?_ | refine blk_r ?_ | refine blk_e ?_ | refine W_skip ?_ | refine W_ret ?_ | refine then_r ?_ | refine W_exit ?_ | refine then_e ?_) | ((with_reducible refine s_reg ?_); intro K hK) | ((with_reducible refine k_nil ?_); (with_reducible apply s_nil hK); (· exact nmX); clear hK; clear K) | ((with_reducible refine k_cond ?_); (first | ((with_reducible apply s_condT); (· rfl); (· exact nmX)) | ((with_reducible apply s_condF); (· rfl); (· exact nmX)) | ((with_reducible apply s_condS); (· rfl); (· exact nmX); (· exact nmX)))) | ((with_reducible refine k_mv ?_); (refine s_mv rfl ?_)) | ((with_reducible refine k_extract ?_); (refine s_extract rfl rfl ?_)) | ((with_reducible refine k_neq ?_); (first | (refine s_neq rfl rfl ?_) | (refine s_strNe rfl rfl ?_))) | ((with_reducible refine k_callF ?_); (first | ((with_reducible apply s_call1); (· rfl)) | ((with_reducible apply s_calln); (· rfl)))) | ((with_reducible refine k_con ?_); (first | (refine c1 ?_; intro h2 hh))) | ((with_reducible refine k_br ?_); (first | (with_reducible first | refine Br_dec ?_ | refine Br_not ?_ | refine Br_eqF ?_ | refine Br_and ?_ | refine Br_or ?_ | refine Br_neg ?_ | refine Br_band ?_ | refine Br_bor ?_ | refine Br_beq ?_) | (refine Br_t (by first | with_reducible rfl | omega | assumption | rfl) ?_) | (refine Br_f (by first | omega | assumption | decide) ?_) | (with_reducible apply Br_sb <;> intro hbr <;> (first | subst hbr | simp only [hbr] | skip)) | (with_reducible apply Br_s <;> intro hbr))))
    all_goals first | (exfalso; omega) | exact Fin_tupN trivial rfl (All2.cons Rn_nil (All2.cons (Rn_scal rfl) All2.nil)) rfl
end Go.Proofs.Ythblalidmmbcoaa
end
section
/- min -/
/- The reference: Images. -/
set_option linter.unusedSimpArgs false
set_option linter.unusedVariables false
namespace Go.Proofs.Ythblalidmmbcoaa
open Go.AM Classical
set_option maxRecDepth 100000
set_option maxHeartbeats 4000000
def IM (h : Heap) (cs : List D) (O : List (List Bs)) : Prop := All2 (fun c im => ∃ k, c = .sl k 1 0 im.length ∧ h k = some (im.map vD)) cs O
theorem IM.mono {h h2 : Heap} {cs : List D} {O : List (List Bs)} (H : IM h cs O) (hh : ∀ j c, h j = some c → h2 j = some c) : IM h2 cs O :=
  ⟨H.1, fun i c im hc hm => by obtain ⟨k, h1, h3⟩ := H.2 i c im hc hm; exact ⟨k, h1, hh _ _ h3⟩⟩
theorem IM.step {h h2 h3 : Heap} {d : D} {cs : List D} {O : List (List Bs)} {n : Nat} (H : IM h cs O) (ho : SlOwn h d 1 cs n) (h12 : ∀ k c, h k = some c → h2 k = some c) (h23 : ∀ j c, h2 j = some c → (∀ sz off n, d ≠ .sl j sz off n) → h3 j = some c) : IM h3 cs O := by
  refine ⟨H.1, fun i c im hc hm => ?_⟩
  obtain ⟨k, rfl, hk⟩ := H.2 i c im hc hm
  refine ⟨k, rfl, h23 _ _ (h12 _ _ hk) fun sz off m hd => ?_⟩
  obtain ⟨-, ⟨-, h0 | h0⟩ | ⟨k2, h0, hk2⟩⟩ := ho
  · rw [h0] at hd; cases hd
  · rw [h0] at hd; cases hd
  · rw [h0] at hd
    injection hd with hd
    subst hd
    rw [hk] at hk2
    injection hk2 with hk2
    rw [← hk2, List.getElem?_map] at hc
    cases hb : im[i]? with
    | none => rw [hb] at hc; cases hc
    | some b => rw [hb] at hc; injection hc with hc; cases hc
theorem IM.snoc {h : Heap} {cs : List D} {O : List (List Bs)} (H : IM h cs O) {k : Nat} {im : List Bs} (hk : h k = some (im.map vD)) : IM h (cs ++ [.sl k 1 0 im.length]) (O ++ [im]) := H.append (All2.cons ⟨k, rfl, hk⟩ All2.nil)
theorem IM.rn {h : Heap} {cs : List D} {O : List (List Bs)} (H : IM h cs O) : All2 (Rn h) cs (O.map bsD) := by
  refine ⟨by rw [List.length_map]; exact H.1, fun i c d hc hd => ?_⟩
  rw [List.getElem?_map] at hd
  cases hb : O[i]? with
  | none => rw [hb] at hd; cases hd
  | some im =>
    rw [hb] at hd; injection hd with hd; subst hd
    obtain ⟨k, rfl, hk⟩ := H.2 i c im hc hb
    exact Rn_sl hk (by simp) (vs_rn _)
theorem IM.get {h : Heap} {cs : List D} {O : List (List Bs)} (H : IM h cs O) {i : Nat} (hi : i < O.length) : ∃ k, cs[i]? = some (.sl k 1 0 (O[i]).length) ∧ h k = some ((O[i]).map vD) := by
  have h1 := H.1
  obtain ⟨k, h2, h3⟩ := H.2 i _ _ (List.getElem?_eq_getElem (by omega : i < cs.length)) (List.getElem?_eq_getElem hi)
  exact ⟨k, by rw [List.getElem?_eq_getElem (by omega), h2], h3⟩
end Go.Proofs.Ythblalidmmbcoaa
end
section
/- Drawn regions: makers, then a call. -/
set_option linter.unusedSimpArgs false
set_option linter.unusedVariables false
namespace Go.AM
open Classical
set_option maxRecDepth 100000
set_option maxHeartbeats 4000000
def madeS : List Nat → Nat → List AIns → List Nat
  | made, _, [] => made
  | made, i, o :: r => madeS (if makes o.op then i :: made else made) (i + 1) r
theorem Wmid_run {P : Program} {ops : List AIns} {bef : List (List Nat)} (hbl : bef.length = ops.length) {N : Nat} {rs : Nat → D} : ∀ (l : List AIns) (i : Nat) (made : List Nat) (e : Env) (h : Heap) (K : Env → Heap → Prop), (∃ tail, ops.drop i = l ++ tail) → okS bef made i l = true → Wops P l e h K →
    (∀ k, N ≤ k → h k ≠ none → ∃ m ∈ made, k = N + m) → (∀ m ∈ made, m < i) → ∃ e' h', dRun P N ops.length rs ops bef (List.range' i l.length) (get e) h = some (get e', h') ∧ K e' h' ∧ (∀ k, N ≤ k → h' k ≠ none → ∃ m ∈ madeS made i l, k = N + m) ∧ ∀ m ∈ madeS made i l, m < i + l.length
  | [], i, _, e, h, K, _, _, hw, hN, hm => ⟨e, h, by simp [dRun], hw, hN, hm⟩
  | o :: r, i, made, e, h, K, ⟨tail, hd⟩, hok, hw, hN, hm => by
    have hoi : ops[i]? = some o := by
      have : (ops.drop i)[0]? = some o := by rw [hd]; rfl
      rw [List.getElem?_drop] at this
      simpa using this
    have hil : i < ops.length := by
      rcases Nat.lt_or_ge i ops.length with h' | h'
      · exact h'
      · simp [List.getElem?_eq_none h'] at hoi
    have hbi : bef[i]? = some (befAt bef i) := by
      unfold befAt
      have : i < bef.length := by omega
      simp [this]
    have hdr : ∃ tail, ops.drop (i + 1) = r ++ tail := ⟨tail, by rw [← List.drop_drop, hd]; rfl⟩
    simp only [okS, Bool.and_eq_true] at hok
    obtain ⟨⟨⟨hg, hnc⟩, hcl⟩, hokr⟩ := hok
    have hg : o.guard = none := by simpa using hg
    have hkey : h (N + i) = none := by
      refine Classical.byContradiction fun hne => ?_
      obtain ⟨m, h1, h2⟩ := hN (N + i) (by omega) hne
      have := hm m h1
      omega
    -- the operation on the whole heap
    have key : ∀ d h1, evOp (get e) h (N + i) o.op = some (d, h1) → Wops P r (put o.dst d e) h1 K → (∀ k, N ≤ k → h1 k ≠ none → k = N + i → makes o.op = true) → ∃ e' h', dRun P N ops.length rs ops bef (List.range' i (o :: r).length) (get e) h = some (get e', h') ∧ K e' h' ∧ (∀ k, N ≤ k → h' k ≠ none → ∃ m ∈ madeS made i (o :: r), k = N + m) ∧ ∀ m ∈ madeS made i (o :: r), m < i + (o :: r).length := by
      intro d h1 hev hw1 hmk
      have hres : dRes P N ops.length rs i (befAt bef i) o (get e) h = some (d, h1) := by
        have hgv : guardV o.guard (get e) = some true := by rw [hg]; rfl
        have hcase : (match evOp (get e) (hide (hidF N ops.length (befAt bef i) i) h) (N + i) o.op with | some (d, h1) => some (d, unhide (hidF N ops.length (befAt bef i) i) h h1) | none => none) = some (d, h1) := by
          by_cases hc0 : cls o.op = 0
          · obtain ⟨e1, e2⟩ := cls0 hc0 hev
            rw [e2 _ _, e1]
            simp only [unhide_hide]
          · by_cases hc2 : cls o.op = 2
            · obtain ⟨c, e1, e2⟩ := cls2 hc2 hev
              rw [e2 _, e1]
              simp only [unhide_upd hid_own]
            have hid : hide (hidF N ops.length (befAt bef i) i) h = h := by
              funext k
              simp only [hide]
              split
              · rename_i hk
                refine Classical.byContradiction fun hne => ?_
                simp only [hidF, Bool.and_eq_true, decide_eq_true_eq, Bool.not_eq_true'] at hk
                obtain ⟨m, h3, h4⟩ := hN k hk.1.1.1 (fun h5 => hne h5.symm)
                have h5 : made.all (fun m => (befAt bef i).contains m) = true := by
                  rcases Bool.or_eq_true _ _ ▸ hcl with h6 | h6
                  · rcases (by simpa using h6 : cls o.op = 0 ∨ cls o.op = 2) with h7 | h7
                    · exact absurd h7 hc0
                    · exact absurd h7 hc2
                  · exact h6
                have h6 := List.all_eq_true.1 h5 m h3
                rw [h4, Nat.add_sub_cancel_left] at hk
                rw [h6] at hk
                exact absurd hk.2 (by simp)
              · rfl
            rw [hid, hev]
            simp only
            rw [evOp_fix hid_own hid hev]
        unfold dRes
        rw [hgv]
        simp only
        cases hop : o.op <;> rw [hop] at hcase hnc <;> first | exact hcase | (simp [notCall] at hnc; done)
      have hinv : ∀ k, N ≤ k → h1 k ≠ none → ∃ m ∈ (if makes o.op then i :: made else made), k = N + m := by
        intro k hk hne
        by_cases hki : k = N + i
        · rw [if_pos (hmk k hk hne hki)]
          exact ⟨i, by simp, hki⟩
        · obtain ⟨m, h3, h4⟩ := hN k hk (fun h0 => hne (evOp_none hev h0 hki))
          refine ⟨m, ?_, h4⟩
          split
          · simp [h3]
          · exact h3
      obtain ⟨e', h', h2, h3, h4, h5⟩ := Wmid_run hbl (N := N) (rs := rs) r (i + 1) _ (put o.dst d e) h1 K hdr hokr hw1 hinv (by
        intro m hm2
        split at hm2
        · rcases List.mem_cons.1 hm2 with rfl | hm2
          · omega
          · have := hm m hm2; omega
        · have := hm m hm2; omega)
      refine ⟨e', h', ?_, h3, h4, fun m hm => by have := h5 m hm; rw [List.length_cons]; omega⟩
      simp only [List.length_cons, List.range'_succ, dRun, hoi, hbi, hres]
      rw [← get_put]
      exact h2
    simp only [Wops, Wins, hg, runIns] at hw
    split at hw
    · rename_i hop
      rw [hop] at hnc
      simp [notCall] at hnc
    · split at hw
      · rename_i hmk
        have h1 := hw (N + i) hkey
        split at h1
        · rename_i d h' hev
          exact key d h' hev h1 (fun _ _ _ _ => hmk)
        · exact h1.elim
      · rename_i hmk
        have hmk : makes o.op = false := by simpa using hmk
        split at hw
        · rename_i d h' hev
          rw [key_any hmk 0 (N + i)] at hev
          refine key d h' hev hw (fun k hk hne hki => ?_)
          subst hki
          rw [key_any hmk (N + i) (N + i + 1)] at hev
          exact absurd (evOp_none hev hkey (by omega)) hne
        · obtain ⟨⟨g, x, sz, c, hop, _⟩, _⟩ := hw
          rw [hop] at hnc
          simp [notCall] at hnc
def WcV (P : Program) (rc : D) (c : AIns) (suf : List AIns) (e : Env) (h : Heap) (K : Env → Heap → Prop) : Prop :=
  match c.op with
  | .call f args => match evO (get e) f, evOs (get e) args with
    | some (.fn g fst caps), some ds => PC P h (fst ++ ds ++ caps) g rc ∧ Wops P suf (put c.dst rc e) h K
    | _, _ => False
  | _ => False
theorem W_dregMC {P : Program} {Q : X → St → Prop} {e : Env} {h : Heap} {pre mid suf ops : List AIns} {c : AIns} {bef : List (List Nat)} {keep : List Nat} {rc : D} (hs : pre ++ (mid ++ (c :: suf)) = ops) (hbl : bef.length = ops.length) (hro : pre.all readsOnly = true) (hcg : c.guard = none) (hokm : okS bef [] pre.length mid = true) (hokc : ((madeS [] pre.length mid).all fun m => (befAt bef (pre.length + mid.length)).contains m) = true) (hok : okS bef (madeS [] pre.length mid) (pre.length + mid.length + 1) suf = true) (how : owOf rc = none) (hth : ∀ k, thaw k rc = rc)
    (hw : ∀ K : Env → Heap → Prop, (∀ e1 h1 e2, norm keep e1 = e2 → Q .normal ⟨e2, h1⟩ → K e1 h1) → WdR P pre e h fun e' => Wops P mid e' h fun e2 h2 => WcV P rc c suf e2 h2 K) : W P (.dreg ops bef keep) Q ⟨e, h⟩ := by
  subst hs
  obtain ⟨rs0, e1, hm, hr⟩ := WdR_run (ops := pre ++ (mid ++ (c :: suf))) hbl pre 0 ⟨mid ++ (c :: suf), by simp⟩ hro e h _ (hw (fun e' h' => Q .normal ⟨norm keep e', h'⟩) fun _ _ _ h1 h2 => by rw [h1]; exact h2)
  refine ⟨fun j => if j = pre.length + mid.length then rc else rs0 j, fun N hN => ?_⟩
  have hN : ∀ k, N ≤ k → h k = none := hN
  have hlen : (pre ++ (mid ++ (c :: suf))).length = pre.length + (mid.length + (1 + suf.length)) := by simp; omega
  have h1 := hr N hN
  rw [dRun_congr (rs' := fun j => if j = pre.length + mid.length then rc else rs0 j) _ _ _ (fun j hj => by have := List.mem_range'_1.1 hj; show rs0 j = if j = pre.length + mid.length then rc else rs0 j; rw [if_neg (by omega)])] at h1
  generalize hrs : (fun j => if j = pre.length + mid.length then rc else rs0 j) = rs at *
  have hrsi : rs (pre.length + mid.length) = rc := by rw [← hrs]; simp
  have hci : (pre ++ (mid ++ (c :: suf)))[pre.length + mid.length]? = some c := by simp
  have hbi : bef[pre.length + mid.length]? = some (befAt bef (pre.length + mid.length)) := by
    unfold befAt
    have : pre.length + mid.length < bef.length := by omega
    simp [this]
  obtain ⟨e2, h2, hm1, hc, hN2, hm2⟩ := Wmid_run (ops := pre ++ (mid ++ (c :: suf))) hbl (N := N) (rs := rs) mid pre.length [] e1 h _ ⟨c :: suf, by simp⟩ hokm hm (fun k hk hne => absurd (hN k hk) hne) (by simp)
  unfold WcV at hc
  split at hc
  · rename_i f args hop
    split at hc
    · rename_i g fst caps ds hf ha
      obtain ⟨hpc, hk⟩ := hc
      have hid : hide (hidF N (pre ++ (mid ++ (c :: suf))).length (befAt bef (pre.length + mid.length)) (pre.length + mid.length)) h2 = h2 := by
        funext k
        simp only [hide]
        split
        · rename_i hk2
          refine Classical.byContradiction fun hne => ?_
          simp only [hidF, Bool.and_eq_true, decide_eq_true_eq, Bool.not_eq_true'] at hk2
          obtain ⟨m, h3, h4⟩ := hN2 k hk2.1.1.1 (fun h5 => hne h5.symm)
          have h6 := List.all_eq_true.1 hokc m h3
          rw [h4, Nat.add_sub_cancel_left] at hk2
          rw [h6] at hk2
          exact absurd hk2.2 (by simp)
        · rfl
      have hres : dRes P N (pre ++ (mid ++ (c :: suf))).length rs (pre.length + mid.length) (befAt bef (pre.length + mid.length)) c (get e2) h2 = some (rc, h2) := by
        unfold dRes
        rw [hcg, hop]
        simp only [guardV, hf, ha, hrsi]
        rw [hid, if_pos hpc, hth, thawH_none how]
      obtain ⟨e4, h', h5, h6⟩ := Wsuf_run (ops := pre ++ (mid ++ (c :: suf))) hbl (N := N) (rs := rs) suf (pre.length + mid.length + 1) (madeS [] pre.length mid) _ _ _ (by
          have : (pre ++ (mid ++ (c :: suf))) = (pre ++ (mid ++ [c])) ++ suf := by simp
          rw [this, List.drop_append_of_le_length (by simp; omega)]
          rw [List.drop_eq_nil_of_le (by simp; omega)]; rfl) hok hk hN2 (fun m hm => by have := hm2 m hm; omega)
      refine ⟨(get e4, h'), ?_, ?_⟩
      · rw [hlen, List.range_eq_range', ← List.range'_append_1, dRun_append]
        rw [hlen] at h1 hm1 h5 hres
        rw [h1]
        simp only [Option.bind_some, Nat.zero_add]
        rw [← List.range'_append_1, dRun_append, hm1]
        simp only [Option.bind_some]
        rw [← List.range'_append_1, dRun_append]
        have hr1 : List.range' (pre.length + mid.length) 1 = [pre.length + mid.length] := rfl
        rw [hr1]
        simp only [dRun, hci, hbi, hres, Option.bind_some]
        rw [← get_put]
        exact h5
      · rw [norm_get] at h6
        exact h6
    · exact hc.elim
  · exact hc.elim
end Go.AM
end
section
/- min -/
/- awake. -/
set_option linter.unusedSimpArgs false
set_option linter.unusedVariables false
namespace Go.Proofs.Ythblalidmmbcoaa
open Go.AM Classical
set_option maxRecDepth 100000
set_option maxHeartbeats 4000000
instance (c : Bs) : Decidable (byB c) := inferInstanceAs (Decidable (∀ a ∈ c, 0 ≤ a ∧ a ≤ 255))
def pg (c : Int) : Bs := List.replicate 32 c
def wB : List Bs := [pg 65, pg 66]
def wL : List Ev := [⟨1, 1, 0, pg 67⟩, ⟨2, 1, 0, []⟩, ⟨1, 2, 0, pg 68⟩]
def wM : List Ev := [⟨1, 1, 0, pg 67⟩, ⟨2, 1, 0, []⟩, ⟨3, 0, 0, []⟩, ⟨1, 2, 0, pg 68⟩]
theorem wB_ok {l : List Ev} (h : l = wL ∨ l = wL.take 1 ∨ l = wL.drop 1 ∨ l = wM) : HOk wB l := by
  rcases h with rfl | rfl | rfl | rfl
  all_goals refine ⟨by decide, by decide, by decide, by decide, by decide⟩
theorem w1 : chkR wB wL = 0 := by decide
theorem w2 : chF wB wL 0 = [pg 65, pg 67, pg 68] := by decide
theorem w3 : allF wB wL 3 = [pg 67, pg 66] := by decide
theorem w4 : chkR wB (wL.drop 1) = 6 := by decide
theorem w5 : chkR wB (wL.take 1) = 0 := by decide
theorem w6 : chL wB (wL.take 1) = [[pg 65, pg 67], [pg 66]] := by decide
theorem w7 : chkR wB wM = 0 := by decide
theorem w8 : choR wB wL 0 = .tup [bsD [pg 65, pg 67, pg 68], .int .i64 0] := by
  unfold choR
  rw [if_pos w1, if_neg (by decide)]
  show D.tup [bsD (chF wB wL 0), _] = _
  rw [w2]
theorem w9 : conR wB wL (allF wB wL wL.length) = .tup [bsD [pg 67, pg 66], .int .i64 0] := by
  unfold conR
  rw [if_pos w1]
  show D.tup [bsD (allF wB wL 3), _] = _
  rw [w3]
theorem w10 : imR wB (wL.take 1) = .tup [.vs 1 [bsD [pg 65, pg 66], bsD [pg 67, pg 66]] 2, .int .i64 0] := by
  unfold imR
  rw [if_pos w5, w6, if_neg]
  · rfl
  · rintro ⟨i, hi, h⟩
    have : i = 0 ∨ i = 1 := by simp at hi; omega
    rcases this with rfl | rfl <;> simp [preP] at h
theorem w11 : ordR wB wM 1 2 = .tup [.bool true, .int .i64 0] := by
  unfold ordR
  rw [if_pos w7, if_neg (by decide)]
  have : (0 ≤ comF wM wM.length 1 ∧ sepF wM (comF wM wM.length 1) (subF wM wM.length 2) = true) := ⟨by decide, decide_eq_true ⟨2, by decide, by decide, by decide, by decide⟩⟩
  rw [decide_eq_true this]
theorem pg_len (c : Int) : (pg c).length = 32 := List.length_replicate
theorem pg_by {a : Int} (h : 0 ≤ a ∧ a ≤ 255) : byB (pg a) := fun x hx => by rw [List.eq_of_mem_replicate hx]; exact h
theorem page_v (a : Int) : PCon Try.prog 38 [.int .u8 a] (bD (pg a)) := by
  have := pcon_unow (page_c a)
  rw [bD, pg_len]
  exact this
theorem Rd_slO {h : Heap} {k sz off len : Nat} {c c' : List D} (hk : h k = some c) (hr : All2 (Rd h) c c') (hl : off + len * sz ≤ c'.length) : Rd h (.sl k sz off len) (.vs sz ((c'.drop off).take (len * sz)) len) := by
  intro s v H hv
  obtain ⟨_, ad, cap, rfl, hna, hlc, hq⟩ := hv.inv_sl
  obtain ⟨_, x, hx, hxn, _⟩ := H.own k c hk
  obtain ⟨hcc, hcap⟩ := hq x _ hx
  have hlen := hr.1
  rcases hcap with h0 | ⟨b, cs, e, rfl, rfl, hb, hs⟩
  · obtain rfl : len = 0 := by omega
    simpa using RP.vs0 ad cap sz
  · obtain ⟨hbl, cs2, e2, hh, hl2, hat, hall⟩ := own_cellsR H hk hr hx
    have hall2 := All2.slice hall off (len * sz)
    refine .vs b off cap sz len _ (((cs2.toList.take c'.length).drop off).take (len * sz)) (by simp; omega) hlc hbl hall2.1 ?_ ?_ ?_
    · intro v hv'
      have h1 := List.mem_of_mem_drop (List.mem_of_mem_take hv')
      obtain ⟨i, hi⟩ := List.mem_iff_getElem?.1 h1
      have hlt : i < c'.length := by
        rcases Nat.lt_or_ge i (cs2.toList.take c'.length).length with h' | h'
        · rw [hall.1] at h'; exact h'
        · simp [List.getElem?_eq_none h'] at hi
      exact (hall.2 i v _ hi (List.getElem?_eq_getElem hlt)).2
    · have := hat.sub off (len * sz)
      rw [Nat.zero_add] at this
      exact this
    · intro i v d hv' hd
      exact (hall2.2 i v d hv' hd).1
attribute [irreducible] pg
abbrev wc : List D := [.int .i64 1, .int .i64 1, .int .i64 0, bD (pg 67), .int .i64 2, .int .i64 1, .int .i64 0, .nil, .int .i64 1, .int .i64 2, .int .i64 0, bD (pg 68)]
theorem wc_rd {h : Heap} : All2 (Rd h) wc (wL.flatMap Ev.cells) := by
  show All2 (Rd h) wc [.int .i64 1, .int .i64 1, .int .i64 0, bD (pg 67), .int .i64 2, .int .i64 1, .int .i64 0, bD [], .int .i64 1, .int .i64 2, .int .i64 0, bD (pg 68)]
  repeat (first | exact All2.nil | (apply All2.cons; (· first | exact Rd_int | exact Rd_vs | exact Rd_nil)))
theorem wBc_rd {h : Heap} : All2 (Rd h) [bD (pg 65), bD (pg 66)] (wB.map bD) := All2.cons Rd_vs (All2.cons Rd_vs All2.nil)
abbrev wMc : List D := [.int .i64 1, .int .i64 1, .int .i64 0, bD (pg 67), .int .i64 2, .int .i64 1, .int .i64 0, .nil, .int .i64 3, .int .i64 0, .int .i64 0, .nil, .int .i64 1, .int .i64 2, .int .i64 0, bD (pg 68)]
theorem wMc_rd {h : Heap} : All2 (Rd h) wMc (wM.flatMap Ev.cells) := by
  show All2 (Rd h) wMc [.int .i64 1, .int .i64 1, .int .i64 0, bD (pg 67), .int .i64 2, .int .i64 1, .int .i64 0, bD [], .int .i64 3, .int .i64 0, .int .i64 0, bD [], .int .i64 1, .int .i64 2, .int .i64 0, bD (pg 68)]
  repeat (first | exact All2.nil | (apply All2.cons; (· first | exact Rd_int | exact Rd_vs | exact Rd_nil)))
abbrev awM : List AIns := [⟨(some 51), (.buildS 4 [(.int .i64 0), (.int .i64 0), (.int .i64 0), .nil] 4 [(0, (4, (.tmp 43))), (4, (4, (.tmp 46))), (8, (4, (.tmp 47))), (12, (4, (.tmp 50)))]), none⟩]
abbrev awC : AIns := ⟨(some 52), (.call (.fnc 21) [(.tmp 40), (.tmp 51), (.cst (.int .i64 1)), (.cst (.int .i64 2))]), none⟩
abbrev awS : List AIns := [⟨(some 39), (.mv (.tmp 52)), none⟩, ⟨(some 53), (.extract 0 (.tmp 39)), none⟩, ⟨(some 54), (.extract 1 (.tmp 39)), none⟩, ⟨(some 9), (.mv (.tmp 53)), none⟩, ⟨(some 10), (.mv (.tmp 54)), none⟩]
theorem awake_c : PCon Try.prog 15 [] (.bool true) := by
  refine A15p (by simp [A15]) ?_
  simp only [A15, argEnv]
  have p1 := page_v 65
  have p2 := page_v 66
  have p3 := page_v 67
  have p4 := page_v 68
  repeat' (first | (with_reducible first | refine W_seq ?_ | refine then_n ?_ | refine W_skip ?_ | refine W_ret ?_ | refine then_r ?_) | ((with_reducible refine s_reg ?_); intro K hK) | ((with_reducible refine k_nil ?_); (with_reducible apply s_nil hK); (· exact nmX); clear hK; clear K) | ((with_reducible refine k_mv ?_); (refine s_mv rfl ?_)) | ((with_reducible refine k_build ?_); ((with_reducible apply s_build); (· rfl); (· rfl))) | ((with_reducible refine k_buildS (dst := some 13) ?_); ((with_reducible apply s_buildS); (· rfl); (· (exact ⟨rfl, by decide⟩)); (· (first | (simp only [fillB, rep, splice, List.reduceReplicate, List.flatten_cons, List.flatten_nil, List.cons_append, List.nil_append, List.append_nil, List.length_cons, List.length_nil, Nat.reduceAdd, Nat.reduceMul, Nat.reduceLeDiff, Nat.reduceEqDiff, eq_self, Nat.le_refl, Nat.zero_add, and_self, and_true, true_and, if_true, List.take_zero, List.take_succ_cons, List.drop_zero, List.drop_succ_cons, List.drop_nil, List.take_nil]; rfl) | rfl)); intro k13 hk13; (try simp only [upd_none] at hk13))) | ((with_reducible refine k_buildS (dst := some 19) ?_); ((with_reducible apply s_buildS); (· rfl); (· (exact ⟨rfl, by decide⟩)); (· (first | (simp only [fillB, rep, splice, List.reduceReplicate, List.flatten_cons, List.flatten_nil, List.cons_append, List.nil_append, List.append_nil, List.length_cons, List.length_nil, Nat.reduceAdd, Nat.reduceMul, Nat.reduceLeDiff, Nat.reduceEqDiff, eq_self, Nat.le_refl, Nat.zero_add, and_self, and_true, true_and, if_true, List.take_zero, List.take_succ_cons, List.drop_zero, List.drop_succ_cons, List.drop_nil, List.take_nil]; rfl) | rfl)); intro k19 hk19; (try simp only [upd_none] at hk19))) | ((with_reducible refine k_callF ?_); (first | ((with_reducible apply s_call1); (· rfl)) | ((with_reducible apply s_calln); (· rfl)))) | ((with_reducible refine k_con ?_); (first | ((with_reducible apply con_val (p1)); (· (exact agX)); (· rfl); (· exact fun _ => rfl)) | ((with_reducible apply con_val (p2)); (· (exact agX)); (· rfl); (· exact fun _ => rfl)) | ((with_reducible apply con_val (p3)); (· (exact agX)); (· rfl); (· exact fun _ => rfl)) | ((with_reducible apply con_val (p4)); (· (exact agX)); (· rfl); (· exact fun _ => rfl)))))
  all_goals first | (exfalso; omega) | skip
  have e13 : upd (upd (fun _ => none) k13 [bD (pg 65), bD (pg 66)]) k19 wc k13 = some [bD (pg 65), bD (pg 66)] := by rw [upd_ne (Ne.symm hk19.1)]; exact upd_self
  have e19 : upd (upd (fun _ => none) k13 [bD (pg 65), bD (pg 66)]) k19 wc k19 = some wc := upd_self
  show Con _ _ _ (upd (upd (fun _ => none) k13 [bD (pg 65), bD (pg 66)]) k19 wc) _
  generalize (upd (upd (fun _ => none) k13 [bD (pg 65), bD (pg 66)]) k19 wc : Heap) = h0 at *
  have rB : Rd h0 (.sl k13 1 0 2) (bsD wB) := Rd_slR e13 wBc_rd rfl
  have rL : Rd h0 (.sl k19 4 0 3) (evD wL) := Rd_slR e19 wc_rd rfl
  have rL1 : Rd h0 (.sl k19 4 0 1) (evD (wL.take 1)) := Rd_slO (off := 0) (len := 1) e19 wc_rd (by decide)
  have rL2 : Rd h0 (.sl k19 4 4 2) (evD (wL.drop 1)) := Rd_slO (off := 4) (len := 2) e19 wc_rd (by decide)
  have c1 := dchoices_c (wB_ok (l := wL) (.inl rfl)) 0
  have c2 := dlatest_c wB wL (by decide) (by decide) (wB_ok (l := wL) (.inl rfl)).id
  have c3 := dimages_c (wB_ok (l := wL.take 1) (.inr (.inl rfl)))
  have c4 := dordered_c wB wM (by decide) (by decide) (wB_ok (l := wM) (.inr (.inr (.inr rfl)))).id 1 2
  have c5 := dcheck_c wB (wL.drop 1) (by decide) (by decide) (wB_ok (l := wL.drop 1) (.inr (.inr (.inl rfl)))).id
  rw [show choR wB wL 0 = .tup [bsD [pg 65, pg 67, pg 68], .int .i64 0] from w8] at c1
  rw [show conR wB wL (allF wB wL wL.length) = .tup [bsD [pg 67, pg 66], .int .i64 0] from w9] at c2
  rw [w10] at c3
  rw [w11] at c4
  rw [w4] at c5
  repeat' (first | (with_reducible first | refine W_seq ?_ | refine then_n ?_ | refine W_skip ?_ | refine W_ret ?_ | refine then_r ?_) | ((with_reducible refine s_reg ?_); intro K hK) | ((with_reducible refine k_nil ?_); (with_reducible apply s_nil hK); (· exact nmX); clear hK; clear K) | ((with_reducible refine k_mv ?_); (refine s_mv rfl ?_)) | ((with_reducible refine k_extract ?_); (refine s_extract rfl rfl ?_)) | ((with_reducible refine k_slice ?_); (first | ((with_reducible apply s_sliceV); (· rfl); (· (first | exact b_none | (apply b_some; (· rfl); (· omega); (· (first | exact nuI | exact nuN))))); (· (first | exact b_none | (apply b_some; (· rfl); (· omega); (· (first | exact nuI | exact nuN))))); (· (first | omega | exact ⟨rfl, by omega⟩ | skip))) | ((with_reducible apply s_sliceO); (· rfl); (· (first | exact b_none | (apply b_some; (· rfl); (· omega); (· (first | exact nuI | exact nuN))))); (· (first | exact b_none | (apply b_some; (· rfl); (· omega); (· (first | exact nuI | exact nuN))))); (· (first | omega | exact ⟨rfl, by omega⟩ | skip))) | ((with_reducible apply s_sliceN); (· rfl); (· (first | exact b_none | (apply b_some; (· rfl); (· omega); (· (first | exact nuI | exact nuN))))); (· (first | exact b_none | (apply b_some; (· rfl); (· omega); (· (first | exact nuI | exact nuN))))); (· (first | omega | exact ⟨rfl, by omega⟩ | skip))))) | ((with_reducible refine k_callF ?_); (first | ((with_reducible apply s_call1); (· rfl)) | ((with_reducible apply s_calln); (· rfl)))) | ((with_reducible refine k_con ?_); (first | ((with_reducible apply con_val (p1)); (· (repeat (first | exact All2.nil | (apply All2.cons; (· first | exact rB | exact rL | exact rL1 | exact rL2 | exact rdX))))); (· rfl); (· exact fun _ => rfl)) | ((with_reducible apply con_val (p2)); (· (repeat (first | exact All2.nil | (apply All2.cons; (· first | exact rB | exact rL | exact rL1 | exact rL2 | exact rdX))))); (· rfl); (· exact fun _ => rfl)) | ((with_reducible apply con_val (p3)); (· (repeat (first | exact All2.nil | (apply All2.cons; (· first | exact rB | exact rL | exact rL1 | exact rL2 | exact rdX))))); (· rfl); (· exact fun _ => rfl)) | ((with_reducible apply con_val (p4)); (· (repeat (first | exact All2.nil | (apply All2.cons; (· first | exact rB | exact rL | exact rL1 | exact rL2 | exact rdX))))); (· rfl); (· exact fun _ => rfl)) | ((with_reducible apply con_val (c1)); (· (repeat (first | exact All2.nil | (apply All2.cons; (· first | exact rB | exact rL | exact rL1 | exact rL2 | exact rdX))))); (· rfl); (· exact fun _ => rfl)) | ((with_reducible apply con_val (c2)); (· (repeat (first | exact All2.nil | (apply All2.cons; (· first | exact rB | exact rL | exact rL1 | exact rL2 | exact rdX))))); (· rfl); (· exact fun _ => rfl)) | ((with_reducible apply con_val (c3)); (· (repeat (first | exact All2.nil | (apply All2.cons; (· first | exact rB | exact rL | exact rL1 | exact rL2 | exact rdX))))); (· rfl); (· exact fun _ => rfl)) | ((with_reducible apply con_val (c4)); (· (repeat (first | exact All2.nil | (apply All2.cons; (· first | exact rB | exact rL | exact rL1 | exact rL2 | exact rdX))))); (· rfl); (· exact fun _ => rfl)) | ((with_reducible apply con_val (c5)); (· (repeat (first | exact All2.nil | (apply All2.cons; (· first | exact rB | exact rL | exact rL1 | exact rL2 | exact rdX))))); (· rfl); (· exact fun _ => rfl)))) | ((first | (with_reducible apply q_eqI) | (with_reducible apply q_eqN)); (first | exact nuI | exact nuN)))
  all_goals first | (exfalso; omega) | skip
  with_reducible refine k_dreg ?_
  refine W_dregMC (pre := A15d7a) (mid := awM) (c := awC) (suf := awS) (rc := .tup [.bool true, .int .i64 0]) rfl rfl rfl rfl rfl rfl rfl rfl (fun _ => rfl) ?_
  intro K hK
  repeat' (first | ((with_reducible refine k_mv ?_); (refine s_mv rfl ?_)) | ((with_reducible refine k_iaddr ?_); (first | ((with_reducible apply s_iaddrV); (· rfl); (· rfl); (· (first | omega | exact ⟨rfl, by omega⟩ | skip))) | ((with_reducible apply s_iaddrO); (· rfl); (· rfl); (· (first | omega | exact ⟨rfl, by omega⟩ | skip)); (· (exact hpX))) | ((with_reducible apply s_iaddrSO); (· rfl); (· assumption); (· rfl); (· (first | omega | exact ⟨rfl, by omega⟩ | skip)); (· (first | (simp (disch := omega) only [w64, wu8, wu16, wu32, wu64, tm_nn, td_nn, fd_nn, Int.reduceAdd, Int.reduceSub, Int.reduceMul, Int.reduceDiv, Int.reduceMod, Int.reduceNeg, Int.reduceToNat, Int.toNat_natCast, Int.toNat_zero, Int.zero_add, Int.add_zero, Int.one_mul, Int.reducePow, Nat.mul_one, Nat.zero_add, Nat.add_zero, Nat.zero_mul, Nat.reduceAdd, Nat.reduceMul, Nat.reduceSub, Nat.min_eq_left, IntKind.bits, Nat.sub_zero, e19]; try rfl; done) | rfl)); intro ks hks))) | ((with_reducible refine k_loadA ?_); (first | ((with_reducible apply s_loadAV); (· rfl); (· (first | exact Nat.le_of_ble_eq_true rfl | decide | omega | (simp; done) | (simp; omega) | skip))) | ((with_reducible apply s_loadAP); (· rfl); (· (exact hpX)); (· (first | exact Nat.le_of_ble_eq_true rfl | decide | omega | (simp; done) | (simp; omega) | skip))))) | ((with_reducible refine k_build ?_); ((with_reducible apply s_build); (· rfl); (· rfl))) | ((with_reducible refine k_buildS (dst := some 51) ?_); ((with_reducible apply s_buildS); (· rfl); (· (exact ⟨rfl, by decide⟩)); (· (first | (simp only [fillB, rep, splice, List.reduceReplicate, List.flatten_cons, List.flatten_nil, List.cons_append, List.nil_append, List.append_nil, List.length_cons, List.length_nil, Nat.reduceAdd, Nat.reduceMul, Nat.reduceLeDiff, Nat.reduceEqDiff, eq_self, Nat.le_refl, Nat.zero_add, and_self, and_true, true_and, if_true, List.take_zero, List.take_succ_cons, List.drop_zero, List.drop_succ_cons, List.drop_nil, List.take_nil]; rfl) | rfl)); intro k51 hk51; (try simp only [upd_none] at hk51))) | (with_reducible refine d_nilS ?_) | ((with_reducible refine k_dop ?_); refine d_step (by first | exact Or.inl rfl | exact Or.inr rfl) ?_) | (with_reducible refine d_back ?_) | ((first | (with_reducible apply q_eqI) | (with_reducible apply q_eqN)); (first | (simp (disch := omega) only [w64, wu8, wu16, wu32, wu64, tm_nn, td_nn, fd_nn, Int.reduceAdd, Int.reduceSub, Int.reduceMul, Int.reduceDiv, Int.reduceMod, Int.reduceNeg, Int.reduceToNat, Int.toNat_natCast, Int.toNat_zero, Int.zero_add, Int.add_zero, Int.one_mul, Int.reducePow, Nat.mul_one, Nat.zero_add, Nat.add_zero, Nat.zero_mul, Nat.reduceAdd, Nat.reduceMul, Nat.reduceSub, Nat.min_eq_left, IntKind.bits, Nat.sub_zero, e19]; try rfl; done) | rfl)) | ((first | (with_reducible apply q_eqL) | (with_reducible apply q_eqO)); (first | (simp (disch := omega) only [upd_self, upd_ne, upd_upd, rep, splice, List.take_succ_cons, List.take_zero, List.drop_succ_cons, List.drop_zero, List.cons_append, List.nil_append, List.append_nil, List.length_cons, List.length_nil, List.reduceReplicate, List.flatten_cons, List.flatten_nil, Nat.reduceAdd, Nat.reduceMul, Nat.reduceSub, Nat.zero_add, Nat.add_zero, List.getElem?_cons_zero, List.getElem?_cons_succ, e19]; try rfl; done) | rfl)))
  have f13 := upd_sub (x := wMc) hk51 _ _ e13
  have f19 := upd_sub (x := wMc) hk51 _ _ e19
  have rM : Rd (upd h0 k51 wMc) (.sl k51 4 0 4) (evD wM) := Rd_slR upd_self wMc_rd rfl
  have rB2 : Rd (upd h0 k51 wMc) (.sl k13 1 0 2) (bsD wB) := Rd_slR f13 wBc_rd rfl
  show PC Try.prog (upd h0 k51 wMc) ([] ++ [.sl k13 1 0 2, .sl k51 4 0 4, .int .i64 1, .int .i64 2] ++ []) _ _ ∧ Wops Try.prog awS _ (upd h0 k51 wMc) K
  refine ⟨.inl ⟨_, All2.cons rB2 (All2.cons rM (All2.cons Rd_int (All2.cons Rd_int All2.nil))), c4⟩, ?_⟩
  clear rM rB rL rL1 rL2 e13 e19
  generalize (upd h0 k51 wMc : Heap) = h1 at *
  have rL2 : Rd h1 (.sl k19 4 4 2) (evD (wL.drop 1)) := Rd_slO (off := 4) (len := 2) f19 wc_rd (by decide)
  have y1 : ∀ c ∈ [pg 65, pg 67, pg 68], byB c := by
    intro c hc; simp only [List.mem_cons, List.not_mem_nil, or_false] at hc; rcases hc with rfl | rfl | rfl <;> exact pg_by (by decide)
  have y2 : ∀ c ∈ [pg 67, pg 66], byB c := by
    intro c hc; simp only [List.mem_cons, List.not_mem_nil, or_false] at hc; rcases hc with rfl | rfl <;> exact pg_by (by decide)
  have s1 := rsame_c [pg 65, pg 67, pg 68] [pg 65, pg 67, pg 68] (by decide) (by decide) y1 y1
  have s2 := rsame_c [pg 67, pg 66] [pg 67, pg 66] (by decide) (by decide) y2 y2
  rw [decide_eq_true rfl] at s1 s2
  show Wops Try.prog awS ((_, D.tup [D.bool true, D.int IntKind.i64 0]) :: _) h1 K
  clear c1 c2 c3 c4
  repeat' (first | (with_reducible first | refine W_seq ?_ | refine then_n ?_ | refine W_skip ?_ | refine W_ret ?_ | refine then_r ?_) | ((with_reducible refine s_reg ?_); intro K hK) | ((with_reducible refine k_nil ?_); (with_reducible apply s_nil hK); (· exact nmX); clear hK; clear K) | ((with_reducible refine k_guard ?_); (first | (refine s_gt rfl ?_) | (refine s_gf1 rfl ?_) | (refine s_gfn rfl ?_) | (refine s_gx1 rfl ?_) | (refine s_gxn rfl ?_) | (refine s_gs rfl ?_))) | ((with_reducible refine k_mv ?_); (refine s_mv rfl ?_)) | ((with_reducible refine k_extract ?_); (refine s_extract rfl rfl ?_)) | ((with_reducible refine k_len ?_); (first | (refine s_len rfl rfl ?_) | ((with_reducible apply s_len); (· rfl); (· exact SlOwn.len (by assumption))) | ((with_reducible apply s_len); (· rfl); (· assumption)))) | ((with_reducible refine k_pick ?_); (first | (refine s_pickT rfl rfl ?_) | (refine s_pickF rfl rfl ?_))) | ((with_reducible refine k_eql ?_); (first | (refine s_eql rfl rfl ?_) | (refine s_strEq rfl rfl ?_))) | ((with_reducible refine k_slice ?_); (first | ((with_reducible apply s_sliceV); (· rfl); (· (first | exact b_none | (apply b_some; (· rfl); (· omega); (· (first | exact nuI | exact nuN))))); (· (first | exact b_none | (apply b_some; (· rfl); (· omega); (· (first | exact nuI | exact nuN))))); (· (first | omega | exact ⟨rfl, by omega⟩ | skip))) | ((with_reducible apply s_sliceO); (· rfl); (· (first | exact b_none | (apply b_some; (· rfl); (· omega); (· (first | exact nuI | exact nuN))))); (· (first | exact b_none | (apply b_some; (· rfl); (· omega); (· (first | exact nuI | exact nuN))))); (· (first | omega | exact ⟨rfl, by omega⟩ | skip))) | ((with_reducible apply s_sliceN); (· rfl); (· (first | exact b_none | (apply b_some; (· rfl); (· omega); (· (first | exact nuI | exact nuN))))); (· (first | exact b_none | (apply b_some; (· rfl); (· omega); (· (first | exact nuI | exact nuN))))); (· (first | omega | exact ⟨rfl, by omega⟩ | skip))))) | ((with_reducible refine k_buildS (dst := some 82) ?_); ((with_reducible apply s_buildS); (· rfl); (· (exact ⟨rfl, by decide⟩)); (· (first | (simp only [fillB, rep, splice, List.reduceReplicate, List.flatten_cons, List.flatten_nil, List.cons_append, List.nil_append, List.append_nil, List.length_cons, List.length_nil, Nat.reduceAdd, Nat.reduceMul, Nat.reduceLeDiff, Nat.reduceEqDiff, eq_self, Nat.le_refl, Nat.zero_add, and_self, and_true, true_and, if_true, List.take_zero, List.take_succ_cons, List.drop_zero, List.drop_succ_cons, List.drop_nil, List.take_nil]; rfl) | rfl)); intro k82 hk82; (try simp only [upd_none] at hk82))) | ((with_reducible refine k_buildS (dst := some 89) ?_); ((with_reducible apply s_buildS); (· rfl); (· (exact ⟨rfl, by decide⟩)); (· (first | (simp only [fillB, rep, splice, List.reduceReplicate, List.flatten_cons, List.flatten_nil, List.cons_append, List.nil_append, List.append_nil, List.length_cons, List.length_nil, Nat.reduceAdd, Nat.reduceMul, Nat.reduceLeDiff, Nat.reduceEqDiff, eq_self, Nat.le_refl, Nat.zero_add, and_self, and_true, true_and, if_true, List.take_zero, List.take_succ_cons, List.drop_zero, List.drop_succ_cons, List.drop_nil, List.take_nil]; rfl) | rfl)); intro k89 hk89; (try simp only [upd_none] at hk89))) | ((with_reducible refine k_callF ?_); (first | ((with_reducible apply s_call1); (· rfl)) | ((with_reducible apply s_calln); (· rfl)))) | ((with_reducible refine k_con ?_); (first | ((with_reducible apply con_val (p1)); (· (repeat (first | exact All2.nil | (apply All2.cons; (· first | exact rB2 | exact rL2 | exact (Rd_slR upd_self (All2.cons Rd_vs (All2.cons Rd_vs (All2.cons Rd_vs All2.nil))) rfl) | exact (Rd_slR upd_self (All2.cons Rd_vs (All2.cons Rd_vs All2.nil)) rfl) | exact (Rd_slR (upd_sub (by assumption) _ _ f13) wBc_rd rfl) | exact rdX))))); (· rfl); (· exact fun _ => rfl)) | ((with_reducible apply con_val (p2)); (· (repeat (first | exact All2.nil | (apply All2.cons; (· first | exact rB2 | exact rL2 | exact (Rd_slR upd_self (All2.cons Rd_vs (All2.cons Rd_vs (All2.cons Rd_vs All2.nil))) rfl) | exact (Rd_slR upd_self (All2.cons Rd_vs (All2.cons Rd_vs All2.nil)) rfl) | exact (Rd_slR (upd_sub (by assumption) _ _ f13) wBc_rd rfl) | exact rdX))))); (· rfl); (· exact fun _ => rfl)) | ((with_reducible apply con_val (p3)); (· (repeat (first | exact All2.nil | (apply All2.cons; (· first | exact rB2 | exact rL2 | exact (Rd_slR upd_self (All2.cons Rd_vs (All2.cons Rd_vs (All2.cons Rd_vs All2.nil))) rfl) | exact (Rd_slR upd_self (All2.cons Rd_vs (All2.cons Rd_vs All2.nil)) rfl) | exact (Rd_slR (upd_sub (by assumption) _ _ f13) wBc_rd rfl) | exact rdX))))); (· rfl); (· exact fun _ => rfl)) | ((with_reducible apply con_val (p4)); (· (repeat (first | exact All2.nil | (apply All2.cons; (· first | exact rB2 | exact rL2 | exact (Rd_slR upd_self (All2.cons Rd_vs (All2.cons Rd_vs (All2.cons Rd_vs All2.nil))) rfl) | exact (Rd_slR upd_self (All2.cons Rd_vs (All2.cons Rd_vs All2.nil)) rfl) | exact (Rd_slR (upd_sub (by assumption) _ _ f13) wBc_rd rfl) | exact rdX))))); (· rfl); (· exact fun _ => rfl)) | ((with_reducible apply con_val (s1)); (· (repeat (first | exact All2.nil | (apply All2.cons; (· first | exact rB2 | exact rL2 | exact (Rd_slR upd_self (All2.cons Rd_vs (All2.cons Rd_vs (All2.cons Rd_vs All2.nil))) rfl) | exact (Rd_slR upd_self (All2.cons Rd_vs (All2.cons Rd_vs All2.nil)) rfl) | exact (Rd_slR (upd_sub (by assumption) _ _ f13) wBc_rd rfl) | exact rdX))))); (· rfl); (· exact fun _ => rfl)) | ((with_reducible apply con_val (s2)); (· (repeat (first | exact All2.nil | (apply All2.cons; (· first | exact rB2 | exact rL2 | exact (Rd_slR upd_self (All2.cons Rd_vs (All2.cons Rd_vs (All2.cons Rd_vs All2.nil))) rfl) | exact (Rd_slR upd_self (All2.cons Rd_vs (All2.cons Rd_vs All2.nil)) rfl) | exact (Rd_slR (upd_sub (by assumption) _ _ f13) wBc_rd rfl) | exact rdX))))); (· rfl); (· exact fun _ => rfl)) | ((with_reducible apply con_val (c5)); (· (repeat (first | exact All2.nil | (apply All2.cons; (· first | exact rB2 | exact rL2 | exact (Rd_slR upd_self (All2.cons Rd_vs (All2.cons Rd_vs (All2.cons Rd_vs All2.nil))) rfl) | exact (Rd_slR upd_self (All2.cons Rd_vs (All2.cons Rd_vs All2.nil)) rfl) | exact (Rd_slR (upd_sub (by assumption) _ _ f13) wBc_rd rfl) | exact rdX))))); (· rfl); (· exact fun _ => rfl)))) | ((with_reducible refine k_br ?_); (first | (with_reducible first | refine Br_dec ?_ | refine Br_not ?_ | refine Br_eqF ?_ | refine Br_and ?_ | refine Br_or ?_ | refine Br_neg ?_ | refine Br_band ?_ | refine Br_bor ?_ | refine Br_beq ?_) | (refine Br_t (by first | with_reducible rfl | omega | assumption | rfl) ?_) | (refine Br_f (by first | omega | assumption | decide) ?_) | (with_reducible apply Br_sb <;> intro hbr <;> (first | subst hbr | simp only [hbr] | skip)) | (with_reducible apply Br_s <;> intro hbr))) | ((first | (with_reducible apply q_eqI) | (with_reducible apply q_eqN)); (first | exact nuI | exact nuN)))
  have z : ∀ j c, h1 j = some c → upd (upd h1 k82 [bD (pg 65), bD (pg 67), bD (pg 68)]) k89 [bD (pg 67), bD (pg 66)] j = some c := fun j c hj => upd_sub (by rw [upd_ne hk89.1]; exact hk89.2) j c (upd_sub hk82 j c hj)
  have rB3 := Rd_slR (sz := 1) (len := 2) (z _ _ f13) wBc_rd rfl
  have rL3 : Rd (upd (upd h1 k82 [bD (pg 65), bD (pg 67), bD (pg 68)]) k89 [bD (pg 67), bD (pg 66)]) (.sl k19 4 4 2) (evD (wL.drop 1)) := Rd_slO (off := 4) (len := 2) (z _ _ f19) wc_rd (by decide)
  repeat' (first | (with_reducible first | refine W_seq ?_ | refine then_n ?_ | refine W_skip ?_ | refine W_ret ?_ | refine then_r ?_) | ((with_reducible refine k_nil ?_); (with_reducible apply s_nil hK); (· exact nmX); clear hK; clear K) | ((with_reducible refine k_guard ?_); (first | (refine s_gt rfl ?_) | (refine s_gf1 rfl ?_) | (refine s_gfn rfl ?_) | (refine s_gx1 rfl ?_) | (refine s_gxn rfl ?_) | (refine s_gs rfl ?_))) | ((with_reducible refine k_mv ?_); (refine s_mv rfl ?_)) | ((with_reducible refine k_pick ?_); (first | (refine s_pickT rfl rfl ?_) | (refine s_pickF rfl rfl ?_))) | ((with_reducible refine k_eql ?_); (first | (refine s_eql rfl rfl ?_) | (refine s_strEq rfl rfl ?_))) | ((with_reducible refine k_con ?_); (first | ((with_reducible apply con_val (c5)); (· (repeat (first | exact All2.nil | (apply All2.cons; (· first | exact rB3 | exact rL3 | exact rdX))))); (· rfl); (· exact fun _ => rfl)))) | ((with_reducible refine k_br ?_); (first | (with_reducible first | refine Br_dec ?_ | refine Br_not ?_ | refine Br_eqF ?_ | refine Br_and ?_ | refine Br_or ?_ | refine Br_neg ?_ | refine Br_band ?_ | refine Br_bor ?_ | refine Br_beq ?_) | (refine Br_t (by first | with_reducible rfl | omega | assumption | rfl) ?_) | (refine Br_f (by first | omega | assumption | decide) ?_) | (with_reducible apply Br_sb <;> intro hbr <;> (first | subst hbr | simp only [hbr] | skip)) | (with_reducible apply Br_s <;> intro hbr))))
  all_goals first | exact Fin_flat trivial rfl rfl | (refine Fin_tup trivial rfl ?_ (Nat.le_of_ble_eq_true rfl); (repeat (first | exact All2.nil | (apply All2.cons; (· first | exact exc_n | exact exc_e | exact exc_v rfl rfl | exact exc_o upd_self rfl rfl)))); done) | (refine Fin_own trivial rfl upd_self ?_ (Nat.le_of_ble_eq_true rfl); (repeat (first | exact All2.nil | (apply All2.cons; (· first | exact exc_n | exact exc_e | exact exc_v rfl rfl | exact exc_o upd_self rfl rfl)))); done) | exact Fin_nil trivial rfl | exact Fin_sl trivial rfl upd_self rfl rfl
end Go.Proofs.Ythblalidmmbcoaa
end
section
/- The laws: arguments. -/
set_option linter.unusedSimpArgs false
set_option linter.unusedVariables false
namespace Go.Proofs.Ythblalidmmbcoaa
open Go.AM Classical
set_option maxRecDepth 100000
set_option maxHeartbeats 4000000
theorem maxLen_le {n : Nat} (h : n ≤ maxLen) : n ≤ 9223372036854775807 := by
  unfold maxLen at h; omega
theorem typed_by {n : Nat} {d : List D} (h : Typed Try.prog (n + 2) 36 d) : ∃ c : Bs, d = [bD c] ∧ byB c := by
  obtain ⟨ps, rfl, h1, h2⟩ := typed_slice' Try.underlying36 h
  obtain ⟨l, rfl, h3⟩ := all_map (f := fun x => [D.int .u8 x]) (q := fun x => (Lit.int .u8 x).wf = true) (fun p hp => typed_int' Try.underlying5 (h2 p hp))
  refine ⟨l, ?_, fun x hx => wf_u8 (h3 x hx)⟩
  rw [flat_one, List.length_map, show Try.prog.cellsOf 5 = 1 by kernel_rfl]
theorem typed_bs {n : Nat} {d : List D} (h : Typed Try.prog (n + 3) 22 d) : ∃ B : List Bs, d = [bsD B] ∧ B.length ≤ maxLen ∧ ∀ b ∈ B, byB b := by
  obtain ⟨ps, rfl, h1, h2⟩ := typed_slice' Try.underlying22 h
  obtain ⟨B, rfl, h3⟩ := all_map (f := fun c => [bD c]) (q := byB) (fun p hp => typed_by (h2 p hp))
  refine ⟨B, ?_, by simpa using h1, h3⟩
  rw [flat_one, List.length_map, show Try.prog.cellsOf 36 = 1 by kernel_rfl]
def EvIn (x : Ev) : Prop := (-9223372036854775808 ≤ x.id ∧ x.id ≤ 9223372036854775807) ∧ byB x.data
theorem typed_ev {n : Nat} {d : List D} (h : Typed Try.prog (n + 4) 38 d) : ∃ x : Ev, d = x.cells ∧ EvIn x := by
  obtain ⟨ps, rfl, h1⟩ := typed_struct' Try.underlying38 h
  match ps, h1.1 with
  | [a, b, c, e], _ =>
    obtain ⟨x, rfl, hx⟩ := typed_int' Try.underlying3 (h1.2 0 _ a rfl rfl)
    obtain ⟨y, rfl, hy⟩ := typed_int' Try.underlying3 (h1.2 1 _ b rfl rfl)
    obtain ⟨z, rfl, hz⟩ := typed_int' Try.underlying3 (h1.2 2 _ c rfl rfl)
    obtain ⟨w, rfl, hw⟩ := typed_by (h1.2 3 _ e rfl rfl)
    exact ⟨⟨x, y, z, w⟩, rfl, wf_i64 hy, hw⟩
theorem typed_evs {n : Nat} {d : List D} (h : Typed Try.prog (n + 5) 23 d) : ∃ l : List Ev, d = [evD l] ∧ l.length ≤ maxLen ∧ ∀ x ∈ l, EvIn x := by
  obtain ⟨ps, rfl, h1, h2⟩ := typed_slice' Try.underlying23 h
  obtain ⟨l, rfl, h3⟩ := all_map (f := Ev.cells) (q := EvIn) (fun p hp => typed_ev (h2 p hp))
  refine ⟨l, ?_, by simpa using h1, h3⟩
  rw [List.length_map, ← List.flatMap_def, show Try.prog.cellsOf 38 = 4 by kernel_rfl]
theorem typed_hist {d : D} (h : TypedA Try.prog 25 d) : ∃ (B : List Bs) (l : List Ev), d = .agg [bsD B, evD l] ∧ B.length ≤ 9223372036854775807 ∧ l.length ≤ 9223372036854775807 ∧ (∀ b ∈ B, byB b) ∧ ∀ x ∈ l, EvIn x := by
  obtain ⟨ds, rfl, hc2⟩ := typed_agg (agg_yes Try.underlying25 rfl) h
  obtain ⟨ps, rfl, h1⟩ := typed_struct' Try.underlying25 hc2
  match ps, h1.1 with
  | [a, b], _ =>
    obtain ⟨B, rfl, hB, hB2⟩ := typed_bs (h1.2 0 _ a rfl rfl)
    obtain ⟨l, rfl, hl, hl2⟩ := typed_evs (h1.2 1 _ b rfl rfl)
    exact ⟨B, l, rfl, maxLen_le hB, maxLen_le hl, hB2, hl2⟩
theorem FewP.ok {B : List Bs} {l : List Ev} (h : FewP B l 6 24) (h1 : ∀ b ∈ B, byB b) (h2 : ∀ x ∈ l, EvIn x) : HOk B l :=
  ⟨by have := h.1; omega, by have := h.2.1; omega, fun x hx => (h2 x hx).1, h1, fun x hx => (h2 x hx).2⟩
end Go.Proofs.Ythblalidmmbcoaa
end
section
/- min -/
/- The laws: checks, orders. -/
set_option linter.unusedSimpArgs false
set_option linter.unusedVariables false
namespace Go.Proofs.Ythblalidmmbcoaa
open Go.AM Classical
set_option maxRecDepth 100000
set_option maxHeartbeats 4000000
end Go.Proofs.Ythblalidmmbcoaa
end
section
/- min -/
/- The laws: contents, images, allows. -/
set_option linter.unusedSimpArgs false
set_option linter.unusedVariables false
namespace Go.Proofs.Ythblalidmmbcoaa
open Go.AM Classical
set_option maxRecDepth 100000
set_option maxHeartbeats 4000000
theorem alwR_form {B : List Bs} {l : List Ev} {im : List Bs} : ∃ x k, alwR B l im = .tup [.bool x, .int .i64 k] := by
  unfold alwR; (repeat' split) <;> exact ⟨_, _, rfl⟩
theorem allows_c (B : List Bs) (l : List Ev) (im : List Bs) (hB : B.length ≤ 9223372036854775807) (hl : l.length ≤ 9223372036854775807) (h1 : ∀ b ∈ B, byB b) (h2 : ∀ x ∈ l, EvIn x) (him : im.length ≤ 9223372036854775807) (h3 : ∀ b ∈ im, byB b) : PCon Try.prog 10 [.agg [bsD B, evD l], bsD im] (.bool true) := by
  refine A10p (by simp [A10]) ?_
  simp only [A10, argEnv]
  have c1 := few_c B l hB hl
  have c0 : PCon Try.prog 14 [.agg [bsD im, .vs 4 [] 0]] (.bool (decide (FewP im [] 6 24))) := few_c im [] him (by simp)
  by_cases hf : FewP B l 6 24
  · have Ho := hf.ok h1 h2
    rw [decide_eq_true hf] at c1
    by_cases hf2 : FewP im [] 6 24
    · rw [decide_eq_true hf2] at c0
      have hil : im.length ≤ 1000000 := by have := hf2.1; omega
      have c2 := dallows_c Ho im hil h3
      have c3 := rallows_c Ho im hil h3
      obtain ⟨x, k, e1⟩ := alwR_form (B := B) (l := l) (im := im)
      rw [e1] at c2 c3
      cases x
      all_goals
        repeat' (first | (with_reducible first | refine W_seq ?_ | refine then_n ?_ | refine W_skip ?_ | refine W_ret ?_ | refine then_r ?_) | ((with_reducible refine s_reg ?_); intro K hK) | ((with_reducible refine k_nil ?_); (with_reducible apply s_nil hK); (· exact nmX); clear hK; clear K) | ((with_reducible refine k_cond ?_); (first | ((with_reducible apply s_condT); (· rfl); (· exact nmX)) | ((with_reducible apply s_condF); (· rfl); (· exact nmX)) | ((with_reducible apply s_condS); (· rfl); (· exact nmX); (· exact nmX)))) | ((with_reducible refine k_guard ?_); (first | (refine s_gt rfl ?_) | (refine s_gf1 rfl ?_) | (refine s_gfn rfl ?_) | (refine s_gx1 rfl ?_) | (refine s_gxn rfl ?_) | (refine s_gs rfl ?_))) | ((with_reducible refine k_mv ?_); (refine s_mv rfl ?_)) | ((with_reducible refine k_extract ?_); (refine s_extract rfl rfl ?_)) | ((with_reducible refine k_pick ?_); (first | (refine s_pickT rfl rfl ?_) | (refine s_pickF rfl rfl ?_))) | ((with_reducible refine k_not ?_); (refine s_not rfl (by first | exact Bool.not_true | exact Bool.not_false | rfl) ?_)) | ((with_reducible refine k_eql ?_); (first | (refine s_eql rfl rfl ?_) | (refine s_strEq rfl rfl ?_))) | ((with_reducible refine k_load ?_); (first | ((with_reducible apply s_loadV); (· rfl)) | ((with_reducible apply s_loadP); (· rfl); (· (exact hpX))))) | ((with_reducible refine k_loadA ?_); (first | ((with_reducible apply s_loadAV); (· rfl); (· (first | exact Nat.le_of_ble_eq_true rfl | decide | omega | (simp; done) | (simp; omega) | skip))) | ((with_reducible apply s_loadAP); (· rfl); (· (exact hpX)); (· (first | exact Nat.le_of_ble_eq_true rfl | decide | omega | (simp; done) | (simp; omega) | skip))))) | ((with_reducible refine k_faddr ?_); (first | ((with_reducible apply s_faddrV); (· rfl); (· rfl)) | ((with_reducible apply s_faddrP); (· rfl); (· rfl)))) | ((with_reducible refine k_eqB ?_); (first | (refine s_eqBt rfl rfl ?_) | (refine s_eqBf rfl rfl ?_))) | ((with_reducible refine k_box (dst := some 2) ?_); ((with_reducible apply s_box); (· rfl); (· rfl); intro k2 hk2; (try simp only [upd_none] at hk2))) | ((with_reducible refine k_build ?_); ((with_reducible apply s_build); (· rfl); (· rfl))) | ((with_reducible refine k_callF ?_); (first | ((with_reducible apply s_call1); (· rfl)) | ((with_reducible apply s_calln); (· rfl)))) | ((with_reducible refine k_con ?_); (first | ((with_reducible apply con_val (awake_c)); (· (repeat (first | exact All2.nil | (apply All2.cons; (· first | exact Rd_ag (All2.cons Rd_vs (All2.cons Rd_vs All2.nil)) | exact Rd_ag (All2.cons Rd_vs (All2.cons Rd_nil All2.nil)) | exact rdX))))); (· rfl); (· exact fun _ => rfl)) | ((with_reducible apply con_val (c1)); (· (repeat (first | exact All2.nil | (apply All2.cons; (· first | exact Rd_ag (All2.cons Rd_vs (All2.cons Rd_vs All2.nil)) | exact Rd_ag (All2.cons Rd_vs (All2.cons Rd_nil All2.nil)) | exact rdX))))); (· rfl); (· exact fun _ => rfl)) | ((with_reducible apply con_val (c0)); (· (repeat (first | exact All2.nil | (apply All2.cons; (· first | exact Rd_ag (All2.cons Rd_vs (All2.cons Rd_vs All2.nil)) | exact Rd_ag (All2.cons Rd_vs (All2.cons Rd_nil All2.nil)) | exact rdX))))); (· rfl); (· exact fun _ => rfl)) | ((with_reducible apply con_val (c2)); (· (repeat (first | exact All2.nil | (apply All2.cons; (· first | exact Rd_ag (All2.cons Rd_vs (All2.cons Rd_vs All2.nil)) | exact Rd_ag (All2.cons Rd_vs (All2.cons Rd_nil All2.nil)) | exact rdX))))); (· rfl); (· exact fun _ => rfl)) | ((with_reducible apply con_val (c3)); (· (repeat (first | exact All2.nil | (apply All2.cons; (· first | exact Rd_ag (All2.cons Rd_vs (All2.cons Rd_vs All2.nil)) | exact Rd_ag (All2.cons Rd_vs (All2.cons Rd_nil All2.nil)) | exact rdX))))); (· rfl); (· exact fun _ => rfl)))) | ((with_reducible refine k_br ?_); (first | (with_reducible first | refine Br_dec ?_ | refine Br_not ?_ | refine Br_eqF ?_ | refine Br_and ?_ | refine Br_or ?_ | refine Br_neg ?_ | refine Br_band ?_ | refine Br_bor ?_ | refine Br_beq ?_) | (refine Br_t (by first | with_reducible rfl | omega | assumption | rfl) ?_) | (refine Br_f (by first | omega | assumption | decide) ?_) | (with_reducible apply Br_sb <;> intro hbr <;> (first | subst hbr | simp only [hbr] | skip)) | (with_reducible apply Br_s <;> intro hbr))) | ((first | (with_reducible apply q_eqL) | (with_reducible apply q_eqO)); (first | exact liL | exact liO)))
      all_goals first | exact Fin_flat trivial rfl rfl | (refine Fin_tup trivial rfl ?_ (Nat.le_of_ble_eq_true rfl); (repeat (first | exact All2.nil | (apply All2.cons; (· first | exact exc_n | exact exc_e | exact exc_v rfl rfl | exact exc_o upd_self rfl rfl)))); done) | (refine Fin_own trivial rfl upd_self ?_ (Nat.le_of_ble_eq_true rfl); (repeat (first | exact All2.nil | (apply All2.cons; (· first | exact exc_n | exact exc_e | exact exc_v rfl rfl | exact exc_o upd_self rfl rfl)))); done) | exact Fin_nil trivial rfl | exact Fin_sl trivial rfl upd_self rfl rfl
    · rw [decide_eq_false hf2] at c0
      repeat' (first | (with_reducible first | refine W_seq ?_ | refine then_n ?_ | refine W_skip ?_ | refine W_ret ?_ | refine then_r ?_) | ((with_reducible refine s_reg ?_); intro K hK) | ((with_reducible refine k_nil ?_); (with_reducible apply s_nil hK); (· exact nmX); clear hK; clear K) | ((with_reducible refine k_cond ?_); (first | ((with_reducible apply s_condT); (· rfl); (· exact nmX)) | ((with_reducible apply s_condF); (· rfl); (· exact nmX)) | ((with_reducible apply s_condS); (· rfl); (· exact nmX); (· exact nmX)))) | ((with_reducible refine k_guard ?_); (first | (refine s_gt rfl ?_) | (refine s_gf1 rfl ?_) | (refine s_gfn rfl ?_) | (refine s_gx1 rfl ?_) | (refine s_gxn rfl ?_) | (refine s_gs rfl ?_))) | ((with_reducible refine k_mv ?_); (refine s_mv rfl ?_)) | ((with_reducible refine k_pick ?_); (first | (refine s_pickT rfl rfl ?_) | (refine s_pickF rfl rfl ?_))) | ((with_reducible refine k_not ?_); (refine s_not rfl (by first | exact Bool.not_true | exact Bool.not_false | rfl) ?_)) | ((with_reducible refine k_loadA ?_); (first | ((with_reducible apply s_loadAV); (· rfl); (· (first | exact Nat.le_of_ble_eq_true rfl | decide | omega | (simp; done) | (simp; omega) | skip))) | ((with_reducible apply s_loadAP); (· rfl); (· (exact hpX)); (· (first | exact Nat.le_of_ble_eq_true rfl | decide | omega | (simp; done) | (simp; omega) | skip))))) | ((with_reducible refine k_box (dst := some 2) ?_); ((with_reducible apply s_box); (· rfl); (· rfl); intro k2 hk2; (try simp only [upd_none] at hk2))) | ((with_reducible refine k_build ?_); ((with_reducible apply s_build); (· rfl); (· rfl))) | ((with_reducible refine k_callF ?_); (first | ((with_reducible apply s_call1); (· rfl)) | ((with_reducible apply s_calln); (· rfl)))) | ((with_reducible refine k_con ?_); (first | ((with_reducible apply con_val (awake_c)); (· (repeat (first | exact All2.nil | (apply All2.cons; (· first | exact Rd_ag (All2.cons Rd_vs (All2.cons Rd_vs All2.nil)) | exact Rd_ag (All2.cons Rd_vs (All2.cons Rd_nil All2.nil)) | exact rdX))))); (· rfl); (· exact fun _ => rfl)) | ((with_reducible apply con_val (c1)); (· (repeat (first | exact All2.nil | (apply All2.cons; (· first | exact Rd_ag (All2.cons Rd_vs (All2.cons Rd_vs All2.nil)) | exact Rd_ag (All2.cons Rd_vs (All2.cons Rd_nil All2.nil)) | exact rdX))))); (· rfl); (· exact fun _ => rfl)) | ((with_reducible apply con_val (c0)); (· (repeat (first | exact All2.nil | (apply All2.cons; (· first | exact Rd_ag (All2.cons Rd_vs (All2.cons Rd_vs All2.nil)) | exact Rd_ag (All2.cons Rd_vs (All2.cons Rd_nil All2.nil)) | exact rdX))))); (· rfl); (· exact fun _ => rfl)))) | ((first | (with_reducible apply q_eqL) | (with_reducible apply q_eqO)); (first | exact liL | exact liO)))
      all_goals first | exact Fin_flat trivial rfl rfl | (refine Fin_tup trivial rfl ?_ (Nat.le_of_ble_eq_true rfl); (repeat (first | exact All2.nil | (apply All2.cons; (· first | exact exc_n | exact exc_e | exact exc_v rfl rfl | exact exc_o upd_self rfl rfl)))); done) | (refine Fin_own trivial rfl upd_self ?_ (Nat.le_of_ble_eq_true rfl); (repeat (first | exact All2.nil | (apply All2.cons; (· first | exact exc_n | exact exc_e | exact exc_v rfl rfl | exact exc_o upd_self rfl rfl)))); done) | exact Fin_nil trivial rfl | exact Fin_sl trivial rfl upd_self rfl rfl
  · rw [decide_eq_false hf] at c1
    repeat' (first | (with_reducible first | refine W_seq ?_ | refine then_n ?_ | refine W_skip ?_ | refine W_ret ?_ | refine then_r ?_) | ((with_reducible refine s_reg ?_); intro K hK) | ((with_reducible refine k_nil ?_); (with_reducible apply s_nil hK); (· exact nmX); clear hK; clear K) | ((with_reducible refine k_cond ?_); (first | ((with_reducible apply s_condT); (· rfl); (· exact nmX)) | ((with_reducible apply s_condF); (· rfl); (· exact nmX)) | ((with_reducible apply s_condS); (· rfl); (· exact nmX); (· exact nmX)))) | ((with_reducible refine k_guard ?_); (first | (refine s_gt rfl ?_) | (refine s_gf1 rfl ?_) | (refine s_gfn rfl ?_) | (refine s_gx1 rfl ?_) | (refine s_gxn rfl ?_) | (refine s_gs rfl ?_))) | ((with_reducible refine k_mv ?_); (refine s_mv rfl ?_)) | ((with_reducible refine k_pick ?_); (first | (refine s_pickT rfl rfl ?_) | (refine s_pickF rfl rfl ?_))) | ((with_reducible refine k_not ?_); (refine s_not rfl (by first | exact Bool.not_true | exact Bool.not_false | rfl) ?_)) | ((with_reducible refine k_loadA ?_); (first | ((with_reducible apply s_loadAV); (· rfl); (· (first | exact Nat.le_of_ble_eq_true rfl | decide | omega | (simp; done) | (simp; omega) | skip))) | ((with_reducible apply s_loadAP); (· rfl); (· (exact hpX)); (· (first | exact Nat.le_of_ble_eq_true rfl | decide | omega | (simp; done) | (simp; omega) | skip))))) | ((with_reducible refine k_box (dst := some 2) ?_); ((with_reducible apply s_box); (· rfl); (· rfl); intro k2 hk2; (try simp only [upd_none] at hk2))) | ((with_reducible refine k_callF ?_); (first | ((with_reducible apply s_call1); (· rfl)) | ((with_reducible apply s_calln); (· rfl)))) | ((with_reducible refine k_con ?_); (first | ((with_reducible apply con_val (awake_c)); (· (repeat (first | exact All2.nil | (apply All2.cons; (· first | exact Rd_ag (All2.cons Rd_vs (All2.cons Rd_vs All2.nil)) | exact rdX))))); (· rfl); (· exact fun _ => rfl)) | ((with_reducible apply con_val (c1)); (· (repeat (first | exact All2.nil | (apply All2.cons; (· first | exact Rd_ag (All2.cons Rd_vs (All2.cons Rd_vs All2.nil)) | exact rdX))))); (· rfl); (· exact fun _ => rfl)))) | ((first | (with_reducible apply q_eqL) | (with_reducible apply q_eqO)); (first | exact liL | exact liO)))
    all_goals first | exact Fin_flat trivial rfl rfl | (refine Fin_tup trivial rfl ?_ (Nat.le_of_ble_eq_true rfl); (repeat (first | exact All2.nil | (apply All2.cons; (· first | exact exc_n | exact exc_e | exact exc_v rfl rfl | exact exc_o upd_self rfl rfl)))); done) | (refine Fin_own trivial rfl upd_self ?_ (Nat.le_of_ble_eq_true rfl); (repeat (first | exact All2.nil | (apply All2.cons; (· first | exact exc_n | exact exc_e | exact exc_v rfl rfl | exact exc_o upd_self rfl rfl)))); done) | exact Fin_nil trivial rfl | exact Fin_sl trivial rfl upd_self rfl rfl
theorem allows_t : ∀ dts, All2 (TypedA Try.prog) Try.f10.params.toList dts → PCon Try.prog 10 dts (.bool true) := by
  intro dts h
  rw [Try.params10] at h
  obtain ⟨a, b, rfl, ha, hb⟩ := two_args h
  obtain ⟨B, l, rfl, hB, hl, h1, h2⟩ := typed_hist ha
  obtain ⟨im, e, him, h3⟩ := typed_bs (n := 3) (typed_one (agg_no Try.underlying22 rfl) hb)
  injection e with e
  subst e
  exact allows_c B l im hB hl h1 h2 (maxLen_le him) h3
end Go.Proofs.Ythblalidmmbcoaa
end
