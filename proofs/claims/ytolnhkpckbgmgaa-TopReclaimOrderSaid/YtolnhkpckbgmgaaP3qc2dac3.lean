import Derived.Test.YtolnhkpckbgmgaaA1q98e3b5
import Derived.Test.YtolnhkpckbgmgaaAmZ3q994adf
import Derived.Test.YtolnhkpckbgmgaaAmZ
section
/- min -/
/- Accounts: own usages. -/
set_option linter.unusedSimpArgs false
set_option linter.unusedVariables false
namespace Go.Proofs.Ytolnhkpckbgmgaa
open Go.AM
set_option maxRecDepth 100000
set_option maxHeartbeats 4000000
def us (l : List Acct) (j : Nat) : Int := if h : j < l.length then l[j].usage else 0
def pa (l : List Acct) (j : Nat) : Int := if h : j < l.length then l[j].parent else -1
theorem us_at {l : List Acct} {j : Nat} (h : j < l.length) : us l j = l[j].usage := dif_pos h
theorem pa_at {l : List Acct} {j : Nat} (h : j < l.length) : pa l j = l[j].parent := dif_pos h
def kidsTo (l : List Acct) (j : Int) : Nat → Int
  | 0 => 0
  | c + 1 => kidsTo l j c + (if 0 < c ∧ pa l c = j then us l c else 0)
def kids (l : List Acct) (j : Int) : Int := kidsTo l j l.length
theorem us_in {l : List Acct} (h : amtTo l l.length) (j : Nat) : 0 ≤ us l j ∧ us l j ≤ 1048576 := by
  unfold us
  split
  · rename_i hj; exact (h j hj hj).1
  · omega
theorem kidsTo_in {l : List Acct} (h : amtTo l l.length) (j : Int) (n : Nat) : 0 ≤ kidsTo l j n ∧ kidsTo l j n ≤ 1048576 * n := by
  induction n with
  | zero => simp [kidsTo]
  | succ n ih =>
    have := us_in h n
    unfold kidsTo
    split <;> omega
theorem kidsTo_zero {l : List Acct} (ht : treeP l) {j : Nat} {n : Nat} (hn : n ≤ j + 1) (hl : n ≤ l.length) : kidsTo l j n = 0 := by
  induction n with
  | zero => rfl
  | succ n ih =>
    unfold kidsTo
    rw [ih (by omega) (by omega), if_neg, Int.add_zero]
    rintro ⟨h0, h1⟩
    have h2 := ht n (by omega) (by omega)
    rw [pa_at (by omega)] at h1
    rcases h2 with h2 | h2 <;> omega
def ownTo (l : List Acct) (i : Nat) : List Int := (List.range l.length).map fun j => (if j < i then us l j else 0) - kidsTo l j i
def ownL (l : List Acct) : List Int := (List.range l.length).map fun j => us l j - kids l j
theorem ownTo_len (l : List Acct) (i : Nat) : (ownTo l i).length = l.length := by simp [ownTo]
theorem ownL_len (l : List Acct) : (ownL l).length = l.length := by simp [ownL]
theorem ownTo_at {l : List Acct} {i j : Nat} (h : j < (ownTo l i).length) : (ownTo l i)[j] = (if j < i then us l j else 0) - kidsTo l j i := by simp [ownTo]
theorem ownL_at {l : List Acct} {j : Nat} (h : j < (ownL l).length) : (ownL l)[j] = us l j - kids l j := by simp [ownL]
theorem ownTo_end (l : List Acct) : ownTo l l.length = ownL l := by
  apply List.ext_getElem (by simp [ownTo, ownL])
  intro j h1 h2
  rw [ownTo_at h1, ownL_at h2, if_pos (by rwa [ownTo_len] at h1)]; rfl
theorem ownTo_step {l : List Acct} (ht : treeP l) {i : Nat} (hi : i < l.length) :
    ownTo l (i + 1) = (if 0 < i then ((ownTo l i).set i (us l i)).set (pa l i).toNat ((ownTo l i).getD (pa l i).toNat 0 - us l i) else (ownTo l i).set i (us l i)) := by
  have hp := ht i hi hi
  unfold okP at hp
  rw [← pa_at hi] at hp
  apply List.ext_getElem?
  intro j
  by_cases hj : j < l.length
  · have e1 : (ownTo l (i + 1))[j]? = some ((if j < i + 1 then us l j else 0) - kidsTo l j (i + 1)) := by
      rw [List.getElem?_eq_getElem (by rw [ownTo_len]; exact hj), ownTo_at]
    have e2 : (ownTo l i)[j]? = some ((if j < i then us l j else 0) - kidsTo l j i) := by
      rw [List.getElem?_eq_getElem (by rw [ownTo_len]; exact hj), ownTo_at]
    rw [e1]
    have hk : kidsTo l j (i + 1) = kidsTo l j i + (if 0 < i ∧ pa l i = j then us l i else 0) := rfl
    by_cases h0 : 0 < i
    · rw [if_pos h0]
      have hpp : 0 ≤ pa l i ∧ pa l i < i := by rcases hp with h | h <;> omega
      have e3 : (ownTo l i).getD (pa l i).toNat 0 = us l (pa l i).toNat - kidsTo l (pa l i).toNat i := by
        rw [List.getD_eq_getElem?_getD, List.getElem?_eq_getElem (by rw [ownTo_len]; omega), ownTo_at, if_pos (by omega)]; rfl
      by_cases hjp : j = (pa l i).toNat
      · subst hjp
        rw [List.getElem?_set_self (by rw [List.length_set, ownTo_len]; exact hj), e3, hk, if_pos (by omega), if_pos (by omega)]
        congr 1; omega
      · rw [List.getElem?_set_ne (by omega)]
        by_cases hji : j = i
        · subst hji
          rw [List.getElem?_set_self (by rw [ownTo_len]; exact hj), if_pos (by omega), kidsTo_zero ht (by omega) (by omega)]
          simp
        · rw [List.getElem?_set_ne (by omega), e2, hk, if_neg (by omega : ¬(0 < i ∧ pa l i = j))]
          congr 1
          by_cases h3 : j < i
          · rw [if_pos h3, if_pos (by omega)]; omega
          · rw [if_neg h3, if_neg (by omega)]; omega
    · rw [if_neg h0]
      obtain rfl : i = 0 := by omega
      by_cases hji : j = 0
      · subst hji
        rw [List.getElem?_set_self (by rw [ownTo_len]; exact hj), if_pos (by omega), kidsTo_zero ht (by omega) (by omega)]
        simp
      · rw [List.getElem?_set_ne (by omega), e2, hk, if_neg (by omega), if_neg (by omega), if_neg (by omega)]
        simp [kidsTo]
  · have e : ∀ x : List Int, x.length = l.length → x[j]? = none := fun x hx => List.getElem?_eq_none (by omega)
    rw [e _ (ownTo_len _ _)]
    split <;> rw [e _ (by simp [ownTo_len])]
theorem ownTo_in {l : List Acct} (ha : amtTo l l.length) (hl : l.length ≤ 8) {i : Nat} (hi : i ≤ 8) (j : Nat) : -8388608 ≤ (ownTo l i).getD j 0 ∧ (ownTo l i).getD j 0 ≤ 1048576 := by
  by_cases hj : j < (ownTo l i).length
  · rw [List.getD_eq_getElem?_getD, List.getElem?_eq_getElem hj, Option.getD_some, ownTo_at]
    have h1 := us_in ha j
    have h2 := kidsTo_in ha j i
    split <;> omega
  · rw [List.getD_eq_getElem?_getD, List.getElem?_eq_none (by omega), Option.getD_none]; omega
theorem getD_at {l : List Int} {i : Nat} (h : i < l.length) : l[i] = l.getD i 0 := by rw [List.getD_eq_getElem?_getD, List.getElem?_eq_getElem h]; rfl
theorem own_c (l : List Acct) (hl : l.length ≤ 8) (ht : treeP l) (ha : amtTo l l.length) : PCon Try.prog 42 [accs l] (.ow 1 ((ownL l).map (.int .i64)) l.length) := by
  refine A42p (by simp [A42]) ?_
  simp only [A42, argEnv]
  have hal := accs_len l
  repeat' (first | (with_reducible first | refine W_seq ?_ | refine then_n ?_ | refine W_block ?_ | refine blk_n ?_ | refine blk_r ?_ | refine blk_e ?_ | refine W_skip ?_ | refine W_ret ?_ | refine then_r ?_ | refine W_exit ?_ | refine then_e ?_) | ((with_reducible refine s_reg ?_); intro K hK) | ((with_reducible refine k_nil ?_); (with_reducible apply s_nil hK); (· exact nmX); clear hK; clear K) | ((with_reducible refine k_mv ?_); (refine s_mv rfl ?_)) | ((with_reducible refine k_len ?_); (first | (refine s_len rfl rfl ?_) | ((with_reducible apply s_len); (· rfl); (· exact SlOwn.len (by assumption))))) | ((with_reducible refine k_mkslice (dst := some 8) ?_); ((with_reducible apply s_mkslice); (· rfl); (· rfl); (· (exact ⟨rfl, by decide, by omega, by omega, by (rw [room_i]; omega), by omega⟩)); (· ((first | exact nuI | exact nuN))); intro k8 hk8; (try simp only [upd_none] at hk8))))
  refine W_for l.length (fun i st => ∃ h', st = ⟨[(3, .sl k8 1 0 l.length), (9, accs l), (10, .int .i64 l.length), (11, .int .i64 i)], h'⟩ ∧ h' k8 = some ((ownTo l i).map (.int .i64))) ⟨_, rfl, ?_⟩ ?_ ?_
  · rw [upd_self]
    congr 1
    simp only [rep, List.flatten_replicate_singleton]
    apply List.ext_getElem (by simp [ownTo])
    intro j h1 h2
    simp [ownTo, kidsTo]
  · rintro i e' h' hi ⟨h1, he, hk1⟩
    cases he
    have hui := us_in ha i
    have hki := kidsTo_in ha i i
    have hp := ht i hi hi
    unfold okP at hp
    have hu := us_at hi
    have hpa := pa_at hi
    have hol := ownTo_len l i
    have hg : (ownTo l i)[i]'(by omega) = 0 := by rw [ownTo_at, if_neg (by omega), kidsTo_zero ht (by omega) (by omega)]; rfl
    have hpl : l[i].parent.toNat < (ownTo l i).length := by omega
    have hVd : ∀ h : l[i].parent.toNat < (ownTo l i).length, (ownTo l i)[l[i].parent.toNat]'h = (ownTo l i).getD l[i].parent.toNat 0 := fun h => getD_at h
    have hV := ownTo_in ha hl (i := i) (by omega) l[i].parent.toNat
    have hst := ownTo_step ht hi
    rw [hpa] at hst
    have hml : ((ownTo l i).map (D.int .i64)).length = l.length := by rw [List.length_map, hol]
    generalize hVV : (ownTo l i).getD l[i].parent.toNat 0 = V at *
    repeat' (first | (with_reducible first | refine W_seq ?_ | refine then_n ?_ | refine W_block ?_ | refine blk_n ?_ | refine blk_r ?_ | refine blk_e ?_ | refine W_skip ?_ | refine W_ret ?_ | refine then_r ?_ | refine W_exit ?_ | refine then_e ?_) | ((with_reducible refine s_reg ?_); intro K hK) | ((with_reducible refine k_nil ?_); (with_reducible apply s_nil hK); (· exact nmX); clear hK; clear K) | ((with_reducible refine k_cond ?_); (first | ((with_reducible apply s_condT); (· rfl); (· exact nmX)) | ((with_reducible apply s_condF); (· rfl); (· exact nmX)) | ((with_reducible apply s_condS); (· rfl); (· exact nmX); (· exact nmX)))) | ((with_reducible refine k_mv ?_); (refine s_mv rfl ?_)) | ((with_reducible refine k_lss ?_); (refine s_lss rfl rfl ?_)) | ((with_reducible refine k_gtr ?_); (refine s_gtr rfl rfl ?_)) | ((with_reducible refine k_iaddr ?_); (first | ((with_reducible apply s_iaddrV); (· rfl); (· rfl); (· (first | omega | exact ⟨rfl, by omega⟩ | skip))) | ((with_reducible apply s_iaddrO); (· rfl); (· rfl); (· (first | omega | exact ⟨rfl, by omega⟩ | skip)); (· (exact hpX))) | ((with_reducible apply s_iaddrSO); (· rfl); (· assumption); (· rfl); (· (first | omega | exact ⟨rfl, by omega⟩ | skip)); (· (first | (simp (disch := omega) only [w64, wu8, wu16, wu32, wu64, tm_nn, td_nn, fd_nn, Int.reduceAdd, Int.reduceSub, Int.reduceMul, Int.reduceDiv, Int.reduceMod, Int.reduceNeg, Int.reduceToNat, Int.toNat_natCast, Int.toNat_zero, Int.zero_add, Int.add_zero, Int.one_mul, Int.reducePow, Nat.mul_one, Nat.zero_add, Nat.add_zero, Nat.zero_mul, Nat.reduceAdd, Nat.reduceMul, Nat.reduceSub, Nat.min_eq_left, IntKind.bits, Nat.sub_zero, acr, gm, hg, ← hu, tsd_ne, hVd]; try rfl; done) | rfl)); intro ks hks))) | ((with_reducible refine k_load ?_); (first | ((with_reducible apply s_loadV); (· rfl)) | ((with_reducible apply s_loadP); (· rfl); (· (exact hpX))))) | ((with_reducible refine k_loadA ?_); (first | ((with_reducible apply s_loadAV); (· rfl); (· (first | exact Nat.le_of_ble_eq_true rfl | decide | omega | (simp; done) | (simp; omega) | skip))) | ((with_reducible apply s_loadAP); (· rfl); (· (exact hpX)); (· (first | exact Nat.le_of_ble_eq_true rfl | decide | omega | (simp; done) | (simp; omega) | skip))))) | ((with_reducible refine k_add ?_); ((with_reducible apply s_add); (· rfl); (· rfl))) | ((with_reducible refine k_sub ?_); ((with_reducible apply s_sub); (· rfl); (· rfl))) | ((with_reducible refine k_store ?_); ((with_reducible apply s_store0); (· rfl); (· rfl); (· rfl); (· (exact hpX)); (· (exact ⟨rfl, by first | exact Nat.le_of_ble_eq_true rfl | omega | (simp [acr, gm, hg, ← hu, tsd_ne, hVd]; omega)⟩)); (· ((first | (simp (disch := omega) only [upd_self, upd_ne, upd_upd, rep, splice, List.take_succ_cons, List.take_zero, List.drop_succ_cons, List.drop_zero, List.cons_append, List.nil_append, List.append_nil, List.length_cons, List.length_nil, List.reduceReplicate, List.flatten_cons, List.flatten_nil, Nat.reduceAdd, Nat.reduceMul, Nat.reduceSub, Nat.zero_add, Nat.add_zero, List.getElem?_cons_zero, List.getElem?_cons_succ, acr, gm, hg, ← hu, tsd_ne, hVd]; try rfl; done) | rfl))); (· (first | exact upd_upd | rfl)))) | ((with_reducible refine k_faddr ?_); (first | ((with_reducible apply s_faddrV); (· rfl); (· rfl)) | ((with_reducible apply s_faddrP); (· rfl); (· rfl)))) | ((with_reducible refine k_alloc (dst := some 5) ?_); ((with_reducible apply s_alloc); intro k5 hk5; (try simp only [upd_none] at hk5))) | ((with_reducible refine k_dreg ?_); refine s_dregS (pre := A42d7p) rfl rfl rfl ?_; intro K hK) | ((with_reducible refine k_dreg ?_); refine s_dregS (pre := A42d9p) rfl rfl rfl ?_; intro K hK) | (with_reducible refine d_nilS ?_) | ((with_reducible refine k_dop ?_); refine d_step (by first | exact Or.inl rfl | exact Or.inr rfl) ?_) | (with_reducible refine d_back ?_) | ((with_reducible refine k_br ?_); (first | (with_reducible first | refine Br_dec ?_ | refine Br_not ?_ | refine Br_eqF ?_ | refine Br_and ?_ | refine Br_or ?_ | refine Br_neg ?_ | refine Br_band ?_ | refine Br_bor ?_ | refine Br_beq ?_) | (refine Br_t (by first | with_reducible rfl | omega | assumption | rfl) ?_) | (refine Br_f (by first | omega | assumption | decide) ?_) | (with_reducible apply Br_sb <;> intro hbr <;> (first | subst hbr | simp only [hbr] | skip)) | (with_reducible apply Br_s <;> intro hbr))) | ((first | (with_reducible apply q_eqI) | (with_reducible apply q_eqN)); (first | (simp (disch := omega) only [w64, wu8, wu16, wu32, wu64, tm_nn, td_nn, fd_nn, Int.reduceAdd, Int.reduceSub, Int.reduceMul, Int.reduceDiv, Int.reduceMod, Int.reduceNeg, Int.reduceToNat, Int.toNat_natCast, Int.toNat_zero, Int.zero_add, Int.add_zero, Int.one_mul, Int.reducePow, Nat.mul_one, Nat.zero_add, Nat.add_zero, Nat.zero_mul, Nat.reduceAdd, Nat.reduceMul, Nat.reduceSub, Nat.min_eq_left, IntKind.bits, Nat.sub_zero, acr, gm, hg, ← hu, tsd_ne, hVd]; try rfl; done) | rfl)) | ((first | (with_reducible apply q_eqL) | (with_reducible apply q_eqO)); (first | (simp (disch := omega) only [upd_self, upd_ne, upd_upd, rep, splice, List.take_succ_cons, List.take_zero, List.drop_succ_cons, List.drop_zero, List.cons_append, List.nil_append, List.append_nil, List.length_cons, List.length_nil, List.reduceReplicate, List.flatten_cons, List.flatten_nil, Nat.reduceAdd, Nat.reduceMul, Nat.reduceSub, Nat.zero_add, Nat.add_zero, List.getElem?_cons_zero, List.getElem?_cons_succ, acr, gm, hg, ← hu, tsd_ne, hVd]; try rfl; done) | rfl)))
    · refine ⟨_, rfl, ?_⟩
      have e1 := set_form (x := (ownTo l i).map (D.int .i64)) (j := i) (d := .int .i64 (us l i)) (by omega)
      rw [upd_self, hst, if_pos (by omega), e1, set_form (by rw [List.length_set, hml]; omega), List.map_set, List.map_set]
    · refine ⟨_, rfl, ?_⟩
      rw [upd_self, hst, if_neg (by omega), set_form (by omega), List.map_set]
  · rintro e' h' ⟨h1, he, hk1⟩
    cases he
    repeat' (first | (with_reducible first | refine W_seq ?_ | refine then_n ?_ | refine W_block ?_ | refine blk_n ?_ | refine blk_r ?_ | refine blk_e ?_ | refine W_skip ?_ | refine W_ret ?_ | refine then_r ?_ | refine W_exit ?_ | refine then_e ?_) | ((with_reducible refine s_reg ?_); intro K hK) | ((with_reducible refine k_nil ?_); (with_reducible apply s_nil hK); (· exact nmX); clear hK; clear K) | ((with_reducible refine k_cond ?_); (first | ((with_reducible apply s_condT); (· rfl); (· exact nmX)) | ((with_reducible apply s_condF); (· rfl); (· exact nmX)) | ((with_reducible apply s_condS); (· rfl); (· exact nmX); (· exact nmX)))) | ((with_reducible refine k_mv ?_); (refine s_mv rfl ?_)) | ((with_reducible refine k_lss ?_); (refine s_lss rfl rfl ?_)) | ((with_reducible refine k_br ?_); (first | (with_reducible first | refine Br_dec ?_ | refine Br_not ?_ | refine Br_eqF ?_ | refine Br_and ?_ | refine Br_or ?_ | refine Br_neg ?_ | refine Br_band ?_ | refine Br_bor ?_ | refine Br_beq ?_) | (refine Br_t (by first | with_reducible rfl | omega | assumption | rfl) ?_) | (refine Br_f (by first | omega | assumption | decide) ?_) | (with_reducible apply Br_sb <;> intro hbr <;> (first | subst hbr | simp only [hbr] | skip)) | (with_reducible apply Br_s <;> intro hbr))))
    rw [ownTo_end] at hk1
    exact Fin_sl trivial rfl hk1 (by simp [ownL_len]) scal_i
def minL (l : List Int) : Int := l.tail.foldl (fun a b => if b < a then b else a) (l.headD 0)
theorem fold_min (l : List Int) : ∀ a, (l.foldl (fun a b => if b < a then b else a) a < 0 ↔ a < 0 ∨ ∃ x ∈ l, x < 0) := by
  induction l with
  | nil => intro a; simp
  | cons b r ih =>
    intro a
    rw [List.foldl_cons, ih]
    constructor
    · rintro (h | ⟨x, hx, h⟩)
      · split at h
        · exact .inr ⟨b, by simp, h⟩
        · exact .inl h
      · exact .inr ⟨x, by simp [hx], h⟩
    · rintro (h | ⟨x, hx, h⟩)
      · left; split <;> omega
      · rcases List.mem_cons.1 hx with rfl | hx
        · left; split <;> omega
        · exact .inr ⟨x, hx, h⟩
theorem minL_neg {l : List Int} (h : l ≠ []) : minL l < 0 ↔ ∃ x ∈ l, x < 0 := by
  cases l with
  | nil => exact absurd rfl h
  | cons a r => simp only [minL, List.tail_cons, List.headD_cons, fold_min, List.mem_cons, exists_eq_or_imp]
def minTo (l : List Int) (i : Nat) : Int := (l.tail.take i).foldl (fun a b => if b < a then b else a) (l.headD 0)
theorem min_c (l : List Int) (h0 : l ≠ []) (hl : l.length ≤ 1000000) : PCon Try.prog 41 [.vs 1 (l.map (.int .i64)) l.length] (.int .i64 (minL l)) := by
  obtain ⟨a, r, rfl⟩ : ∃ a r, l = a :: r := by cases l with | nil => exact absurd rfl h0 | cons a r => exact ⟨a, r, rfl⟩
  have hr : (a :: r).length = r.length + 1 := rfl
  rw [hr] at hl
  refine A41p (by simp [A41]) ?_
  simp only [A41, argEnv, hr]
  repeat' (first | (with_reducible first | refine W_seq ?_ | refine then_n ?_ | refine W_block ?_ | refine blk_n ?_ | refine blk_r ?_ | refine blk_e ?_ | refine W_skip ?_ | refine W_ret ?_ | refine then_r ?_ | refine W_exit ?_ | refine then_e ?_) | ((with_reducible refine s_reg ?_); intro K hK) | ((with_reducible refine k_nil ?_); (with_reducible apply s_nil hK); (· exact nmX); clear hK; clear K) | ((with_reducible refine k_cond ?_); (first | ((with_reducible apply s_condT); (· rfl); (· exact nmX)) | ((with_reducible apply s_condF); (· rfl); (· exact nmX)) | ((with_reducible apply s_condS); (· rfl); (· exact nmX); (· exact nmX)))) | ((with_reducible refine k_mv ?_); (refine s_mv rfl ?_)) | ((with_reducible refine k_len ?_); (first | (refine s_len rfl rfl ?_) | ((with_reducible apply s_len); (· rfl); (· exact SlOwn.len (by assumption))))) | ((with_reducible refine k_lss ?_); (refine s_lss rfl rfl ?_)) | ((with_reducible refine k_iaddr ?_); (first | ((with_reducible apply s_iaddrV); (· rfl); (· rfl); (· (first | omega | exact ⟨rfl, by omega⟩ | skip))) | ((with_reducible apply s_iaddrO); (· rfl); (· rfl); (· (first | omega | exact ⟨rfl, by omega⟩ | skip)); (· (exact hpX))) | ((with_reducible apply s_iaddrSO); (· rfl); (· assumption); (· rfl); (· (first | omega | exact ⟨rfl, by omega⟩ | skip)); (· (first | (simp (disch := omega) only [w64, wu8, wu16, wu32, wu64, tm_nn, td_nn, fd_nn, Int.reduceAdd, Int.reduceSub, Int.reduceMul, Int.reduceDiv, Int.reduceMod, Int.reduceNeg, Int.reduceToNat, Int.toNat_natCast, Int.toNat_zero, Int.zero_add, Int.add_zero, Int.one_mul, Int.reducePow, Nat.mul_one, Nat.zero_add, Nat.add_zero, Nat.zero_mul, Nat.reduceAdd, Nat.reduceMul, Nat.reduceSub, Nat.min_eq_left, IntKind.bits, Nat.sub_zero, List.map_cons]; try rfl; done) | rfl)); intro ks hks))) | ((with_reducible refine k_load ?_); (first | ((with_reducible apply s_loadV); (· rfl)) | ((with_reducible apply s_loadP); (· rfl); (· (exact hpX))))) | ((with_reducible refine k_br ?_); (first | (with_reducible first | refine Br_dec ?_ | refine Br_not ?_ | refine Br_eqF ?_ | refine Br_and ?_ | refine Br_or ?_ | refine Br_neg ?_ | refine Br_band ?_ | refine Br_bor ?_ | refine Br_beq ?_) | (refine Br_t (by first | with_reducible rfl | omega | assumption | rfl) ?_) | (refine Br_f (by first | omega | assumption | decide) ?_) | (with_reducible apply Br_sb <;> intro hbr <;> (first | subst hbr | simp only [hbr] | skip)) | (with_reducible apply Br_s <;> intro hbr))) | ((first | (with_reducible apply q_eqI) | (with_reducible apply q_eqN)); (first | (simp (disch := omega) only [w64, wu8, wu16, wu32, wu64, tm_nn, td_nn, fd_nn, Int.reduceAdd, Int.reduceSub, Int.reduceMul, Int.reduceDiv, Int.reduceMod, Int.reduceNeg, Int.reduceToNat, Int.toNat_natCast, Int.toNat_zero, Int.zero_add, Int.add_zero, Int.one_mul, Int.reducePow, Nat.mul_one, Nat.zero_add, Nat.add_zero, Nat.zero_mul, Nat.reduceAdd, Nat.reduceMul, Nat.reduceSub, Nat.min_eq_left, IntKind.bits, Nat.sub_zero, List.map_cons]; try rfl; done) | rfl)) | ((first | (with_reducible apply q_eqL) | (with_reducible apply q_eqO)); (first | (simp (disch := omega) only [upd_self, upd_ne, upd_upd, rep, splice, List.take_succ_cons, List.take_zero, List.drop_succ_cons, List.drop_zero, List.cons_append, List.nil_append, List.append_nil, List.length_cons, List.length_nil, List.reduceReplicate, List.flatten_cons, List.flatten_nil, Nat.reduceAdd, Nat.reduceMul, Nat.reduceSub, Nat.zero_add, Nat.add_zero, List.getElem?_cons_zero, List.getElem?_cons_succ, List.map_cons]; try rfl; done) | rfl)))
  refine W_for r.length (fun i st => st = ⟨[(0, .vs 1 ((a :: r).map (.int .i64)) (r.length + 1)), (3, .int .i64 (minTo (a :: r) i)), (4, .int .i64 ((i + 1 : Nat) : Int))], fun _ => none⟩) rfl ?_ ?_
  · rintro i e' h' hi he
    cases he
    have hg : ((a :: r).map (D.int .i64))[i + 1]? = some (.int .i64 r[i]) := by simp [hi]
    repeat' (first | (with_reducible first | refine W_seq ?_ | refine then_n ?_ | refine W_block ?_ | refine blk_n ?_ | refine blk_r ?_ | refine blk_e ?_ | refine W_skip ?_ | refine W_ret ?_ | refine then_r ?_ | refine W_exit ?_ | refine then_e ?_) | ((with_reducible refine s_reg ?_); intro K hK) | ((with_reducible refine k_nil ?_); (with_reducible apply s_nil hK); (· exact nmX); clear hK; clear K) | ((with_reducible refine k_cond ?_); (first | ((with_reducible apply s_condT); (· rfl); (· exact nmX)) | ((with_reducible apply s_condF); (· rfl); (· exact nmX)) | ((with_reducible apply s_condS); (· rfl); (· exact nmX); (· exact nmX)))) | ((with_reducible refine k_mv ?_); (refine s_mv rfl ?_)) | ((with_reducible refine k_len ?_); (first | (refine s_len rfl rfl ?_) | ((with_reducible apply s_len); (· rfl); (· exact SlOwn.len (by assumption))))) | ((with_reducible refine k_lss ?_); (refine s_lss rfl rfl ?_)) | ((with_reducible refine k_iaddr ?_); (first | ((with_reducible apply s_iaddrV); (· rfl); (· rfl); (· (first | omega | exact ⟨rfl, by omega⟩ | skip))) | ((with_reducible apply s_iaddrO); (· rfl); (· rfl); (· (first | omega | exact ⟨rfl, by omega⟩ | skip)); (· (exact hpX))) | ((with_reducible apply s_iaddrSO); (· rfl); (· assumption); (· rfl); (· (first | omega | exact ⟨rfl, by omega⟩ | skip)); (· (first | (simp (disch := omega) only [w64, wu8, wu16, wu32, wu64, tm_nn, td_nn, fd_nn, Int.reduceAdd, Int.reduceSub, Int.reduceMul, Int.reduceDiv, Int.reduceMod, Int.reduceNeg, Int.reduceToNat, Int.toNat_natCast, Int.toNat_zero, Int.zero_add, Int.add_zero, Int.one_mul, Int.reducePow, Nat.mul_one, Nat.zero_add, Nat.add_zero, Nat.zero_mul, Nat.reduceAdd, Nat.reduceMul, Nat.reduceSub, Nat.min_eq_left, IntKind.bits, Nat.sub_zero, hg]; try rfl; done) | rfl)); intro ks hks))) | ((with_reducible refine k_load ?_); (first | ((with_reducible apply s_loadV); (· rfl)) | ((with_reducible apply s_loadP); (· rfl); (· (exact hpX))))) | ((with_reducible refine k_add ?_); ((with_reducible apply s_add); (· rfl); (· rfl))) | ((with_reducible refine k_mima ?_); ((with_reducible apply s_mima); (· rfl); (· rfl))) | ((with_reducible refine k_br ?_); (first | (with_reducible first | refine Br_dec ?_ | refine Br_not ?_ | refine Br_eqF ?_ | refine Br_and ?_ | refine Br_or ?_ | refine Br_neg ?_ | refine Br_band ?_ | refine Br_bor ?_ | refine Br_beq ?_) | (refine Br_t (by first | with_reducible rfl | omega | assumption | rfl) ?_) | (refine Br_f (by first | omega | assumption | decide) ?_) | (with_reducible apply Br_sb <;> intro hbr <;> (first | subst hbr | simp only [hbr] | skip)) | (with_reducible apply Br_s <;> intro hbr))) | ((first | (with_reducible apply q_eqI) | (with_reducible apply q_eqN)); (first | (simp (disch := omega) only [w64, wu8, wu16, wu32, wu64, tm_nn, td_nn, fd_nn, Int.reduceAdd, Int.reduceSub, Int.reduceMul, Int.reduceDiv, Int.reduceMod, Int.reduceNeg, Int.reduceToNat, Int.toNat_natCast, Int.toNat_zero, Int.zero_add, Int.add_zero, Int.one_mul, Int.reducePow, Nat.mul_one, Nat.zero_add, Nat.add_zero, Nat.zero_mul, Nat.reduceAdd, Nat.reduceMul, Nat.reduceSub, Nat.min_eq_left, IntKind.bits, Nat.sub_zero, hg]; try rfl; done) | rfl)) | ((first | (with_reducible apply q_eqL) | (with_reducible apply q_eqO)); (first | (simp (disch := omega) only [upd_self, upd_ne, upd_upd, rep, splice, List.take_succ_cons, List.take_zero, List.drop_succ_cons, List.drop_zero, List.cons_append, List.nil_append, List.append_nil, List.length_cons, List.length_nil, List.reduceReplicate, List.flatten_cons, List.flatten_nil, Nat.reduceAdd, Nat.reduceMul, Nat.reduceSub, Nat.zero_add, Nat.add_zero, List.getElem?_cons_zero, List.getElem?_cons_succ, hg]; try rfl; done) | rfl)))
    rw [show minTo (a :: r) (i + 1) = if r[i] < minTo (a :: r) i then r[i] else minTo (a :: r) i from foldl_take hi]
    simp only [Bool.false_eq_true, if_false]
    rfl
  · rintro e' h' he
    cases he
    repeat' (first | (with_reducible first | refine W_seq ?_ | refine then_n ?_ | refine W_block ?_ | refine blk_n ?_ | refine blk_r ?_ | refine blk_e ?_ | refine W_skip ?_ | refine W_ret ?_ | refine then_r ?_ | refine W_exit ?_ | refine then_e ?_) | ((with_reducible refine s_reg ?_); intro K hK) | ((with_reducible refine k_nil ?_); (with_reducible apply s_nil hK); (· exact nmX); clear hK; clear K) | ((with_reducible refine k_cond ?_); (first | ((with_reducible apply s_condT); (· rfl); (· exact nmX)) | ((with_reducible apply s_condF); (· rfl); (· exact nmX)) | ((with_reducible apply s_condS); (· rfl); (· exact nmX); (· exact nmX)))) | ((with_reducible refine k_mv ?_); (refine s_mv rfl ?_)) | ((with_reducible refine k_len ?_); (first | (refine s_len rfl rfl ?_) | ((with_reducible apply s_len); (· rfl); (· exact SlOwn.len (by assumption))))) | ((with_reducible refine k_lss ?_); (refine s_lss rfl rfl ?_)) | ((with_reducible refine k_br ?_); (first | (with_reducible first | refine Br_dec ?_ | refine Br_not ?_ | refine Br_eqF ?_ | refine Br_and ?_ | refine Br_or ?_ | refine Br_neg ?_ | refine Br_band ?_ | refine Br_bor ?_ | refine Br_beq ?_) | (refine Br_t (by first | with_reducible rfl | omega | assumption | rfl) ?_) | (refine Br_f (by first | omega | assumption | decide) ?_) | (with_reducible apply Br_sb <;> intro hbr <;> (first | subst hbr | simp only [hbr] | skip)) | (with_reducible apply Br_s <;> intro hbr))))
    rw [show minL (a :: r) = minTo (a :: r) r.length by simp [minL, minTo]]
    first | exact Fin_flat trivial rfl rfl | (refine Fin_tup trivial rfl ?_ (Nat.le_of_ble_eq_true rfl); (repeat (first | exact All2.nil | (apply All2.cons; (· first | exact exc_n | exact exc_e | exact exc_v rfl rfl | exact exc_o upd_self rfl rfl)))); done) | (refine Fin_own trivial rfl upd_self ?_ (Nat.le_of_ble_eq_true rfl); (repeat (first | exact All2.nil | (apply All2.cons; (· first | exact exc_n | exact exc_e | exact exc_v rfl rfl | exact exc_o upd_self rfl rfl)))); done) | exact Fin_nil trivial rfl | exact Fin_sl trivial rfl upd_self rfl rfl
end Go.Proofs.Ytolnhkpckbgmgaa
end
section
/- min -/
/- Accounts: the error of a list. -/
set_option linter.unusedSimpArgs false
set_option linter.unusedVariables false
namespace Go.Proofs.Ytolnhkpckbgmgaa
open Go.AM
set_option maxRecDepth 100000
set_option maxHeartbeats 4000000
def firstI {α : Type} (p : α → Bool) (l : List α) : Int := if l.findIdx p < l.length then (l.findIdx p : Nat) else -1
theorem firstI_at {α : Type} {p : α → Bool} {l : List α} {i : Nat} (hi : i < l.length) (h : p l[i] = true) (hb : ∀ j (hj : j < i), p (l[j]'(by omega)) = false) : firstI p l = i := by
  have : l.findIdx p = i := (List.findIdx_eq hi).2 ⟨h, hb⟩
  rw [firstI, this, if_pos hi]
theorem firstI_no {α : Type} {p : α → Bool} {l : List α} (hb : ∀ j (hj : j < l.length), p l[j] = false) : firstI p l = -1 := by
  have : l.findIdx p = l.length := List.findIdx_eq_length.2 fun x hx => by
    obtain ⟨i, hi, rfl⟩ := List.mem_iff_getElem.1 hx
    exact hb i hi
  rw [firstI, this, if_neg (by omega)]
theorem firstI_nn {α : Type} {p : α → Bool} {l : List α} : 0 ≤ firstI p l ↔ ∃ x ∈ l, p x = true := by
  unfold firstI
  rw [← List.findIdx_lt_length]
  split <;> omega
theorem idxf_c (l : List Acct) (hl : l.length ≤ 1000000) (g : Nat) (p : Acct → Bool) (hp : ∀ a ∈ l, PCon Try.prog g [.agg a.cells] (.bool (p a))) :
    PCon Try.prog 49 [accs l, .fn g [] []] (.int .i64 (firstI p l)) := by
  refine A49p (by simp [A49]) ?_
  simp only [A49, argEnv]
  have hal := accs_len l
  repeat' (first | (with_reducible first | refine W_seq ?_ | refine then_n ?_ | refine W_block ?_ | refine blk_n ?_ | refine blk_r ?_ | refine blk_e ?_ | refine W_skip ?_ | refine W_ret ?_ | refine then_r ?_ | refine W_exit ?_ | refine then_e ?_) | ((with_reducible refine s_reg ?_); intro K hK) | ((with_reducible refine k_nil ?_); (with_reducible apply s_nil hK); (· exact nmX); clear hK; clear K) | ((with_reducible refine k_mv ?_); (refine s_mv rfl ?_)) | ((with_reducible refine k_len ?_); (first | (refine s_len rfl rfl ?_) | ((with_reducible apply s_len); (· rfl); (· exact SlOwn.len (by assumption))))))
  refine W_for l.length (fun i st => (∀ j (hj : j < i) (h : j < l.length), p l[j] = false) ∧ st = ⟨[(0, accs l), (1, .fn g [] []), (7, .int .i64 l.length), (8, .int .i64 i)], fun _ => none⟩) ⟨fun j hj => by omega, rfl⟩ ?_ ?_
  · rintro i e' h' hi ⟨ht, he⟩
    cases he
    have hpi := hp l[i] (List.getElem_mem hi)
    simp only [Acct.cells] at hpi
    cases hpb : p l[i] with
    | true =>
      rw [hpb] at hpi
      repeat' (first | (with_reducible first | refine W_seq ?_ | refine then_n ?_ | refine W_block ?_ | refine blk_n ?_ | refine blk_r ?_ | refine blk_e ?_ | refine W_skip ?_ | refine W_ret ?_ | refine then_r ?_ | refine W_exit ?_ | refine then_e ?_) | ((with_reducible refine s_reg ?_); intro K hK) | ((with_reducible refine k_nil ?_); (with_reducible apply s_nil hK); (· exact nmX); clear hK; clear K) | ((with_reducible refine k_cond ?_); (first | ((with_reducible apply s_condT); (· rfl); (· exact nmX)) | ((with_reducible apply s_condF); (· rfl); (· exact nmX)) | ((with_reducible apply s_condS); (· rfl); (· exact nmX); (· exact nmX)))) | ((with_reducible refine k_mv ?_); (refine s_mv rfl ?_)) | ((with_reducible refine k_lss ?_); (refine s_lss rfl rfl ?_)) | ((with_reducible refine k_iaddr ?_); (first | ((with_reducible apply s_iaddrV); (· rfl); (· rfl); (· (first | omega | exact ⟨rfl, by omega⟩ | skip))) | ((with_reducible apply s_iaddrO); (· rfl); (· rfl); (· (first | omega | exact ⟨rfl, by omega⟩ | skip)); (· (exact hpX))) | ((with_reducible apply s_iaddrSO); (· rfl); (· assumption); (· rfl); (· (first | omega | exact ⟨rfl, by omega⟩ | skip)); (· (first | (simp (disch := omega) only [w64, wu8, wu16, wu32, wu64, tm_nn, td_nn, fd_nn, Int.reduceAdd, Int.reduceSub, Int.reduceMul, Int.reduceDiv, Int.reduceMod, Int.reduceNeg, Int.reduceToNat, Int.toNat_natCast, Int.toNat_zero, Int.zero_add, Int.add_zero, Int.one_mul, Int.reducePow, Nat.mul_one, Nat.zero_add, Nat.add_zero, Nat.zero_mul, Nat.reduceAdd, Nat.reduceMul, Nat.reduceSub, Nat.min_eq_left, IntKind.bits, Nat.sub_zero, acr]; try rfl; done) | rfl)); intro ks hks))) | ((with_reducible refine k_loadA ?_); (first | ((with_reducible apply s_loadAV); (· rfl); (· (first | exact Nat.le_of_ble_eq_true rfl | decide | omega | (simp; done) | (simp; omega) | skip))) | ((with_reducible apply s_loadAP); (· rfl); (· (exact hpX)); (· (first | exact Nat.le_of_ble_eq_true rfl | decide | omega | (simp; done) | (simp; omega) | skip))))) | ((with_reducible refine k_callT ?_); ((with_reducible apply s_callt); (· rfl); (· rfl); (· rfl))) | ((with_reducible refine k_con ?_); (first | ((with_reducible apply con_val (hpi)); (· (repeat (first | exact All2.nil | (apply All2.cons; (· first | ((apply Rd_sl0); (· exact hpX); (· first | rfl | exact scal_i | exact scal_b | assumption); (· first | rfl | assumption | (simp [acr]; done) | (simp [acr]; omega))) | exact rdX))))); (· rfl); (· exact fun _ => rfl)))) | ((with_reducible refine k_br ?_); (first | (with_reducible first | refine Br_dec ?_ | refine Br_not ?_ | refine Br_eqF ?_ | refine Br_and ?_ | refine Br_or ?_ | refine Br_neg ?_ | refine Br_band ?_ | refine Br_bor ?_ | refine Br_beq ?_) | (refine Br_t (by first | with_reducible rfl | omega | assumption | rfl) ?_) | (refine Br_f (by first | omega | assumption | decide) ?_) | (with_reducible apply Br_sb <;> intro hbr <;> (first | subst hbr | simp only [hbr] | skip)) | (with_reducible apply Br_s <;> intro hbr))) | ((first | (with_reducible apply q_eqI) | (with_reducible apply q_eqN)); (first | (simp (disch := omega) only [w64, wu8, wu16, wu32, wu64, tm_nn, td_nn, fd_nn, Int.reduceAdd, Int.reduceSub, Int.reduceMul, Int.reduceDiv, Int.reduceMod, Int.reduceNeg, Int.reduceToNat, Int.toNat_natCast, Int.toNat_zero, Int.zero_add, Int.add_zero, Int.one_mul, Int.reducePow, Nat.mul_one, Nat.zero_add, Nat.add_zero, Nat.zero_mul, Nat.reduceAdd, Nat.reduceMul, Nat.reduceSub, Nat.min_eq_left, IntKind.bits, Nat.sub_zero, acr]; try rfl; done) | rfl)) | ((first | (with_reducible apply q_eqL) | (with_reducible apply q_eqO)); (first | (simp (disch := omega) only [upd_self, upd_ne, upd_upd, rep, splice, List.take_succ_cons, List.take_zero, List.drop_succ_cons, List.drop_zero, List.cons_append, List.nil_append, List.append_nil, List.length_cons, List.length_nil, List.reduceReplicate, List.flatten_cons, List.flatten_nil, Nat.reduceAdd, Nat.reduceMul, Nat.reduceSub, Nat.zero_add, Nat.add_zero, List.getElem?_cons_zero, List.getElem?_cons_succ, acr]; try rfl; done) | rfl)))
      rw [firstI_at hi hpb (fun j hj => ht j hj (by omega))]
      first | exact Fin_flat trivial rfl rfl | (refine Fin_tup trivial rfl ?_ (Nat.le_of_ble_eq_true rfl); (repeat (first | exact All2.nil | (apply All2.cons; (· first | exact exc_n | exact exc_e | exact exc_v rfl rfl | exact exc_o upd_self rfl rfl)))); done) | (refine Fin_own trivial rfl upd_self ?_ (Nat.le_of_ble_eq_true rfl); (repeat (first | exact All2.nil | (apply All2.cons; (· first | exact exc_n | exact exc_e | exact exc_v rfl rfl | exact exc_o upd_self rfl rfl)))); done) | exact Fin_nil trivial rfl | exact Fin_sl trivial rfl upd_self rfl rfl
    | false =>
      rw [hpb] at hpi
      repeat' (first | (with_reducible first | refine W_seq ?_ | refine then_n ?_ | refine W_block ?_ | refine blk_n ?_ | refine blk_r ?_ | refine blk_e ?_ | refine W_skip ?_ | refine W_ret ?_ | refine then_r ?_ | refine W_exit ?_ | refine then_e ?_) | ((with_reducible refine s_reg ?_); intro K hK) | ((with_reducible refine k_nil ?_); (with_reducible apply s_nil hK); (· exact nmX); clear hK; clear K) | ((with_reducible refine k_cond ?_); (first | ((with_reducible apply s_condT); (· rfl); (· exact nmX)) | ((with_reducible apply s_condF); (· rfl); (· exact nmX)) | ((with_reducible apply s_condS); (· rfl); (· exact nmX); (· exact nmX)))) | ((with_reducible refine k_mv ?_); (refine s_mv rfl ?_)) | ((with_reducible refine k_lss ?_); (refine s_lss rfl rfl ?_)) | ((with_reducible refine k_iaddr ?_); (first | ((with_reducible apply s_iaddrV); (· rfl); (· rfl); (· (first | omega | exact ⟨rfl, by omega⟩ | skip))) | ((with_reducible apply s_iaddrO); (· rfl); (· rfl); (· (first | omega | exact ⟨rfl, by omega⟩ | skip)); (· (exact hpX))) | ((with_reducible apply s_iaddrSO); (· rfl); (· assumption); (· rfl); (· (first | omega | exact ⟨rfl, by omega⟩ | skip)); (· (first | (simp (disch := omega) only [w64, wu8, wu16, wu32, wu64, tm_nn, td_nn, fd_nn, Int.reduceAdd, Int.reduceSub, Int.reduceMul, Int.reduceDiv, Int.reduceMod, Int.reduceNeg, Int.reduceToNat, Int.toNat_natCast, Int.toNat_zero, Int.zero_add, Int.add_zero, Int.one_mul, Int.reducePow, Nat.mul_one, Nat.zero_add, Nat.add_zero, Nat.zero_mul, Nat.reduceAdd, Nat.reduceMul, Nat.reduceSub, Nat.min_eq_left, IntKind.bits, Nat.sub_zero, acr]; try rfl; done) | rfl)); intro ks hks))) | ((with_reducible refine k_loadA ?_); (first | ((with_reducible apply s_loadAV); (· rfl); (· (first | exact Nat.le_of_ble_eq_true rfl | decide | omega | (simp; done) | (simp; omega) | skip))) | ((with_reducible apply s_loadAP); (· rfl); (· (exact hpX)); (· (first | exact Nat.le_of_ble_eq_true rfl | decide | omega | (simp; done) | (simp; omega) | skip))))) | ((with_reducible refine k_add ?_); ((with_reducible apply s_add); (· rfl); (· rfl))) | ((with_reducible refine k_callT ?_); ((with_reducible apply s_callt); (· rfl); (· rfl); (· rfl))) | ((with_reducible refine k_con ?_); (first | ((with_reducible apply con_val (hpi)); (· (repeat (first | exact All2.nil | (apply All2.cons; (· first | ((apply Rd_sl0); (· exact hpX); (· first | rfl | exact scal_i | exact scal_b | assumption); (· first | rfl | assumption | (simp [acr]; done) | (simp [acr]; omega))) | exact rdX))))); (· rfl); (· exact fun _ => rfl)))) | ((with_reducible refine k_br ?_); (first | (with_reducible first | refine Br_dec ?_ | refine Br_not ?_ | refine Br_eqF ?_ | refine Br_and ?_ | refine Br_or ?_ | refine Br_neg ?_ | refine Br_band ?_ | refine Br_bor ?_ | refine Br_beq ?_) | (refine Br_t (by first | with_reducible rfl | omega | assumption | rfl) ?_) | (refine Br_f (by first | omega | assumption | decide) ?_) | (with_reducible apply Br_sb <;> intro hbr <;> (first | subst hbr | simp only [hbr] | skip)) | (with_reducible apply Br_s <;> intro hbr))) | ((first | (with_reducible apply q_eqI) | (with_reducible apply q_eqN)); (first | (simp (disch := omega) only [w64, wu8, wu16, wu32, wu64, tm_nn, td_nn, fd_nn, Int.reduceAdd, Int.reduceSub, Int.reduceMul, Int.reduceDiv, Int.reduceMod, Int.reduceNeg, Int.reduceToNat, Int.toNat_natCast, Int.toNat_zero, Int.zero_add, Int.add_zero, Int.one_mul, Int.reducePow, Nat.mul_one, Nat.zero_add, Nat.add_zero, Nat.zero_mul, Nat.reduceAdd, Nat.reduceMul, Nat.reduceSub, Nat.min_eq_left, IntKind.bits, Nat.sub_zero, acr]; try rfl; done) | rfl)) | ((first | (with_reducible apply q_eqL) | (with_reducible apply q_eqO)); (first | (simp (disch := omega) only [upd_self, upd_ne, upd_upd, rep, splice, List.take_succ_cons, List.take_zero, List.drop_succ_cons, List.drop_zero, List.cons_append, List.nil_append, List.append_nil, List.length_cons, List.length_nil, List.reduceReplicate, List.flatten_cons, List.flatten_nil, Nat.reduceAdd, Nat.reduceMul, Nat.reduceSub, Nat.zero_add, Nat.add_zero, List.getElem?_cons_zero, List.getElem?_cons_succ, acr]; try rfl; done) | rfl)))
      refine ⟨fun j hj h => ?_, rfl⟩
      rcases Nat.lt_succ_iff_lt_or_eq.1 hj with h1 | rfl
      · exact ht j h1 h
      · exact hpb
  · rintro e' h' ⟨ht, he⟩
    cases he
    repeat' (first | (with_reducible first | refine W_seq ?_ | refine then_n ?_ | refine W_block ?_ | refine blk_n ?_ | refine blk_r ?_ | refine blk_e ?_ | refine W_skip ?_ | refine W_ret ?_ | refine then_r ?_ | refine W_exit ?_ | refine then_e ?_) | ((with_reducible refine s_reg ?_); intro K hK) | ((with_reducible refine k_nil ?_); (with_reducible apply s_nil hK); (· exact nmX); clear hK; clear K) | ((with_reducible refine k_cond ?_); (first | ((with_reducible apply s_condT); (· rfl); (· exact nmX)) | ((with_reducible apply s_condF); (· rfl); (· exact nmX)) | ((with_reducible apply s_condS); (· rfl); (· exact nmX); (· exact nmX)))) | ((with_reducible refine k_mv ?_); (refine s_mv rfl ?_)) | ((with_reducible refine k_lss ?_); (refine s_lss rfl rfl ?_)) | ((with_reducible refine k_br ?_); (first | (with_reducible first | refine Br_dec ?_ | refine Br_not ?_ | refine Br_eqF ?_ | refine Br_and ?_ | refine Br_or ?_ | refine Br_neg ?_ | refine Br_band ?_ | refine Br_bor ?_ | refine Br_beq ?_) | (refine Br_t (by first | with_reducible rfl | omega | assumption | rfl) ?_) | (refine Br_f (by first | omega | assumption | decide) ?_) | (with_reducible apply Br_sb <;> intro hbr <;> (first | subst hbr | simp only [hbr] | skip)) | (with_reducible apply Br_s <;> intro hbr))))
    rw [firstI_no (fun j hj => ht j hj hj)]
    first | exact Fin_flat trivial rfl rfl | (refine Fin_tup trivial rfl ?_ (Nat.le_of_ble_eq_true rfl); (repeat (first | exact All2.nil | (apply All2.cons; (· first | exact exc_n | exact exc_e | exact exc_v rfl rfl | exact exc_o upd_self rfl rfl)))); done) | (refine Fin_own trivial rfl upd_self ?_ (Nat.le_of_ble_eq_true rfl); (repeat (first | exact All2.nil | (apply All2.cons; (· first | exact exc_n | exact exc_e | exact exc_v rfl rfl | exact exc_o upd_self rfl rfl)))); done) | exact Fin_nil trivial rfl | exact Fin_sl trivial rfl upd_self rfl rfl
theorem contf_c (l : List Acct) (hl : l.length ≤ 1000000) (g : Nat) (p : Acct → Bool) (hp : ∀ a ∈ l, PCon Try.prog g [.agg a.cells] (.bool (p a))) :
    PCon Try.prog 39 [accs l, .fn g [] []] (.bool (decide (0 ≤ firstI p l))) := by
  refine A39p (by simp [A39]) ?_
  simp only [A39, argEnv]
  have c1 := idxf_c l hl g p hp
  repeat' (first | (with_reducible first | refine W_seq ?_ | refine then_n ?_ | refine W_skip ?_ | refine W_ret ?_ | refine then_r ?_) | ((with_reducible refine s_reg ?_); intro K hK) | ((with_reducible refine k_nil ?_); (with_reducible apply s_nil hK); (· exact nmX); clear hK; clear K) | ((with_reducible refine k_mv ?_); (refine s_mv rfl ?_)) | ((with_reducible refine k_geq ?_); (refine s_geq rfl rfl ?_)) | ((with_reducible refine k_callF ?_); (first | ((with_reducible apply s_call1); (· rfl)) | ((with_reducible apply s_calln); (· rfl)))) | ((with_reducible refine k_con ?_); (first | ((with_reducible apply con_val (c1)); (· (exact agX)); (· rfl); (· exact fun _ => rfl)))) | ((with_reducible refine k_br ?_); (first | (with_reducible first | refine Br_dec ?_ | refine Br_not ?_ | refine Br_eqF ?_ | refine Br_and ?_ | refine Br_or ?_ | refine Br_neg ?_ | refine Br_band ?_ | refine Br_bor ?_ | refine Br_beq ?_) | (refine Br_t (by first | with_reducible rfl | omega | assumption | rfl) ?_) | (refine Br_f (by first | omega | assumption | decide) ?_) | (with_reducible apply Br_sb <;> intro hbr <;> (first | subst hbr | simp only [hbr] | skip)) | (with_reducible apply Br_s <;> intro hbr))))
  all_goals first | exact Fin_bt trivial rfl (by omega) | exact Fin_bf trivial rfl (by omega)
def overM (a : Acct) : Bool := decide (a.max < a.usage)
theorem chk1_c (a : Acct) : PCon Try.prog 40 [.agg a.cells] (.bool (overM a)) := by
  refine A40p (by simp [A40]) ?_
  simp only [A40, argEnv, Acct.cells]
  unfold overM
  repeat' (first | (with_reducible first | refine W_seq ?_ | refine then_n ?_ | refine W_skip ?_ | refine W_ret ?_ | refine then_r ?_) | ((with_reducible refine s_reg ?_); intro K hK) | ((with_reducible refine k_nil ?_); (with_reducible apply s_nil hK); (· exact nmX); clear hK; clear K) | ((with_reducible refine k_mv ?_); (refine s_mv rfl ?_)) | ((with_reducible refine k_gtr ?_); (refine s_gtr rfl rfl ?_)) | ((with_reducible refine k_load ?_); (first | ((with_reducible apply s_loadV); (· rfl)) | ((with_reducible apply s_loadP); (· rfl); (· (exact hpX))))) | ((with_reducible refine k_faddr ?_); (first | ((with_reducible apply s_faddrV); (· rfl); (· rfl)) | ((with_reducible apply s_faddrP); (· rfl); (· rfl)))) | ((with_reducible refine k_box (dst := some 1) ?_); ((with_reducible apply s_box); (· rfl); (· rfl); intro k1 hk1; (try simp only [upd_none] at hk1))) | ((with_reducible refine k_br ?_); (first | (with_reducible first | refine Br_dec ?_ | refine Br_not ?_ | refine Br_eqF ?_ | refine Br_and ?_ | refine Br_or ?_ | refine Br_neg ?_ | refine Br_band ?_ | refine Br_bor ?_ | refine Br_beq ?_) | (refine Br_t (by first | with_reducible rfl | omega | assumption | rfl) ?_) | (refine Br_f (by first | omega | assumption | decide) ?_) | (with_reducible apply Br_sb <;> intro hbr <;> (first | subst hbr | simp only [hbr] | skip)) | (with_reducible apply Br_s <;> intro hbr))) | ((first | (with_reducible apply q_eqL) | (with_reducible apply q_eqO)); (first | exact liL | exact liO)))
  all_goals first | exact Fin_bt trivial rfl (by omega) | exact Fin_bf trivial rfl (by omega)
def maxP (l : List Acct) : Prop := ∀ a ∈ l, a.usage ≤ a.max
def sumP (l : List Acct) : Prop := ∀ i, i < l.length → kids l i ≤ us l i
open Classical in
noncomputable def chkF (l : List Acct) : Int :=
  if l.length < 1 ∨ 8 < l.length then 9 else if treeP l then (if amtP l then (if maxP l then (if sumP l then 0 else 11) else 17) else 2) else 1
open Classical in
theorem check_c (l : List Acct) (hL : l.length ≤ 9223372036854775807) : PCon Try.prog 23 [accs l] (.int .i64 (chkF l)) := by
  unfold chkF
  refine A23p (by simp [A23]) ?_
  simp only [A23, argEnv]
  by_cases h9 : l.length < 1 ∨ 8 < l.length
  · rw [if_pos h9]
    repeat' (first | (with_reducible first | refine W_seq ?_ | refine then_n ?_ | refine W_block ?_ | refine blk_n ?_ | refine blk_r ?_ | refine blk_e ?_ | refine W_skip ?_ | refine W_ret ?_ | refine then_r ?_) | ((with_reducible refine s_reg ?_); intro K hK) | ((with_reducible refine k_nil ?_); (with_reducible apply s_nil hK); (· exact nmX); clear hK; clear K) | ((with_reducible refine k_cond ?_); (first | ((with_reducible apply s_condT); (· rfl); (· exact nmX)) | ((with_reducible apply s_condF); (· rfl); (· exact nmX)) | ((with_reducible apply s_condS); (· rfl); (· exact nmX); (· exact nmX)))) | ((with_reducible refine k_guard ?_); (first | (refine s_gt rfl ?_) | (refine s_gf1 rfl ?_) | (refine s_gfn rfl ?_) | (refine s_gx1 rfl ?_) | (refine s_gxn rfl ?_) | (refine s_gs rfl ?_))) | ((with_reducible refine k_mv ?_); (refine s_mv rfl ?_)) | ((with_reducible refine k_len ?_); (first | (refine s_len rfl rfl ?_) | ((with_reducible apply s_len); (· rfl); (· exact SlOwn.len (by assumption))))) | ((with_reducible refine k_pick ?_); (first | (refine s_pickT rfl rfl ?_) | (refine s_pickF rfl rfl ?_))) | ((with_reducible refine k_lss ?_); (refine s_lss rfl rfl ?_)) | ((with_reducible refine k_gtr ?_); (refine s_gtr rfl rfl ?_)) | ((with_reducible refine k_br ?_); (first | (with_reducible first | refine Br_dec ?_ | refine Br_not ?_ | refine Br_eqF ?_ | refine Br_and ?_ | refine Br_or ?_ | refine Br_neg ?_ | refine Br_band ?_ | refine Br_bor ?_ | refine Br_beq ?_) | (refine Br_t (by first | with_reducible rfl | omega | assumption | rfl) ?_) | (refine Br_f (by first | omega | assumption | decide) ?_) | (with_reducible apply Br_sb <;> intro hbr <;> (first | subst hbr | simp only [hbr] | skip)) | (with_reducible apply Br_s <;> intro hbr))))
    all_goals first | exact Fin_flat trivial rfl rfl | (refine Fin_tup trivial rfl ?_ (Nat.le_of_ble_eq_true rfl); (repeat (first | exact All2.nil | (apply All2.cons; (· first | exact exc_n | exact exc_e | exact exc_v rfl rfl | exact exc_o upd_self rfl rfl)))); done) | (refine Fin_own trivial rfl upd_self ?_ (Nat.le_of_ble_eq_true rfl); (repeat (first | exact All2.nil | (apply All2.cons; (· first | exact exc_n | exact exc_e | exact exc_v rfl rfl | exact exc_o upd_self rfl rfl)))); done) | exact Fin_nil trivial rfl | exact Fin_sl trivial rfl upd_self rfl rfl
  · rw [if_neg h9]
    have ct := tree_c l (by omega)
    by_cases h1 : treeP l
    · rw [if_pos h1]
      rw [decide_eq_true h1] at ct
      have ca := amounts_c l (by omega) (by omega)
      by_cases h2 : amtP l
      · rw [if_pos h2]
        rw [decide_eq_true h2] at ca
        have co := contf_c l (by omega) 40 overM (fun a _ => chk1_c a)
        have hm : (0 ≤ firstI overM l) ↔ ¬ maxP l := by
          rw [firstI_nn]
          unfold maxP overM
          simp
        by_cases h3 : maxP l
        · rw [if_pos h3]
          rw [decide_eq_false (by rw [hm]; exact fun h => h h3)] at co
          have cw := own_c l (by omega) h1 h2.1
          have cm := min_c (ownL l) (by intro h; have := ownL_len l; rw [h] at this; simp at this; omega) (by rw [ownL_len]; omega)
          rw [ownL_len] at cm
          have hs : minL (ownL l) < 0 ↔ ¬ sumP l := by
            rw [minL_neg (by intro h; have := ownL_len l; rw [h] at this; simp at this; omega)]
            unfold sumP
            constructor
            · rintro ⟨x, hx, h⟩ hh
              obtain ⟨i, hi, rfl⟩ := List.mem_iff_getElem.1 hx
              have := hh i (by rwa [ownL_len] at hi)
              rw [ownL_at hi] at h
              omega
            · intro h
              obtain ⟨i, h⟩ := Classical.not_forall.1 h
              obtain ⟨hi, h⟩ := Classical.not_imp.1 h
              have hi' : i < (ownL l).length := by rw [ownL_len]; exact hi
              exact ⟨_, List.getElem_mem hi', by rw [ownL_at hi']; omega⟩
          by_cases h4 : sumP l
          · rw [if_pos h4]
            have h5 : ¬ minL (ownL l) < 0 := fun h => hs.1 h h4
            repeat' (first | (with_reducible first | refine W_seq ?_ | refine then_n ?_ | refine W_block ?_ | refine blk_n ?_ | refine blk_r ?_ | refine blk_e ?_ | refine W_skip ?_ | refine W_ret ?_ | refine then_r ?_) | ((with_reducible refine s_reg ?_); intro K hK) | ((with_reducible refine k_nil ?_); (with_reducible apply s_nil hK); (· exact nmX); clear hK; clear K) | ((with_reducible refine k_cond ?_); (first | ((with_reducible apply s_condT); (· rfl); (· exact nmX)) | ((with_reducible apply s_condF); (· rfl); (· exact nmX)) | ((with_reducible apply s_condS); (· rfl); (· exact nmX); (· exact nmX)))) | ((with_reducible refine k_guard ?_); (first | (refine s_gt rfl ?_) | (refine s_gf1 rfl ?_) | (refine s_gfn rfl ?_) | (refine s_gx1 rfl ?_) | (refine s_gxn rfl ?_) | (refine s_gs rfl ?_))) | ((with_reducible refine k_mv ?_); (refine s_mv rfl ?_)) | ((with_reducible refine k_len ?_); (first | (refine s_len rfl rfl ?_) | ((with_reducible apply s_len); (· rfl); (· exact SlOwn.len (by assumption))))) | ((with_reducible refine k_pick ?_); (first | (refine s_pickT rfl rfl ?_) | (refine s_pickF rfl rfl ?_))) | ((with_reducible refine k_not ?_); (refine s_not rfl (by first | exact Bool.not_true | exact Bool.not_false | rfl) ?_)) | ((with_reducible refine k_lss ?_); (refine s_lss rfl rfl ?_)) | ((with_reducible refine k_gtr ?_); (refine s_gtr rfl rfl ?_)) | ((with_reducible refine k_callF ?_); (first | ((with_reducible apply s_call1); (· rfl)) | ((with_reducible apply s_calln); (· rfl)))) | ((with_reducible refine k_con ?_); (first | ((with_reducible apply con_val (ct)); (· (repeat (first | exact All2.nil | (apply All2.cons; (· first | ((apply Rd_sl0); (· exact hpX); (· first | rfl | exact scal_i | exact scal_b | assumption); (· first | rfl | assumption | (simp [ownL_len]; done) | (simp [ownL_len]; omega))) | exact rdX))))); (· rfl); (· exact fun _ => rfl)) | ((with_reducible apply con_val (ca)); (· (repeat (first | exact All2.nil | (apply All2.cons; (· first | ((apply Rd_sl0); (· exact hpX); (· first | rfl | exact scal_i | exact scal_b | assumption); (· first | rfl | assumption | (simp [ownL_len]; done) | (simp [ownL_len]; omega))) | exact rdX))))); (· rfl); (· exact fun _ => rfl)) | ((with_reducible apply con_val (co)); (· (repeat (first | exact All2.nil | (apply All2.cons; (· first | ((apply Rd_sl0); (· exact hpX); (· first | rfl | exact scal_i | exact scal_b | assumption); (· first | rfl | assumption | (simp [ownL_len]; done) | (simp [ownL_len]; omega))) | exact rdX))))); (· rfl); (· exact fun _ => rfl)) | ((with_reducible apply con_of_pcon (cw)); (· (repeat (first | exact All2.nil | (apply All2.cons; (· first | ((apply Rd_sl0); (· exact hpX); (· first | rfl | exact scal_i | exact scal_b | assumption); (· first | rfl | assumption | (simp [ownL_len]; done) | (simp [ownL_len]; omega))) | exact rdX))))); intro kO hkO; (try simp only [upd_none] at hkO); simp only [thaw, thawC, List.map, thawH, owOf, owL]) | ((with_reducible apply con_val (cm)); (· (repeat (first | exact All2.nil | (apply All2.cons; (· first | ((apply Rd_sl0); (· exact hpX); (· first | rfl | exact scal_i | exact scal_b | assumption); (· first | rfl | assumption | (simp [ownL_len]; done) | (simp [ownL_len]; omega))) | exact rdX))))); (· rfl); (· exact fun _ => rfl)))) | ((with_reducible refine k_br ?_); (first | (with_reducible first | refine Br_dec ?_ | refine Br_not ?_ | refine Br_eqF ?_ | refine Br_and ?_ | refine Br_or ?_ | refine Br_neg ?_ | refine Br_band ?_ | refine Br_bor ?_ | refine Br_beq ?_) | (refine Br_t (by first | with_reducible rfl | omega | assumption | rfl) ?_) | (refine Br_f (by first | omega | assumption | decide) ?_) | (with_reducible apply Br_sb <;> intro hbr <;> (first | subst hbr | simp only [hbr] | skip)) | (with_reducible apply Br_s <;> intro hbr))))
            all_goals first | (exfalso; omega) | (first | exact Fin_flat trivial rfl rfl | (refine Fin_tup trivial rfl ?_ (Nat.le_of_ble_eq_true rfl); (repeat (first | exact All2.nil | (apply All2.cons; (· first | exact exc_n | exact exc_e | exact exc_v rfl rfl | exact exc_o upd_self rfl rfl)))); done) | (refine Fin_own trivial rfl upd_self ?_ (Nat.le_of_ble_eq_true rfl); (repeat (first | exact All2.nil | (apply All2.cons; (· first | exact exc_n | exact exc_e | exact exc_v rfl rfl | exact exc_o upd_self rfl rfl)))); done) | exact Fin_nil trivial rfl | exact Fin_sl trivial rfl upd_self rfl rfl)
          · rw [if_neg h4]
            have h5 := hs.2 h4
            repeat' (first | (with_reducible first | refine W_seq ?_ | refine then_n ?_ | refine W_block ?_ | refine blk_n ?_ | refine blk_r ?_ | refine blk_e ?_ | refine W_skip ?_ | refine W_ret ?_ | refine then_r ?_) | ((with_reducible refine s_reg ?_); intro K hK) | ((with_reducible refine k_nil ?_); (with_reducible apply s_nil hK); (· exact nmX); clear hK; clear K) | ((with_reducible refine k_cond ?_); (first | ((with_reducible apply s_condT); (· rfl); (· exact nmX)) | ((with_reducible apply s_condF); (· rfl); (· exact nmX)) | ((with_reducible apply s_condS); (· rfl); (· exact nmX); (· exact nmX)))) | ((with_reducible refine k_guard ?_); (first | (refine s_gt rfl ?_) | (refine s_gf1 rfl ?_) | (refine s_gfn rfl ?_) | (refine s_gx1 rfl ?_) | (refine s_gxn rfl ?_) | (refine s_gs rfl ?_))) | ((with_reducible refine k_mv ?_); (refine s_mv rfl ?_)) | ((with_reducible refine k_len ?_); (first | (refine s_len rfl rfl ?_) | ((with_reducible apply s_len); (· rfl); (· exact SlOwn.len (by assumption))))) | ((with_reducible refine k_pick ?_); (first | (refine s_pickT rfl rfl ?_) | (refine s_pickF rfl rfl ?_))) | ((with_reducible refine k_not ?_); (refine s_not rfl (by first | exact Bool.not_true | exact Bool.not_false | rfl) ?_)) | ((with_reducible refine k_lss ?_); (refine s_lss rfl rfl ?_)) | ((with_reducible refine k_gtr ?_); (refine s_gtr rfl rfl ?_)) | ((with_reducible refine k_callF ?_); (first | ((with_reducible apply s_call1); (· rfl)) | ((with_reducible apply s_calln); (· rfl)))) | ((with_reducible refine k_con ?_); (first | ((with_reducible apply con_val (ct)); (· (repeat (first | exact All2.nil | (apply All2.cons; (· first | ((apply Rd_sl0); (· exact hpX); (· first | rfl | exact scal_i | exact scal_b | assumption); (· first | rfl | assumption | (simp [ownL_len]; done) | (simp [ownL_len]; omega))) | exact rdX))))); (· rfl); (· exact fun _ => rfl)) | ((with_reducible apply con_val (ca)); (· (repeat (first | exact All2.nil | (apply All2.cons; (· first | ((apply Rd_sl0); (· exact hpX); (· first | rfl | exact scal_i | exact scal_b | assumption); (· first | rfl | assumption | (simp [ownL_len]; done) | (simp [ownL_len]; omega))) | exact rdX))))); (· rfl); (· exact fun _ => rfl)) | ((with_reducible apply con_val (co)); (· (repeat (first | exact All2.nil | (apply All2.cons; (· first | ((apply Rd_sl0); (· exact hpX); (· first | rfl | exact scal_i | exact scal_b | assumption); (· first | rfl | assumption | (simp [ownL_len]; done) | (simp [ownL_len]; omega))) | exact rdX))))); (· rfl); (· exact fun _ => rfl)) | ((with_reducible apply con_of_pcon (cw)); (· (repeat (first | exact All2.nil | (apply All2.cons; (· first | ((apply Rd_sl0); (· exact hpX); (· first | rfl | exact scal_i | exact scal_b | assumption); (· first | rfl | assumption | (simp [ownL_len]; done) | (simp [ownL_len]; omega))) | exact rdX))))); intro kO hkO; (try simp only [upd_none] at hkO); simp only [thaw, thawC, List.map, thawH, owOf, owL]) | ((with_reducible apply con_val (cm)); (· (repeat (first | exact All2.nil | (apply All2.cons; (· first | ((apply Rd_sl0); (· exact hpX); (· first | rfl | exact scal_i | exact scal_b | assumption); (· first | rfl | assumption | (simp [ownL_len]; done) | (simp [ownL_len]; omega))) | exact rdX))))); (· rfl); (· exact fun _ => rfl)))) | ((with_reducible refine k_br ?_); (first | (with_reducible first | refine Br_dec ?_ | refine Br_not ?_ | refine Br_eqF ?_ | refine Br_and ?_ | refine Br_or ?_ | refine Br_neg ?_ | refine Br_band ?_ | refine Br_bor ?_ | refine Br_beq ?_) | (refine Br_t (by first | with_reducible rfl | omega | assumption | rfl) ?_) | (refine Br_f (by first | omega | assumption | decide) ?_) | (with_reducible apply Br_sb <;> intro hbr <;> (first | subst hbr | simp only [hbr] | skip)) | (with_reducible apply Br_s <;> intro hbr))))
            all_goals first | (exfalso; omega) | (first | exact Fin_flat trivial rfl rfl | (refine Fin_tup trivial rfl ?_ (Nat.le_of_ble_eq_true rfl); (repeat (first | exact All2.nil | (apply All2.cons; (· first | exact exc_n | exact exc_e | exact exc_v rfl rfl | exact exc_o upd_self rfl rfl)))); done) | (refine Fin_own trivial rfl upd_self ?_ (Nat.le_of_ble_eq_true rfl); (repeat (first | exact All2.nil | (apply All2.cons; (· first | exact exc_n | exact exc_e | exact exc_v rfl rfl | exact exc_o upd_self rfl rfl)))); done) | exact Fin_nil trivial rfl | exact Fin_sl trivial rfl upd_self rfl rfl)
        · rw [if_neg h3]
          rw [decide_eq_true (hm.2 h3)] at co
          repeat' (first | (with_reducible first | refine W_seq ?_ | refine then_n ?_ | refine W_block ?_ | refine blk_n ?_ | refine blk_r ?_ | refine blk_e ?_ | refine W_skip ?_ | refine W_ret ?_ | refine then_r ?_) | ((with_reducible refine s_reg ?_); intro K hK) | ((with_reducible refine k_nil ?_); (with_reducible apply s_nil hK); (· exact nmX); clear hK; clear K) | ((with_reducible refine k_cond ?_); (first | ((with_reducible apply s_condT); (· rfl); (· exact nmX)) | ((with_reducible apply s_condF); (· rfl); (· exact nmX)) | ((with_reducible apply s_condS); (· rfl); (· exact nmX); (· exact nmX)))) | ((with_reducible refine k_guard ?_); (first | (refine s_gt rfl ?_) | (refine s_gf1 rfl ?_) | (refine s_gfn rfl ?_) | (refine s_gx1 rfl ?_) | (refine s_gxn rfl ?_) | (refine s_gs rfl ?_))) | ((with_reducible refine k_mv ?_); (refine s_mv rfl ?_)) | ((with_reducible refine k_len ?_); (first | (refine s_len rfl rfl ?_) | ((with_reducible apply s_len); (· rfl); (· exact SlOwn.len (by assumption))))) | ((with_reducible refine k_pick ?_); (first | (refine s_pickT rfl rfl ?_) | (refine s_pickF rfl rfl ?_))) | ((with_reducible refine k_not ?_); (refine s_not rfl (by first | exact Bool.not_true | exact Bool.not_false | rfl) ?_)) | ((with_reducible refine k_lss ?_); (refine s_lss rfl rfl ?_)) | ((with_reducible refine k_gtr ?_); (refine s_gtr rfl rfl ?_)) | ((with_reducible refine k_callF ?_); (first | ((with_reducible apply s_call1); (· rfl)) | ((with_reducible apply s_calln); (· rfl)))) | ((with_reducible refine k_con ?_); (first | ((with_reducible apply con_val (ct)); (· (exact agX)); (· rfl); (· exact fun _ => rfl)) | ((with_reducible apply con_val (ca)); (· (exact agX)); (· rfl); (· exact fun _ => rfl)) | ((with_reducible apply con_val (co)); (· (exact agX)); (· rfl); (· exact fun _ => rfl)))) | ((with_reducible refine k_br ?_); (first | (with_reducible first | refine Br_dec ?_ | refine Br_not ?_ | refine Br_eqF ?_ | refine Br_and ?_ | refine Br_or ?_ | refine Br_neg ?_ | refine Br_band ?_ | refine Br_bor ?_ | refine Br_beq ?_) | (refine Br_t (by first | with_reducible rfl | omega | assumption | rfl) ?_) | (refine Br_f (by first | omega | assumption | decide) ?_) | (with_reducible apply Br_sb <;> intro hbr <;> (first | subst hbr | simp only [hbr] | skip)) | (with_reducible apply Br_s <;> intro hbr))))
          all_goals first | (exfalso; omega) | (first | exact Fin_flat trivial rfl rfl | (refine Fin_tup trivial rfl ?_ (Nat.le_of_ble_eq_true rfl); (repeat (first | exact All2.nil | (apply All2.cons; (· first | exact exc_n | exact exc_e | exact exc_v rfl rfl | exact exc_o upd_self rfl rfl)))); done) | (refine Fin_own trivial rfl upd_self ?_ (Nat.le_of_ble_eq_true rfl); (repeat (first | exact All2.nil | (apply All2.cons; (· first | exact exc_n | exact exc_e | exact exc_v rfl rfl | exact exc_o upd_self rfl rfl)))); done) | exact Fin_nil trivial rfl | exact Fin_sl trivial rfl upd_self rfl rfl)
      · rw [if_neg h2]
        rw [decide_eq_false h2] at ca
        repeat' (first | (with_reducible first | refine W_seq ?_ | refine then_n ?_ | refine W_block ?_ | refine blk_n ?_ | refine blk_r ?_ | refine blk_e ?_ | refine W_skip ?_ | refine W_ret ?_ | refine then_r ?_) | ((with_reducible refine s_reg ?_); intro K hK) | ((with_reducible refine k_nil ?_); (with_reducible apply s_nil hK); (· exact nmX); clear hK; clear K) | ((with_reducible refine k_cond ?_); (first | ((with_reducible apply s_condT); (· rfl); (· exact nmX)) | ((with_reducible apply s_condF); (· rfl); (· exact nmX)) | ((with_reducible apply s_condS); (· rfl); (· exact nmX); (· exact nmX)))) | ((with_reducible refine k_guard ?_); (first | (refine s_gt rfl ?_) | (refine s_gf1 rfl ?_) | (refine s_gfn rfl ?_) | (refine s_gx1 rfl ?_) | (refine s_gxn rfl ?_) | (refine s_gs rfl ?_))) | ((with_reducible refine k_mv ?_); (refine s_mv rfl ?_)) | ((with_reducible refine k_len ?_); (first | (refine s_len rfl rfl ?_) | ((with_reducible apply s_len); (· rfl); (· exact SlOwn.len (by assumption))))) | ((with_reducible refine k_pick ?_); (first | (refine s_pickT rfl rfl ?_) | (refine s_pickF rfl rfl ?_))) | ((with_reducible refine k_not ?_); (refine s_not rfl (by first | exact Bool.not_true | exact Bool.not_false | rfl) ?_)) | ((with_reducible refine k_lss ?_); (refine s_lss rfl rfl ?_)) | ((with_reducible refine k_gtr ?_); (refine s_gtr rfl rfl ?_)) | ((with_reducible refine k_callF ?_); (first | ((with_reducible apply s_call1); (· rfl)) | ((with_reducible apply s_calln); (· rfl)))) | ((with_reducible refine k_con ?_); (first | ((with_reducible apply con_val (ct)); (· (exact agX)); (· rfl); (· exact fun _ => rfl)) | ((with_reducible apply con_val (ca)); (· (exact agX)); (· rfl); (· exact fun _ => rfl)))) | ((with_reducible refine k_br ?_); (first | (with_reducible first | refine Br_dec ?_ | refine Br_not ?_ | refine Br_eqF ?_ | refine Br_and ?_ | refine Br_or ?_ | refine Br_neg ?_ | refine Br_band ?_ | refine Br_bor ?_ | refine Br_beq ?_) | (refine Br_t (by first | with_reducible rfl | omega | assumption | rfl) ?_) | (refine Br_f (by first | omega | assumption | decide) ?_) | (with_reducible apply Br_sb <;> intro hbr <;> (first | subst hbr | simp only [hbr] | skip)) | (with_reducible apply Br_s <;> intro hbr))))
        all_goals first | (exfalso; omega) | (first | exact Fin_flat trivial rfl rfl | (refine Fin_tup trivial rfl ?_ (Nat.le_of_ble_eq_true rfl); (repeat (first | exact All2.nil | (apply All2.cons; (· first | exact exc_n | exact exc_e | exact exc_v rfl rfl | exact exc_o upd_self rfl rfl)))); done) | (refine Fin_own trivial rfl upd_self ?_ (Nat.le_of_ble_eq_true rfl); (repeat (first | exact All2.nil | (apply All2.cons; (· first | exact exc_n | exact exc_e | exact exc_v rfl rfl | exact exc_o upd_self rfl rfl)))); done) | exact Fin_nil trivial rfl | exact Fin_sl trivial rfl upd_self rfl rfl)
    · rw [if_neg h1]
      rw [decide_eq_false h1] at ct
      repeat' (first | (with_reducible first | refine W_seq ?_ | refine then_n ?_ | refine W_block ?_ | refine blk_n ?_ | refine blk_r ?_ | refine blk_e ?_ | refine W_skip ?_ | refine W_ret ?_ | refine then_r ?_) | ((with_reducible refine s_reg ?_); intro K hK) | ((with_reducible refine k_nil ?_); (with_reducible apply s_nil hK); (· exact nmX); clear hK; clear K) | ((with_reducible refine k_cond ?_); (first | ((with_reducible apply s_condT); (· rfl); (· exact nmX)) | ((with_reducible apply s_condF); (· rfl); (· exact nmX)) | ((with_reducible apply s_condS); (· rfl); (· exact nmX); (· exact nmX)))) | ((with_reducible refine k_guard ?_); (first | (refine s_gt rfl ?_) | (refine s_gf1 rfl ?_) | (refine s_gfn rfl ?_) | (refine s_gx1 rfl ?_) | (refine s_gxn rfl ?_) | (refine s_gs rfl ?_))) | ((with_reducible refine k_mv ?_); (refine s_mv rfl ?_)) | ((with_reducible refine k_len ?_); (first | (refine s_len rfl rfl ?_) | ((with_reducible apply s_len); (· rfl); (· exact SlOwn.len (by assumption))))) | ((with_reducible refine k_pick ?_); (first | (refine s_pickT rfl rfl ?_) | (refine s_pickF rfl rfl ?_))) | ((with_reducible refine k_not ?_); (refine s_not rfl (by first | exact Bool.not_true | exact Bool.not_false | rfl) ?_)) | ((with_reducible refine k_lss ?_); (refine s_lss rfl rfl ?_)) | ((with_reducible refine k_gtr ?_); (refine s_gtr rfl rfl ?_)) | ((with_reducible refine k_callF ?_); (first | ((with_reducible apply s_call1); (· rfl)) | ((with_reducible apply s_calln); (· rfl)))) | ((with_reducible refine k_con ?_); (first | ((with_reducible apply con_val (ct)); (· (exact agX)); (· rfl); (· exact fun _ => rfl)))) | ((with_reducible refine k_br ?_); (first | (with_reducible first | refine Br_dec ?_ | refine Br_not ?_ | refine Br_eqF ?_ | refine Br_and ?_ | refine Br_or ?_ | refine Br_neg ?_ | refine Br_band ?_ | refine Br_bor ?_ | refine Br_beq ?_) | (refine Br_t (by first | with_reducible rfl | omega | assumption | rfl) ?_) | (refine Br_f (by first | omega | assumption | decide) ?_) | (with_reducible apply Br_sb <;> intro hbr <;> (first | subst hbr | simp only [hbr] | skip)) | (with_reducible apply Br_s <;> intro hbr))))
      all_goals first | (exfalso; omega) | (first | exact Fin_flat trivial rfl rfl | (refine Fin_tup trivial rfl ?_ (Nat.le_of_ble_eq_true rfl); (repeat (first | exact All2.nil | (apply All2.cons; (· first | exact exc_n | exact exc_e | exact exc_v rfl rfl | exact exc_o upd_self rfl rfl)))); done) | (refine Fin_own trivial rfl upd_self ?_ (Nat.le_of_ble_eq_true rfl); (repeat (first | exact All2.nil | (apply All2.cons; (· first | exact exc_n | exact exc_e | exact exc_v rfl rfl | exact exc_o upd_self rfl rfl)))); done) | exact Fin_nil trivial rfl | exact Fin_sl trivial rfl upd_self rfl rfl)
end Go.Proofs.Ytolnhkpckbgmgaa
end
section
/- min -/
/- Accounts: the reference's error of a list. -/
set_option linter.unusedSimpArgs false
set_option linter.unusedVariables false
namespace Go.Proofs.Ytolnhkpckbgmgaa
open Go.AM
set_option maxRecDepth 100000
set_option maxHeartbeats 4000000
theorem rkids_c (l : List Acct) (hl : l.length ≤ 8) (h0 : 0 < l.length) (ha : amtTo l l.length) (a : Int) : PCon Try.prog 36 [accs l, .int .i64 a] (.int .i64 (kids l a)) := by
  obtain ⟨m, hm⟩ : ∃ m, l.length = m + 1 := ⟨l.length - 1, by omega⟩
  refine A36p (by simp [A36]) ?_
  simp only [A36, argEnv]
  have hal := accs_len l
  repeat' (first | (with_reducible first | refine W_seq ?_ | refine then_n ?_ | refine W_block ?_ | refine blk_n ?_ | refine blk_r ?_ | refine blk_e ?_ | refine W_skip ?_ | refine W_ret ?_ | refine then_r ?_ | refine W_exit ?_ | refine then_e ?_) | ((with_reducible refine s_reg ?_); intro K hK) | ((with_reducible refine k_nil ?_); (with_reducible apply s_nil hK); (· exact nmX); clear hK; clear K) | ((with_reducible refine k_mv ?_); (refine s_mv rfl ?_)))
  refine W_for m (fun i st => st = ⟨[(0, accs l), (1, .int .i64 a), (5, .int .i64 (kidsTo l a (i + 1))), (6, .int .i64 ((i + 1 : Nat) : Int))], fun _ => none⟩) (by simp [kidsTo]) ?_ ?_
  · rintro i e' h' hi he
    cases he
    have hi' : i + 1 < l.length := by omega
    have hk := kidsTo_in ha a (i + 1)
    have hu := us_in ha (i + 1)
    have hs : kidsTo l a (i + 1 + 1) = kidsTo l a (i + 1) + (if 0 < i + 1 ∧ pa l (i + 1) = a then us l (i + 1) else 0) := rfl
    rw [us_at hi'] at hu
    rw [pa_at hi', us_at hi'] at hs
    repeat' (first | (with_reducible first | refine W_seq ?_ | refine then_n ?_ | refine W_block ?_ | refine blk_n ?_ | refine blk_r ?_ | refine blk_e ?_ | refine W_skip ?_ | refine W_ret ?_ | refine then_r ?_ | refine W_exit ?_ | refine then_e ?_) | ((with_reducible refine s_reg ?_); intro K hK) | ((with_reducible refine k_nil ?_); (with_reducible apply s_nil hK); (· exact nmX); clear hK; clear K) | ((with_reducible refine k_cond ?_); (first | ((with_reducible apply s_condT); (· rfl); (· exact nmX)) | ((with_reducible apply s_condF); (· rfl); (· exact nmX)) | ((with_reducible apply s_condS); (· rfl); (· exact nmX); (· exact nmX)))) | ((with_reducible refine k_mv ?_); (refine s_mv rfl ?_)) | ((with_reducible refine k_len ?_); (first | (refine s_len rfl rfl ?_) | ((with_reducible apply s_len); (· rfl); (· exact SlOwn.len (by assumption))))) | ((with_reducible refine k_eql ?_); (first | (refine s_eql rfl rfl ?_) | (refine s_strEq rfl rfl ?_))) | ((with_reducible refine k_lss ?_); (refine s_lss rfl rfl ?_)) | ((with_reducible refine k_iaddr ?_); (first | ((with_reducible apply s_iaddrV); (· rfl); (· rfl); (· (first | omega | exact ⟨rfl, by omega⟩ | skip))) | ((with_reducible apply s_iaddrO); (· rfl); (· rfl); (· (first | omega | exact ⟨rfl, by omega⟩ | skip)); (· (exact hpX))) | ((with_reducible apply s_iaddrSO); (· rfl); (· assumption); (· rfl); (· (first | omega | exact ⟨rfl, by omega⟩ | skip)); (· (first | (simp (disch := omega) only [w64, wu8, wu16, wu32, wu64, tm_nn, td_nn, fd_nn, Int.reduceAdd, Int.reduceSub, Int.reduceMul, Int.reduceDiv, Int.reduceMod, Int.reduceNeg, Int.reduceToNat, Int.toNat_natCast, Int.toNat_zero, Int.zero_add, Int.add_zero, Int.one_mul, Int.reducePow, Nat.mul_one, Nat.zero_add, Nat.add_zero, Nat.zero_mul, Nat.reduceAdd, Nat.reduceMul, Nat.reduceSub, Nat.min_eq_left, IntKind.bits, Nat.sub_zero, ac0, ac1]; try rfl; done) | rfl)); intro ks hks))) | ((with_reducible refine k_load ?_); (first | ((with_reducible apply s_loadV); (· rfl)) | ((with_reducible apply s_loadP); (· rfl); (· (exact hpX))))) | ((with_reducible refine k_add ?_); ((with_reducible apply s_add); (· rfl); (· rfl))) | ((with_reducible refine k_faddr ?_); (first | ((with_reducible apply s_faddrV); (· rfl); (· rfl)) | ((with_reducible apply s_faddrP); (· rfl); (· rfl)))) | ((with_reducible refine k_br ?_); (first | (with_reducible first | refine Br_dec ?_ | refine Br_not ?_ | refine Br_eqF ?_ | refine Br_and ?_ | refine Br_or ?_ | refine Br_neg ?_ | refine Br_band ?_ | refine Br_bor ?_ | refine Br_beq ?_) | (refine Br_t (by first | with_reducible rfl | omega | assumption | rfl) ?_) | (refine Br_f (by first | omega | assumption | decide) ?_) | (with_reducible apply Br_sb <;> intro hbr <;> (first | subst hbr | simp only [hbr] | skip)) | (with_reducible apply Br_s <;> intro hbr))) | ((first | (with_reducible apply q_eqI) | (with_reducible apply q_eqN)); (first | (simp (disch := omega) only [w64, wu8, wu16, wu32, wu64, tm_nn, td_nn, fd_nn, Int.reduceAdd, Int.reduceSub, Int.reduceMul, Int.reduceDiv, Int.reduceMod, Int.reduceNeg, Int.reduceToNat, Int.toNat_natCast, Int.toNat_zero, Int.zero_add, Int.add_zero, Int.one_mul, Int.reducePow, Nat.mul_one, Nat.zero_add, Nat.add_zero, Nat.zero_mul, Nat.reduceAdd, Nat.reduceMul, Nat.reduceSub, Nat.min_eq_left, IntKind.bits, Nat.sub_zero, ac0, ac1]; try rfl; done) | rfl)) | ((first | (with_reducible apply q_eqL) | (with_reducible apply q_eqO)); (first | (simp (disch := omega) only [upd_self, upd_ne, upd_upd, rep, splice, List.take_succ_cons, List.take_zero, List.drop_succ_cons, List.drop_zero, List.cons_append, List.nil_append, List.append_nil, List.length_cons, List.length_nil, List.reduceReplicate, List.flatten_cons, List.flatten_nil, Nat.reduceAdd, Nat.reduceMul, Nat.reduceSub, Nat.zero_add, Nat.add_zero, List.getElem?_cons_zero, List.getElem?_cons_succ, ac0, ac1]; try rfl; done) | rfl)))
    · rw [hs, if_pos ⟨by omega, hbr⟩]; rfl
    · rw [hs, if_neg (fun h => hbr h.2), Int.add_zero]; rfl
  · rintro e' h' he
    cases he
    repeat' (first | (with_reducible first | refine W_seq ?_ | refine then_n ?_ | refine W_block ?_ | refine blk_n ?_ | refine blk_r ?_ | refine blk_e ?_ | refine W_skip ?_ | refine W_ret ?_ | refine then_r ?_ | refine W_exit ?_ | refine then_e ?_) | ((with_reducible refine s_reg ?_); intro K hK) | ((with_reducible refine k_nil ?_); (with_reducible apply s_nil hK); (· exact nmX); clear hK; clear K) | ((with_reducible refine k_cond ?_); (first | ((with_reducible apply s_condT); (· rfl); (· exact nmX)) | ((with_reducible apply s_condF); (· rfl); (· exact nmX)) | ((with_reducible apply s_condS); (· rfl); (· exact nmX); (· exact nmX)))) | ((with_reducible refine k_mv ?_); (refine s_mv rfl ?_)) | ((with_reducible refine k_len ?_); (first | (refine s_len rfl rfl ?_) | ((with_reducible apply s_len); (· rfl); (· exact SlOwn.len (by assumption))))) | ((with_reducible refine k_lss ?_); (refine s_lss rfl rfl ?_)) | ((with_reducible refine k_br ?_); (first | (with_reducible first | refine Br_dec ?_ | refine Br_not ?_ | refine Br_eqF ?_ | refine Br_and ?_ | refine Br_or ?_ | refine Br_neg ?_ | refine Br_band ?_ | refine Br_bor ?_ | refine Br_beq ?_) | (refine Br_t (by first | with_reducible rfl | omega | assumption | rfl) ?_) | (refine Br_f (by first | omega | assumption | decide) ?_) | (with_reducible apply Br_sb <;> intro hbr <;> (first | subst hbr | simp only [hbr] | skip)) | (with_reducible apply Br_s <;> intro hbr))))
    rw [show kids l a = kidsTo l a (m + 1) by rw [kids, hm]]
    first | exact Fin_flat trivial rfl rfl | (refine Fin_tup trivial rfl ?_ (Nat.le_of_ble_eq_true rfl); (repeat (first | exact All2.nil | (apply All2.cons; (· first | exact exc_n | exact exc_e | exact exc_v rfl rfl | exact exc_o upd_self rfl rfl)))); done) | (refine Fin_own trivial rfl upd_self ?_ (Nat.le_of_ble_eq_true rfl); (repeat (first | exact All2.nil | (apply All2.cons; (· first | exact exc_n | exact exc_e | exact exc_v rfl rfl | exact exc_o upd_self rfl rfl)))); done) | exact Fin_nil trivial rfl | exact Fin_sl trivial rfl upd_self rfl rfl
open Classical in
theorem rcheck_c (l : List Acct) (hL : l.length ≤ 9223372036854775807) : PCon Try.prog 47 [accs l] (.int .i64 (chkF l)) := by
  have hal := accs_len l
  refine A47p (by simp [A47]) ?_
  simp only [A47, argEnv]
  by_cases h9 : l.length < 1 ∨ 8 < l.length
  · have hr : chkF l = 9 := by unfold chkF; rw [if_pos h9]
    rw [hr]
    repeat' (first | (with_reducible first | refine W_seq ?_ | refine then_n ?_ | refine W_block ?_ | refine blk_n ?_ | refine blk_r ?_ | refine blk_e ?_ | refine W_skip ?_ | refine W_ret ?_ | refine then_r ?_ | refine W_exit ?_ | refine then_e ?_) | ((with_reducible refine s_reg ?_); intro K hK) | ((with_reducible refine k_nil ?_); (with_reducible apply s_nil hK); (· exact nmX); clear hK; clear K) | ((with_reducible refine k_cond ?_); (first | ((with_reducible apply s_condT); (· rfl); (· exact nmX)) | ((with_reducible apply s_condF); (· rfl); (· exact nmX)) | ((with_reducible apply s_condS); (· rfl); (· exact nmX); (· exact nmX)))) | ((with_reducible refine k_guard ?_); (first | (refine s_gt rfl ?_) | (refine s_gf1 rfl ?_) | (refine s_gfn rfl ?_) | (refine s_gx1 rfl ?_) | (refine s_gxn rfl ?_) | (refine s_gs rfl ?_))) | ((with_reducible refine k_mv ?_); (refine s_mv rfl ?_)) | ((with_reducible refine k_len ?_); (first | (refine s_len rfl rfl ?_) | ((with_reducible apply s_len); (· rfl); (· exact SlOwn.len (by assumption))))) | ((with_reducible refine k_pick ?_); (first | (refine s_pickT rfl rfl ?_) | (refine s_pickF rfl rfl ?_))) | ((with_reducible refine k_lss ?_); (refine s_lss rfl rfl ?_)) | ((with_reducible refine k_gtr ?_); (refine s_gtr rfl rfl ?_)) | ((with_reducible refine k_br ?_); (first | (with_reducible first | refine Br_dec ?_ | refine Br_not ?_ | refine Br_eqF ?_ | refine Br_and ?_ | refine Br_or ?_ | refine Br_neg ?_ | refine Br_band ?_ | refine Br_bor ?_ | refine Br_beq ?_) | (refine Br_t (by first | with_reducible rfl | omega | assumption | rfl) ?_) | (refine Br_f (by first | omega | assumption | decide) ?_) | (with_reducible apply Br_sb <;> intro hbr <;> (first | subst hbr | simp only [hbr] | skip)) | (with_reducible apply Br_s <;> intro hbr))))
    all_goals first | exact Fin_flat trivial rfl rfl | (refine Fin_tup trivial rfl ?_ (Nat.le_of_ble_eq_true rfl); (repeat (first | exact All2.nil | (apply All2.cons; (· first | exact exc_n | exact exc_e | exact exc_v rfl rfl | exact exc_o upd_self rfl rfl)))); done) | (refine Fin_own trivial rfl upd_self ?_ (Nat.le_of_ble_eq_true rfl); (repeat (first | exact All2.nil | (apply All2.cons; (· first | exact exc_n | exact exc_e | exact exc_v rfl rfl | exact exc_o upd_self rfl rfl)))); done) | exact Fin_nil trivial rfl | exact Fin_sl trivial rfl upd_self rfl rfl
  · have hr : chkF l = if treeP l then (if amtP l then (if maxP l then (if sumP l then 0 else 11) else 17) else 2) else 1 := by unfold chkF; rw [if_neg h9]
    repeat' (first | (with_reducible first | refine W_seq ?_ | refine then_n ?_ | refine W_block ?_ | refine blk_n ?_ | refine blk_r ?_ | refine blk_e ?_ | refine W_skip ?_ | refine W_ret ?_ | refine then_r ?_ | refine W_exit ?_ | refine then_e ?_) | ((with_reducible refine s_reg ?_); intro K hK) | ((with_reducible refine k_nil ?_); (with_reducible apply s_nil hK); (· exact nmX); clear hK; clear K) | ((with_reducible refine k_cond ?_); (first | ((with_reducible apply s_condT); (· rfl); (· exact nmX)) | ((with_reducible apply s_condF); (· rfl); (· exact nmX)) | ((with_reducible apply s_condS); (· rfl); (· exact nmX); (· exact nmX)))) | ((with_reducible refine k_guard ?_); (first | (refine s_gt rfl ?_) | (refine s_gf1 rfl ?_) | (refine s_gfn rfl ?_) | (refine s_gx1 rfl ?_) | (refine s_gxn rfl ?_) | (refine s_gs rfl ?_))) | ((with_reducible refine k_mv ?_); (refine s_mv rfl ?_)) | ((with_reducible refine k_len ?_); (first | (refine s_len rfl rfl ?_) | ((with_reducible apply s_len); (· rfl); (· exact SlOwn.len (by assumption))))) | ((with_reducible refine k_pick ?_); (first | (refine s_pickT rfl rfl ?_) | (refine s_pickF rfl rfl ?_))) | ((with_reducible refine k_lss ?_); (refine s_lss rfl rfl ?_)) | ((with_reducible refine k_gtr ?_); (refine s_gtr rfl rfl ?_)) | ((with_reducible refine k_br ?_); (first | (with_reducible first | refine Br_dec ?_ | refine Br_not ?_ | refine Br_eqF ?_ | refine Br_and ?_ | refine Br_or ?_ | refine Br_neg ?_ | refine Br_band ?_ | refine Br_bor ?_ | refine Br_beq ?_) | (refine Br_t (by first | with_reducible rfl | omega | assumption | rfl) ?_) | (refine Br_f (by first | omega | assumption | decide) ?_) | (with_reducible apply Br_sb <;> intro hbr <;> (first | subst hbr | simp only [hbr] | skip)) | (with_reducible apply Br_s <;> intro hbr))))
    refine W_for l.length (fun i st => treeTo l i ∧ st = ⟨[(0, accs l), (3, .int .i64 i)], fun _ => none⟩) ⟨fun i h => by omega, rfl⟩ ?_ ?_
    · rintro i e' h' hi ⟨ht, he⟩
      cases he
      repeat' (first | (with_reducible first | refine W_seq ?_ | refine then_n ?_ | refine W_block ?_ | refine blk_n ?_ | refine blk_r ?_ | refine blk_e ?_ | refine W_skip ?_ | refine W_ret ?_ | refine then_r ?_ | refine W_exit ?_ | refine then_e ?_) | ((with_reducible refine s_reg ?_); intro K hK) | ((with_reducible refine k_nil ?_); (with_reducible apply s_nil hK); (· exact nmX); clear hK; clear K) | ((with_reducible refine k_cond ?_); (first | ((with_reducible apply s_condT); (· rfl); (· exact nmX)) | ((with_reducible apply s_condF); (· rfl); (· exact nmX)) | ((with_reducible apply s_condS); (· rfl); (· exact nmX); (· exact nmX)))) | ((with_reducible refine k_guard ?_); (first | (refine s_gt rfl ?_) | (refine s_gf1 rfl ?_) | (refine s_gfn rfl ?_) | (refine s_gx1 rfl ?_) | (refine s_gxn rfl ?_) | (refine s_gs rfl ?_))) | ((with_reducible refine k_mv ?_); (refine s_mv rfl ?_)) | ((with_reducible refine k_len ?_); (first | (refine s_len rfl rfl ?_) | ((with_reducible apply s_len); (· rfl); (· exact SlOwn.len (by assumption))))) | ((with_reducible refine k_pick ?_); (first | (refine s_pickT rfl rfl ?_) | (refine s_pickF rfl rfl ?_))) | ((with_reducible refine k_eql ?_); (first | (refine s_eql rfl rfl ?_) | (refine s_strEq rfl rfl ?_))) | ((with_reducible refine k_neq ?_); (first | (refine s_neq rfl rfl ?_) | (refine s_strNe rfl rfl ?_))) | ((with_reducible refine k_lss ?_); (refine s_lss rfl rfl ?_)) | ((with_reducible refine k_gtr ?_); (refine s_gtr rfl rfl ?_)) | ((with_reducible refine k_geq ?_); (refine s_geq rfl rfl ?_)) | ((with_reducible refine k_iaddr ?_); (first | ((with_reducible apply s_iaddrV); (· rfl); (· rfl); (· (first | omega | exact ⟨rfl, by omega⟩ | skip))) | ((with_reducible apply s_iaddrO); (· rfl); (· rfl); (· (first | omega | exact ⟨rfl, by omega⟩ | skip)); (· (exact hpX))) | ((with_reducible apply s_iaddrSO); (· rfl); (· assumption); (· rfl); (· (first | omega | exact ⟨rfl, by omega⟩ | skip)); (· (first | (simp (disch := omega) only [w64, wu8, wu16, wu32, wu64, tm_nn, td_nn, fd_nn, Int.reduceAdd, Int.reduceSub, Int.reduceMul, Int.reduceDiv, Int.reduceMod, Int.reduceNeg, Int.reduceToNat, Int.toNat_natCast, Int.toNat_zero, Int.zero_add, Int.add_zero, Int.one_mul, Int.reducePow, Nat.mul_one, Nat.zero_add, Nat.add_zero, Nat.zero_mul, Nat.reduceAdd, Nat.reduceMul, Nat.reduceSub, Nat.min_eq_left, IntKind.bits, Nat.sub_zero, ac0]; try rfl; done) | rfl)); intro ks hks))) | ((with_reducible refine k_load ?_); (first | ((with_reducible apply s_loadV); (· rfl)) | ((with_reducible apply s_loadP); (· rfl); (· (exact hpX))))) | ((with_reducible refine k_add ?_); ((with_reducible apply s_add); (· rfl); (· rfl))) | ((with_reducible refine k_faddr ?_); (first | ((with_reducible apply s_faddrV); (· rfl); (· rfl)) | ((with_reducible apply s_faddrP); (· rfl); (· rfl)))) | ((with_reducible refine k_br ?_); (first | (with_reducible first | refine Br_dec ?_ | refine Br_not ?_ | refine Br_eqF ?_ | refine Br_and ?_ | refine Br_or ?_ | refine Br_neg ?_ | refine Br_band ?_ | refine Br_bor ?_ | refine Br_beq ?_) | (refine Br_t (by first | with_reducible rfl | omega | assumption | rfl) ?_) | (refine Br_f (by first | omega | assumption | decide) ?_) | (with_reducible apply Br_sb <;> intro hbr <;> (first | subst hbr | simp only [hbr] | skip)) | (with_reducible apply Br_s <;> intro hbr))) | ((first | (with_reducible apply q_eqI) | (with_reducible apply q_eqN)); (first | (simp (disch := omega) only [w64, wu8, wu16, wu32, wu64, tm_nn, td_nn, fd_nn, Int.reduceAdd, Int.reduceSub, Int.reduceMul, Int.reduceDiv, Int.reduceMod, Int.reduceNeg, Int.reduceToNat, Int.toNat_natCast, Int.toNat_zero, Int.zero_add, Int.add_zero, Int.one_mul, Int.reducePow, Nat.mul_one, Nat.zero_add, Nat.add_zero, Nat.zero_mul, Nat.reduceAdd, Nat.reduceMul, Nat.reduceSub, Nat.min_eq_left, IntKind.bits, Nat.sub_zero, ac0]; try rfl; done) | rfl)) | ((first | (with_reducible apply q_eqL) | (with_reducible apply q_eqO)); (first | (simp (disch := omega) only [upd_self, upd_ne, upd_upd, rep, splice, List.take_succ_cons, List.take_zero, List.drop_succ_cons, List.drop_zero, List.cons_append, List.nil_append, List.append_nil, List.length_cons, List.length_nil, List.reduceReplicate, List.flatten_cons, List.flatten_nil, Nat.reduceAdd, Nat.reduceMul, Nat.reduceSub, Nat.zero_add, Nat.add_zero, List.getElem?_cons_zero, List.getElem?_cons_succ, ac0]; try rfl; done) | rfl)))
      all_goals first
        | exact ⟨treeTo_succ hi ht (by unfold okP; omega), rfl⟩
        | (rw [hr, if_neg (treeP_not hi (by unfold okP; omega))]; first | exact Fin_flat trivial rfl rfl | (refine Fin_tup trivial rfl ?_ (Nat.le_of_ble_eq_true rfl); (repeat (first | exact All2.nil | (apply All2.cons; (· first | exact exc_n | exact exc_e | exact exc_v rfl rfl | exact exc_o upd_self rfl rfl)))); done) | (refine Fin_own trivial rfl upd_self ?_ (Nat.le_of_ble_eq_true rfl); (repeat (first | exact All2.nil | (apply All2.cons; (· first | exact exc_n | exact exc_e | exact exc_v rfl rfl | exact exc_o upd_self rfl rfl)))); done) | exact Fin_nil trivial rfl | exact Fin_sl trivial rfl upd_self rfl rfl)
    · rintro e' h' ⟨h1, he⟩
      cases he
      rw [if_pos (show treeP l from h1)] at hr
      repeat' (first | (with_reducible first | refine W_seq ?_ | refine then_n ?_ | refine W_block ?_ | refine blk_n ?_ | refine blk_r ?_ | refine blk_e ?_ | refine W_skip ?_ | refine W_ret ?_ | refine then_r ?_ | refine W_exit ?_ | refine then_e ?_) | ((with_reducible refine s_reg ?_); intro K hK) | ((with_reducible refine k_nil ?_); (with_reducible apply s_nil hK); (· exact nmX); clear hK; clear K) | ((with_reducible refine k_cond ?_); (first | ((with_reducible apply s_condT); (· rfl); (· exact nmX)) | ((with_reducible apply s_condF); (· rfl); (· exact nmX)) | ((with_reducible apply s_condS); (· rfl); (· exact nmX); (· exact nmX)))) | ((with_reducible refine k_mv ?_); (refine s_mv rfl ?_)) | ((with_reducible refine k_len ?_); (first | (refine s_len rfl rfl ?_) | ((with_reducible apply s_len); (· rfl); (· exact SlOwn.len (by assumption))))) | ((with_reducible refine k_lss ?_); (refine s_lss rfl rfl ?_)) | ((with_reducible refine k_br ?_); (first | (with_reducible first | refine Br_dec ?_ | refine Br_not ?_ | refine Br_eqF ?_ | refine Br_and ?_ | refine Br_or ?_ | refine Br_neg ?_ | refine Br_band ?_ | refine Br_bor ?_ | refine Br_beq ?_) | (refine Br_t (by first | with_reducible rfl | omega | assumption | rfl) ?_) | (refine Br_f (by first | omega | assumption | decide) ?_) | (with_reducible apply Br_sb <;> intro hbr <;> (first | subst hbr | simp only [hbr] | skip)) | (with_reducible apply Br_s <;> intro hbr))))
      refine W_for l.length (fun i st => amtTo l i ∧ st = ⟨[(0, accs l), (4, .int .i64 i)], fun _ => none⟩) ⟨fun i h => by omega, rfl⟩ ?_ ?_
      · rintro i e' h' hi ⟨ht, he⟩
        cases he
        repeat' (first | (with_reducible first | refine W_seq ?_ | refine then_n ?_ | refine W_block ?_ | refine blk_n ?_ | refine blk_r ?_ | refine blk_e ?_ | refine W_skip ?_ | refine W_ret ?_ | refine then_r ?_ | refine W_exit ?_ | refine then_e ?_) | ((with_reducible refine s_reg ?_); intro K hK) | ((with_reducible refine k_nil ?_); (with_reducible apply s_nil hK); (· exact nmX); clear hK; clear K) | ((with_reducible refine k_cond ?_); (first | ((with_reducible apply s_condT); (· rfl); (· exact nmX)) | ((with_reducible apply s_condF); (· rfl); (· exact nmX)) | ((with_reducible apply s_condS); (· rfl); (· exact nmX); (· exact nmX)))) | ((with_reducible refine k_guard ?_); (first | (refine s_gt rfl ?_) | (refine s_gf1 rfl ?_) | (refine s_gfn rfl ?_) | (refine s_gx1 rfl ?_) | (refine s_gxn rfl ?_) | (refine s_gs rfl ?_))) | ((with_reducible refine k_mv ?_); (refine s_mv rfl ?_)) | ((with_reducible refine k_len ?_); (first | (refine s_len rfl rfl ?_) | ((with_reducible apply s_len); (· rfl); (· exact SlOwn.len (by assumption))))) | ((with_reducible refine k_pick ?_); (first | (refine s_pickT rfl rfl ?_) | (refine s_pickF rfl rfl ?_))) | ((with_reducible refine k_not ?_); (refine s_not rfl (by first | exact Bool.not_true | exact Bool.not_false | rfl) ?_)) | ((with_reducible refine k_lss ?_); (refine s_lss rfl rfl ?_)) | ((with_reducible refine k_iaddr ?_); (first | ((with_reducible apply s_iaddrV); (· rfl); (· rfl); (· (first | omega | exact ⟨rfl, by omega⟩ | skip))) | ((with_reducible apply s_iaddrO); (· rfl); (· rfl); (· (first | omega | exact ⟨rfl, by omega⟩ | skip)); (· (exact hpX))) | ((with_reducible apply s_iaddrSO); (· rfl); (· assumption); (· rfl); (· (first | omega | exact ⟨rfl, by omega⟩ | skip)); (· (first | (simp (disch := omega) only [w64, wu8, wu16, wu32, wu64, tm_nn, td_nn, fd_nn, Int.reduceAdd, Int.reduceSub, Int.reduceMul, Int.reduceDiv, Int.reduceMod, Int.reduceNeg, Int.reduceToNat, Int.toNat_natCast, Int.toNat_zero, Int.zero_add, Int.add_zero, Int.one_mul, Int.reducePow, Nat.mul_one, Nat.zero_add, Nat.add_zero, Nat.zero_mul, Nat.reduceAdd, Nat.reduceMul, Nat.reduceSub, Nat.min_eq_left, IntKind.bits, Nat.sub_zero, ac1, ac2, ac3, ac4]; try rfl; done) | rfl)); intro ks hks))) | ((with_reducible refine k_load ?_); (first | ((with_reducible apply s_loadV); (· rfl)) | ((with_reducible apply s_loadP); (· rfl); (· (exact hpX))))) | ((with_reducible refine k_add ?_); ((with_reducible apply s_add); (· rfl); (· rfl))) | ((with_reducible refine k_faddr ?_); (first | ((with_reducible apply s_faddrV); (· rfl); (· rfl)) | ((with_reducible apply s_faddrP); (· rfl); (· rfl)))) | ((with_reducible refine k_callF ?_); (first | ((with_reducible apply s_call1); (· rfl)) | ((with_reducible apply s_calln); (· rfl)))) | ((with_reducible refine k_con ?_); (first | ((with_reducible apply con_valB (rin_c _)); (· (repeat (first | exact All2.nil | (apply All2.cons; (· first | ((apply Rd_sl0); (· exact hpX); (· first | rfl | exact scal_i | exact scal_b | assumption); (· first | rfl | assumption | (simp [ac1, ac2, ac3, ac4]; done) | (simp [ac1, ac2, ac3, ac4]; omega))) | exact rdX)))))))) | ((with_reducible refine k_br ?_); (first | (with_reducible first | refine Br_dec ?_ | refine Br_not ?_ | refine Br_eqF ?_ | refine Br_and ?_ | refine Br_or ?_ | refine Br_neg ?_ | refine Br_band ?_ | refine Br_bor ?_ | refine Br_beq ?_) | (refine Br_t (by first | with_reducible rfl | omega | assumption | rfl) ?_) | (refine Br_f (by first | omega | assumption | decide) ?_) | (with_reducible apply Br_sb <;> intro hbr <;> (first | subst hbr | simp only [hbr] | skip)) | (with_reducible apply Br_s <;> intro hbr))) | ((first | (with_reducible apply q_eqI) | (with_reducible apply q_eqN)); (first | (simp (disch := omega) only [w64, wu8, wu16, wu32, wu64, tm_nn, td_nn, fd_nn, Int.reduceAdd, Int.reduceSub, Int.reduceMul, Int.reduceDiv, Int.reduceMod, Int.reduceNeg, Int.reduceToNat, Int.toNat_natCast, Int.toNat_zero, Int.zero_add, Int.add_zero, Int.one_mul, Int.reducePow, Nat.mul_one, Nat.zero_add, Nat.add_zero, Nat.zero_mul, Nat.reduceAdd, Nat.reduceMul, Nat.reduceSub, Nat.min_eq_left, IntKind.bits, Nat.sub_zero, ac1, ac2, ac3, ac4]; try rfl; done) | rfl)) | ((first | (with_reducible apply q_eqL) | (with_reducible apply q_eqO)); (first | (simp (disch := omega) only [upd_self, upd_ne, upd_upd, rep, splice, List.take_succ_cons, List.take_zero, List.drop_succ_cons, List.drop_zero, List.cons_append, List.nil_append, List.append_nil, List.length_cons, List.length_nil, List.reduceReplicate, List.flatten_cons, List.flatten_nil, Nat.reduceAdd, Nat.reduceMul, Nat.reduceSub, Nat.zero_add, Nat.add_zero, List.getElem?_cons_zero, List.getElem?_cons_succ, ac1, ac2, ac3, ac4]; try rfl; done) | rfl)))
        all_goals first
          | exact ⟨amtTo_succ hi ht (by unfold okA; simp only [*, and_self]), rfl⟩
          | (rw [hr, if_neg (fun h => amtTo_not hi (by unfold okA; simp only [*, and_false, false_and, not_false_eq_true]) h.1)]; first | exact Fin_flat trivial rfl rfl | (refine Fin_tup trivial rfl ?_ (Nat.le_of_ble_eq_true rfl); (repeat (first | exact All2.nil | (apply All2.cons; (· first | exact exc_n | exact exc_e | exact exc_v rfl rfl | exact exc_o upd_self rfl rfl)))); done) | (refine Fin_own trivial rfl upd_self ?_ (Nat.le_of_ble_eq_true rfl); (repeat (first | exact All2.nil | (apply All2.cons; (· first | exact exc_n | exact exc_e | exact exc_v rfl rfl | exact exc_o upd_self rfl rfl)))); done) | exact Fin_nil trivial rfl | exact Fin_sl trivial rfl upd_self rfl rfl)
      · rintro e' h' ⟨h2, he⟩
        cases he
        have h0 : 0 < l.length := by omega
        have z2 := ac2 h0
        have z3 := ac3 h0
        simp only [Nat.zero_mul] at z2 z3
        by_cases hz : zero0 l
        · rw [if_pos (show amtP l from ⟨h2, hz⟩)] at hr
          have hz2 := hz h0
          repeat' (first | (with_reducible first | refine W_seq ?_ | refine then_n ?_ | refine W_block ?_ | refine blk_n ?_ | refine blk_r ?_ | refine blk_e ?_ | refine W_skip ?_ | refine W_ret ?_ | refine then_r ?_ | refine W_exit ?_ | refine then_e ?_) | ((with_reducible refine s_reg ?_); intro K hK) | ((with_reducible refine k_nil ?_); (with_reducible apply s_nil hK); (· exact nmX); clear hK; clear K) | ((with_reducible refine k_cond ?_); (first | ((with_reducible apply s_condT); (· rfl); (· exact nmX)) | ((with_reducible apply s_condF); (· rfl); (· exact nmX)) | ((with_reducible apply s_condS); (· rfl); (· exact nmX); (· exact nmX)))) | ((with_reducible refine k_guard ?_); (first | (refine s_gt rfl ?_) | (refine s_gf1 rfl ?_) | (refine s_gfn rfl ?_) | (refine s_gx1 rfl ?_) | (refine s_gxn rfl ?_) | (refine s_gs rfl ?_))) | ((with_reducible refine k_mv ?_); (refine s_mv rfl ?_)) | ((with_reducible refine k_len ?_); (first | (refine s_len rfl rfl ?_) | ((with_reducible apply s_len); (· rfl); (· exact SlOwn.len (by assumption))))) | ((with_reducible refine k_pick ?_); (first | (refine s_pickT rfl rfl ?_) | (refine s_pickF rfl rfl ?_))) | ((with_reducible refine k_neq ?_); (first | (refine s_neq rfl rfl ?_) | (refine s_strNe rfl rfl ?_))) | ((with_reducible refine k_lss ?_); (refine s_lss rfl rfl ?_)) | ((with_reducible refine k_iaddr ?_); (first | ((with_reducible apply s_iaddrV); (· rfl); (· rfl); (· (first | omega | exact ⟨rfl, by omega⟩ | skip))) | ((with_reducible apply s_iaddrO); (· rfl); (· rfl); (· (first | omega | exact ⟨rfl, by omega⟩ | skip)); (· (exact hpX))) | ((with_reducible apply s_iaddrSO); (· rfl); (· assumption); (· rfl); (· (first | omega | exact ⟨rfl, by omega⟩ | skip)); (· (first | (simp (disch := omega) only [w64, wu8, wu16, wu32, wu64, tm_nn, td_nn, fd_nn, Int.reduceAdd, Int.reduceSub, Int.reduceMul, Int.reduceDiv, Int.reduceMod, Int.reduceNeg, Int.reduceToNat, Int.toNat_natCast, Int.toNat_zero, Int.zero_add, Int.add_zero, Int.one_mul, Int.reducePow, Nat.mul_one, Nat.zero_add, Nat.add_zero, Nat.zero_mul, Nat.reduceAdd, Nat.reduceMul, Nat.reduceSub, Nat.min_eq_left, IntKind.bits, Nat.sub_zero, z2, z3]; try rfl; done) | rfl)); intro ks hks))) | ((with_reducible refine k_load ?_); (first | ((with_reducible apply s_loadV); (· rfl)) | ((with_reducible apply s_loadP); (· rfl); (· (exact hpX))))) | ((with_reducible refine k_faddr ?_); (first | ((with_reducible apply s_faddrV); (· rfl); (· rfl)) | ((with_reducible apply s_faddrP); (· rfl); (· rfl)))) | ((with_reducible refine k_br ?_); (first | (with_reducible first | refine Br_dec ?_ | refine Br_not ?_ | refine Br_eqF ?_ | refine Br_and ?_ | refine Br_or ?_ | refine Br_neg ?_ | refine Br_band ?_ | refine Br_bor ?_ | refine Br_beq ?_) | (refine Br_t (by first | with_reducible rfl | omega | assumption | rfl) ?_) | (refine Br_f (by first | omega | assumption | decide) ?_) | (with_reducible apply Br_sb <;> intro hbr <;> (first | subst hbr | simp only [hbr] | skip)) | (with_reducible apply Br_s <;> intro hbr))) | ((first | (with_reducible apply q_eqI) | (with_reducible apply q_eqN)); (first | (simp (disch := omega) only [w64, wu8, wu16, wu32, wu64, tm_nn, td_nn, fd_nn, Int.reduceAdd, Int.reduceSub, Int.reduceMul, Int.reduceDiv, Int.reduceMod, Int.reduceNeg, Int.reduceToNat, Int.toNat_natCast, Int.toNat_zero, Int.zero_add, Int.add_zero, Int.one_mul, Int.reducePow, Nat.mul_one, Nat.zero_add, Nat.add_zero, Nat.zero_mul, Nat.reduceAdd, Nat.reduceMul, Nat.reduceSub, Nat.min_eq_left, IntKind.bits, Nat.sub_zero, z2, z3]; try rfl; done) | rfl)) | ((first | (with_reducible apply q_eqL) | (with_reducible apply q_eqO)); (first | (simp (disch := omega) only [upd_self, upd_ne, upd_upd, rep, splice, List.take_succ_cons, List.take_zero, List.drop_succ_cons, List.drop_zero, List.cons_append, List.nil_append, List.append_nil, List.length_cons, List.length_nil, List.reduceReplicate, List.flatten_cons, List.flatten_nil, Nat.reduceAdd, Nat.reduceMul, Nat.reduceSub, Nat.zero_add, Nat.add_zero, List.getElem?_cons_zero, List.getElem?_cons_succ, z2, z3]; try rfl; done) | rfl)))
          refine W_for l.length (fun i st => (∀ j (hj : j < i) (h : j < l.length), l[j].usage ≤ l[j].max) ∧ st = ⟨[(0, accs l), (5, .int .i64 i)], fun _ => none⟩) ⟨fun i h => by omega, rfl⟩ ?_ ?_
          · rintro i e' h' hi ⟨ht, he⟩
            cases he
            repeat' (first | (with_reducible first | refine W_seq ?_ | refine then_n ?_ | refine W_block ?_ | refine blk_n ?_ | refine blk_r ?_ | refine blk_e ?_ | refine W_skip ?_ | refine W_ret ?_ | refine then_r ?_ | refine W_exit ?_ | refine then_e ?_) | ((with_reducible refine s_reg ?_); intro K hK) | ((with_reducible refine k_nil ?_); (with_reducible apply s_nil hK); (· exact nmX); clear hK; clear K) | ((with_reducible refine k_cond ?_); (first | ((with_reducible apply s_condT); (· rfl); (· exact nmX)) | ((with_reducible apply s_condF); (· rfl); (· exact nmX)) | ((with_reducible apply s_condS); (· rfl); (· exact nmX); (· exact nmX)))) | ((with_reducible refine k_mv ?_); (refine s_mv rfl ?_)) | ((with_reducible refine k_len ?_); (first | (refine s_len rfl rfl ?_) | ((with_reducible apply s_len); (· rfl); (· exact SlOwn.len (by assumption))))) | ((with_reducible refine k_lss ?_); (refine s_lss rfl rfl ?_)) | ((with_reducible refine k_gtr ?_); (refine s_gtr rfl rfl ?_)) | ((with_reducible refine k_iaddr ?_); (first | ((with_reducible apply s_iaddrV); (· rfl); (· rfl); (· (first | omega | exact ⟨rfl, by omega⟩ | skip))) | ((with_reducible apply s_iaddrO); (· rfl); (· rfl); (· (first | omega | exact ⟨rfl, by omega⟩ | skip)); (· (exact hpX))) | ((with_reducible apply s_iaddrSO); (· rfl); (· assumption); (· rfl); (· (first | omega | exact ⟨rfl, by omega⟩ | skip)); (· (first | (simp (disch := omega) only [w64, wu8, wu16, wu32, wu64, tm_nn, td_nn, fd_nn, Int.reduceAdd, Int.reduceSub, Int.reduceMul, Int.reduceDiv, Int.reduceMod, Int.reduceNeg, Int.reduceToNat, Int.toNat_natCast, Int.toNat_zero, Int.zero_add, Int.add_zero, Int.one_mul, Int.reducePow, Nat.mul_one, Nat.zero_add, Nat.add_zero, Nat.zero_mul, Nat.reduceAdd, Nat.reduceMul, Nat.reduceSub, Nat.min_eq_left, IntKind.bits, Nat.sub_zero, ac1, ac4]; try rfl; done) | rfl)); intro ks hks))) | ((with_reducible refine k_load ?_); (first | ((with_reducible apply s_loadV); (· rfl)) | ((with_reducible apply s_loadP); (· rfl); (· (exact hpX))))) | ((with_reducible refine k_add ?_); ((with_reducible apply s_add); (· rfl); (· rfl))) | ((with_reducible refine k_faddr ?_); (first | ((with_reducible apply s_faddrV); (· rfl); (· rfl)) | ((with_reducible apply s_faddrP); (· rfl); (· rfl)))) | ((with_reducible refine k_dreg ?_); refine s_dreg rfl rfl ?_; intro K hK) | ((with_reducible refine k_dnil ?_); (with_reducible apply d_nil hK); (· exact nmX); clear hK; clear K) | ((with_reducible refine k_dop ?_); refine d_step (by first | exact Or.inl rfl | exact Or.inr rfl) ?_) | (with_reducible refine d_back ?_) | ((with_reducible refine k_br ?_); (first | (with_reducible first | refine Br_dec ?_ | refine Br_not ?_ | refine Br_eqF ?_ | refine Br_and ?_ | refine Br_or ?_ | refine Br_neg ?_ | refine Br_band ?_ | refine Br_bor ?_ | refine Br_beq ?_) | (refine Br_t (by first | with_reducible rfl | omega | assumption | rfl) ?_) | (refine Br_f (by first | omega | assumption | decide) ?_) | (with_reducible apply Br_sb <;> intro hbr <;> (first | subst hbr | simp only [hbr] | skip)) | (with_reducible apply Br_s <;> intro hbr))) | ((first | (with_reducible apply q_eqI) | (with_reducible apply q_eqN)); (first | (simp (disch := omega) only [w64, wu8, wu16, wu32, wu64, tm_nn, td_nn, fd_nn, Int.reduceAdd, Int.reduceSub, Int.reduceMul, Int.reduceDiv, Int.reduceMod, Int.reduceNeg, Int.reduceToNat, Int.toNat_natCast, Int.toNat_zero, Int.zero_add, Int.add_zero, Int.one_mul, Int.reducePow, Nat.mul_one, Nat.zero_add, Nat.add_zero, Nat.zero_mul, Nat.reduceAdd, Nat.reduceMul, Nat.reduceSub, Nat.min_eq_left, IntKind.bits, Nat.sub_zero, ac1, ac4]; try rfl; done) | rfl)) | ((first | (with_reducible apply q_eqL) | (with_reducible apply q_eqO)); (first | (simp (disch := omega) only [upd_self, upd_ne, upd_upd, rep, splice, List.take_succ_cons, List.take_zero, List.drop_succ_cons, List.drop_zero, List.cons_append, List.nil_append, List.append_nil, List.length_cons, List.length_nil, List.reduceReplicate, List.flatten_cons, List.flatten_nil, Nat.reduceAdd, Nat.reduceMul, Nat.reduceSub, Nat.zero_add, Nat.add_zero, List.getElem?_cons_zero, List.getElem?_cons_succ, ac1, ac4]; try rfl; done) | rfl)))
            · rw [hr, if_neg (fun h => by have := h l[i] (List.getElem_mem hi); omega)]
              first | exact Fin_flat trivial rfl rfl | (refine Fin_tup trivial rfl ?_ (Nat.le_of_ble_eq_true rfl); (repeat (first | exact All2.nil | (apply All2.cons; (· first | exact exc_n | exact exc_e | exact exc_v rfl rfl | exact exc_o upd_self rfl rfl)))); done) | (refine Fin_own trivial rfl upd_self ?_ (Nat.le_of_ble_eq_true rfl); (repeat (first | exact All2.nil | (apply All2.cons; (· first | exact exc_n | exact exc_e | exact exc_v rfl rfl | exact exc_o upd_self rfl rfl)))); done) | exact Fin_nil trivial rfl | exact Fin_sl trivial rfl upd_self rfl rfl
            · refine ⟨fun j hj h => ?_, rfl⟩
              rcases Nat.lt_succ_iff_lt_or_eq.1 hj with h1 | rfl
              · exact ht j h1 h
              · omega
          · rintro e' h' ⟨h3, he⟩
            cases he
            have h3' : maxP l := fun a hm => by
              obtain ⟨j, hj, rfl⟩ := List.mem_iff_getElem.1 hm
              exact h3 j hj hj
            rw [if_pos h3'] at hr
            repeat' (first | (with_reducible first | refine W_seq ?_ | refine then_n ?_ | refine W_block ?_ | refine blk_n ?_ | refine blk_r ?_ | refine blk_e ?_ | refine W_skip ?_ | refine W_ret ?_ | refine then_r ?_ | refine W_exit ?_ | refine then_e ?_) | ((with_reducible refine s_reg ?_); intro K hK) | ((with_reducible refine k_nil ?_); (with_reducible apply s_nil hK); (· exact nmX); clear hK; clear K) | ((with_reducible refine k_cond ?_); (first | ((with_reducible apply s_condT); (· rfl); (· exact nmX)) | ((with_reducible apply s_condF); (· rfl); (· exact nmX)) | ((with_reducible apply s_condS); (· rfl); (· exact nmX); (· exact nmX)))) | ((with_reducible refine k_mv ?_); (refine s_mv rfl ?_)) | ((with_reducible refine k_len ?_); (first | (refine s_len rfl rfl ?_) | ((with_reducible apply s_len); (· rfl); (· exact SlOwn.len (by assumption))))) | ((with_reducible refine k_lss ?_); (refine s_lss rfl rfl ?_)) | ((with_reducible refine k_br ?_); (first | (with_reducible first | refine Br_dec ?_ | refine Br_not ?_ | refine Br_eqF ?_ | refine Br_and ?_ | refine Br_or ?_ | refine Br_neg ?_ | refine Br_band ?_ | refine Br_bor ?_ | refine Br_beq ?_) | (refine Br_t (by first | with_reducible rfl | omega | assumption | rfl) ?_) | (refine Br_f (by first | omega | assumption | decide) ?_) | (with_reducible apply Br_sb <;> intro hbr <;> (first | subst hbr | simp only [hbr] | skip)) | (with_reducible apply Br_s <;> intro hbr))))
            refine W_for l.length (fun i st => (∀ j (hj : j < i) (h : j < l.length), kids l j ≤ us l j) ∧ st = ⟨[(0, accs l), (6, .int .i64 i)], fun _ => none⟩) ⟨fun i h => by omega, rfl⟩ ?_ ?_
            · rintro i e' h' hi ⟨ht, he⟩
              cases he
              have ck := rkids_c l (by omega) h0 h2 i
              have hu := us_at hi
              repeat' (first | (with_reducible first | refine W_seq ?_ | refine then_n ?_ | refine W_block ?_ | refine blk_n ?_ | refine blk_r ?_ | refine blk_e ?_ | refine W_skip ?_ | refine W_ret ?_ | refine then_r ?_ | refine W_exit ?_ | refine then_e ?_) | ((with_reducible refine s_reg ?_); intro K hK) | ((with_reducible refine k_nil ?_); (with_reducible apply s_nil hK); (· exact nmX); clear hK; clear K) | ((with_reducible refine k_cond ?_); (first | ((with_reducible apply s_condT); (· rfl); (· exact nmX)) | ((with_reducible apply s_condF); (· rfl); (· exact nmX)) | ((with_reducible apply s_condS); (· rfl); (· exact nmX); (· exact nmX)))) | ((with_reducible refine k_mv ?_); (refine s_mv rfl ?_)) | ((with_reducible refine k_len ?_); (first | (refine s_len rfl rfl ?_) | ((with_reducible apply s_len); (· rfl); (· exact SlOwn.len (by assumption))))) | ((with_reducible refine k_lss ?_); (refine s_lss rfl rfl ?_)) | ((with_reducible refine k_iaddr ?_); (first | ((with_reducible apply s_iaddrV); (· rfl); (· rfl); (· (first | omega | exact ⟨rfl, by omega⟩ | skip))) | ((with_reducible apply s_iaddrO); (· rfl); (· rfl); (· (first | omega | exact ⟨rfl, by omega⟩ | skip)); (· (exact hpX))) | ((with_reducible apply s_iaddrSO); (· rfl); (· assumption); (· rfl); (· (first | omega | exact ⟨rfl, by omega⟩ | skip)); (· (first | (simp (disch := omega) only [w64, wu8, wu16, wu32, wu64, tm_nn, td_nn, fd_nn, Int.reduceAdd, Int.reduceSub, Int.reduceMul, Int.reduceDiv, Int.reduceMod, Int.reduceNeg, Int.reduceToNat, Int.toNat_natCast, Int.toNat_zero, Int.zero_add, Int.add_zero, Int.one_mul, Int.reducePow, Nat.mul_one, Nat.zero_add, Nat.add_zero, Nat.zero_mul, Nat.reduceAdd, Nat.reduceMul, Nat.reduceSub, Nat.min_eq_left, IntKind.bits, Nat.sub_zero, ac1]; try rfl; done) | rfl)); intro ks hks))) | ((with_reducible refine k_load ?_); (first | ((with_reducible apply s_loadV); (· rfl)) | ((with_reducible apply s_loadP); (· rfl); (· (exact hpX))))) | ((with_reducible refine k_add ?_); ((with_reducible apply s_add); (· rfl); (· rfl))) | ((with_reducible refine k_faddr ?_); (first | ((with_reducible apply s_faddrV); (· rfl); (· rfl)) | ((with_reducible apply s_faddrP); (· rfl); (· rfl)))) | ((with_reducible refine k_dreg ?_); refine s_dreg rfl rfl ?_; intro K hK) | ((with_reducible refine k_dnil ?_); (with_reducible apply d_nil hK); (· exact nmX); clear hK; clear K) | ((with_reducible refine k_dcall ?_); (first | ((with_reducible apply d_call); (· rfl); (· exact ck); (· (repeat (first | exact All2.nil | (apply All2.cons; (· first | ((apply Rd_sl0); (· exact hpX); (· first | rfl | exact scal_i | exact scal_b | assumption); (· first | rfl | assumption | (simp [ac1]; done) | (simp [ac1]; omega))) | exact rdX))))); simp only [unow, unowC, List.map]))) | ((with_reducible refine k_dop ?_); refine d_step (by first | exact Or.inl rfl | exact Or.inr rfl) ?_) | (with_reducible refine d_back ?_) | ((with_reducible refine k_br ?_); (first | (with_reducible first | refine Br_dec ?_ | refine Br_not ?_ | refine Br_eqF ?_ | refine Br_and ?_ | refine Br_or ?_ | refine Br_neg ?_ | refine Br_band ?_ | refine Br_bor ?_ | refine Br_beq ?_) | (refine Br_t (by first | with_reducible rfl | omega | assumption | rfl) ?_) | (refine Br_f (by first | omega | assumption | decide) ?_) | (with_reducible apply Br_sb <;> intro hbr <;> (first | subst hbr | simp only [hbr] | skip)) | (with_reducible apply Br_s <;> intro hbr))) | ((first | (with_reducible apply q_eqI) | (with_reducible apply q_eqN)); (first | (simp (disch := omega) only [w64, wu8, wu16, wu32, wu64, tm_nn, td_nn, fd_nn, Int.reduceAdd, Int.reduceSub, Int.reduceMul, Int.reduceDiv, Int.reduceMod, Int.reduceNeg, Int.reduceToNat, Int.toNat_natCast, Int.toNat_zero, Int.zero_add, Int.add_zero, Int.one_mul, Int.reducePow, Nat.mul_one, Nat.zero_add, Nat.add_zero, Nat.zero_mul, Nat.reduceAdd, Nat.reduceMul, Nat.reduceSub, Nat.min_eq_left, IntKind.bits, Nat.sub_zero, ac1]; try rfl; done) | rfl)) | ((first | (with_reducible apply q_eqL) | (with_reducible apply q_eqO)); (first | (simp (disch := omega) only [upd_self, upd_ne, upd_upd, rep, splice, List.take_succ_cons, List.take_zero, List.drop_succ_cons, List.drop_zero, List.cons_append, List.nil_append, List.append_nil, List.length_cons, List.length_nil, List.reduceReplicate, List.flatten_cons, List.flatten_nil, Nat.reduceAdd, Nat.reduceMul, Nat.reduceSub, Nat.zero_add, Nat.add_zero, List.getElem?_cons_zero, List.getElem?_cons_succ, ac1]; try rfl; done) | rfl)))
              · rw [hr, if_neg (fun h => by have := h i hi; omega)]
                first | exact Fin_flat trivial rfl rfl | (refine Fin_tup trivial rfl ?_ (Nat.le_of_ble_eq_true rfl); (repeat (first | exact All2.nil | (apply All2.cons; (· first | exact exc_n | exact exc_e | exact exc_v rfl rfl | exact exc_o upd_self rfl rfl)))); done) | (refine Fin_own trivial rfl upd_self ?_ (Nat.le_of_ble_eq_true rfl); (repeat (first | exact All2.nil | (apply All2.cons; (· first | exact exc_n | exact exc_e | exact exc_v rfl rfl | exact exc_o upd_self rfl rfl)))); done) | exact Fin_nil trivial rfl | exact Fin_sl trivial rfl upd_self rfl rfl
              · refine ⟨fun j hj h => ?_, rfl⟩
                rcases Nat.lt_succ_iff_lt_or_eq.1 hj with h1 | rfl
                · exact ht j h1 h
                · omega
            · rintro e' h' ⟨h4, he⟩
              cases he
              have h4' : sumP l := fun j hj => h4 j hj hj
              rw [if_pos h4'] at hr
              rw [hr]
              repeat' (first | (with_reducible first | refine W_seq ?_ | refine then_n ?_ | refine W_block ?_ | refine blk_n ?_ | refine blk_r ?_ | refine blk_e ?_ | refine W_skip ?_ | refine W_ret ?_ | refine then_r ?_ | refine W_exit ?_ | refine then_e ?_) | ((with_reducible refine s_reg ?_); intro K hK) | ((with_reducible refine k_nil ?_); (with_reducible apply s_nil hK); (· exact nmX); clear hK; clear K) | ((with_reducible refine k_cond ?_); (first | ((with_reducible apply s_condT); (· rfl); (· exact nmX)) | ((with_reducible apply s_condF); (· rfl); (· exact nmX)) | ((with_reducible apply s_condS); (· rfl); (· exact nmX); (· exact nmX)))) | ((with_reducible refine k_mv ?_); (refine s_mv rfl ?_)) | ((with_reducible refine k_len ?_); (first | (refine s_len rfl rfl ?_) | ((with_reducible apply s_len); (· rfl); (· exact SlOwn.len (by assumption))))) | ((with_reducible refine k_lss ?_); (refine s_lss rfl rfl ?_)) | ((with_reducible refine k_br ?_); (first | (with_reducible first | refine Br_dec ?_ | refine Br_not ?_ | refine Br_eqF ?_ | refine Br_and ?_ | refine Br_or ?_ | refine Br_neg ?_ | refine Br_band ?_ | refine Br_bor ?_ | refine Br_beq ?_) | (refine Br_t (by first | with_reducible rfl | omega | assumption | rfl) ?_) | (refine Br_f (by first | omega | assumption | decide) ?_) | (with_reducible apply Br_sb <;> intro hbr <;> (first | subst hbr | simp only [hbr] | skip)) | (with_reducible apply Br_s <;> intro hbr))))
              all_goals first | exact Fin_flat trivial rfl rfl | (refine Fin_tup trivial rfl ?_ (Nat.le_of_ble_eq_true rfl); (repeat (first | exact All2.nil | (apply All2.cons; (· first | exact exc_n | exact exc_e | exact exc_v rfl rfl | exact exc_o upd_self rfl rfl)))); done) | (refine Fin_own trivial rfl upd_self ?_ (Nat.le_of_ble_eq_true rfl); (repeat (first | exact All2.nil | (apply All2.cons; (· first | exact exc_n | exact exc_e | exact exc_v rfl rfl | exact exc_o upd_self rfl rfl)))); done) | exact Fin_nil trivial rfl | exact Fin_sl trivial rfl upd_self rfl rfl
        · rw [if_neg (fun h : amtP l => hz h.2)] at hr
          rw [hr]
          have hzz : l[0].min = 0 → l[0].low = 0 → False := fun a b => hz fun _ => ⟨a, b⟩
          repeat' (first | (with_reducible first | refine W_seq ?_ | refine then_n ?_ | refine W_block ?_ | refine blk_n ?_ | refine blk_r ?_ | refine blk_e ?_ | refine W_skip ?_ | refine W_ret ?_ | refine then_r ?_ | refine W_exit ?_ | refine then_e ?_) | ((with_reducible refine s_reg ?_); intro K hK) | ((with_reducible refine k_nil ?_); (with_reducible apply s_nil hK); (· exact nmX); clear hK; clear K) | ((with_reducible refine k_cond ?_); (first | ((with_reducible apply s_condT); (· rfl); (· exact nmX)) | ((with_reducible apply s_condF); (· rfl); (· exact nmX)) | ((with_reducible apply s_condS); (· rfl); (· exact nmX); (· exact nmX)))) | ((with_reducible refine k_guard ?_); (first | (refine s_gt rfl ?_) | (refine s_gf1 rfl ?_) | (refine s_gfn rfl ?_) | (refine s_gx1 rfl ?_) | (refine s_gxn rfl ?_) | (refine s_gs rfl ?_))) | ((with_reducible refine k_mv ?_); (refine s_mv rfl ?_)) | ((with_reducible refine k_len ?_); (first | (refine s_len rfl rfl ?_) | ((with_reducible apply s_len); (· rfl); (· exact SlOwn.len (by assumption))))) | ((with_reducible refine k_pick ?_); (first | (refine s_pickT rfl rfl ?_) | (refine s_pickF rfl rfl ?_))) | ((with_reducible refine k_neq ?_); (first | (refine s_neq rfl rfl ?_) | (refine s_strNe rfl rfl ?_))) | ((with_reducible refine k_lss ?_); (refine s_lss rfl rfl ?_)) | ((with_reducible refine k_iaddr ?_); (first | ((with_reducible apply s_iaddrV); (· rfl); (· rfl); (· (first | omega | exact ⟨rfl, by omega⟩ | skip))) | ((with_reducible apply s_iaddrO); (· rfl); (· rfl); (· (first | omega | exact ⟨rfl, by omega⟩ | skip)); (· (exact hpX))) | ((with_reducible apply s_iaddrSO); (· rfl); (· assumption); (· rfl); (· (first | omega | exact ⟨rfl, by omega⟩ | skip)); (· (first | (simp (disch := omega) only [w64, wu8, wu16, wu32, wu64, tm_nn, td_nn, fd_nn, Int.reduceAdd, Int.reduceSub, Int.reduceMul, Int.reduceDiv, Int.reduceMod, Int.reduceNeg, Int.reduceToNat, Int.toNat_natCast, Int.toNat_zero, Int.zero_add, Int.add_zero, Int.one_mul, Int.reducePow, Nat.mul_one, Nat.zero_add, Nat.add_zero, Nat.zero_mul, Nat.reduceAdd, Nat.reduceMul, Nat.reduceSub, Nat.min_eq_left, IntKind.bits, Nat.sub_zero, z2, z3]; try rfl; done) | rfl)); intro ks hks))) | ((with_reducible refine k_load ?_); (first | ((with_reducible apply s_loadV); (· rfl)) | ((with_reducible apply s_loadP); (· rfl); (· (exact hpX))))) | ((with_reducible refine k_faddr ?_); (first | ((with_reducible apply s_faddrV); (· rfl); (· rfl)) | ((with_reducible apply s_faddrP); (· rfl); (· rfl)))) | ((with_reducible refine k_br ?_); (first | (with_reducible first | refine Br_dec ?_ | refine Br_not ?_ | refine Br_eqF ?_ | refine Br_and ?_ | refine Br_or ?_ | refine Br_neg ?_ | refine Br_band ?_ | refine Br_bor ?_ | refine Br_beq ?_) | (refine Br_t (by first | with_reducible rfl | omega | assumption | rfl) ?_) | (refine Br_f (by first | omega | assumption | decide) ?_) | (with_reducible apply Br_sb <;> intro hbr <;> (first | subst hbr | simp only [hbr] | skip)) | (with_reducible apply Br_s <;> intro hbr))) | ((first | (with_reducible apply q_eqI) | (with_reducible apply q_eqN)); (first | (simp (disch := omega) only [w64, wu8, wu16, wu32, wu64, tm_nn, td_nn, fd_nn, Int.reduceAdd, Int.reduceSub, Int.reduceMul, Int.reduceDiv, Int.reduceMod, Int.reduceNeg, Int.reduceToNat, Int.toNat_natCast, Int.toNat_zero, Int.zero_add, Int.add_zero, Int.one_mul, Int.reducePow, Nat.mul_one, Nat.zero_add, Nat.add_zero, Nat.zero_mul, Nat.reduceAdd, Nat.reduceMul, Nat.reduceSub, Nat.min_eq_left, IntKind.bits, Nat.sub_zero, z2, z3]; try rfl; done) | rfl)) | ((first | (with_reducible apply q_eqL) | (with_reducible apply q_eqO)); (first | (simp (disch := omega) only [upd_self, upd_ne, upd_upd, rep, splice, List.take_succ_cons, List.take_zero, List.drop_succ_cons, List.drop_zero, List.cons_append, List.nil_append, List.append_nil, List.length_cons, List.length_nil, List.reduceReplicate, List.flatten_cons, List.flatten_nil, Nat.reduceAdd, Nat.reduceMul, Nat.reduceSub, Nat.zero_add, Nat.add_zero, List.getElem?_cons_zero, List.getElem?_cons_succ, z2, z3]; try rfl; done) | rfl)))
          all_goals first | (exfalso; exact hzz (by omega) (by omega)) | (first | exact Fin_flat trivial rfl rfl | (refine Fin_tup trivial rfl ?_ (Nat.le_of_ble_eq_true rfl); (repeat (first | exact All2.nil | (apply All2.cons; (· first | exact exc_n | exact exc_e | exact exc_v rfl rfl | exact exc_o upd_self rfl rfl)))); done) | (refine Fin_own trivial rfl upd_self ?_ (Nat.le_of_ble_eq_true rfl); (repeat (first | exact All2.nil | (apply All2.cons; (· first | exact exc_n | exact exc_e | exact exc_v rfl rfl | exact exc_o upd_self rfl rfl)))); done) | exact Fin_nil trivial rfl | exact Fin_sl trivial rfl upd_self rfl rfl)
end Go.Proofs.Ytolnhkpckbgmgaa
end
section
/- min -/
/- Accounts: paths, scopes, own usages, totals. -/
set_option linter.unusedSimpArgs false
set_option linter.unusedVariables false
namespace Go.Proofs.Ytolnhkpckbgmgaa
open Go.AM Classical
set_option maxRecDepth 100000
set_option maxHeartbeats 4000000
theorem chk_ok {l : List Acct} (h : chkF l = 0) : (0 < l.length ∧ l.length ≤ 8) ∧ treeP l ∧ amtP l ∧ maxP l ∧ sumP l := by
  unfold chkF at h
  split at h
  · omega
  · split at h
    · split at h
      · split at h
        · split at h
          · exact ⟨by omega, by assumption, by assumption, by assumption, by assumption⟩
          · omega
        · omega
      · omega
    · omega
theorem chk_mk {l : List Acct} (h : 0 < l.length ∧ l.length ≤ 8) (h1 : treeP l) (h2 : amtP l) (h3 : maxP l) (h4 : sumP l) : chkF l = 0 := by
  unfold chkF
  rw [if_neg (by omega), if_pos h1, if_pos h2, if_pos h3, if_pos h4]
def isP (l : List Acct) (a : Int) : Prop := chkF l = 0 ∧ 0 ≤ a ∧ a < l.length
theorem is_c (l : List Acct) (hL : l.length ≤ 9223372036854775807) (a : Int) : PCon Try.prog 43 [accs l, .int .i64 a] (.bool (decide (isP l a))) := by
  refine A43p (by simp [A43]) ?_
  simp only [A43, argEnv]
  have c1 := check_c l hL
  repeat' (first | (with_reducible first | refine W_seq ?_ | refine then_n ?_ | refine W_skip ?_ | refine W_ret ?_ | refine then_r ?_) | ((with_reducible refine s_reg ?_); intro K hK) | ((with_reducible refine k_nil ?_); (with_reducible apply s_nil hK); (· exact nmX); clear hK; clear K) | ((with_reducible refine k_guard ?_); (first | (refine s_gt rfl ?_) | (refine s_gf1 rfl ?_) | (refine s_gfn rfl ?_) | (refine s_gx1 rfl ?_) | (refine s_gxn rfl ?_) | (refine s_gs rfl ?_))) | ((with_reducible refine k_mv ?_); (refine s_mv rfl ?_)) | ((with_reducible refine k_len ?_); (first | (refine s_len rfl rfl ?_) | ((with_reducible apply s_len); (· rfl); (· exact SlOwn.len (by assumption))))) | ((with_reducible refine k_pick ?_); (first | (refine s_pickT rfl rfl ?_) | (refine s_pickF rfl rfl ?_))) | ((with_reducible refine k_eql ?_); (first | (refine s_eql rfl rfl ?_) | (refine s_strEq rfl rfl ?_))) | ((with_reducible refine k_lss ?_); (refine s_lss rfl rfl ?_)) | ((with_reducible refine k_geq ?_); (refine s_geq rfl rfl ?_)) | ((with_reducible refine k_callF ?_); (first | ((with_reducible apply s_call1); (· rfl)) | ((with_reducible apply s_calln); (· rfl)))) | ((with_reducible refine k_con ?_); (first | ((with_reducible apply con_val (c1)); (· (exact agX)); (· rfl); (· exact fun _ => rfl)))) | ((with_reducible refine k_br ?_); (first | (with_reducible first | refine Br_dec ?_ | refine Br_not ?_ | refine Br_eqF ?_ | refine Br_and ?_ | refine Br_or ?_ | refine Br_neg ?_ | refine Br_band ?_ | refine Br_bor ?_ | refine Br_beq ?_) | (refine Br_t (by first | with_reducible rfl | omega | assumption | rfl) ?_) | (refine Br_f (by first | omega | assumption | decide) ?_) | (with_reducible apply Br_sb <;> intro hbr <;> (first | subst hbr | simp only [hbr] | skip)) | (with_reducible apply Br_s <;> intro hbr))))
  all_goals first | exact Fin_bt trivial rfl (by unfold isP; omega) | exact Fin_bf trivial rfl (by unfold isP; omega)
theorem has_c (l : List Acct) (hL : l.length ≤ 9223372036854775807) (a : Int) : PCon Try.prog 35 [accs l, .int .i64 a] (.bool (decide (isP l a))) := by
  refine A35p (by simp [A35]) ?_
  simp only [A35, argEnv]
  have c1 := rcheck_c l hL
  repeat' (first | (with_reducible first | refine W_seq ?_ | refine then_n ?_ | refine W_skip ?_ | refine W_ret ?_ | refine then_r ?_) | ((with_reducible refine s_reg ?_); intro K hK) | ((with_reducible refine k_nil ?_); (with_reducible apply s_nil hK); (· exact nmX); clear hK; clear K) | ((with_reducible refine k_guard ?_); (first | (refine s_gt rfl ?_) | (refine s_gf1 rfl ?_) | (refine s_gfn rfl ?_) | (refine s_gx1 rfl ?_) | (refine s_gxn rfl ?_) | (refine s_gs rfl ?_))) | ((with_reducible refine k_mv ?_); (refine s_mv rfl ?_)) | ((with_reducible refine k_len ?_); (first | (refine s_len rfl rfl ?_) | ((with_reducible apply s_len); (· rfl); (· exact SlOwn.len (by assumption))))) | ((with_reducible refine k_pick ?_); (first | (refine s_pickT rfl rfl ?_) | (refine s_pickF rfl rfl ?_))) | ((with_reducible refine k_eql ?_); (first | (refine s_eql rfl rfl ?_) | (refine s_strEq rfl rfl ?_))) | ((with_reducible refine k_lss ?_); (refine s_lss rfl rfl ?_)) | ((with_reducible refine k_geq ?_); (refine s_geq rfl rfl ?_)) | ((with_reducible refine k_callF ?_); (first | ((with_reducible apply s_call1); (· rfl)) | ((with_reducible apply s_calln); (· rfl)))) | ((with_reducible refine k_con ?_); (first | ((with_reducible apply con_val (c1)); (· (exact agX)); (· rfl); (· exact fun _ => rfl)))) | ((with_reducible refine k_br ?_); (first | (with_reducible first | refine Br_dec ?_ | refine Br_not ?_ | refine Br_eqF ?_ | refine Br_and ?_ | refine Br_or ?_ | refine Br_neg ?_ | refine Br_band ?_ | refine Br_bor ?_ | refine Br_beq ?_) | (refine Br_t (by first | with_reducible rfl | omega | assumption | rfl) ?_) | (refine Br_f (by first | omega | assumption | decide) ?_) | (with_reducible apply Br_sb <;> intro hbr <;> (first | subst hbr | simp only [hbr] | skip)) | (with_reducible apply Br_s <;> intro hbr))))
  all_goals first | exact Fin_bt trivial rfl (by unfold isP; omega) | exact Fin_bf trivial rfl (by unfold isP; omega)
def pathG (l : List Acct) : Nat → Int → List Int
  | 0, _ => []
  | f + 1, a => if 0 ≤ a then a :: pathG l f (pa l a.toNat) else []
noncomputable def pathF (l : List Acct) (a : Int) : List Int := if isP l a then pathG l 8 a else []
theorem pathG_len (l : List Acct) : ∀ f a, (pathG l f a).length ≤ f
  | 0, _ => by simp [pathG]
  | f + 1, a => by
    unfold pathG
    split
    · have := pathG_len l f (pa l a.toNat); simp; omega
    · simp
theorem pathF_len (l : List Acct) (a : Int) : (pathF l a).length ≤ 8 := by
  unfold pathF
  split
  · exact pathG_len l 8 a
  · simp
theorem pa_lt {l : List Acct} (ht : treeP l) {a : Int} (h : 0 ≤ a ∧ a < l.length) : -1 ≤ pa l a.toNat ∧ pa l a.toNat < a := by
  have hi : a.toNat < l.length := by omega
  have := ht a.toNat hi hi
  rw [pa_at hi]
  unfold okP at this
  omega
theorem path_c (l : List Acct) (hL : l.length ≤ 9223372036854775807) (a : Int) : PCon Try.prog 46 [accs l, .int .i64 a] (.ow 1 ((pathF l a).map (.int .i64)) (pathF l a).length) := by
  have c1 := is_c l hL a
  refine A46p (by simp [A46]) ?_
  simp only [A46, argEnv]
  have hal := accs_len l
  by_cases h : isP l a
  · have e1 : pathF l a = pathG l 8 a := if_pos h
    obtain ⟨h0, ht, _⟩ := chk_ok h.1
    have ha := h.2
    rw [decide_eq_true h] at c1
    rw [e1]
    have hpl := pathG_len l 8 a
    repeat' (first | (with_reducible first | refine W_seq ?_ | refine then_n ?_ | refine W_block ?_ | refine blk_n ?_ | refine blk_r ?_ | refine blk_e ?_ | refine W_skip ?_ | refine W_ret ?_ | refine then_r ?_ | refine W_exit ?_ | refine then_e ?_) | ((with_reducible refine s_reg ?_); intro K hK) | ((with_reducible refine k_nil ?_); (with_reducible apply s_nil hK); (· exact nmX); clear hK; clear K) | ((with_reducible refine k_cond ?_); (first | ((with_reducible apply s_condT); (· rfl); (· exact nmX)) | ((with_reducible apply s_condF); (· rfl); (· exact nmX)) | ((with_reducible apply s_condS); (· rfl); (· exact nmX); (· exact nmX)))) | ((with_reducible refine k_mv ?_); (refine s_mv rfl ?_)) | ((with_reducible refine k_not ?_); (refine s_not rfl (by first | exact Bool.not_true | exact Bool.not_false | rfl) ?_)) | ((with_reducible refine k_callF ?_); (first | ((with_reducible apply s_call1); (· rfl)) | ((with_reducible apply s_calln); (· rfl)))) | ((with_reducible refine k_con ?_); (first | ((with_reducible apply con_val (c1)); (· (exact agX)); (· rfl); (· exact fun _ => rfl)))))
    refine W_down 8 (fun f st => ∃ pre x d h', st = ⟨[(0, accs l), (5, d), (6, .int .i64 x)], h'⟩ ∧ SlOwn h' d 1 (pre.map (.int .i64)) pre.length ∧ pre ++ pathG l f x = pathG l 8 a ∧ x < f ∧ -1 ≤ x ∧ x < l.length) ⟨[], a, .nil, _, rfl, SlOwn.nil, rfl, by omega, by omega, by omega⟩ ?_
    rintro f e' h' ⟨pre, x, d, h1, he, ho, hp, hx⟩
    cases he
    have hpre : pre.length ≤ 8 := by have := congrArg List.length hp; rw [List.length_append] at this; omega
    by_cases hx0 : 0 ≤ x
    · obtain ⟨f, rfl⟩ : ∃ g, f = g + 1 := ⟨f - 1, by omega⟩
      have hxl : x.toNat < l.length := by omega
      have hpx := pa_lt ht (a := x) (by omega)
      have hpe := pa_at hxl
      repeat' (first | (with_reducible first | refine W_seq ?_ | refine then_n ?_ | refine W_block ?_ | refine blk_n ?_ | refine blk_r ?_ | refine blk_e ?_ | refine W_skip ?_ | refine W_ret ?_ | refine then_r ?_ | refine W_exit ?_ | refine then_e ?_) | ((with_reducible refine s_reg ?_); intro K hK) | ((with_reducible refine k_nil ?_); (with_reducible apply s_nil hK); (· exact nmX); clear hK; clear K) | ((with_reducible refine k_cond ?_); (first | ((with_reducible apply s_condT); (· rfl); (· exact nmX)) | ((with_reducible apply s_condF); (· rfl); (· exact nmX)) | ((with_reducible apply s_condS); (· rfl); (· exact nmX); (· exact nmX)))) | ((with_reducible refine k_mv ?_); (refine s_mv rfl ?_)) | ((with_reducible refine k_geq ?_); (refine s_geq rfl rfl ?_)) | ((with_reducible refine k_iaddr ?_); (first | ((with_reducible apply s_iaddrV); (· rfl); (· rfl); (· (first | omega | exact ⟨rfl, by omega⟩ | skip))) | ((with_reducible apply s_iaddrO); (· rfl); (· rfl); (· (first | omega | exact ⟨rfl, by omega⟩ | skip)); (· (exact hpX))) | ((with_reducible apply s_iaddrSO); (· rfl); (· assumption); (· rfl); (· (first | omega | exact ⟨rfl, by omega⟩ | skip)); (· (first | (simp (disch := omega) only [w64, wu8, wu16, wu32, wu64, tm_nn, td_nn, fd_nn, Int.reduceAdd, Int.reduceSub, Int.reduceMul, Int.reduceDiv, Int.reduceMod, Int.reduceNeg, Int.reduceToNat, Int.toNat_natCast, Int.toNat_zero, Int.zero_add, Int.add_zero, Int.one_mul, Int.reducePow, Nat.mul_one, Nat.zero_add, Nat.add_zero, Nat.zero_mul, Nat.reduceAdd, Nat.reduceMul, Nat.reduceSub, Nat.min_eq_left, IntKind.bits, Nat.sub_zero, ac0, ← hpe]; try rfl; done) | rfl)); intro ks hks))) | ((with_reducible refine k_load ?_); (first | ((with_reducible apply s_loadV); (· rfl)) | ((with_reducible apply s_loadP); (· rfl); (· (exact hpX))))) | ((with_reducible refine k_faddr ?_); (first | ((with_reducible apply s_faddrV); (· rfl); (· rfl)) | ((with_reducible apply s_faddrP); (· rfl); (· rfl)))) | ((with_reducible refine k_buildS (dst := some 21) ?_); ((with_reducible apply s_buildS); (· rfl); (· (exact ⟨rfl, by decide⟩)); (· (first | (simp only [fillB, rep, splice, List.reduceReplicate, List.flatten_cons, List.flatten_nil, List.cons_append, List.nil_append, List.append_nil, List.length_cons, List.length_nil, Nat.reduceAdd, Nat.reduceMul, Nat.reduceLeDiff, Nat.reduceEqDiff, eq_self, Nat.le_refl, Nat.zero_add, and_self, and_true, true_and, if_true, List.take_zero, List.take_succ_cons, List.drop_zero, List.drop_succ_cons, List.drop_nil, List.take_nil]; rfl) | rfl)); intro k21 hk21; (try simp only [upd_none] at hk21))) | ((with_reducible refine k_append (dst := some 22) ?_); ((with_reducible apply s_app); (· rfl); (· rfl); (· first | assumption | exact SlOwn.nil | exact SlOwn.emp | exact SlOwn.sl upd_self rfl | ((repeat' (first | assumption | (with_reducible apply SlOwn.upd) | (simp only [upd_none]; assumption))); done) | ((apply SlOwn.sl); (· (exact hpX)); (· first | rfl | assumption))); (· rfl); (· first | exact srcD_sl upd_self rfl | (exact srcD_vs (by first | assumption | simp)) | ((apply srcD_sl); (· (exact hpX)); (· rfl))); (· exact ⟨by first | rfl | assumption | simp, by decide⟩); (· first | (rw [room_n]; omega) | skip); intro da22 ha22 hso22 hoth22)) | ((with_reducible refine k_br ?_); (first | (with_reducible first | refine Br_dec ?_ | refine Br_not ?_ | refine Br_eqF ?_ | refine Br_and ?_ | refine Br_or ?_ | refine Br_neg ?_ | refine Br_band ?_ | refine Br_bor ?_ | refine Br_beq ?_) | (refine Br_t (by first | with_reducible rfl | omega | assumption | rfl) ?_) | (refine Br_f (by first | omega | assumption | decide) ?_) | (with_reducible apply Br_sb <;> intro hbr <;> (first | subst hbr | simp only [hbr] | skip)) | (with_reducible apply Br_s <;> intro hbr))) | ((first | (with_reducible apply q_eqI) | (with_reducible apply q_eqN)); (first | (simp (disch := omega) only [w64, wu8, wu16, wu32, wu64, tm_nn, td_nn, fd_nn, Int.reduceAdd, Int.reduceSub, Int.reduceMul, Int.reduceDiv, Int.reduceMod, Int.reduceNeg, Int.reduceToNat, Int.toNat_natCast, Int.toNat_zero, Int.zero_add, Int.add_zero, Int.one_mul, Int.reducePow, Nat.mul_one, Nat.zero_add, Nat.add_zero, Nat.zero_mul, Nat.reduceAdd, Nat.reduceMul, Nat.reduceSub, Nat.min_eq_left, IntKind.bits, Nat.sub_zero, ac0, ← hpe]; try rfl; done) | rfl)) | ((first | (with_reducible apply q_eqL) | (with_reducible apply q_eqO)); (first | (simp (disch := omega) only [upd_self, upd_ne, upd_upd, rep, splice, List.take_succ_cons, List.take_zero, List.drop_succ_cons, List.drop_zero, List.cons_append, List.nil_append, List.append_nil, List.length_cons, List.length_nil, List.reduceReplicate, List.flatten_cons, List.flatten_nil, Nat.reduceAdd, Nat.reduceMul, Nat.reduceSub, Nat.zero_add, Nat.add_zero, List.getElem?_cons_zero, List.getElem?_cons_succ, ac0, ← hpe]; try rfl; done) | rfl)))
      refine ⟨f, by omega, pre ++ [x], pa l x.toNat, _, _, rfl, ?_, ?_, by omega, by omega, by omega⟩
      · rw [List.length_append]; exact map_snoc hso22
      · rw [← hp, pathG, if_pos hx0]; simp
    · repeat' (first | (with_reducible first | refine W_seq ?_ | refine then_n ?_ | refine W_block ?_ | refine blk_n ?_ | refine blk_r ?_ | refine blk_e ?_ | refine W_skip ?_ | refine W_ret ?_ | refine then_r ?_ | refine W_exit ?_ | refine then_e ?_) | ((with_reducible refine s_reg ?_); intro K hK) | ((with_reducible refine k_nil ?_); (with_reducible apply s_nil hK); (· exact nmX); clear hK; clear K) | ((with_reducible refine k_cond ?_); (first | ((with_reducible apply s_condT); (· rfl); (· exact nmX)) | ((with_reducible apply s_condF); (· rfl); (· exact nmX)) | ((with_reducible apply s_condS); (· rfl); (· exact nmX); (· exact nmX)))) | ((with_reducible refine k_mv ?_); (refine s_mv rfl ?_)) | ((with_reducible refine k_geq ?_); (refine s_geq rfl rfl ?_)) | ((with_reducible refine k_br ?_); (first | (with_reducible first | refine Br_dec ?_ | refine Br_not ?_ | refine Br_eqF ?_ | refine Br_and ?_ | refine Br_or ?_ | refine Br_neg ?_ | refine Br_band ?_ | refine Br_bor ?_ | refine Br_beq ?_) | (refine Br_t (by first | with_reducible rfl | omega | assumption | rfl) ?_) | (refine Br_f (by first | omega | assumption | decide) ?_) | (with_reducible apply Br_sb <;> intro hbr <;> (first | subst hbr | simp only [hbr] | skip)) | (with_reducible apply Br_s <;> intro hbr))))
      have e2 : pathG l f x = [] := by cases f with | zero => rfl | succ f => rw [pathG, if_neg hx0]
      rw [e2, List.append_nil] at hp
      subst hp
      exact Fin_so trivial rfl ho scal_i
  · have e1 : pathF l a = [] := if_neg h
    rw [decide_eq_false h] at c1
    rw [e1]
    repeat' (first | (with_reducible first | refine W_seq ?_ | refine then_n ?_ | refine W_block ?_ | refine blk_n ?_ | refine blk_r ?_ | refine blk_e ?_ | refine W_skip ?_ | refine W_ret ?_ | refine then_r ?_ | refine W_exit ?_ | refine then_e ?_) | ((with_reducible refine s_reg ?_); intro K hK) | ((with_reducible refine k_nil ?_); (with_reducible apply s_nil hK); (· exact nmX); clear hK; clear K) | ((with_reducible refine k_cond ?_); (first | ((with_reducible apply s_condT); (· rfl); (· exact nmX)) | ((with_reducible apply s_condF); (· rfl); (· exact nmX)) | ((with_reducible apply s_condS); (· rfl); (· exact nmX); (· exact nmX)))) | ((with_reducible refine k_mv ?_); (refine s_mv rfl ?_)) | ((with_reducible refine k_not ?_); (refine s_not rfl (by first | exact Bool.not_true | exact Bool.not_false | rfl) ?_)) | ((with_reducible refine k_callF ?_); (first | ((with_reducible apply s_call1); (· rfl)) | ((with_reducible apply s_calln); (· rfl)))) | ((with_reducible refine k_con ?_); (first | ((with_reducible apply con_val (c1)); (· (exact agX)); (· rfl); (· exact fun _ => rfl)))))
    all_goals first | exact Fin_flat trivial rfl rfl | (refine Fin_tup trivial rfl ?_ (Nat.le_of_ble_eq_true rfl); (repeat (first | exact All2.nil | (apply All2.cons; (· first | exact exc_n | exact exc_e | exact exc_v rfl rfl | exact exc_o upd_self rfl rfl)))); done) | (refine Fin_own trivial rfl upd_self ?_ (Nat.le_of_ble_eq_true rfl); (repeat (first | exact All2.nil | (apply All2.cons; (· first | exact exc_n | exact exc_e | exact exc_v rfl rfl | exact exc_o upd_self rfl rfl)))); done) | exact Fin_nil trivial rfl | exact Fin_sl trivial rfl upd_self rfl rfl
theorem index_c (l : List Int) (hl : l.length ≤ 1000000) (v : Int) : PCon Try.prog 50 [.vs 1 (l.map (.int .i64)) l.length, .int .i64 v] (.int .i64 (firstI (fun x => decide (v = x)) l)) := by
  refine A50p (by simp [A50]) ?_
  simp only [A50, argEnv]
  repeat' (first | (with_reducible first | refine W_seq ?_ | refine then_n ?_ | refine W_block ?_ | refine blk_n ?_ | refine blk_r ?_ | refine blk_e ?_ | refine W_skip ?_ | refine W_ret ?_ | refine then_r ?_ | refine W_exit ?_ | refine then_e ?_) | ((with_reducible refine s_reg ?_); intro K hK) | ((with_reducible refine k_nil ?_); (with_reducible apply s_nil hK); (· exact nmX); clear hK; clear K) | ((with_reducible refine k_mv ?_); (refine s_mv rfl ?_)) | ((with_reducible refine k_len ?_); (first | (refine s_len rfl rfl ?_) | ((with_reducible apply s_len); (· rfl); (· exact SlOwn.len (by assumption))))))
  refine W_for l.length (fun i st => (∀ j (hj : j < i) (h : j < l.length), v ≠ l[j]) ∧ st = ⟨[(0, .vs 1 (l.map (.int .i64)) l.length), (1, .int .i64 v), (7, .int .i64 l.length), (8, .int .i64 i)], fun _ => none⟩) ⟨fun j hj => by omega, rfl⟩ ?_ ?_
  · rintro i e' h' hi ⟨ht, he⟩
    cases he
    repeat' (first | (with_reducible first | refine W_seq ?_ | refine then_n ?_ | refine W_block ?_ | refine blk_n ?_ | refine blk_r ?_ | refine blk_e ?_ | refine W_skip ?_ | refine W_ret ?_ | refine then_r ?_ | refine W_exit ?_ | refine then_e ?_) | ((with_reducible refine s_reg ?_); intro K hK) | ((with_reducible refine k_nil ?_); (with_reducible apply s_nil hK); (· exact nmX); clear hK; clear K) | ((with_reducible refine k_cond ?_); (first | ((with_reducible apply s_condT); (· rfl); (· exact nmX)) | ((with_reducible apply s_condF); (· rfl); (· exact nmX)) | ((with_reducible apply s_condS); (· rfl); (· exact nmX); (· exact nmX)))) | ((with_reducible refine k_mv ?_); (refine s_mv rfl ?_)) | ((with_reducible refine k_eql ?_); (first | (refine s_eql rfl rfl ?_) | (refine s_strEq rfl rfl ?_))) | ((with_reducible refine k_lss ?_); (refine s_lss rfl rfl ?_)) | ((with_reducible refine k_iaddr ?_); (first | ((with_reducible apply s_iaddrV); (· rfl); (· rfl); (· (first | omega | exact ⟨rfl, by omega⟩ | skip))) | ((with_reducible apply s_iaddrO); (· rfl); (· rfl); (· (first | omega | exact ⟨rfl, by omega⟩ | skip)); (· (exact hpX))) | ((with_reducible apply s_iaddrSO); (· rfl); (· assumption); (· rfl); (· (first | omega | exact ⟨rfl, by omega⟩ | skip)); (· (first | (simp (disch := omega) only [w64, wu8, wu16, wu32, wu64, tm_nn, td_nn, fd_nn, Int.reduceAdd, Int.reduceSub, Int.reduceMul, Int.reduceDiv, Int.reduceMod, Int.reduceNeg, Int.reduceToNat, Int.toNat_natCast, Int.toNat_zero, Int.zero_add, Int.add_zero, Int.one_mul, Int.reducePow, Nat.mul_one, Nat.zero_add, Nat.add_zero, Nat.zero_mul, Nat.reduceAdd, Nat.reduceMul, Nat.reduceSub, Nat.min_eq_left, IntKind.bits, Nat.sub_zero, gm]; try rfl; done) | rfl)); intro ks hks))) | ((with_reducible refine k_load ?_); (first | ((with_reducible apply s_loadV); (· rfl)) | ((with_reducible apply s_loadP); (· rfl); (· (exact hpX))))) | ((with_reducible refine k_add ?_); ((with_reducible apply s_add); (· rfl); (· rfl))) | ((with_reducible refine k_br ?_); (first | (with_reducible first | refine Br_dec ?_ | refine Br_not ?_ | refine Br_eqF ?_ | refine Br_and ?_ | refine Br_or ?_ | refine Br_neg ?_ | refine Br_band ?_ | refine Br_bor ?_ | refine Br_beq ?_) | (refine Br_t (by first | with_reducible rfl | omega | assumption | rfl) ?_) | (refine Br_f (by first | omega | assumption | decide) ?_) | (with_reducible apply Br_sb <;> intro hbr <;> (first | subst hbr | simp only [hbr] | skip)) | (with_reducible apply Br_s <;> intro hbr))) | ((first | (with_reducible apply q_eqI) | (with_reducible apply q_eqN)); (first | (simp (disch := omega) only [w64, wu8, wu16, wu32, wu64, tm_nn, td_nn, fd_nn, Int.reduceAdd, Int.reduceSub, Int.reduceMul, Int.reduceDiv, Int.reduceMod, Int.reduceNeg, Int.reduceToNat, Int.toNat_natCast, Int.toNat_zero, Int.zero_add, Int.add_zero, Int.one_mul, Int.reducePow, Nat.mul_one, Nat.zero_add, Nat.add_zero, Nat.zero_mul, Nat.reduceAdd, Nat.reduceMul, Nat.reduceSub, Nat.min_eq_left, IntKind.bits, Nat.sub_zero, gm]; try rfl; done) | rfl)) | ((first | (with_reducible apply q_eqL) | (with_reducible apply q_eqO)); (first | (simp (disch := omega) only [upd_self, upd_ne, upd_upd, rep, splice, List.take_succ_cons, List.take_zero, List.drop_succ_cons, List.drop_zero, List.cons_append, List.nil_append, List.append_nil, List.length_cons, List.length_nil, List.reduceReplicate, List.flatten_cons, List.flatten_nil, Nat.reduceAdd, Nat.reduceMul, Nat.reduceSub, Nat.zero_add, Nat.add_zero, List.getElem?_cons_zero, List.getElem?_cons_succ, gm]; try rfl; done) | rfl)))
    · rw [firstI_at hi (by simpa using hbr) (fun j hj => by simpa using ht j hj (by omega))]
      first | exact Fin_flat trivial rfl rfl | (refine Fin_tup trivial rfl ?_ (Nat.le_of_ble_eq_true rfl); (repeat (first | exact All2.nil | (apply All2.cons; (· first | exact exc_n | exact exc_e | exact exc_v rfl rfl | exact exc_o upd_self rfl rfl)))); done) | (refine Fin_own trivial rfl upd_self ?_ (Nat.le_of_ble_eq_true rfl); (repeat (first | exact All2.nil | (apply All2.cons; (· first | exact exc_n | exact exc_e | exact exc_v rfl rfl | exact exc_o upd_self rfl rfl)))); done) | exact Fin_nil trivial rfl | exact Fin_sl trivial rfl upd_self rfl rfl
    · refine ⟨fun j hj h => ?_, rfl⟩
      rcases Nat.lt_succ_iff_lt_or_eq.1 hj with h1 | rfl
      · exact ht j h1 h
      · exact hbr
  · rintro e' h' ⟨ht, he⟩
    cases he
    repeat' (first | (with_reducible first | refine W_seq ?_ | refine then_n ?_ | refine W_block ?_ | refine blk_n ?_ | refine blk_r ?_ | refine blk_e ?_ | refine W_skip ?_ | refine W_ret ?_ | refine then_r ?_ | refine W_exit ?_ | refine then_e ?_) | ((with_reducible refine s_reg ?_); intro K hK) | ((with_reducible refine k_nil ?_); (with_reducible apply s_nil hK); (· exact nmX); clear hK; clear K) | ((with_reducible refine k_cond ?_); (first | ((with_reducible apply s_condT); (· rfl); (· exact nmX)) | ((with_reducible apply s_condF); (· rfl); (· exact nmX)) | ((with_reducible apply s_condS); (· rfl); (· exact nmX); (· exact nmX)))) | ((with_reducible refine k_mv ?_); (refine s_mv rfl ?_)) | ((with_reducible refine k_lss ?_); (refine s_lss rfl rfl ?_)) | ((with_reducible refine k_br ?_); (first | (with_reducible first | refine Br_dec ?_ | refine Br_not ?_ | refine Br_eqF ?_ | refine Br_and ?_ | refine Br_or ?_ | refine Br_neg ?_ | refine Br_band ?_ | refine Br_bor ?_ | refine Br_beq ?_) | (refine Br_t (by first | with_reducible rfl | omega | assumption | rfl) ?_) | (refine Br_f (by first | omega | assumption | decide) ?_) | (with_reducible apply Br_sb <;> intro hbr <;> (first | subst hbr | simp only [hbr] | skip)) | (with_reducible apply Br_s <;> intro hbr))))
    rw [firstI_no (fun j hj => by simpa using ht j hj hj)]
    first | exact Fin_flat trivial rfl rfl | (refine Fin_tup trivial rfl ?_ (Nat.le_of_ble_eq_true rfl); (repeat (first | exact All2.nil | (apply All2.cons; (· first | exact exc_n | exact exc_e | exact exc_v rfl rfl | exact exc_o upd_self rfl rfl)))); done) | (refine Fin_own trivial rfl upd_self ?_ (Nat.le_of_ble_eq_true rfl); (repeat (first | exact All2.nil | (apply All2.cons; (· first | exact exc_n | exact exc_e | exact exc_v rfl rfl | exact exc_o upd_self rfl rfl)))); done) | exact Fin_nil trivial rfl | exact Fin_sl trivial rfl upd_self rfl rfl
theorem contains_c (l : List Int) (hl : l.length ≤ 1000000) (v : Int) : PCon Try.prog 45 [.vs 1 (l.map (.int .i64)) l.length, .int .i64 v] (.bool (decide (v ∈ l))) := by
  refine A45p (by simp [A45]) ?_
  simp only [A45, argEnv]
  have c1 := index_c l hl v
  have hq : 0 ≤ firstI (fun x => decide (v = x)) l ↔ v ∈ l := by
    rw [firstI_nn]; simp
  repeat' (first | (with_reducible first | refine W_seq ?_ | refine then_n ?_ | refine W_skip ?_ | refine W_ret ?_ | refine then_r ?_) | ((with_reducible refine s_reg ?_); intro K hK) | ((with_reducible refine k_nil ?_); (with_reducible apply s_nil hK); (· exact nmX); clear hK; clear K) | ((with_reducible refine k_mv ?_); (refine s_mv rfl ?_)) | ((with_reducible refine k_geq ?_); (refine s_geq rfl rfl ?_)) | ((with_reducible refine k_callF ?_); (first | ((with_reducible apply s_call1); (· rfl)) | ((with_reducible apply s_calln); (· rfl)))) | ((with_reducible refine k_con ?_); (first | ((with_reducible apply con_val (c1)); (· (exact agX)); (· rfl); (· exact fun _ => rfl)))) | ((with_reducible refine k_br ?_); (first | (with_reducible first | refine Br_dec ?_ | refine Br_not ?_ | refine Br_eqF ?_ | refine Br_and ?_ | refine Br_or ?_ | refine Br_neg ?_ | refine Br_band ?_ | refine Br_bor ?_ | refine Br_beq ?_) | (refine Br_t (by first | with_reducible rfl | omega | assumption | rfl) ?_) | (refine Br_f (by first | omega | assumption | decide) ?_) | (with_reducible apply Br_sb <;> intro hbr <;> (first | subst hbr | simp only [hbr] | skip)) | (with_reducible apply Br_s <;> intro hbr))))
  all_goals first | exact Fin_bt trivial rfl (hq.1 (by omega)) | exact Fin_bf trivial rfl (fun h => by have := hq.2 h; omega)
def insP (l : List Acct) (a s : Int) : Prop := isP l a ∧ (s = -1 ∨ s ∈ pathF l a)
theorem inside_c (l : List Acct) (hL : l.length ≤ 9223372036854775807) (a s : Int) : PCon Try.prog 32 [accs l, .int .i64 a, .int .i64 s] (.bool (decide (insP l a s))) := by
  have c1 := is_c l hL a
  have c2 := path_c l hL a
  have c3 := contains_c (pathF l a) (by have := pathF_len l a; omega) s
  refine A32p (by simp [A32]) ?_
  simp only [A32, argEnv]
  repeat' (first | (with_reducible first | refine W_seq ?_ | refine then_n ?_ | refine W_skip ?_ | refine W_ret ?_ | refine then_r ?_) | ((with_reducible refine s_reg ?_); intro K hK) | ((with_reducible refine k_nil ?_); (with_reducible apply s_nil hK); (· exact nmX); clear hK; clear K) | ((with_reducible refine k_guard ?_); (first | (refine s_gt rfl ?_) | (refine s_gf1 rfl ?_) | (refine s_gfn rfl ?_) | (refine s_gx1 rfl ?_) | (refine s_gxn rfl ?_) | (refine s_gs rfl ?_))) | ((with_reducible refine k_mv ?_); (refine s_mv rfl ?_)) | ((with_reducible refine k_pick ?_); (first | (refine s_pickT rfl rfl ?_) | (refine s_pickF rfl rfl ?_))) | ((with_reducible refine k_eql ?_); (first | (refine s_eql rfl rfl ?_) | (refine s_strEq rfl rfl ?_))) | ((with_reducible refine k_callF ?_); (first | ((with_reducible apply s_call1); (· rfl)) | ((with_reducible apply s_calln); (· rfl)))) | ((with_reducible refine k_con ?_); (first | ((with_reducible apply con_valB (c1)); (· (exact agX))) | ((with_reducible apply con_of_pcon (c2)); (· (exact agX)); intro kO hkO; (try simp only [upd_none] at hkO); simp only [thaw, thawC, List.map, thawH, owOf, owL]) | ((with_reducible apply con_valB (c3)); (· (exact agX))))) | ((with_reducible refine k_br ?_); (first | (with_reducible first | refine Br_dec ?_ | refine Br_not ?_ | refine Br_eqF ?_ | refine Br_and ?_ | refine Br_or ?_ | refine Br_neg ?_ | refine Br_band ?_ | refine Br_bor ?_ | refine Br_beq ?_) | (refine Br_t (by first | with_reducible rfl | omega | assumption | rfl) ?_) | (refine Br_f (by first | omega | assumption | decide) ?_) | (with_reducible apply Br_sb <;> intro hbr <;> (first | subst hbr | simp only [hbr] | skip)) | (with_reducible apply Br_s <;> intro hbr))))
  all_goals first | exact Fin_bt trivial rfl (by unfold insP; simp only [*, true_or, or_true, and_self]) | exact Fin_bf trivial rfl (by unfold insP; simp only [*, false_or, false_and, and_false, or_self, not_false_eq_true])
noncomputable def ownF (l : List Acct) (a : Int) : Int := if isP l a then us l a.toNat - kids l a else -1
theorem Own_c (l : List Acct) (hL : l.length ≤ 9223372036854775807) (a : Int) : PCon Try.prog 26 [accs l, .int .i64 a] (.int .i64 (ownF l a)) := by
  have c1 := is_c l hL a
  refine A26p (by simp [A26]) ?_
  simp only [A26, argEnv]
  by_cases h : isP l a
  · obtain ⟨h0, ht, ha, _⟩ := chk_ok h.1
    have h2 := h.2
    rw [decide_eq_true h] at c1
    have c2 := own_c l h0.2 ht ha.1
    have hl := ownL_len l
    have hg : ∀ h, (ownL l)[a.toNat]'h = us l a.toNat - kids l a := fun h => by rw [ownL_at, Int.toNat_of_nonneg h2.1]
    rw [show ownF l a = us l a.toNat - kids l a from if_pos h]
    repeat' (first | (with_reducible first | refine W_seq ?_ | refine then_n ?_ | refine W_skip ?_ | refine W_ret ?_ | refine then_r ?_) | ((with_reducible refine s_reg ?_); intro K hK) | ((with_reducible refine k_nil ?_); (with_reducible apply s_nil hK); (· exact nmX); clear hK; clear K) | ((with_reducible refine k_cond ?_); (first | ((with_reducible apply s_condT); (· rfl); (· exact nmX)) | ((with_reducible apply s_condF); (· rfl); (· exact nmX)) | ((with_reducible apply s_condS); (· rfl); (· exact nmX); (· exact nmX)))) | ((with_reducible refine k_mv ?_); (refine s_mv rfl ?_)) | ((with_reducible refine k_not ?_); (refine s_not rfl (by first | exact Bool.not_true | exact Bool.not_false | rfl) ?_)) | ((with_reducible refine k_iaddr ?_); (first | ((with_reducible apply s_iaddrV); (· rfl); (· rfl); (· (first | omega | exact ⟨rfl, by omega⟩ | skip))) | ((with_reducible apply s_iaddrO); (· rfl); (· rfl); (· (first | omega | exact ⟨rfl, by omega⟩ | skip)); (· (exact hpX))) | ((with_reducible apply s_iaddrSO); (· rfl); (· assumption); (· rfl); (· (first | omega | exact ⟨rfl, by omega⟩ | skip)); (· (first | (simp (disch := omega) only [w64, wu8, wu16, wu32, wu64, tm_nn, td_nn, fd_nn, Int.reduceAdd, Int.reduceSub, Int.reduceMul, Int.reduceDiv, Int.reduceMod, Int.reduceNeg, Int.reduceToNat, Int.toNat_natCast, Int.toNat_zero, Int.zero_add, Int.add_zero, Int.one_mul, Int.reducePow, Nat.mul_one, Nat.zero_add, Nat.add_zero, Nat.zero_mul, Nat.reduceAdd, Nat.reduceMul, Nat.reduceSub, Nat.min_eq_left, IntKind.bits, Nat.sub_zero, gm, hg]; try rfl; done) | rfl)); intro ks hks))) | ((with_reducible refine k_load ?_); (first | ((with_reducible apply s_loadV); (· rfl)) | ((with_reducible apply s_loadP); (· rfl); (· (exact hpX))))) | ((with_reducible refine k_callF ?_); (first | ((with_reducible apply s_call1); (· rfl)) | ((with_reducible apply s_calln); (· rfl)))) | ((with_reducible refine k_con ?_); (first | ((with_reducible apply con_val (c1)); (· (repeat (first | exact All2.nil | (apply All2.cons; (· first | ((apply Rd_sl0); (· exact hpX); (· first | rfl | exact scal_i | exact scal_b | assumption); (· first | rfl | assumption | (simp [gm, hg]; done) | (simp [gm, hg]; omega))) | exact rdX))))); (· rfl); (· exact fun _ => rfl)) | ((with_reducible apply con_of_pcon (c2)); (· (repeat (first | exact All2.nil | (apply All2.cons; (· first | ((apply Rd_sl0); (· exact hpX); (· first | rfl | exact scal_i | exact scal_b | assumption); (· first | rfl | assumption | (simp [gm, hg]; done) | (simp [gm, hg]; omega))) | exact rdX))))); intro kO hkO; (try simp only [upd_none] at hkO); simp only [thaw, thawC, List.map, thawH, owOf, owL]))) | ((first | (with_reducible apply q_eqI) | (with_reducible apply q_eqN)); (first | (simp (disch := omega) only [w64, wu8, wu16, wu32, wu64, tm_nn, td_nn, fd_nn, Int.reduceAdd, Int.reduceSub, Int.reduceMul, Int.reduceDiv, Int.reduceMod, Int.reduceNeg, Int.reduceToNat, Int.toNat_natCast, Int.toNat_zero, Int.zero_add, Int.add_zero, Int.one_mul, Int.reducePow, Nat.mul_one, Nat.zero_add, Nat.add_zero, Nat.zero_mul, Nat.reduceAdd, Nat.reduceMul, Nat.reduceSub, Nat.min_eq_left, IntKind.bits, Nat.sub_zero, gm, hg]; try rfl; done) | rfl)) | ((first | (with_reducible apply q_eqL) | (with_reducible apply q_eqO)); (first | (simp (disch := omega) only [upd_self, upd_ne, upd_upd, rep, splice, List.take_succ_cons, List.take_zero, List.drop_succ_cons, List.drop_zero, List.cons_append, List.nil_append, List.append_nil, List.length_cons, List.length_nil, List.reduceReplicate, List.flatten_cons, List.flatten_nil, Nat.reduceAdd, Nat.reduceMul, Nat.reduceSub, Nat.zero_add, Nat.add_zero, List.getElem?_cons_zero, List.getElem?_cons_succ, gm, hg]; try rfl; done) | rfl)))
    first | exact Fin_flat trivial rfl rfl | (refine Fin_tup trivial rfl ?_ (Nat.le_of_ble_eq_true rfl); (repeat (first | exact All2.nil | (apply All2.cons; (· first | exact exc_n | exact exc_e | exact exc_v rfl rfl | exact exc_o upd_self rfl rfl)))); done) | (refine Fin_own trivial rfl upd_self ?_ (Nat.le_of_ble_eq_true rfl); (repeat (first | exact All2.nil | (apply All2.cons; (· first | exact exc_n | exact exc_e | exact exc_v rfl rfl | exact exc_o upd_self rfl rfl)))); done) | exact Fin_nil trivial rfl | exact Fin_sl trivial rfl upd_self rfl rfl
  · rw [decide_eq_false h] at c1
    rw [show ownF l a = -1 from if_neg h]
    repeat' (first | (with_reducible first | refine W_seq ?_ | refine then_n ?_ | refine W_skip ?_ | refine W_ret ?_ | refine then_r ?_) | ((with_reducible refine s_reg ?_); intro K hK) | ((with_reducible refine k_nil ?_); (with_reducible apply s_nil hK); (· exact nmX); clear hK; clear K) | ((with_reducible refine k_cond ?_); (first | ((with_reducible apply s_condT); (· rfl); (· exact nmX)) | ((with_reducible apply s_condF); (· rfl); (· exact nmX)) | ((with_reducible apply s_condS); (· rfl); (· exact nmX); (· exact nmX)))) | ((with_reducible refine k_mv ?_); (refine s_mv rfl ?_)) | ((with_reducible refine k_not ?_); (refine s_not rfl (by first | exact Bool.not_true | exact Bool.not_false | rfl) ?_)) | ((with_reducible refine k_callF ?_); (first | ((with_reducible apply s_call1); (· rfl)) | ((with_reducible apply s_calln); (· rfl)))) | ((with_reducible refine k_con ?_); (first | ((with_reducible apply con_val (c1)); (· (exact agX)); (· rfl); (· exact fun _ => rfl)))))
    all_goals first | exact Fin_flat trivial rfl rfl | (refine Fin_tup trivial rfl ?_ (Nat.le_of_ble_eq_true rfl); (repeat (first | exact All2.nil | (apply All2.cons; (· first | exact exc_n | exact exc_e | exact exc_v rfl rfl | exact exc_o upd_self rfl rfl)))); done) | (refine Fin_own trivial rfl upd_self ?_ (Nat.le_of_ble_eq_true rfl); (repeat (first | exact All2.nil | (apply All2.cons; (· first | exact exc_n | exact exc_e | exact exc_v rfl rfl | exact exc_o upd_self rfl rfl)))); done) | exact Fin_nil trivial rfl | exact Fin_sl trivial rfl upd_self rfl rfl
theorem rOwn_c (l : List Acct) (hL : l.length ≤ 9223372036854775807) (a : Int) : PCon Try.prog 22 [accs l, .int .i64 a] (.int .i64 (ownF l a)) := by
  have c1 := has_c l hL a
  refine A22p (by simp [A22]) ?_
  simp only [A22, argEnv]
  have hal := accs_len l
  by_cases h : isP l a
  · obtain ⟨h0, ht, ha, _⟩ := chk_ok h.1
    have h2 := h.2
    rw [decide_eq_true h] at c1
    have c2 := rkids_c l h0.2 h0.1 ha.1 a
    have hal' : a.toNat < l.length := by omega
    have hu := us_at hal'
    have hui := us_in ha.1 a.toNat
    have hki := kidsTo_in ha.1 a l.length
    rw [show ownF l a = us l a.toNat - kids l a from if_pos h]
    unfold kids at c2 ⊢
    repeat' (first | (with_reducible first | refine W_seq ?_ | refine then_n ?_ | refine W_skip ?_ | refine W_ret ?_ | refine then_r ?_) | ((with_reducible refine s_reg ?_); intro K hK) | ((with_reducible refine k_nil ?_); (with_reducible apply s_nil hK); (· exact nmX); clear hK; clear K) | ((with_reducible refine k_cond ?_); (first | ((with_reducible apply s_condT); (· rfl); (· exact nmX)) | ((with_reducible apply s_condF); (· rfl); (· exact nmX)) | ((with_reducible apply s_condS); (· rfl); (· exact nmX); (· exact nmX)))) | ((with_reducible refine k_mv ?_); (refine s_mv rfl ?_)) | ((with_reducible refine k_not ?_); (refine s_not rfl (by first | exact Bool.not_true | exact Bool.not_false | rfl) ?_)) | ((with_reducible refine k_iaddr ?_); (first | ((with_reducible apply s_iaddrV); (· rfl); (· rfl); (· (first | omega | exact ⟨rfl, by omega⟩ | skip))) | ((with_reducible apply s_iaddrO); (· rfl); (· rfl); (· (first | omega | exact ⟨rfl, by omega⟩ | skip)); (· (exact hpX))) | ((with_reducible apply s_iaddrSO); (· rfl); (· assumption); (· rfl); (· (first | omega | exact ⟨rfl, by omega⟩ | skip)); (· (first | (simp (disch := omega) only [w64, wu8, wu16, wu32, wu64, tm_nn, td_nn, fd_nn, Int.reduceAdd, Int.reduceSub, Int.reduceMul, Int.reduceDiv, Int.reduceMod, Int.reduceNeg, Int.reduceToNat, Int.toNat_natCast, Int.toNat_zero, Int.zero_add, Int.add_zero, Int.one_mul, Int.reducePow, Nat.mul_one, Nat.zero_add, Nat.add_zero, Nat.zero_mul, Nat.reduceAdd, Nat.reduceMul, Nat.reduceSub, Nat.min_eq_left, IntKind.bits, Nat.sub_zero, ac1, ← hu]; try rfl; done) | rfl)); intro ks hks))) | ((with_reducible refine k_load ?_); (first | ((with_reducible apply s_loadV); (· rfl)) | ((with_reducible apply s_loadP); (· rfl); (· (exact hpX))))) | ((with_reducible refine k_sub ?_); ((with_reducible apply s_sub); (· rfl); (· rfl))) | ((with_reducible refine k_faddr ?_); (first | ((with_reducible apply s_faddrV); (· rfl); (· rfl)) | ((with_reducible apply s_faddrP); (· rfl); (· rfl)))) | ((with_reducible refine k_callF ?_); (first | ((with_reducible apply s_call1); (· rfl)) | ((with_reducible apply s_calln); (· rfl)))) | ((with_reducible refine k_con ?_); (first | ((with_reducible apply con_val (c1)); (· (repeat (first | exact All2.nil | (apply All2.cons; (· first | ((apply Rd_sl0); (· exact hpX); (· first | rfl | exact scal_i | exact scal_b | assumption); (· first | rfl | assumption | (simp [ac1, ← hu]; done) | (simp [ac1, ← hu]; omega))) | exact rdX))))); (· rfl); (· exact fun _ => rfl)))) | ((with_reducible refine k_dreg ?_); refine s_dreg rfl rfl ?_; intro K hK) | ((with_reducible refine k_dnil ?_); (with_reducible apply d_nil hK); (· exact nmX); clear hK; clear K) | ((with_reducible refine k_dcall ?_); (first | ((with_reducible apply d_call); (· rfl); (· exact c2); (· (repeat (first | exact All2.nil | (apply All2.cons; (· first | ((apply Rd_sl0); (· exact hpX); (· first | rfl | exact scal_i | exact scal_b | assumption); (· first | rfl | assumption | (simp [ac1, ← hu]; done) | (simp [ac1, ← hu]; omega))) | exact rdX))))); simp only [unow, unowC, List.map]))) | ((with_reducible refine k_dop ?_); refine d_step (by first | exact Or.inl rfl | exact Or.inr rfl) ?_) | (with_reducible refine d_back ?_) | ((first | (with_reducible apply q_eqI) | (with_reducible apply q_eqN)); (first | (simp (disch := omega) only [w64, wu8, wu16, wu32, wu64, tm_nn, td_nn, fd_nn, Int.reduceAdd, Int.reduceSub, Int.reduceMul, Int.reduceDiv, Int.reduceMod, Int.reduceNeg, Int.reduceToNat, Int.toNat_natCast, Int.toNat_zero, Int.zero_add, Int.add_zero, Int.one_mul, Int.reducePow, Nat.mul_one, Nat.zero_add, Nat.add_zero, Nat.zero_mul, Nat.reduceAdd, Nat.reduceMul, Nat.reduceSub, Nat.min_eq_left, IntKind.bits, Nat.sub_zero, ac1, ← hu]; try rfl; done) | rfl)) | ((first | (with_reducible apply q_eqL) | (with_reducible apply q_eqO)); (first | (simp (disch := omega) only [upd_self, upd_ne, upd_upd, rep, splice, List.take_succ_cons, List.take_zero, List.drop_succ_cons, List.drop_zero, List.cons_append, List.nil_append, List.append_nil, List.length_cons, List.length_nil, List.reduceReplicate, List.flatten_cons, List.flatten_nil, Nat.reduceAdd, Nat.reduceMul, Nat.reduceSub, Nat.zero_add, Nat.add_zero, List.getElem?_cons_zero, List.getElem?_cons_succ, ac1, ← hu]; try rfl; done) | rfl)))
    first | exact Fin_flat trivial rfl rfl | (refine Fin_tup trivial rfl ?_ (Nat.le_of_ble_eq_true rfl); (repeat (first | exact All2.nil | (apply All2.cons; (· first | exact exc_n | exact exc_e | exact exc_v rfl rfl | exact exc_o upd_self rfl rfl)))); done) | (refine Fin_own trivial rfl upd_self ?_ (Nat.le_of_ble_eq_true rfl); (repeat (first | exact All2.nil | (apply All2.cons; (· first | exact exc_n | exact exc_e | exact exc_v rfl rfl | exact exc_o upd_self rfl rfl)))); done) | exact Fin_nil trivial rfl | exact Fin_sl trivial rfl upd_self rfl rfl
  · rw [decide_eq_false h] at c1
    rw [show ownF l a = -1 from if_neg h]
    repeat' (first | (with_reducible first | refine W_seq ?_ | refine then_n ?_ | refine W_skip ?_ | refine W_ret ?_ | refine then_r ?_) | ((with_reducible refine s_reg ?_); intro K hK) | ((with_reducible refine k_nil ?_); (with_reducible apply s_nil hK); (· exact nmX); clear hK; clear K) | ((with_reducible refine k_cond ?_); (first | ((with_reducible apply s_condT); (· rfl); (· exact nmX)) | ((with_reducible apply s_condF); (· rfl); (· exact nmX)) | ((with_reducible apply s_condS); (· rfl); (· exact nmX); (· exact nmX)))) | ((with_reducible refine k_mv ?_); (refine s_mv rfl ?_)) | ((with_reducible refine k_not ?_); (refine s_not rfl (by first | exact Bool.not_true | exact Bool.not_false | rfl) ?_)) | ((with_reducible refine k_callF ?_); (first | ((with_reducible apply s_call1); (· rfl)) | ((with_reducible apply s_calln); (· rfl)))) | ((with_reducible refine k_con ?_); (first | ((with_reducible apply con_val (c1)); (· (exact agX)); (· rfl); (· exact fun _ => rfl)))))
    all_goals first | exact Fin_flat trivial rfl rfl | (refine Fin_tup trivial rfl ?_ (Nat.le_of_ble_eq_true rfl); (repeat (first | exact All2.nil | (apply All2.cons; (· first | exact exc_n | exact exc_e | exact exc_v rfl rfl | exact exc_o upd_self rfl rfl)))); done) | (refine Fin_own trivial rfl upd_self ?_ (Nat.le_of_ble_eq_true rfl); (repeat (first | exact All2.nil | (apply All2.cons; (· first | exact exc_n | exact exc_e | exact exc_v rfl rfl | exact exc_o upd_self rfl rfl)))); done) | exact Fin_nil trivial rfl | exact Fin_sl trivial rfl upd_self rfl rfl
end Go.Proofs.Ytolnhkpckbgmgaa
end
section
/- Accounts: margins, charges. -/
set_option linter.unusedSimpArgs false
set_option linter.unusedVariables false
namespace Go.Proofs.Ytolnhkpckbgmgaa
open Go.AM Classical
set_option maxRecDepth 100000
set_option maxHeartbeats 4000000
theorem pathG_in {l : List Acct} (ht : treeP l) : ∀ (f : Nat) (a : Int), a < l.length → ∀ x ∈ pathG l f a, 0 ≤ x ∧ x < l.length ∧ x ≤ a
  | 0, _, _, x, hx => by simp [pathG] at hx
  | f + 1, a, ha, x, hx => by
    unfold pathG at hx
    split at hx
    · rename_i h0
      rcases List.mem_cons.1 hx with rfl | hx
      · exact ⟨h0, ha, Int.le_refl _⟩
      · have := pa_lt ht (a := a) ⟨h0, ha⟩
        have := pathG_in ht f (pa l a.toNat) (by omega) x hx
        omega
    · simp at hx
theorem pathF_in {l : List Acct} {a : Int} {x : Int} (hx : x ∈ pathF l a) : 0 ≤ x ∧ x < l.length := by
  unfold pathF at hx
  split at hx
  · rename_i h
    have := pathG_in (chk_ok h.1).2.1 8 a h.2.2 x hx
    omega
  · simp at hx
end Go.Proofs.Ytolnhkpckbgmgaa
end
section
/- Accounts: paths, sums. -/
set_option linter.unusedSimpArgs false
set_option linter.unusedVariables false
namespace Go.Proofs.Ytolnhkpckbgmgaa
open Go.AM Classical
set_option maxRecDepth 100000
set_option maxHeartbeats 4000000
theorem pathF_is {l : List Acct} {a : Int} (h : isP l a) : pathF l a = pathG l 8 a := if_pos h
theorem pathG_self {l : List Acct} {f : Nat} {a : Int} (h : 0 ≤ a) : a ∈ pathG l (f + 1) a := by
  rw [pathG, if_pos h]; simp
theorem pathF_self {l : List Acct} {a : Int} (h : isP l a) : a ∈ pathF l a := by rw [pathF_is h]; exact pathG_self h.2.1
theorem pathG_mem {l : List Acct} (ht : treeP l) : ∀ (f : Nat) (a : Int), a < l.length → a < f → ∀ x ∈ pathG l f a, (0 ≤ pa l x.toNat → pa l x.toNat ∈ pathG l f a) ∧ (x ≠ a → ∃ c ∈ pathG l f a, 0 < c ∧ pa l c.toNat = x)
  | 0, _, _, _, x, hx => by simp [pathG] at hx
  | f + 1, a, ha, hf, x, hx => by
    unfold pathG at hx ⊢
    split at hx
    · rename_i h0
      rw [if_pos h0]
      have h1 := pa_lt ht (a := a) ⟨h0, ha⟩
      have ih := pathG_mem ht f (pa l a.toNat) (by omega) (by omega)
      rcases List.mem_cons.1 hx with rfl | hx
      · refine ⟨fun h => List.mem_cons_of_mem _ ?_, fun h => absurd rfl h⟩
        obtain ⟨g, rfl⟩ : ∃ g, f = g + 1 := ⟨f - 1, by omega⟩
        exact pathG_self h
      · obtain ⟨i1, i2⟩ := ih x hx
        refine ⟨fun h => List.mem_cons_of_mem _ (i1 h), fun h => ?_⟩
        have hx2 := pathG_in ht f _ (by omega) x hx
        by_cases hxp : x = pa l a.toNat
        · exact ⟨a, by simp, by omega, hxp.symm⟩
        · obtain ⟨c, hc, h2⟩ := i2 hxp
          exact ⟨c, List.mem_cons_of_mem _ hc, h2⟩
    · simp at hx
theorem pathG_gap {l : List Acct} (ht : treeP l) : ∀ (f : Nat) (a : Int), a < l.length → ∀ x ∈ pathG l f a, ∀ y ∈ pathG l f a, y < x → y ≤ pa l x.toNat
  | 0, _, _, x, hx, _, _, _ => by simp [pathG] at hx
  | f + 1, a, ha, x, hx, y, hy, hyx => by
    unfold pathG at hx hy
    split at hx
    · rename_i h0
      rw [if_pos h0] at hy
      have h1 := pa_lt ht (a := a) ⟨h0, ha⟩
      rcases List.mem_cons.1 hx with rfl | hx
      · rcases List.mem_cons.1 hy with rfl | hy
        · omega
        · exact (pathG_in ht f _ (by omega) y hy).2.2
      · have hx2 := pathG_in ht f _ (by omega) x hx
        rcases List.mem_cons.1 hy with rfl | hy
        · omega
        · exact pathG_gap ht f _ (by omega) x hx y hy hyx
    · simp at hx
theorem pathF_up {l : List Acct} {a x : Int} (h : isP l a) (hx : x ∈ pathF l a) (h0 : 0 ≤ pa l x.toNat) : pa l x.toNat ∈ pathF l a := by
  obtain ⟨hl, ht, _⟩ := chk_ok h.1
  have h2 := h.2
  rw [pathF_is h] at hx ⊢
  exact (pathG_mem ht 8 a h2.2 (by omega) x hx).1 h0
theorem pathF_down {l : List Acct} {a x : Int} (h : isP l a) (hx : x ∈ pathF l a) (h0 : x ≠ a) : ∃ c ∈ pathF l a, 0 < c ∧ pa l c.toNat = x := by
  obtain ⟨hl, ht, _⟩ := chk_ok h.1
  have h2 := h.2
  rw [pathF_is h] at hx ⊢
  exact (pathG_mem ht 8 a h2.2 (by omega) x hx).2 h0
theorem pathF_gap {l : List Acct} {a x y : Int} (h : isP l a) (hx : x ∈ pathF l a) (hy : y ∈ pathF l a) (hyx : y < x) : y ≤ pa l x.toNat := by
  obtain ⟨hl, ht, _⟩ := chk_ok h.1
  rw [pathF_is h] at hx hy
  exact pathG_gap ht 8 a h.2.2 x hx y hy hyx
theorem pathF_le {l : List Acct} {a x : Int} (h : isP l a) (hx : x ∈ pathF l a) : x ≤ a := by
  obtain ⟨hl, ht, _⟩ := chk_ok h.1
  rw [pathF_is h] at hx
  exact (pathG_in ht 8 a h.2.2 x hx).2.2
end Go.Proofs.Ytolnhkpckbgmgaa
end
section
/- min -/
/- Protection: sums over the tree, effective guarantees, who is guarded. -/
set_option linter.unusedSimpArgs false
set_option linter.unusedVariables false
namespace Go.Proofs.Ytolnhkpckbgmgaa
open Go.AM Classical
set_option maxRecDepth 100000
set_option maxHeartbeats 4000000
def kT (l : List Acct) (f : Nat → Int) (j : Int) : Nat → Int
  | 0 => 0
  | c + 1 => kT l f j c + (if 0 < c ∧ pa l c = j then f c else 0)
theorem kT_s (l : List Acct) (f : Nat → Int) (j : Int) (c : Nat) : kT l f j (c + 1) = kT l f j c + (if 0 < c ∧ pa l c = j then f c else 0) := rfl
theorem kT_zero {l : List Acct} (ht : treeP l) {f : Nat → Int} {j : Nat} : ∀ {n : Nat}, n ≤ j + 1 → n ≤ l.length → kT l f j n = 0
  | 0, _, _ => rfl
  | n + 1, hn, hl => by
    rw [kT_s, kT_zero ht (by omega) (by omega), if_neg, Int.add_zero]
    rintro ⟨h0, h1⟩
    have h2 := ht n (by omega) (by omega)
    unfold okP at h2
    rw [pa_at (by omega)] at h1
    omega
theorem kT_in {l : List Acct} {f : Nat → Int} {b : Int} (hf : ∀ c, 0 ≤ f c ∧ f c ≤ b) (j : Int) : ∀ n : Nat, 0 ≤ kT l f j n ∧ kT l f j n ≤ n * b
  | 0 => by simp [kT]
  | n + 1 => by
    have := kT_in (l := l) hf j n
    have := hf n
    have e : ((n + 1 : Nat) : Int) * b = n * b + b := by rw [Int.natCast_succ, Int.add_mul, Int.one_mul]
    rw [kT_s]
    split <;> omega
theorem kT_add {l : List Acct} {f g : Nat → Int} (j : Int) : ∀ n : Nat, kT l (fun c => f c + g c) j n = kT l f j n + kT l g j n
  | 0 => rfl
  | n + 1 => by
    rw [kT_s, kT_s, kT_s, kT_add j n]; split <;> omega
theorem kT_path {l : List Acct} {a : Int} (h : isP l a) (w : Int) (j : Nat) : ∀ c, c ≤ l.length → kT l (fun k => if (k : Int) ∈ pathG l 8 a then w else 0) j c = (if ∃ d : Nat, d < c ∧ 0 < d ∧ (d : Int) ∈ pathG l 8 a ∧ pa l d = j then w else 0)
  | 0, _ => by
    rw [if_neg (by rintro ⟨d, h, _⟩; omega)]; rfl
  | c + 1, hc => by
    rw [kT_s, kT_path h w j c (by omega)]
    by_cases h1 : 0 < c ∧ pa l c = j
    · rw [if_pos h1]
      by_cases h2 : (c : Int) ∈ pathG l 8 a
      · have hR : ∃ d : Nat, d < c + 1 ∧ 0 < d ∧ (d : Int) ∈ pathG l 8 a ∧ pa l d = j := ⟨c, by omega, h1.1, h2, h1.2⟩
        have hL : ¬ ∃ d : Nat, d < c ∧ 0 < d ∧ (d : Int) ∈ pathG l 8 a ∧ pa l d = j := by
          rintro ⟨d, hd, hd0, hdm, hdp⟩
          have := pathF_gap h (x := (c : Int)) (by rw [pathF_is h]; exact h2) (y := (d : Int)) (by rw [pathF_is h]; exact hdm) (by omega)
          rw [Int.toNat_natCast, h1.2] at this
          have h3 := pa_lt (chk_ok h.1).2.1 (a := (d : Int)) (by omega)
          rw [Int.toNat_natCast, hdp] at h3
          omega
        rw [if_pos h2, if_pos hR, if_neg hL]; omega
      · rw [if_neg h2, Int.add_zero]
        congr 1
        refine propext ⟨fun ⟨d, hd, r⟩ => ⟨d, by omega, r⟩, fun ⟨d, hd, r⟩ => ?_⟩
        rcases Nat.lt_succ_iff_lt_or_eq.1 hd with h3 | rfl
        · exact ⟨d, h3, r⟩
        · exact absurd r.2.1 h2
    · rw [if_neg h1, Int.add_zero]
      congr 1
      refine propext ⟨fun ⟨d, hd, r⟩ => ⟨d, by omega, r⟩, fun ⟨d, hd, r⟩ => ?_⟩
      rcases Nat.lt_succ_iff_lt_or_eq.1 hd with h3 | rfl
      · exact ⟨d, h3, r⟩
      · exact absurd ⟨r.1, r.2.2⟩ h1
def insN (l : List Acct) (v : Nat → Int) (x : Int) : Nat → Int
  | 0 => 0
  | c + 1 => insN l v x c + (if x ∈ pathG l 8 (c : Int) then v c else 0)
theorem insN_s (l : List Acct) (v : Nat → Int) (x : Int) (c : Nat) : insN l v x (c + 1) = insN l v x c + (if x ∈ pathG l 8 (c : Int) then v c else 0) := rfl
def insF (l : List Acct) (v : Nat → Int) (x : Int) : Int := insN l v x l.length
theorem insN_in {l : List Acct} {v : Nat → Int} {b : Int} (hv : ∀ c, 0 ≤ v c ∧ v c ≤ b) (x : Int) : ∀ n : Nat, 0 ≤ insN l v x n ∧ insN l v x n ≤ n * b
  | 0 => by simp [insN]
  | n + 1 => by
    have := insN_in (l := l) hv x n
    have := hv n
    have e : ((n + 1 : Nat) : Int) * b = n * b + b := by rw [Int.natCast_succ, Int.add_mul, Int.one_mul]
    rw [insN_s]
    split <;> omega
theorem isP_mk {l : List Acct} (hc : chkF l = 0) {c : Nat} (h : c < l.length) : isP l (c : Int) := ⟨hc, by omega, by omega⟩
theorem insN_rec {l : List Acct} (hc : chkF l = 0) (v : Nat → Int) {x : Nat} (hx : x < l.length) : ∀ n : Nat, n ≤ l.length → insN l v x n = (if x < n then v x else 0) + kT l (fun k => insN l v k n) x l.length
  | 0, _ => by
    have : ∀ m, kT l (fun k => insN l v k 0) x m = 0 := by
      intro m
      induction m with
      | zero => rfl
      | succ m ih => rw [kT_s, ih]; simp [insN]
    rw [this]; rfl
  | c + 1, hn => by
    have hp := isP_mk hc (c := c) (by omega)
    have ih := insN_rec hc v hx c (by omega)
    have e1 : kT l (fun k => insN l v k (c + 1)) x l.length = kT l (fun k => insN l v k c) x l.length + kT l (fun k => if (k : Int) ∈ pathG l 8 (c : Int) then v c else 0) x l.length := kT_add _ _
    rw [e1, kT_path hp _ _ _ (Nat.le_refl _)]
    rw [insN_s, ih]
    have hpx : (x : Int) ∈ pathG l 8 (c : Int) ↔ x = c ∨ ∃ d : Nat, d < l.length ∧ 0 < d ∧ (d : Int) ∈ pathG l 8 (c : Int) ∧ pa l d = x := by
      rw [← pathF_is hp]
      constructor
      · intro h
        by_cases h1 : x = c
        · exact .inl h1
        · obtain ⟨d, h2, h3, h4⟩ := pathF_down hp h (by omega)
          have h5 := pathF_in h2
          exact .inr ⟨d.toNat, by omega, by omega, by rwa [Int.toNat_of_nonneg (by omega)], h4⟩
      · rintro (rfl | ⟨d, _, h0, hd, hpd⟩)
        · exact pathF_self hp
        · have := pathF_up hp hd (by rw [Int.toNat_natCast, hpd]; omega)
          rwa [Int.toNat_natCast, hpd] at this
    by_cases h1 : ∃ d : Nat, d < l.length ∧ 0 < d ∧ (d : Int) ∈ pathG l 8 (c : Int) ∧ pa l d = x
    · have hxc : x ≠ c := by
        rintro rfl
        obtain ⟨d, h2, h3, h4, h5⟩ := h1
        have h6 := pathF_le hp (by rw [pathF_is hp]; exact h4)
        have h7 := pa_lt (chk_ok hc).2.1 (a := (d : Int)) (by omega)
        rw [Int.toNat_natCast, h5] at h7
        omega
      rw [if_pos (hpx.2 (.inr h1)), if_pos h1]
      by_cases h2 : x < c
      · rw [if_pos h2, if_pos (by omega)]; omega
      · rw [if_neg h2, if_neg (by omega)]; omega
    · rw [if_neg h1]
      by_cases h2 : x = c
      · subst h2
        rw [if_pos (hpx.2 (.inl rfl)), if_neg (by omega), if_pos (by omega)]; omega
      · rw [if_neg (fun h : (x : Int) ∈ pathG l 8 (c : Int) => (hpx.1 h).elim h2 h1)]
        by_cases h3 : x < c
        · rw [if_pos h3, if_pos (by omega)]; omega
        · rw [if_neg h3, if_neg (by omega)]; omega
theorem ins_rec {l : List Acct} (hc : chkF l = 0) (v : Nat → Int) {x : Nat} (hx : x < l.length) : insF l v x = v x + kT l (fun k => insF l v k) x l.length := by
  have := insN_rec hc v hx l.length (Nat.le_refl _)
  rwa [if_pos hx] at this
def downTo (l : List Acct) (v g : Nat → Int) (m : Nat) : List Int := (List.range l.length).map fun j => (if m ≤ j then v j else 0) + (kT l g j l.length - kT l g j m)
theorem downTo_len (l : List Acct) (v g : Nat → Int) (m : Nat) : (downTo l v g m).length = l.length := by simp [downTo]
theorem downTo_at {l : List Acct} {v g : Nat → Int} {m j : Nat} (h : j < (downTo l v g m).length) : (downTo l v g m)[j] = (if m ≤ j then v j else 0) + (kT l g j l.length - kT l g j m) := by simp [downTo]
theorem downTo_end (l : List Acct) (v g : Nat → Int) : downTo l v g l.length = (List.replicate l.length 0 : List Int) := by
  apply List.ext_getElem (by simp [downTo])
  intro j h1 h2
  rw [downTo_at h1, if_neg (by rw [downTo_len] at h1; omega)]
  simp
theorem downTo_g {l : List Acct} {v g : Nat → Int} {m j : Nat} (h : j < l.length) : (downTo l v g m)[j]? = some ((if m ≤ j then v j else 0) + (kT l g j l.length - kT l g j m)) := by
  rw [List.getElem?_eq_getElem (by rw [downTo_len]; exact h), downTo_at]
theorem downTo_d {l : List Acct} {v g : Nat → Int} {m j : Nat} (h : j < l.length) : (downTo l v g m).getD j 0 = (if m ≤ j then v j else 0) + (kT l g j l.length - kT l g j m) := by
  rw [List.getD_eq_getElem?_getD, downTo_g h]; rfl
theorem downTo_step {l : List Acct} (ht : treeP l) (v g : Nat → Int) {m : Nat} (hm : m < l.length) :
    downTo l v g m = (if 0 < m then ((downTo l v g (m + 1)).set m ((downTo l v g (m + 1)).getD m 0 + v m)).set (pa l m).toNat ((downTo l v g (m + 1)).getD (pa l m).toNat 0 + g m) else (downTo l v g (m + 1)).set m ((downTo l v g (m + 1)).getD m 0 + v m)) := by
  have hp := ht m hm hm
  unfold okP at hp
  rw [← pa_at hm] at hp
  apply List.ext_getElem?
  intro j
  by_cases hj : j < l.length
  · have hk : ∀ i : Int, kT l g i (m + 1) = kT l g i m + (if 0 < m ∧ pa l m = i then g m else 0) := fun i => rfl
    rw [downTo_g hj]
    by_cases h0 : 0 < m
    · rw [if_pos h0]
      have hpp : 0 ≤ pa l m ∧ pa l m < m := by rcases hp with h | h <;> omega
      by_cases hjp : j = (pa l m).toNat
      · subst hjp
        rw [List.getElem?_set_self (by rw [List.length_set, downTo_len]; exact hj), downTo_d hj, hk, if_neg (show ¬ m ≤ (pa l m).toNat by omega), if_neg (show ¬ m + 1 ≤ (pa l m).toNat by omega), if_pos (show 0 < m ∧ pa l m = ((pa l m).toNat : Int) by omega)]
        congr 1; omega
      · rw [List.getElem?_set_ne (by omega)]
        by_cases hji : j = m
        · subst hji
          rw [List.getElem?_set_self (by rw [downTo_len]; exact hj), downTo_d hj, if_pos (Nat.le_refl _), if_neg (by omega), hk, if_neg (by omega)]
          congr 1; try omega
        · rw [List.getElem?_set_ne (by omega), downTo_g hj, hk, if_neg (by omega : ¬(0 < m ∧ pa l m = j))]
          congr 1
          by_cases h3 : m ≤ j
          · rw [if_pos h3, if_pos (by omega)]; try omega
          · rw [if_neg h3, if_neg (by omega)]; try omega
    · rw [if_neg h0]
      obtain rfl : m = 0 := by omega
      by_cases hji : j = 0
      · subst hji
        rw [List.getElem?_set_self (by rw [downTo_len]; exact hj), downTo_d hj, if_pos (Nat.le_refl _), if_neg (by omega), hk, if_neg (by omega)]
        congr 1; try omega
      · rw [List.getElem?_set_ne (by omega), downTo_g hj, hk, if_pos (by omega), if_pos (by omega), if_neg (by omega)]
        congr 1; try omega
  · have e : ∀ x : List Int, x.length = l.length → x[j]? = none := fun x hx => List.getElem?_eq_none (by omega)
    rw [e _ (downTo_len _ _ _ _)]
    split <;> rw [e _ (by simp [downTo_len])]
def mn (l : List Acct) (j : Nat) : Int := if h : j < l.length then l[j].min else 0
def lw (l : List Acct) (j : Nat) : Int := if h : j < l.length then l[j].low else 0
theorem mn_at {l : List Acct} {j : Nat} (h : j < l.length) : mn l j = l[j].min := dif_pos h
theorem lw_at {l : List Acct} {j : Nat} (h : j < l.length) : lw l j = l[j].low := dif_pos h
theorem mn_in {l : List Acct} (h : amtTo l l.length) (j : Nat) : 0 ≤ mn l j ∧ mn l j ≤ 1048576 := by
  unfold mn
  split
  · rename_i hj; exact (h j hj hj).2.1
  · omega
def wt (l : List Acct) (j : Nat) : Int := if us l j < mn l j then us l j else mn l j
theorem wt_in {l : List Acct} (h : amtTo l l.length) (j : Nat) : 0 ≤ wt l j ∧ wt l j ≤ 1048576 := by
  have := us_in h j
  have := mn_in h j
  unfold wt; split <;> omega
def effG (l : List Acct) : Nat → Nat → Int
  | 0, _ => 0
  | f + 1, x => if x = 0 then us l 0 else if effG l f (pa l x).toNat < kT l (wt l) (pa l x) l.length then wt l x * effG l f (pa l x).toNat / kT l (wt l) (pa l x) l.length else wt l x
def eff (l : List Acct) (x : Nat) : Int := effG l 8 x
theorem effG_fuel {l : List Acct} (ht : treeP l) : ∀ f g x, x < f → x < g → x < l.length → effG l f x = effG l g x
  | 0, _, _, h, _, _ => by omega
  | _, 0, _, _, h, _ => by omega
  | f + 1, g + 1, x, h1, h2, h3 => by
    unfold effG
    by_cases h0 : x = 0
    · rw [if_pos h0, if_pos h0]
    · have hp := ht x h3 h3
      unfold okP at hp
      rw [← pa_at h3] at hp
      rw [if_neg h0, if_neg h0, effG_fuel ht f g _ (by omega) (by omega) (by omega)]
theorem eff_rec {l : List Acct} (ht : treeP l) (hl : l.length ≤ 8) {x : Nat} (hx : x < l.length) (h0 : 0 < x) :
    eff l x = if eff l (pa l x).toNat < kT l (wt l) (pa l x) l.length then wt l x * eff l (pa l x).toNat / kT l (wt l) (pa l x) l.length else wt l x := by
  have hp := ht x hx hx
  unfold okP at hp
  rw [← pa_at hx] at hp
  unfold eff
  rw [show effG l 8 x = effG l (7 + 1) x from rfl, effG, if_neg (by omega), effG_fuel ht 7 8 _ (by omega) (by omega) (by omega)]
theorem eff_zero (l : List Acct) : eff l 0 = us l 0 := by unfold eff effG; rw [if_pos rfl]
theorem eff_in {l : List Acct} (hc : chkF l = 0) : ∀ x, x < l.length → 0 ≤ eff l x ∧ eff l x ≤ us l x ∧ (0 < x → eff l x ≤ wt l x) := by
  obtain ⟨hl, ht, ha, _⟩ := chk_ok hc
  intro x
  induction x using Nat.strongRecOn with
  | _ x ih =>
    intro hx
    have hu := us_in ha.1 x
    have hw := wt_in ha.1 x
    have hwu : wt l x ≤ us l x := by unfold wt; split <;> omega
    by_cases h0 : x = 0
    · subst h0; rw [eff_zero]; omega
    · have hp := ht x hx hx
      unfold okP at hp
      rw [← pa_at hx] at hp
      have ih := ih (pa l x).toNat (by omega) (by omega)
      rw [eff_rec ht hl.2 hx (by omega)]
      have ht0 := kT_in (l := l) (f := wt l) (b := 1048576) (wt_in ha.1) (pa l x) l.length
      generalize eff l (pa l x).toNat = g at *
      generalize kT l (wt l) (pa l x) l.length = t at *
      by_cases h1 : g < t
      · rw [if_pos h1]
        have h2 : 0 ≤ wt l x * g / t := Int.ediv_nonneg (Int.mul_nonneg hw.1 ih.1) (by omega)
        have h3 : wt l x * g / t ≤ wt l x := by
          refine Int.le_trans (Int.ediv_le_ediv (by omega) (Int.mul_le_mul_of_nonneg_left (Int.le_of_lt h1) hw.1)) ?_
          rw [Int.mul_ediv_cancel _ (by omega)]; exact Int.le_refl _
        exact ⟨h2, by omega, fun _ => h3⟩
      · rw [if_neg h1]; exact ⟨hw.1, hwu, fun _ => Int.le_refl _⟩
def flr (l : List Acct) (low : Bool) (x : Nat) : Int := if low then lw l x else mn l x
def vF (v : List Int) (j : Nat) : Int := v.getD j 0
def valP (l : List Acct) (v : List Int) : Prop := chkF l = 0 ∧ v.length = l.length ∧ ∀ x ∈ v, inR x
theorem vF_in {l : List Acct} {v : List Int} (h : valP l v) (j : Nat) : 0 ≤ vF v j ∧ vF v j ≤ 1048576 := by
  unfold vF
  by_cases hj : j < v.length
  · rw [List.getD_eq_getElem?_getD, List.getElem?_eq_getElem hj]; exact h.2.2 _ (List.getElem_mem hj)
  · rw [List.getD_eq_getElem?_getD, List.getElem?_eq_none (by omega)]; simp
def stuckP (l : List Acct) (v : List Int) (a s : Int) (low : Bool) : Prop := ∃ x ∈ pathG l 8 a, 0 < x ∧ s < x ∧ us l x.toNat - insF l (vF v) x ≤ flr l low x.toNat
def askP (l : List Acct) (v : List Int) (a s : Int) : Prop := valP l v ∧ (0 ≤ a ∧ a < l.length) ∧ (-1 ≤ s ∧ s < l.length)
def grdP (l : List Acct) (v : List Int) (a s : Int) (low : Bool) : Prop := ¬ (askP l v a s ∧ (s = -1 ∨ s ∈ pathG l 8 a)) ∨ stuckP l v a s low
def openP (l : List Acct) (v : List Int) (s : Int) (a : Nat) : Prop := vF v a < us l a - kids l a ∧ ¬ grdP l v a s false
noncomputable def opnF (l : List Acct) (v : List Int) (s : Int) : Int := if valP l v then firstI (fun a => decide (openP l v s a)) (List.range l.length) else -1
noncomputable def insL (l : List Acct) (v : List Int) : List Int := (List.range l.length).map fun (j : Nat) => insF l (vF v) (j : Int)
noncomputable def effL (l : List Acct) : List Int := (List.range l.length).map (eff l)
end Go.Proofs.Ytolnhkpckbgmgaa
end
section
/- Protection: plain laws. -/
set_option linter.unusedSimpArgs false
set_option linter.unusedVariables false
namespace Go.Proofs.Ytolnhkpckbgmgaa
open Go.AM Classical
set_option maxRecDepth 100000
set_option maxHeartbeats 4000000
theorem pathG_fuel {l : List Acct} (ht : treeP l) : ∀ (f g : Nat) (a : Int), a < f → a < g → a < l.length → pathG l f a = pathG l g a
  | 0, 0, _, _, _, _ => rfl
  | 0, g + 1, a, h, _, _ => by rw [pathG, pathG, if_neg (by omega)]
  | f + 1, 0, a, _, h, _ => by rw [pathG, pathG, if_neg (by omega)]
  | f + 1, g + 1, a, h1, h2, h3 => by
    rw [pathG, pathG]
    by_cases h0 : 0 ≤ a
    · have hp := pa_lt ht (a := a) ⟨h0, h3⟩
      rw [if_pos h0, if_pos h0, pathG_fuel ht f g _ (by omega) (by omega) (by omega)]
    · rw [if_neg h0, if_neg h0]
theorem path_mem {l : List Acct} {a : Int} (h : isP l a) {y : Int} : y ∈ pathG l 8 a ↔ y = a ∨ y ∈ pathG l 8 (pa l a.toNat) := by
  obtain ⟨hl, ht, _⟩ := chk_ok h.1
  have hp := pa_lt ht h.2
  have h2 := h.2
  rw [show pathG l 8 a = pathG l (7 + 1) a from rfl, pathG, if_pos h.2.1, List.mem_cons, pathG_fuel ht 7 8 _ (by omega) (by omega) (by omega)]
theorem path_self {l : List Acct} {a : Int} (h : isP l a) : a ∈ pathG l 8 a := (path_mem h).2 (.inl rfl)
theorem path_range {l : List Acct} {a y : Int} (h : isP l a) (hy : y ∈ pathG l 8 a) : 0 ≤ y ∧ y < l.length ∧ y ≤ a :=
  pathG_in (chk_ok h.1).2.1 8 a h.2.2 y hy
end Go.Proofs.Ytolnhkpckbgmgaa
end
section
/- min -/
/- Protection: contracts of the program's functions. -/
set_option linter.unusedSimpArgs false
set_option linter.unusedVariables false
namespace Go.Proofs.Ytolnhkpckbgmgaa
open Go.AM Classical
set_option maxRecDepth 100000
set_option maxHeartbeats 4000000
abbrev ints (v : List Int) : D := .vs 1 (v.map (.int .i64)) v.length
theorem valid_c (l : List Acct) (hL : l.length ≤ 9223372036854775807) (v : List Int) : PCon Try.prog 25 [accs l, ints v] (.bool (decide (valP l v))) := by
  have c1 := check_c l hL
  refine A25p (by simp [A25]) ?_
  simp only [A25, argEnv]
  by_cases h : chkF l = 0
  · rw [h] at c1
    obtain ⟨hl, _⟩ := chk_ok h
    repeat' (first | (with_reducible first | refine W_seq ?_ | refine then_n ?_ | refine W_block ?_ | refine blk_n ?_ | refine blk_r ?_ | refine blk_e ?_ | refine W_skip ?_ | refine W_ret ?_ | refine then_r ?_ | refine W_exit ?_ | refine then_e ?_) | ((with_reducible refine s_reg ?_); intro K hK) | ((with_reducible refine k_nil ?_); (with_reducible apply s_nil hK); (· exact nmX); clear hK; clear K) | ((with_reducible refine k_cond ?_); (first | ((with_reducible apply s_condT); (· rfl); (· exact nmX)) | ((with_reducible apply s_condF); (· rfl); (· exact nmX)) | ((with_reducible apply s_condS); (· rfl); (· exact nmX); (· exact nmX)))) | ((with_reducible refine k_guard ?_); (first | (refine s_gt rfl ?_) | (refine s_gf1 rfl ?_) | (refine s_gfn rfl ?_) | (refine s_gx1 rfl ?_) | (refine s_gxn rfl ?_) | (refine s_gs rfl ?_))) | ((with_reducible refine k_mv ?_); (refine s_mv rfl ?_)) | ((with_reducible refine k_len ?_); (first | (refine s_len rfl rfl ?_) | ((with_reducible apply s_len); (· rfl); (· exact SlOwn.len (by assumption))))) | ((with_reducible refine k_pick ?_); (first | (refine s_pickT rfl rfl ?_) | (refine s_pickF rfl rfl ?_))) | ((with_reducible refine k_neq ?_); (first | (refine s_neq rfl rfl ?_) | (refine s_strNe rfl rfl ?_))) | ((with_reducible refine k_callF ?_); (first | ((with_reducible apply s_call1); (· rfl)) | ((with_reducible apply s_calln); (· rfl)))) | ((with_reducible refine k_con ?_); (first | ((with_reducible apply con_val (c1)); (· (exact agX)); (· rfl); (· exact fun _ => rfl)))) | ((with_reducible refine k_br ?_); (first | (with_reducible first | refine Br_dec ?_ | refine Br_not ?_ | refine Br_eqF ?_ | refine Br_and ?_ | refine Br_or ?_ | refine Br_neg ?_ | refine Br_band ?_ | refine Br_bor ?_ | refine Br_beq ?_) | (refine Br_t (by first | with_reducible rfl | omega | assumption | rfl) ?_) | (refine Br_f (by first | omega | assumption | decide) ?_) | (with_reducible apply Br_sb <;> intro hbr <;> (first | subst hbr | simp only [hbr] | skip)) | (with_reducible apply Br_s <;> intro hbr))))
    all_goals first | exact Fin_bf trivial rfl (by rintro ⟨_, h2, _⟩; omega) | skip
    refine W_for v.length (fun i st => (∀ j (hj : j < v.length), j < i → inR v[j]) ∧ st = ⟨[(17, ints v), (18, .int .i64 v.length), (19, .int .i64 i)], fun _ => none⟩) ⟨fun j _ h => by omega, rfl⟩ ?_ ?_
    · rintro i e' h' hi ⟨hj, he⟩
      cases he
      have hg := map_g (k := .i64) hi
      rw [← getD_at hi] at hg
      generalize hx : v[i] = x at hg
      repeat' (first | (with_reducible first | refine W_seq ?_ | refine then_n ?_ | refine W_block ?_ | refine blk_n ?_ | refine blk_r ?_ | refine blk_e ?_ | refine W_skip ?_ | refine W_ret ?_ | refine then_r ?_ | refine W_exit ?_ | refine then_e ?_) | ((with_reducible refine s_reg ?_); intro K hK) | ((with_reducible refine k_nil ?_); (with_reducible apply s_nil hK); (· exact nmX); clear hK; clear K) | ((with_reducible refine k_cond ?_); (first | ((with_reducible apply s_condT); (· rfl); (· exact nmX)) | ((with_reducible apply s_condF); (· rfl); (· exact nmX)) | ((with_reducible apply s_condS); (· rfl); (· exact nmX); (· exact nmX)))) | ((with_reducible refine k_guard ?_); (first | (refine s_gt rfl ?_) | (refine s_gf1 rfl ?_) | (refine s_gfn rfl ?_) | (refine s_gx1 rfl ?_) | (refine s_gxn rfl ?_) | (refine s_gs rfl ?_))) | ((with_reducible refine k_mv ?_); (refine s_mv rfl ?_)) | ((with_reducible refine k_pick ?_); (first | (refine s_pickT rfl rfl ?_) | (refine s_pickF rfl rfl ?_))) | ((with_reducible refine k_lss ?_); (refine s_lss rfl rfl ?_)) | ((with_reducible refine k_gtr ?_); (refine s_gtr rfl rfl ?_)) | ((with_reducible refine k_iaddr ?_); (first | ((with_reducible apply s_iaddrV); (· rfl); (· rfl); (· (first | omega | exact ⟨rfl, by omega⟩ | skip))) | ((with_reducible apply s_iaddrO); (· rfl); (· rfl); (· (first | omega | exact ⟨rfl, by omega⟩ | skip)); (· (exact hpX))) | ((with_reducible apply s_iaddrSO); (· rfl); (· assumption); (· rfl); (· (first | omega | exact ⟨rfl, by omega⟩ | skip)); (· (first | (simp (disch := omega) only [w64, wu8, wu16, wu32, wu64, tm_nn, td_nn, fd_nn, Int.reduceAdd, Int.reduceSub, Int.reduceMul, Int.reduceDiv, Int.reduceMod, Int.reduceNeg, Int.reduceToNat, Int.toNat_natCast, Int.toNat_zero, Int.zero_add, Int.add_zero, Int.one_mul, Int.reducePow, Nat.mul_one, Nat.zero_add, Nat.add_zero, Nat.zero_mul, Nat.reduceAdd, Nat.reduceMul, Nat.reduceSub, Nat.min_eq_left, IntKind.bits, Nat.sub_zero, hg]; try rfl; done) | rfl)); intro ks hks))) | ((with_reducible refine k_load ?_); (first | ((with_reducible apply s_loadV); (· rfl)) | ((with_reducible apply s_loadP); (· rfl); (· (exact hpX))))) | ((with_reducible refine k_add ?_); ((with_reducible apply s_add); (· rfl); (· rfl))) | ((with_reducible refine k_br ?_); (first | (with_reducible first | refine Br_dec ?_ | refine Br_not ?_ | refine Br_eqF ?_ | refine Br_and ?_ | refine Br_or ?_ | refine Br_neg ?_ | refine Br_band ?_ | refine Br_bor ?_ | refine Br_beq ?_) | (refine Br_t (by first | with_reducible rfl | omega | assumption | rfl) ?_) | (refine Br_f (by first | omega | assumption | decide) ?_) | (with_reducible apply Br_sb <;> intro hbr <;> (first | subst hbr | simp only [hbr] | skip)) | (with_reducible apply Br_s <;> intro hbr))) | ((first | (with_reducible apply q_eqI) | (with_reducible apply q_eqN)); (first | (simp (disch := omega) only [w64, wu8, wu16, wu32, wu64, tm_nn, td_nn, fd_nn, Int.reduceAdd, Int.reduceSub, Int.reduceMul, Int.reduceDiv, Int.reduceMod, Int.reduceNeg, Int.reduceToNat, Int.toNat_natCast, Int.toNat_zero, Int.zero_add, Int.add_zero, Int.one_mul, Int.reducePow, Nat.mul_one, Nat.zero_add, Nat.add_zero, Nat.zero_mul, Nat.reduceAdd, Nat.reduceMul, Nat.reduceSub, Nat.min_eq_left, IntKind.bits, Nat.sub_zero, hg]; try rfl; done) | rfl)) | ((first | (with_reducible apply q_eqL) | (with_reducible apply q_eqO)); (first | (simp (disch := omega) only [upd_self, upd_ne, upd_upd, rep, splice, List.take_succ_cons, List.take_zero, List.drop_succ_cons, List.drop_zero, List.cons_append, List.nil_append, List.append_nil, List.length_cons, List.length_nil, List.reduceReplicate, List.flatten_cons, List.flatten_nil, Nat.reduceAdd, Nat.reduceMul, Nat.reduceSub, Nat.zero_add, Nat.add_zero, List.getElem?_cons_zero, List.getElem?_cons_succ, hg]; try rfl; done) | rfl)))
      all_goals first
        | exact Fin_bf trivial rfl (fun h2 => by have := h2.2.2 _ (List.getElem_mem hi); rw [hx] at this; unfold inR at this; omega)
        | (refine ⟨fun j h2 h3 => ?_, rfl⟩
           rcases Nat.lt_succ_iff_lt_or_eq.1 h3 with h4 | rfl
           · exact hj j h2 h4
           · rw [hx]; unfold inR; omega)
    · rintro e' h' ⟨hj, he⟩
      cases he
      repeat' (first | (with_reducible first | refine W_seq ?_ | refine then_n ?_ | refine W_block ?_ | refine blk_n ?_ | refine blk_r ?_ | refine blk_e ?_ | refine W_skip ?_ | refine W_ret ?_ | refine then_r ?_ | refine W_exit ?_ | refine then_e ?_) | ((with_reducible refine s_reg ?_); intro K hK) | ((with_reducible refine k_nil ?_); (with_reducible apply s_nil hK); (· exact nmX); clear hK; clear K) | ((with_reducible refine k_cond ?_); (first | ((with_reducible apply s_condT); (· rfl); (· exact nmX)) | ((with_reducible apply s_condF); (· rfl); (· exact nmX)) | ((with_reducible apply s_condS); (· rfl); (· exact nmX); (· exact nmX)))) | ((with_reducible refine k_mv ?_); (refine s_mv rfl ?_)) | ((with_reducible refine k_lss ?_); (refine s_lss rfl rfl ?_)) | ((with_reducible refine k_br ?_); (first | (with_reducible first | refine Br_dec ?_ | refine Br_not ?_ | refine Br_eqF ?_ | refine Br_and ?_ | refine Br_or ?_ | refine Br_neg ?_ | refine Br_band ?_ | refine Br_bor ?_ | refine Br_beq ?_) | (refine Br_t (by first | with_reducible rfl | omega | assumption | rfl) ?_) | (refine Br_f (by first | omega | assumption | decide) ?_) | (with_reducible apply Br_sb <;> intro hbr <;> (first | subst hbr | simp only [hbr] | skip)) | (with_reducible apply Br_s <;> intro hbr))))
      exact Fin_bt trivial rfl ⟨h, by omega, fun x hx => by obtain ⟨j, h2, rfl⟩ := List.getElem_of_mem hx; exact hj j h2 h2⟩
  · repeat' (first | (with_reducible first | refine W_seq ?_ | refine then_n ?_ | refine W_block ?_ | refine blk_n ?_ | refine blk_r ?_ | refine blk_e ?_ | refine W_skip ?_ | refine W_ret ?_ | refine then_r ?_ | refine W_exit ?_ | refine then_e ?_) | ((with_reducible refine s_reg ?_); intro K hK) | ((with_reducible refine k_nil ?_); (with_reducible apply s_nil hK); (· exact nmX); clear hK; clear K) | ((with_reducible refine k_cond ?_); (first | ((with_reducible apply s_condT); (· rfl); (· exact nmX)) | ((with_reducible apply s_condF); (· rfl); (· exact nmX)) | ((with_reducible apply s_condS); (· rfl); (· exact nmX); (· exact nmX)))) | ((with_reducible refine k_guard ?_); (first | (refine s_gt rfl ?_) | (refine s_gf1 rfl ?_) | (refine s_gfn rfl ?_) | (refine s_gx1 rfl ?_) | (refine s_gxn rfl ?_) | (refine s_gs rfl ?_))) | ((with_reducible refine k_mv ?_); (refine s_mv rfl ?_)) | ((with_reducible refine k_pick ?_); (first | (refine s_pickT rfl rfl ?_) | (refine s_pickF rfl rfl ?_))) | ((with_reducible refine k_neq ?_); (first | (refine s_neq rfl rfl ?_) | (refine s_strNe rfl rfl ?_))) | ((with_reducible refine k_callF ?_); (first | ((with_reducible apply s_call1); (· rfl)) | ((with_reducible apply s_calln); (· rfl)))) | ((with_reducible refine k_con ?_); (first | ((with_reducible apply con_val (c1)); (· (exact agX)); (· rfl); (· exact fun _ => rfl)))) | ((with_reducible refine k_br ?_); (first | (with_reducible first | refine Br_dec ?_ | refine Br_not ?_ | refine Br_eqF ?_ | refine Br_and ?_ | refine Br_or ?_ | refine Br_neg ?_ | refine Br_band ?_ | refine Br_bor ?_ | refine Br_beq ?_) | (refine Br_t (by first | with_reducible rfl | omega | assumption | rfl) ?_) | (refine Br_f (by first | omega | assumption | decide) ?_) | (with_reducible apply Br_sb <;> intro hbr <;> (first | subst hbr | simp only [hbr] | skip)) | (with_reducible apply Br_s <;> intro hbr))))
    all_goals first | (exfalso; omega) | exact Fin_bf trivial rfl (fun h2 => h h2.1)
theorem ins_in {l : List Acct} {v : List Int} (h : valP l v) (x : Int) : 0 ≤ insF l (vF v) x ∧ insF l (vF v) x ≤ 8388608 := by
  have h1 := insN_in (l := l) (vF_in h) x l.length
  have := (chk_ok h.1).1
  unfold insF
  omega
theorem insL_len (l : List Acct) (v : List Int) : (insL l v).length = l.length := by simp [insL]
theorem insL_g {l : List Acct} {v : List Int} {i : Nat} (hi : i < l.length) : ((insL l v).map (D.int .i64))[i]? = some (.int .i64 (insF l (vF v) i)) := by
  rw [List.getElem?_map, List.getElem?_eq_getElem (by rw [insL_len]; exact hi)]; simp [insL]
theorem downTo_zero {l : List Acct} {v : List Int} (h : chkF l = 0) : downTo l (vF v) (fun k => insF l (vF v) k) 0 = insL l v := by
  apply List.ext_getElem (by simp [downTo, insL])
  intro j h1 h2
  rw [downTo_at h1]
  simp only [insL, List.getElem_map, List.getElem_range]
  rw [insL_len] at h2
  rw [if_pos (Nat.zero_le _), ins_rec h (vF v) h2]
  show _ + (_ - 0) = _
  omega
theorem inside1_c (l : List Acct) (v : List Int) (h : valP l v) : PCon Try.prog 44 [accs l, ints v] (.ow 1 ((insL l v).map (.int .i64)) l.length) := by
  obtain ⟨hl, ht, _⟩ := chk_ok h.1
  have hvl := h.2.1
  have hal := accs_len l
  have hn : ∀ m, ((downTo l (vF v) (fun k => insF l (vF v) k) m).map (D.int .i64)).length = l.length := fun m => by rw [List.length_map, downTo_len]
  refine A44p (by simp [A44]) ?_
  simp only [A44, argEnv]
  repeat' (first | (with_reducible first | refine W_seq ?_ | refine then_n ?_ | refine W_block ?_ | refine blk_n ?_ | refine blk_r ?_ | refine blk_e ?_ | refine W_skip ?_ | refine W_ret ?_ | refine then_r ?_ | refine W_exit ?_ | refine then_e ?_) | ((with_reducible refine s_reg ?_); intro K hK) | ((with_reducible refine k_nil ?_); (with_reducible apply s_nil hK); (· exact nmX); clear hK; clear K) | ((with_reducible refine k_mv ?_); (refine s_mv rfl ?_)) | ((with_reducible refine k_len ?_); (first | (refine s_len rfl rfl ?_) | ((with_reducible apply s_len); (· rfl); (· exact SlOwn.len (by assumption))))) | ((with_reducible refine k_sub ?_); ((with_reducible apply s_sub); (· rfl); (· rfl))) | ((with_reducible refine k_mkslice (dst := some 9) ?_); ((with_reducible apply s_mkslice); (· rfl); (· rfl); (· (exact ⟨rfl, by decide, by omega, by omega, by (rw [room_i]; omega), by omega⟩)); (· ((first | exact nuI | exact nuN))); intro k9 hk9; (try simp only [upd_none] at hk9))) | ((first | (with_reducible apply q_eqI) | (with_reducible apply q_eqN)); (first | exact nuI | exact nuN)))
  refine W_down l.length (fun m st => ∃ h', m ≤ l.length ∧ st = ⟨[(0, accs l), (1, ints v), (5, .sl k9 1 0 l.length), (6, .int .i64 ((m : Int) - 1))], h'⟩ ∧ h' k9 = some ((downTo l (vF v) (fun k => insF l (vF v) k) m).map (.int .i64))) ⟨_, Nat.le_refl _, rfl, ?_⟩ ?_
  · rw [upd_self, downTo_end, rep_zero (xs := List.replicate l.length 0) (by simp) (by simp)]
  · rintro m e' h' ⟨h1, hm, he, hk⟩
    cases he
    cases m with
    | zero =>
      repeat' (first | (with_reducible first | refine W_seq ?_ | refine then_n ?_ | refine W_block ?_ | refine blk_n ?_ | refine blk_r ?_ | refine blk_e ?_ | refine W_skip ?_ | refine W_ret ?_ | refine then_r ?_ | refine W_exit ?_ | refine then_e ?_) | ((with_reducible refine s_reg ?_); intro K hK) | ((with_reducible refine k_nil ?_); (with_reducible apply s_nil hK); (· exact nmX); clear hK; clear K) | ((with_reducible refine k_cond ?_); (first | ((with_reducible apply s_condT); (· rfl); (· exact nmX)) | ((with_reducible apply s_condF); (· rfl); (· exact nmX)) | ((with_reducible apply s_condS); (· rfl); (· exact nmX); (· exact nmX)))) | ((with_reducible refine k_mv ?_); (refine s_mv rfl ?_)) | ((with_reducible refine k_geq ?_); (refine s_geq rfl rfl ?_)) | ((with_reducible refine k_br ?_); (first | (with_reducible first | refine Br_dec ?_ | refine Br_not ?_ | refine Br_eqF ?_ | refine Br_and ?_ | refine Br_or ?_ | refine Br_neg ?_ | refine Br_band ?_ | refine Br_bor ?_ | refine Br_beq ?_) | (refine Br_t (by first | with_reducible rfl | omega | assumption | rfl) ?_) | (refine Br_f (by first | omega | assumption | decide) ?_) | (with_reducible apply Br_sb <;> intro hbr <;> (first | subst hbr | simp only [hbr] | skip)) | (with_reducible apply Br_s <;> intro hbr))))
      rw [downTo_zero h.1] at hk
      exact Fin_sl trivial rfl hk (by rw [List.length_map, insL_len]; omega) scal_i
    | succ n =>
      have hnl : n < l.length := by omega
      have e1 : ((n + 1 : Nat) : Int) - 1 = n := by omega
      rw [e1]
      have hst := downTo_step ht (vF v) (fun k => insF l (vF v) k) hnl
      have hrec := ins_rec h.1 (vF v) hnl
      have hDn := downTo_d (l := l) (v := vF v) (g := fun k => insF l (vF v) k) (m := n + 1) hnl
      rw [if_neg (by omega), kT_zero ht (Nat.le_refl _) (by omega)] at hDn
      have hI := ins_in h n
      have hv1 := vF_in h n
      have hgn := map_g (k := .i64) (xs := downTo l (vF v) (fun k => insF l (vF v) k) (n + 1)) (i := n) (by rw [downTo_len]; exact hnl)
      have hgv : (v.map (D.int .i64))[n]? = some (.int .i64 (vF v n)) := map_g (by omega)
      have hv0 : (downTo l (vF v) (fun k => insF l (vF v) k) (n + 1)).getD n 0 + vF v n = insF l (vF v) n := by omega
      have hln := hn (n + 1)
      rw [hv0] at hst
      by_cases h0 : 0 < n
      · have hp := ht n hnl hnl
        unfold okP at hp
        rw [← pa_at hnl] at hp
        have hpp : 0 ≤ pa l n ∧ pa l n < n := by rcases hp with h | h <;> omega
        have hpa : (l.flatMap Acct.cells)[n * 5]? = some (.int .i64 (pa l n)) := by rw [ac0 hnl, pa_at hnl]
        have hDp := downTo_d (l := l) (v := vF v) (g := fun k => insF l (vF v) k) (m := n + 1) (j := (pa l n).toNat) (by omega)
        rw [if_neg (by omega)] at hDp
        have hb1 := kT_in (l := l) (f := fun k => insF l (vF v) k) (b := 8388608) (fun c => ins_in h c) ((pa l n).toNat : Int) l.length
        have hb2 := kT_in (l := l) (f := fun k => insF l (vF v) k) (b := 8388608) (fun c => ins_in h c) ((pa l n).toNat : Int) (n + 1)
        rw [if_pos h0] at hst
        generalize hDD : downTo l (vF v) (fun k => insF l (vF v) k) (n + 1) = D1 at *
        have hD1 : D1.length = l.length := by rw [← hDD, downTo_len]
        have s1 := map_st (k := .i64) (xs := D1) (i := n) (v := insF l (vF v) n) (by omega) rfl
        have s2 := map_st (k := .i64) (xs := D1.set n (insF l (vF v) n)) (i := (pa l n).toNat) (by rw [List.length_set]; omega) hst.symm
        have g1 := map_g (k := .i64) (xs := D1.set n (insF l (vF v) n)) (i := n) (by rw [List.length_set]; omega)
        have g2 := map_g (k := .i64) (xs := D1.set n (insF l (vF v) n)) (i := (pa l n).toNat) (by rw [List.length_set]; omega)
        rw [List.getD_eq_getElem?_getD, List.getElem?_set_self (by omega), Option.getD_some] at g1
        rw [List.getD_eq_getElem?_getD, List.getElem?_set_ne (by omega), ← List.getD_eq_getElem?_getD] at g2
        have ls : ((D1.set n (insF l (vF v) n)).map (D.int .i64)).length = l.length := by rw [List.length_map, List.length_set, hD1]
        generalize D1.getD (pa l n).toNat 0 = P0 at *
        generalize D1.getD n 0 = N0 at *
        repeat' (first | (with_reducible first | refine W_seq ?_ | refine then_n ?_ | refine W_block ?_ | refine blk_n ?_ | refine blk_r ?_ | refine blk_e ?_ | refine W_skip ?_ | refine W_ret ?_ | refine then_r ?_ | refine W_exit ?_ | refine then_e ?_) | ((with_reducible refine s_reg ?_); intro K hK) | ((with_reducible refine k_nil ?_); (with_reducible apply s_nil hK); (· exact nmX); clear hK; clear K) | ((with_reducible refine k_cond ?_); (first | ((with_reducible apply s_condT); (· rfl); (· exact nmX)) | ((with_reducible apply s_condF); (· rfl); (· exact nmX)) | ((with_reducible apply s_condS); (· rfl); (· exact nmX); (· exact nmX)))) | ((with_reducible refine k_mv ?_); (refine s_mv rfl ?_)) | ((with_reducible refine k_gtr ?_); (refine s_gtr rfl rfl ?_)) | ((with_reducible refine k_geq ?_); (refine s_geq rfl rfl ?_)) | ((with_reducible refine k_iaddr ?_); (first | ((with_reducible apply s_iaddrV); (· rfl); (· rfl); (· (first | omega | exact ⟨rfl, by omega⟩ | skip))) | ((with_reducible apply s_iaddrO); (· rfl); (· rfl); (· (first | omega | exact ⟨rfl, by omega⟩ | skip)); (· (exact hpX))) | ((with_reducible apply s_iaddrSO); (· rfl); (· assumption); (· rfl); (· (first | omega | exact ⟨rfl, by omega⟩ | skip)); (· (first | (simp (disch := omega) only [w64, wu8, wu16, wu32, wu64, tm_nn, td_nn, fd_nn, Int.reduceAdd, Int.reduceSub, Int.reduceMul, Int.reduceDiv, Int.reduceMod, Int.reduceNeg, Int.reduceToNat, Int.toNat_natCast, Int.toNat_zero, Int.zero_add, Int.add_zero, Int.one_mul, Int.reducePow, Nat.mul_one, Nat.zero_add, Nat.add_zero, Nat.zero_mul, Nat.reduceAdd, Nat.reduceMul, Nat.reduceSub, Nat.min_eq_left, IntKind.bits, Nat.sub_zero, hgn, hgv, hpa, hv0, s1, s2, g1, g2]; try rfl; done) | rfl)); intro ks hks))) | ((with_reducible refine k_load ?_); (first | ((with_reducible apply s_loadV); (· rfl)) | ((with_reducible apply s_loadP); (· rfl); (· (exact hpX))))) | ((with_reducible refine k_add ?_); ((with_reducible apply s_add); (· rfl); (· rfl))) | ((with_reducible refine k_sub ?_); ((with_reducible apply s_sub); (· rfl); (· rfl))) | ((with_reducible refine k_store ?_); ((with_reducible apply s_store0); (· rfl); (· rfl); (· rfl); (· (exact hpX)); (· (exact ⟨rfl, by first | exact Nat.le_of_ble_eq_true rfl | omega | (simp [hgn, hgv, hpa, hv0, s1, s2, g1, g2]; omega)⟩)); (· ((first | (simp (disch := omega) only [upd_self, upd_ne, upd_upd, rep, splice, List.take_succ_cons, List.take_zero, List.drop_succ_cons, List.drop_zero, List.cons_append, List.nil_append, List.append_nil, List.length_cons, List.length_nil, List.reduceReplicate, List.flatten_cons, List.flatten_nil, Nat.reduceAdd, Nat.reduceMul, Nat.reduceSub, Nat.zero_add, Nat.add_zero, List.getElem?_cons_zero, List.getElem?_cons_succ, hgn, hgv, hpa, hv0, s1, s2, g1, g2]; try rfl; done) | rfl))); (· (first | exact upd_upd | rfl)))) | ((with_reducible refine k_faddr ?_); (first | ((with_reducible apply s_faddrV); (· rfl); (· rfl)) | ((with_reducible apply s_faddrP); (· rfl); (· rfl)))) | ((with_reducible refine k_dreg ?_); refine s_dregS (pre := A44d6p) rfl rfl rfl ?_; intro K hK) | ((with_reducible refine k_dreg ?_); refine s_dregS (pre := A44d8p) rfl rfl rfl ?_; intro K hK) | (with_reducible refine d_nilS ?_) | ((with_reducible refine k_dop ?_); refine d_step (by first | exact Or.inl rfl | exact Or.inr rfl) ?_) | (with_reducible refine d_back ?_) | ((with_reducible refine k_br ?_); (first | (with_reducible first | refine Br_dec ?_ | refine Br_not ?_ | refine Br_eqF ?_ | refine Br_and ?_ | refine Br_or ?_ | refine Br_neg ?_ | refine Br_band ?_ | refine Br_bor ?_ | refine Br_beq ?_) | (refine Br_t (by first | with_reducible rfl | omega | assumption | rfl) ?_) | (refine Br_f (by first | omega | assumption | decide) ?_) | (with_reducible apply Br_sb <;> intro hbr <;> (first | subst hbr | simp only [hbr] | skip)) | (with_reducible apply Br_s <;> intro hbr))) | ((first | (with_reducible apply q_eqI) | (with_reducible apply q_eqN)); (first | (simp (disch := omega) only [w64, wu8, wu16, wu32, wu64, tm_nn, td_nn, fd_nn, Int.reduceAdd, Int.reduceSub, Int.reduceMul, Int.reduceDiv, Int.reduceMod, Int.reduceNeg, Int.reduceToNat, Int.toNat_natCast, Int.toNat_zero, Int.zero_add, Int.add_zero, Int.one_mul, Int.reducePow, Nat.mul_one, Nat.zero_add, Nat.add_zero, Nat.zero_mul, Nat.reduceAdd, Nat.reduceMul, Nat.reduceSub, Nat.min_eq_left, IntKind.bits, Nat.sub_zero, hgn, hgv, hpa, hv0, s1, s2, g1, g2]; try rfl; done) | rfl)) | ((first | (with_reducible apply q_eqL) | (with_reducible apply q_eqO)); (first | (simp (disch := omega) only [upd_self, upd_ne, upd_upd, rep, splice, List.take_succ_cons, List.take_zero, List.drop_succ_cons, List.drop_zero, List.cons_append, List.nil_append, List.append_nil, List.length_cons, List.length_nil, List.reduceReplicate, List.flatten_cons, List.flatten_nil, Nat.reduceAdd, Nat.reduceMul, Nat.reduceSub, Nat.zero_add, Nat.add_zero, List.getElem?_cons_zero, List.getElem?_cons_succ, hgn, hgv, hpa, hv0, s1, s2, g1, g2]; try rfl; done) | rfl)))
        all_goals first | (exfalso; omega) | skip
        exact ⟨n, by omega, _, by omega, rfl, upd_self⟩
      · obtain rfl : n = 0 := by omega
        rw [if_neg (by omega)] at hst
        generalize hDD : downTo l (vF v) (fun k => insF l (vF v) k) (0 + 1) = D1 at *
        have hD1 : D1.length = l.length := by rw [← hDD, downTo_len]
        have s1 := map_st (k := .i64) (xs := D1) (i := 0) (by omega) hst.symm
        generalize D1.getD 0 0 = N0 at *
        repeat' (first | (with_reducible first | refine W_seq ?_ | refine then_n ?_ | refine W_block ?_ | refine blk_n ?_ | refine blk_r ?_ | refine blk_e ?_ | refine W_skip ?_ | refine W_ret ?_ | refine then_r ?_ | refine W_exit ?_ | refine then_e ?_) | ((with_reducible refine s_reg ?_); intro K hK) | ((with_reducible refine k_nil ?_); (with_reducible apply s_nil hK); (· exact nmX); clear hK; clear K) | ((with_reducible refine k_cond ?_); (first | ((with_reducible apply s_condT); (· rfl); (· exact nmX)) | ((with_reducible apply s_condF); (· rfl); (· exact nmX)) | ((with_reducible apply s_condS); (· rfl); (· exact nmX); (· exact nmX)))) | ((with_reducible refine k_mv ?_); (refine s_mv rfl ?_)) | ((with_reducible refine k_gtr ?_); (refine s_gtr rfl rfl ?_)) | ((with_reducible refine k_geq ?_); (refine s_geq rfl rfl ?_)) | ((with_reducible refine k_iaddr ?_); (first | ((with_reducible apply s_iaddrV); (· rfl); (· rfl); (· (first | omega | exact ⟨rfl, by omega⟩ | skip))) | ((with_reducible apply s_iaddrO); (· rfl); (· rfl); (· (first | omega | exact ⟨rfl, by omega⟩ | skip)); (· (exact hpX))) | ((with_reducible apply s_iaddrSO); (· rfl); (· assumption); (· rfl); (· (first | omega | exact ⟨rfl, by omega⟩ | skip)); (· (first | (simp (disch := omega) only [w64, wu8, wu16, wu32, wu64, tm_nn, td_nn, fd_nn, Int.reduceAdd, Int.reduceSub, Int.reduceMul, Int.reduceDiv, Int.reduceMod, Int.reduceNeg, Int.reduceToNat, Int.toNat_natCast, Int.toNat_zero, Int.zero_add, Int.add_zero, Int.one_mul, Int.reducePow, Nat.mul_one, Nat.zero_add, Nat.add_zero, Nat.zero_mul, Nat.reduceAdd, Nat.reduceMul, Nat.reduceSub, Nat.min_eq_left, IntKind.bits, Nat.sub_zero, hgn, hgv, hv0, s1]; try rfl; done) | rfl)); intro ks hks))) | ((with_reducible refine k_load ?_); (first | ((with_reducible apply s_loadV); (· rfl)) | ((with_reducible apply s_loadP); (· rfl); (· (exact hpX))))) | ((with_reducible refine k_add ?_); ((with_reducible apply s_add); (· rfl); (· rfl))) | ((with_reducible refine k_sub ?_); ((with_reducible apply s_sub); (· rfl); (· rfl))) | ((with_reducible refine k_store ?_); ((with_reducible apply s_store0); (· rfl); (· rfl); (· rfl); (· (exact hpX)); (· (exact ⟨rfl, by first | exact Nat.le_of_ble_eq_true rfl | omega | (simp [hgn, hgv, hv0, s1]; omega)⟩)); (· ((first | (simp (disch := omega) only [upd_self, upd_ne, upd_upd, rep, splice, List.take_succ_cons, List.take_zero, List.drop_succ_cons, List.drop_zero, List.cons_append, List.nil_append, List.append_nil, List.length_cons, List.length_nil, List.reduceReplicate, List.flatten_cons, List.flatten_nil, Nat.reduceAdd, Nat.reduceMul, Nat.reduceSub, Nat.zero_add, Nat.add_zero, List.getElem?_cons_zero, List.getElem?_cons_succ, hgn, hgv, hv0, s1]; try rfl; done) | rfl))); (· (first | exact upd_upd | rfl)))) | ((with_reducible refine k_dreg ?_); refine s_dregS (pre := A44d6p) rfl rfl rfl ?_; intro K hK) | (with_reducible refine d_nilS ?_) | ((with_reducible refine k_dop ?_); refine d_step (by first | exact Or.inl rfl | exact Or.inr rfl) ?_) | (with_reducible refine d_back ?_) | ((with_reducible refine k_br ?_); (first | (with_reducible first | refine Br_dec ?_ | refine Br_not ?_ | refine Br_eqF ?_ | refine Br_and ?_ | refine Br_or ?_ | refine Br_neg ?_ | refine Br_band ?_ | refine Br_bor ?_ | refine Br_beq ?_) | (refine Br_t (by first | with_reducible rfl | omega | assumption | rfl) ?_) | (refine Br_f (by first | omega | assumption | decide) ?_) | (with_reducible apply Br_sb <;> intro hbr <;> (first | subst hbr | simp only [hbr] | skip)) | (with_reducible apply Br_s <;> intro hbr))) | ((first | (with_reducible apply q_eqI) | (with_reducible apply q_eqN)); (first | (simp (disch := omega) only [w64, wu8, wu16, wu32, wu64, tm_nn, td_nn, fd_nn, Int.reduceAdd, Int.reduceSub, Int.reduceMul, Int.reduceDiv, Int.reduceMod, Int.reduceNeg, Int.reduceToNat, Int.toNat_natCast, Int.toNat_zero, Int.zero_add, Int.add_zero, Int.one_mul, Int.reducePow, Nat.mul_one, Nat.zero_add, Nat.add_zero, Nat.zero_mul, Nat.reduceAdd, Nat.reduceMul, Nat.reduceSub, Nat.min_eq_left, IntKind.bits, Nat.sub_zero, hgn, hgv, hv0, s1]; try rfl; done) | rfl)) | ((first | (with_reducible apply q_eqL) | (with_reducible apply q_eqO)); (first | (simp (disch := omega) only [upd_self, upd_ne, upd_upd, rep, splice, List.take_succ_cons, List.take_zero, List.drop_succ_cons, List.drop_zero, List.cons_append, List.nil_append, List.append_nil, List.length_cons, List.length_nil, List.reduceReplicate, List.flatten_cons, List.flatten_nil, Nat.reduceAdd, Nat.reduceMul, Nat.reduceSub, Nat.zero_add, Nat.add_zero, List.getElem?_cons_zero, List.getElem?_cons_succ, hgn, hgv, hv0, s1]; try rfl; done) | rfl)))
        all_goals first | (exfalso; omega) | skip
        exact ⟨0, by omega, _, by omega, rfl, by rw [upd_self, ← s1]; rfl⟩
theorem guarded_c (l : List Acct) (hL : l.length ≤ 9223372036854775807) (v : List Int) (a s : Int) (low : Bool) : PCon Try.prog 27 [accs l, ints v, .int .i64 a, .int .i64 s, .bool low] (.bool (decide (grdP l v a s low))) := by
  have c1 := valid_c l hL v
  refine A27p (by simp [A27]) ?_
  simp only [A27, argEnv]
  by_cases hq : askP l v a s
  · obtain ⟨hv, ha, hs⟩ := hq
    have c2 := inside1_c l v hv
    obtain ⟨hl, ht, ham, _⟩ := chk_ok hv.1
    have hp : isP l a := ⟨hv.1, ha⟩
    have n1 : ((insL l v).map (D.int .i64)).length = l.length := by rw [List.length_map, insL_len]
    have hal := accs_len l
    rw [decide_eq_true hv] at c1
    repeat' (first | (with_reducible first | refine W_seq ?_ | refine then_n ?_ | refine W_block ?_ | refine blk_n ?_ | refine blk_r ?_ | refine blk_e ?_ | refine W_skip ?_ | refine W_ret ?_ | refine then_r ?_ | refine W_exit ?_ | refine then_e ?_) | ((with_reducible refine s_reg ?_); intro K hK) | ((with_reducible refine k_nil ?_); (with_reducible apply s_nil hK); (· exact nmX); clear hK; clear K) | ((with_reducible refine k_cond ?_); (first | ((with_reducible apply s_condT); (· rfl); (· exact nmX)) | ((with_reducible apply s_condF); (· rfl); (· exact nmX)) | ((with_reducible apply s_condS); (· rfl); (· exact nmX); (· exact nmX)))) | ((with_reducible refine k_guard ?_); (first | (refine s_gt rfl ?_) | (refine s_gf1 rfl ?_) | (refine s_gfn rfl ?_) | (refine s_gx1 rfl ?_) | (refine s_gxn rfl ?_) | (refine s_gs rfl ?_))) | ((with_reducible refine k_mv ?_); (refine s_mv rfl ?_)) | ((with_reducible refine k_len ?_); (first | (refine s_len rfl rfl ?_) | ((with_reducible apply s_len); (· rfl); (· exact SlOwn.len (by assumption))))) | ((with_reducible refine k_pick ?_); (first | (refine s_pickT rfl rfl ?_) | (refine s_pickF rfl rfl ?_))) | ((with_reducible refine k_not ?_); (refine s_not rfl (by first | exact Bool.not_true | exact Bool.not_false | rfl) ?_)) | ((with_reducible refine k_lss ?_); (refine s_lss rfl rfl ?_)) | ((with_reducible refine k_geq ?_); (refine s_geq rfl rfl ?_)) | ((with_reducible refine k_mima ?_); ((with_reducible apply s_mima); (· rfl); (· rfl))) | ((with_reducible refine k_callF ?_); (first | ((with_reducible apply s_call1); (· rfl)) | ((with_reducible apply s_calln); (· rfl)))) | ((with_reducible refine k_con ?_); (first | ((with_reducible apply con_val (c1)); (· (exact agX)); (· rfl); (· exact fun _ => rfl)) | ((with_reducible apply con_of_pcon (c2)); (· (exact agX)); intro kI hkI; (try simp only [upd_none] at hkI); simp only [thaw, thawC, List.map, thawH, owOf, owL]))) | ((with_reducible refine k_br ?_); (first | (with_reducible first | refine Br_dec ?_ | refine Br_not ?_ | refine Br_eqF ?_ | refine Br_and ?_ | refine Br_or ?_ | refine Br_neg ?_ | refine Br_band ?_ | refine Br_bor ?_ | refine Br_beq ?_) | (refine Br_t (by first | with_reducible rfl | omega | assumption | rfl) ?_) | (refine Br_f (by first | omega | assumption | decide) ?_) | (with_reducible apply Br_sb <;> intro hbr <;> (first | subst hbr | simp only [hbr] | skip)) | (with_reducible apply Br_s <;> intro hbr))))
    all_goals first | (exfalso; omega) | skip
    rw [if_pos (rfl : true = true)]
    generalize hE : (if s < 0 then (0 : Int) else s) = E
    have hE2 : 0 ≤ E ∧ (s ≤ E ∧ (E = s ∨ (E = 0 ∧ s = -1))) := by split at hE <;> omega
    refine W_down (a.toNat) (fun m st => ∃ x g, m = x.toNat ∧ x ∈ pathG l 8 a ∧ (∀ y ∈ pathG l 8 a, x < y → E < y) ∧ (g = true ↔ ∃ y ∈ pathG l 8 a, x < y ∧ us l y.toNat - insF l (vF v) y ≤ flr l low y.toNat) ∧
      st = ⟨[(0, accs l), (4, .bool low), (11, .sl kI 1 0 l.length), (12, .int .i64 E), (13, .bool g), (14, .int .i64 x)], upd (fun _ => none) kI ((insL l v).map (.int .i64))⟩) ⟨a, false, rfl, path_self hp, fun y hy h => by have := path_range hp hy; omega, ⟨(fun h => by cases h), (fun ⟨y, hy, h, _⟩ => by have := path_range hp hy; omega)⟩, rfl⟩ ?_
    rintro m e' h' ⟨x, g, rfl, hx, hxE, hg, he⟩
    cases he
    have hxr := path_range hp hx
    by_cases hxx : E < x
    · have hxl : x.toNat < l.length := by omega
      have hpx := ht x.toNat hxl hxl
      unfold okP at hpx
      rw [← pa_at hxl] at hpx
      have hpp : 0 ≤ pa l x.toNat ∧ pa l x.toNat < x := by rcases hpx with h | h <;> omega
      have hup := pathF_up hp (by rw [pathF_is hp]; exact hx) hpp.1
      rw [pathF_is hp] at hup
      have hgap : ∀ y ∈ pathG l 8 a, pa l x.toNat < y → x ≤ y := fun y hy h => by
        refine Classical.byContradiction fun h2 => ?_
        have := pathF_gap hp (by rw [pathF_is hp]; exact hx) (by rw [pathF_is hp]; exact hy) (by omega)
        omega
      have g0 : (l.flatMap Acct.cells)[x.toNat * 5]? = some (.int .i64 (pa l x.toNat)) := by rw [ac0 hxl, pa_at hxl]
      have g1 : (l.flatMap Acct.cells)[x.toNat * 5 + 1]? = some (.int .i64 (us l x.toNat)) := by rw [ac1 hxl, us_at hxl]
      have g2 : (l.flatMap Acct.cells)[x.toNat * 5 + 2]? = some (.int .i64 (mn l x.toNat)) := by rw [ac2 hxl, mn_at hxl]
      have g3 : (l.flatMap Acct.cells)[x.toNat * 5 + 3]? = some (.int .i64 (lw l x.toNat)) := by rw [ac3 hxl, lw_at hxl]
      have gI := insL_g (v := v) hxl
      rw [Int.toNat_of_nonneg hxr.1] at gI
      have hu := us_in ham.1 x.toNat
      have hi := ins_in hv x
      have hfl : flr l low x.toNat = if low then lw l x.toNat else mn l x.toNat := rfl
      have fin : ∀ g' : Bool, (g' = true ↔ (g = true ∨ us l x.toNat - insF l (vF v) x ≤ flr l low x.toNat)) → ∃ m', m' < x.toNat ∧ ∃ x' g'', m' = x'.toNat ∧ x' ∈ pathG l 8 a ∧ (∀ y ∈ pathG l 8 a, x' < y → E < y) ∧ (g'' = true ↔ ∃ y ∈ pathG l 8 a, x' < y ∧ us l y.toNat - insF l (vF v) y ≤ flr l low y.toNat) ∧
          (⟨[(0, accs l), (4, .bool low), (11, .sl kI 1 0 l.length), (12, .int .i64 E), (13, .bool g'), (14, .int .i64 (pa l x.toNat))], upd (fun _ => none) kI ((insL l v).map (.int .i64))⟩ : St) = ⟨[(0, accs l), (4, .bool low), (11, .sl kI 1 0 l.length), (12, .int .i64 E), (13, .bool g''), (14, .int .i64 x')], upd (fun _ => none) kI ((insL l v).map (.int .i64))⟩ := fun g' hg' =>
        ⟨(pa l x.toNat).toNat, by omega, pa l x.toNat, g', rfl, hup, fun y hy h => by have := hgap y hy h; omega, by
          rw [hg', hg]
          constructor
          · rintro (⟨y, hy, h, r⟩ | h)
            · exact ⟨y, hy, by omega, r⟩
            · exact ⟨x, hx, hpp.2, h⟩
          · rintro ⟨y, hy, h, r⟩
            have := hgap y hy h
            by_cases hyx : y = x
            · subst hyx; exact .inr r
            · exact .inl ⟨y, hy, by omega, r⟩, rfl⟩
      clear hg hxE hgap hup hpx
      rw [hfl] at fin
      cases low <;> cases g
      all_goals simp only [Bool.false_eq_true, if_false, if_true, false_or, true_or, iff_true] at fin
      all_goals
        repeat' (first | (with_reducible first | refine W_seq ?_ | refine then_n ?_ | refine W_block ?_ | refine blk_n ?_ | refine blk_r ?_ | refine blk_e ?_ | refine W_skip ?_ | refine W_ret ?_ | refine then_r ?_ | refine W_exit ?_ | refine then_e ?_) | ((with_reducible refine s_reg ?_); intro K hK) | ((with_reducible refine k_nil ?_); (with_reducible apply s_nil hK); (· exact nmX); clear hK; clear K) | ((with_reducible refine k_cond ?_); (first | ((with_reducible apply s_condT); (· rfl); (· exact nmX)) | ((with_reducible apply s_condF); (· rfl); (· exact nmX)) | ((with_reducible apply s_condS); (· rfl); (· exact nmX); (· exact nmX)))) | ((with_reducible refine k_mv ?_); (refine s_mv rfl ?_)) | ((with_reducible refine k_pick ?_); (first | (refine s_pickT rfl rfl ?_) | (refine s_pickF rfl rfl ?_))) | ((with_reducible refine k_leq ?_); (refine s_leq rfl rfl ?_)) | ((with_reducible refine k_gtr ?_); (refine s_gtr rfl rfl ?_)) | ((with_reducible refine k_iaddr ?_); (first | ((with_reducible apply s_iaddrV); (· rfl); (· rfl); (· (first | omega | exact ⟨rfl, by omega⟩ | skip))) | ((with_reducible apply s_iaddrO); (· rfl); (· rfl); (· (first | omega | exact ⟨rfl, by omega⟩ | skip)); (· (exact hpX))) | ((with_reducible apply s_iaddrSO); (· rfl); (· assumption); (· rfl); (· (first | omega | exact ⟨rfl, by omega⟩ | skip)); (· (first | (simp (disch := omega) only [w64, wu8, wu16, wu32, wu64, tm_nn, td_nn, fd_nn, Int.reduceAdd, Int.reduceSub, Int.reduceMul, Int.reduceDiv, Int.reduceMod, Int.reduceNeg, Int.reduceToNat, Int.toNat_natCast, Int.toNat_zero, Int.zero_add, Int.add_zero, Int.one_mul, Int.reducePow, Nat.mul_one, Nat.zero_add, Nat.add_zero, Nat.zero_mul, Nat.reduceAdd, Nat.reduceMul, Nat.reduceSub, Nat.min_eq_left, IntKind.bits, Nat.sub_zero, g0, g1, g2, g3, gI]; try rfl; done) | rfl)); intro ks hks))) | ((with_reducible refine k_load ?_); (first | ((with_reducible apply s_loadV); (· rfl)) | ((with_reducible apply s_loadP); (· rfl); (· (exact hpX))))) | ((with_reducible refine k_sub ?_); ((with_reducible apply s_sub); (· rfl); (· rfl))) | ((with_reducible refine k_faddr ?_); (first | ((with_reducible apply s_faddrV); (· rfl); (· rfl)) | ((with_reducible apply s_faddrP); (· rfl); (· rfl)))) | ((with_reducible refine k_dreg ?_); refine s_dreg rfl rfl ?_; intro K hK) | ((with_reducible refine k_dnil ?_); (with_reducible apply d_nil hK); (· exact nmX); clear hK; clear K) | ((with_reducible refine k_dguard ?_); (first | (refine d_gt rfl ?_) | (refine d_gf rfl ?_) | (refine d_gx rfl ?_) | (refine d_gs rfl ?_))) | ((with_reducible refine k_dop ?_); refine d_step (by first | exact Or.inl rfl | exact Or.inr rfl) ?_) | (with_reducible refine d_back ?_) | ((with_reducible refine k_br ?_); (first | (with_reducible first | refine Br_dec ?_ | refine Br_not ?_ | refine Br_eqF ?_ | refine Br_and ?_ | refine Br_or ?_ | refine Br_neg ?_ | refine Br_band ?_ | refine Br_bor ?_ | refine Br_beq ?_) | (refine Br_t (by first | with_reducible rfl | omega | assumption | rfl) ?_) | (refine Br_f (by first | omega | assumption | decide) ?_) | (with_reducible apply Br_sb <;> intro hbr <;> (first | subst hbr | simp only [hbr] | skip)) | (with_reducible apply Br_s <;> intro hbr))) | ((first | (with_reducible apply q_eqI) | (with_reducible apply q_eqN)); (first | (simp (disch := omega) only [w64, wu8, wu16, wu32, wu64, tm_nn, td_nn, fd_nn, Int.reduceAdd, Int.reduceSub, Int.reduceMul, Int.reduceDiv, Int.reduceMod, Int.reduceNeg, Int.reduceToNat, Int.toNat_natCast, Int.toNat_zero, Int.zero_add, Int.add_zero, Int.one_mul, Int.reducePow, Nat.mul_one, Nat.zero_add, Nat.add_zero, Nat.zero_mul, Nat.reduceAdd, Nat.reduceMul, Nat.reduceSub, Nat.min_eq_left, IntKind.bits, Nat.sub_zero, g0, g1, g2, g3, gI]; try rfl; done) | rfl)) | ((first | (with_reducible apply q_eqL) | (with_reducible apply q_eqO)); (first | (simp (disch := omega) only [upd_self, upd_ne, upd_upd, rep, splice, List.take_succ_cons, List.take_zero, List.drop_succ_cons, List.drop_zero, List.cons_append, List.nil_append, List.append_nil, List.length_cons, List.length_nil, List.reduceReplicate, List.flatten_cons, List.flatten_nil, Nat.reduceAdd, Nat.reduceMul, Nat.reduceSub, Nat.zero_add, Nat.add_zero, List.getElem?_cons_zero, List.getElem?_cons_succ, g0, g1, g2, g3, gI]; try rfl; done) | rfl)))
      all_goals first | (exfalso; omega) | exact fin true rfl | exact fin true ⟨fun _ => by assumption, fun _ => rfl⟩ | exact fin false ⟨(fun h => by cases h), fun h => absurd h (by assumption)⟩
    · cases g
      · have hno : ∀ y ∈ pathG l 8 a, x < y → ¬ us l y.toNat - insF l (vF v) y ≤ flr l low y.toNat := fun y hy h h2 => by
          have := hg.2 ⟨y, hy, h, h2⟩
          cases this
        repeat' (first | (with_reducible first | refine W_seq ?_ | refine then_n ?_ | refine W_block ?_ | refine blk_n ?_ | refine blk_r ?_ | refine blk_e ?_ | refine W_skip ?_ | refine W_ret ?_ | refine then_r ?_ | refine W_exit ?_ | refine then_e ?_) | ((with_reducible refine s_reg ?_); intro K hK) | ((with_reducible refine k_nil ?_); (with_reducible apply s_nil hK); (· exact nmX); clear hK; clear K) | ((with_reducible refine k_cond ?_); (first | ((with_reducible apply s_condT); (· rfl); (· exact nmX)) | ((with_reducible apply s_condF); (· rfl); (· exact nmX)) | ((with_reducible apply s_condS); (· rfl); (· exact nmX); (· exact nmX)))) | ((with_reducible refine k_guard ?_); (first | (refine s_gt rfl ?_) | (refine s_gf1 rfl ?_) | (refine s_gfn rfl ?_) | (refine s_gx1 rfl ?_) | (refine s_gxn rfl ?_) | (refine s_gs rfl ?_))) | ((with_reducible refine k_mv ?_); (refine s_mv rfl ?_)) | ((with_reducible refine k_pick ?_); (first | (refine s_pickT rfl rfl ?_) | (refine s_pickF rfl rfl ?_))) | ((with_reducible refine k_neq ?_); (first | (refine s_neq rfl rfl ?_) | (refine s_strNe rfl rfl ?_))) | ((with_reducible refine k_gtr ?_); (refine s_gtr rfl rfl ?_)) | ((with_reducible refine k_br ?_); (first | (with_reducible first | refine Br_dec ?_ | refine Br_not ?_ | refine Br_eqF ?_ | refine Br_and ?_ | refine Br_or ?_ | refine Br_neg ?_ | refine Br_band ?_ | refine Br_bor ?_ | refine Br_beq ?_) | (refine Br_t (by first | with_reducible rfl | omega | assumption | rfl) ?_) | (refine Br_f (by first | omega | assumption | decide) ?_) | (with_reducible apply Br_sb <;> intro hbr <;> (first | subst hbr | simp only [hbr] | skip)) | (with_reducible apply Br_s <;> intro hbr))))
        all_goals first | (exfalso; omega) | skip
        · refine Fin_bf trivial rfl ?_
          have hxE' : x = E := by assumption
          rintro (h | ⟨y, hy, h0, hys, hf⟩)
          · refine h ⟨⟨hv, ha, hs⟩, ?_⟩
            rcases hE2.2.2 with h1 | h1
            · right; rw [← h1, ← hxE']; exact hx
            · exact .inl h1.2
          · exact hno y hy (by omega) hf
        · refine Fin_bt trivial rfl (.inl ?_)
          rintro ⟨_, h1 | h1⟩
          · omega
          · have := path_range hp h1
            have := hxE s h1 (by omega)
            omega
      · obtain ⟨y, hy, h, h2⟩ := hg.1 rfl
        have := hxE y hy h
        repeat' (first | (with_reducible first | refine W_seq ?_ | refine then_n ?_ | refine W_block ?_ | refine blk_n ?_ | refine blk_r ?_ | refine blk_e ?_ | refine W_skip ?_ | refine W_ret ?_ | refine then_r ?_ | refine W_exit ?_ | refine then_e ?_) | ((with_reducible refine s_reg ?_); intro K hK) | ((with_reducible refine k_nil ?_); (with_reducible apply s_nil hK); (· exact nmX); clear hK; clear K) | ((with_reducible refine k_cond ?_); (first | ((with_reducible apply s_condT); (· rfl); (· exact nmX)) | ((with_reducible apply s_condF); (· rfl); (· exact nmX)) | ((with_reducible apply s_condS); (· rfl); (· exact nmX); (· exact nmX)))) | ((with_reducible refine k_guard ?_); (first | (refine s_gt rfl ?_) | (refine s_gf1 rfl ?_) | (refine s_gfn rfl ?_) | (refine s_gx1 rfl ?_) | (refine s_gxn rfl ?_) | (refine s_gs rfl ?_))) | ((with_reducible refine k_mv ?_); (refine s_mv rfl ?_)) | ((with_reducible refine k_pick ?_); (first | (refine s_pickT rfl rfl ?_) | (refine s_pickF rfl rfl ?_))) | ((with_reducible refine k_gtr ?_); (refine s_gtr rfl rfl ?_)) | ((with_reducible refine k_br ?_); (first | (with_reducible first | refine Br_dec ?_ | refine Br_not ?_ | refine Br_eqF ?_ | refine Br_and ?_ | refine Br_or ?_ | refine Br_neg ?_ | refine Br_band ?_ | refine Br_bor ?_ | refine Br_beq ?_) | (refine Br_t (by first | with_reducible rfl | omega | assumption | rfl) ?_) | (refine Br_f (by first | omega | assumption | decide) ?_) | (with_reducible apply Br_sb <;> intro hbr <;> (first | subst hbr | simp only [hbr] | skip)) | (with_reducible apply Br_s <;> intro hbr))))
        all_goals first | (exfalso; omega) | skip
        all_goals exact Fin_bt trivial rfl (.inr ⟨y, hy, by omega, by omega, h2⟩)
  · repeat' (first | (with_reducible first | refine W_seq ?_ | refine then_n ?_ | refine W_block ?_ | refine blk_n ?_ | refine blk_r ?_ | refine blk_e ?_ | refine W_skip ?_ | refine W_ret ?_ | refine then_r ?_ | refine W_exit ?_ | refine then_e ?_) | ((with_reducible refine s_reg ?_); intro K hK) | ((with_reducible refine k_nil ?_); (with_reducible apply s_nil hK); (· exact nmX); clear hK; clear K) | ((with_reducible refine k_cond ?_); (first | ((with_reducible apply s_condT); (· rfl); (· exact nmX)) | ((with_reducible apply s_condF); (· rfl); (· exact nmX)) | ((with_reducible apply s_condS); (· rfl); (· exact nmX); (· exact nmX)))) | ((with_reducible refine k_guard ?_); (first | (refine s_gt rfl ?_) | (refine s_gf1 rfl ?_) | (refine s_gfn rfl ?_) | (refine s_gx1 rfl ?_) | (refine s_gxn rfl ?_) | (refine s_gs rfl ?_))) | ((with_reducible refine k_mv ?_); (refine s_mv rfl ?_)) | ((with_reducible refine k_len ?_); (first | (refine s_len rfl rfl ?_) | ((with_reducible apply s_len); (· rfl); (· exact SlOwn.len (by assumption))))) | ((with_reducible refine k_pick ?_); (first | (refine s_pickT rfl rfl ?_) | (refine s_pickF rfl rfl ?_))) | ((with_reducible refine k_not ?_); (refine s_not rfl (by first | exact Bool.not_true | exact Bool.not_false | rfl) ?_)) | ((with_reducible refine k_lss ?_); (refine s_lss rfl rfl ?_)) | ((with_reducible refine k_geq ?_); (refine s_geq rfl rfl ?_)) | ((with_reducible refine k_callF ?_); (first | ((with_reducible apply s_call1); (· rfl)) | ((with_reducible apply s_calln); (· rfl)))) | ((with_reducible refine k_con ?_); (first | ((with_reducible apply con_valB (c1)); (· (exact agX))))) | ((with_reducible refine k_br ?_); (first | (with_reducible first | refine Br_dec ?_ | refine Br_not ?_ | refine Br_eqF ?_ | refine Br_and ?_ | refine Br_or ?_ | refine Br_neg ?_ | refine Br_band ?_ | refine Br_bor ?_ | refine Br_beq ?_) | (refine Br_t (by first | with_reducible rfl | omega | assumption | rfl) ?_) | (refine Br_f (by first | omega | assumption | decide) ?_) | (with_reducible apply Br_sb <;> intro hbr <;> (first | subst hbr | simp only [hbr] | skip)) | (with_reducible apply Br_s <;> intro hbr))))
    all_goals first | exact Fin_bt trivial rfl (.inl fun h => hq h.1) | (exfalso; exact hq ⟨by assumption, by omega⟩)
end Go.Proofs.Ytolnhkpckbgmgaa
end
