import Derived.Test.YthblalidmmbcoaaE5q5baa74
import Derived.Test.YthblalidmmbcoaaAmZ3q643cc1
section
/- min -/
/- Ordered. -/
set_option linter.unusedSimpArgs false
set_option linter.unusedVariables false
namespace Go.Proofs.Ythblalidmmbcoaa
open Go.AM Classical
set_option maxRecDepth 100000
set_option maxHeartbeats 4000000
def flO (l : List Ev) (a : Int) (i : Nat) : Bool := decide (0 ≤ comF l i a ∧ sepF l (comF l i a) i = true)
def odO (l : List Ev) (a b : Int) (i : Nat) : Bool := decide (0 ≤ subF l i b ∧ flO l a (subF l i b).toNat = true)
theorem sepF_s {l : List Ev} {f : Int} {i : Nat} (hi : i < l.length) : sepF l f ((i : Int) + 1) = (sepF l f i || decide (f ≤ i ∧ l[i].kind = 3)) := by
  unfold sepF
  rw [Bool.eq_iff_iff]
  simp only [decide_eq_true_eq, Bool.or_eq_true]
  constructor
  · rintro ⟨j, hj, h1, h2, h3⟩
    by_cases he : j = i
    · subst he; exact .inr ⟨h1, h3⟩
    · exact .inl ⟨j, hj, h1, by omega, h3⟩
  · rintro (⟨j, hj, h1, h2, h3⟩ | ⟨h1, h2⟩)
    · exact ⟨j, hj, h1, by omega, h3⟩
    · exact ⟨i, hi, h1, by omega, h2⟩
theorem flO_s {l : List Ev} {a : Int} {i : Nat} (hi : i < l.length) (hv : l[i].kind = 2 → comF l i l[i].id < 0) : flO l a (i + 1) = if l[i].kind = 3 then (flO l a i || decide (0 ≤ comF l i a)) else flO l a i := by
  have hc := comF_s hi a
  have h4 := comF_ge l i a
  have hlt : comF l i a < i ∨ comF l i a < 0 := by
    unfold comF firstI
    split
    · rename_i h; left; rw [List.length_take] at h; omega
    · right; omega
  unfold flO
  rw [hc]
  by_cases h0 : 0 ≤ comF l i a
  · rw [if_pos h0]
    have e1 : (((i + 1 : Nat)) : Int) = (i : Int) + 1 := by omega
    rw [e1, sepF_s hi]
    by_cases hk : l[i].kind = 3
    · rw [if_pos hk]
      rw [decide_eq_true (show comF l i a ≤ i ∧ l[i].kind = 3 from ⟨by omega, hk⟩)]
      simp [h0]
    · rw [if_neg hk, decide_eq_false (show ¬ (comF l i a ≤ i ∧ l[i].kind = 3) from fun h => hk h.2), Bool.or_false]
  · rw [if_neg h0]
    have e0 : (decide (0 ≤ comF l i a ∧ sepF l (comF l i a) i = true)) = false := decide_eq_false fun h => h0 h.1
    rw [e0, decide_eq_false h0]
    have : decide (0 ≤ (if isD a l[i] = true then (i : Int) else -1) ∧ sepF l (if isD a l[i] = true then (i : Int) else -1) ((i + 1 : Nat) : Int) = true) = false := decide_eq_false fun ⟨h1, h2⟩ => by
      split at h1
      · rename_i hd
        rw [if_pos hd] at h2
        obtain ⟨j, hj, q1, q2, q3⟩ := of_decide_eq_true h2
        have hji : j = i := by omega
        subst hji
        have hd2 := of_decide_eq_true hd
        omega
      · omega
    rw [this]
    simp
theorem comF_mono {l : List Ev} {n : Nat} {i : Int} (h : 0 ≤ comF l n i) : ∀ m, n ≤ m → m ≤ l.length → comF l m i = comF l n i
  | m, h1, h2 => by
    rcases Nat.lt_or_ge n m with h3 | h3
    · obtain ⟨k, rfl⟩ : ∃ k, m = k + 1 := ⟨m - 1, by omega⟩
      have ih := comF_mono h k (by omega) (by omega)
      rw [comF_s (by omega), ih, if_pos h]
    · have : m = n := by omega
      rw [this]
theorem comF_late {l : List Ev} {n : Nat} {i : Int} (h : comF l n i < 0) : ∀ m, n ≤ m → m ≤ l.length → comF l m i < 0 ∨ n ≤ comF l m i
  | m, h1, h2 => by
    rcases Nat.lt_or_ge n m with h3 | h3
    · obtain ⟨k, rfl⟩ : ∃ k, m = k + 1 := ⟨m - 1, by omega⟩
      have ih := comF_late h k (by omega) (by omega)
      rw [comF_s (by omega)]
      split
      · omega
      · split <;> omega
    · have : m = n := by omega
      rw [this]; exact .inl h
theorem odO_end {l : List Ev} {a b : Int} (hb : 0 ≤ subF l l.length b) : odO l a b l.length = decide (0 ≤ comF l l.length a ∧ sepF l (comF l l.length a) (subF l l.length b) = true) := by
  unfold odO flO
  obtain ⟨h1, h2, -, -⟩ := subF_sp hb
  obtain ⟨s, hs⟩ : ∃ s : Nat, subF l l.length b = s := ⟨(subF l l.length b).toNat, by omega⟩
  rw [hs] at h1 ⊢
  rw [Int.toNat_natCast] at h1 ⊢
  rw [Bool.eq_iff_iff]
  simp only [decide_eq_true_eq]
  constructor
  · rintro ⟨-, h3, h4⟩
    rw [comF_mono h3 l.length (by omega) (Nat.le_refl _)]
    exact ⟨h3, h4⟩
  · rintro ⟨h3, h4⟩
    refine ⟨by omega, ?_⟩
    by_cases h5 : 0 ≤ comF l s a
    · rw [comF_mono h5 l.length (by omega) (Nat.le_refl _)] at h4
      exact ⟨h5, h4⟩
    · obtain ⟨j, hj, q1, q2, q3⟩ := of_decide_eq_true h4
      have := comF_late (by omega : comF l s a < 0) l.length (by omega) (Nat.le_refl _)
      omega
theorem odO_s {l : List Ev} {a b : Int} {i : Nat} (hi : i < l.length) (hv : l[i].kind = 1 → subF l i l[i].id < 0) : odO l a b (i + 1) = if l[i].kind = 1 ∧ l[i].id = b then flO l a i else odO l a b i := by
  unfold odO
  rw [subF_s hi]
  by_cases h0 : 0 ≤ subF l i b
  · rw [if_pos h0]
    rw [if_neg (fun h => by have := hv h.1; rw [h.2] at this; omega)]
  · rw [if_neg h0]
    by_cases hw : l[i].kind = 1 ∧ l[i].id = b
    · rw [if_pos hw, if_pos (show isW b l[i] = true from decide_eq_true hw)]
      simp
    · rw [if_neg hw, if_neg (fun (h : isW b l[i] = true) => hw (of_decide_eq_true h))]
      have := subF_ge l i b
      rw [show subF l i b = -1 by omega]
theorem sn_s {l : List Ev} {b : Int} {i : Nat} (hi : i < l.length) : decide (0 ≤ subF l (i + 1) b) = if l[i].kind = 1 ∧ l[i].id = b then true else decide (0 ≤ subF l i b) := by
  rw [subF_s hi]
  by_cases hw : l[i].kind = 1 ∧ l[i].id = b
  · rw [if_pos hw, if_pos (show isW b l[i] = true from decide_eq_true hw)]
    split <;> simp <;> omega
  · rw [if_neg hw, if_neg (fun (h : isW b l[i] = true) => hw (of_decide_eq_true h))]
    split
    · rfl
    · rename_i h; rw [decide_eq_false h]; rfl
theorem dn_s {l : List Ev} {b : Int} {i : Nat} (hi : i < l.length) : decide (0 ≤ comF l (i + 1) b) = if l[i].kind = 2 ∧ l[i].id = b then true else decide (0 ≤ comF l i b) := by
  rw [comF_s hi]
  by_cases hw : l[i].kind = 2 ∧ l[i].id = b
  · rw [if_pos hw, if_pos (show isD b l[i] = true from decide_eq_true hw)]
    split <;> simp <;> omega
  · rw [if_neg hw, if_neg (fun (h : isD b l[i] = true) => hw (of_decide_eq_true h))]
    split
    · rfl
    · rename_i h; rw [decide_eq_false h]; rfl
theorem chk_uniq {B : List Bs} {l : List Ev} (hc : chkR B l = 0) {i : Nat} (hi : i < l.length) : (l[i].kind = 1 → subF l i l[i].id < 0) ∧ (l[i].kind = 2 → comF l i l[i].id < 0) := by
  unfold chkR at hc
  split at hc
  · have := fE_zero.1 hc i hi
    unfold evE at this
    rw [dif_pos hi] at this
    constructor <;> intro hk
    · rw [if_pos hk] at this
      repeat' split at this
      all_goals omega
    · rw [if_neg (by omega), if_pos hk] at this
      repeat' split at this
      all_goals omega
  · omega
theorem dordered_c (B : List Bs) (l : List Ev) (hB : B.length ≤ 1000000) (hL : l.length ≤ 900) (hid : ∀ x ∈ l, -9223372036854775808 ≤ x.id ∧ x.id ≤ 9223372036854775807) (a b : Int) : PCon Try.prog 21 [bsD B, evD l, .int .i64 a, .int .i64 b] (ordR B l a b) := by
  refine A21p (by simp [A21]) ?_
  simp only [A21, argEnv]
  have hal := evs_len l
  have c1 := dcheck_c B l hB hL hid
  unfold ordR
  by_cases hc : chkR B l = 0
  · rw [if_pos hc]
    rw [hc] at c1
    repeat' (first | (with_reducible first | refine W_seq ?_ | refine then_n ?_ | refine W_block ?_ | refine blk_n ?_ | refine blk_r ?_ | refine blk_e ?_ | refine W_skip ?_ | refine W_ret ?_ | refine then_r ?_ | refine W_exit ?_ | refine then_e ?_) | ((with_reducible refine s_reg ?_); intro K hK) | ((with_reducible refine k_nil ?_); (with_reducible apply s_nil hK); (· exact nmX); clear hK; clear K) | ((with_reducible refine k_cond ?_); (first | ((with_reducible apply s_condT); (· rfl); (· exact nmX)) | ((with_reducible apply s_condF); (· rfl); (· exact nmX)) | ((with_reducible apply s_condS); (· rfl); (· exact nmX); (· exact nmX)))) | ((with_reducible refine k_mv ?_); (refine s_mv rfl ?_)) | ((with_reducible refine k_len ?_); (first | (refine s_len rfl rfl ?_) | ((with_reducible apply s_len); (· rfl); (· exact SlOwn.len (by assumption))) | ((with_reducible apply s_len); (· rfl); (· assumption)))) | ((with_reducible refine k_neq ?_); (first | (refine s_neq rfl rfl ?_) | (refine s_strNe rfl rfl ?_))) | ((with_reducible refine k_store ?_); ((with_reducible apply s_store0); (· rfl); (· rfl); (· rfl); (· (exact hpX)); (· (exact ⟨rfl, by first | exact Nat.le_of_ble_eq_true rfl | omega | (simp; omega)⟩)); (· ((first | exact liL | exact liO))); (· (first | exact upd_upd | rfl)))) | ((with_reducible refine k_alloc (dst := some 11) ?_); ((with_reducible apply s_alloc); intro k11 hk11; (try simp only [upd_none] at hk11))) | ((with_reducible refine k_build ?_); ((with_reducible apply s_build); (· rfl); (· rfl))) | ((with_reducible refine k_callF ?_); (first | ((with_reducible apply s_call1); (· rfl)) | ((with_reducible apply s_calln); (· rfl)))) | ((with_reducible refine k_con ?_); (first | ((with_reducible apply con_val (c1)); (· (exact agX)); (· rfl); (· exact fun _ => rfl)))) | ((with_reducible refine k_br ?_); (first | (with_reducible first | refine Br_dec ?_ | refine Br_not ?_ | refine Br_eqF ?_ | refine Br_and ?_ | refine Br_or ?_ | refine Br_neg ?_ | refine Br_band ?_ | refine Br_bor ?_ | refine Br_beq ?_) | (refine Br_t (by first | with_reducible rfl | omega | assumption | rfl) ?_) | (refine Br_f (by first | omega | assumption | decide) ?_) | (with_reducible apply Br_sb <;> intro hbr <;> (first | subst hbr | simp only [hbr] | skip)) | (with_reducible apply Br_s <;> intro hbr))))
    all_goals first | (exfalso; omega) | skip
    refine W_for l.length (fun i st => ∃ h', st = ⟨[(2, .int .i64 a), (3, .int .i64 b), (11, .pt k11 0), (12, .bool (decide (0 ≤ comF l i a))), (13, .bool (flO l a i)), (14, .bool (odO l a b i)), (24, evD l), (25, .int .i64 l.length), (26, .int .i64 i)], h'⟩ ∧ h' k11 = some [.bool (decide (0 ≤ subF l i a)), .bool (decide (0 ≤ subF l i b))]) ⟨_, rfl, ?_⟩ ?_ ?_
    · exact upd_self
    · rintro i e' h' hi ⟨h1, he, hk⟩
      cases he
      have g0 := ev0 hi
      have g1 := ev1 hi
      have g2 := ev2 hi
      have g3 := ev3 hi
      have hrow := evr hi
      obtain ⟨u1, u2⟩ := chk_uniq hc hi
      rw [odO_s hi u1, flO_s hi u2, sn_s hi, sn_s hi, dn_s hi]
      generalize odO l a b i = od at *
      generalize flO l a i = fl at *
      generalize decide (0 ≤ subF l i a) = sa at *
      generalize decide (0 ≤ subF l i b) = sb at *
      generalize decide (0 ≤ comF l i a) = ca at *
      generalize l[i] = w at *
      obtain ⟨wk, wi, wb, wd⟩ := w
      dsimp only at *
      clear u1 u2
      repeat' (first | (with_reducible first | refine W_seq ?_ | refine then_n ?_ | refine W_block ?_ | refine blk_n ?_ | refine blk_r ?_ | refine blk_e ?_ | refine W_skip ?_ | refine W_ret ?_ | refine then_r ?_ | refine W_exit ?_ | refine then_e ?_) | ((with_reducible refine s_reg ?_); intro K hK) | ((with_reducible refine k_nil ?_); (with_reducible apply s_nil hK); (· exact nmX); clear hK; clear K) | ((with_reducible refine k_cond ?_); (first | ((with_reducible apply s_condT); (· rfl); (· exact nmX)) | ((with_reducible apply s_condF); (· rfl); (· exact nmX)) | ((with_reducible apply s_condS); (· rfl); (· exact nmX); (· exact nmX)))) | ((with_reducible refine k_guard ?_); (first | (refine s_gt rfl ?_) | (refine s_gf1 rfl ?_) | (refine s_gfn rfl ?_) | (refine s_gx1 rfl ?_) | (refine s_gxn rfl ?_) | (refine s_gs rfl ?_))) | ((with_reducible refine k_mv ?_); (refine s_mv rfl ?_)) | ((with_reducible refine k_pick ?_); (first | (refine s_pickT rfl rfl ?_) | (refine s_pickF rfl rfl ?_))) | ((with_reducible refine k_eql ?_); (first | (refine s_eql rfl rfl ?_) | (refine s_strEq rfl rfl ?_))) | ((with_reducible refine k_lss ?_); (refine s_lss rfl rfl ?_)) | ((with_reducible refine k_iaddr ?_); (first | ((with_reducible apply s_iaddrV); (· rfl); (· rfl); (· (first | omega | exact ⟨rfl, by omega⟩ | skip))) | ((with_reducible apply s_iaddrO); (· rfl); (· rfl); (· (first | omega | exact ⟨rfl, by omega⟩ | skip)); (· (exact hpX))) | ((with_reducible apply s_iaddrSO); (· rfl); (· assumption); (· rfl); (· (first | omega | exact ⟨rfl, by omega⟩ | skip)); (· (first | (simp (disch := omega) only [w64, wu8, wu16, wu32, wu64, tm_nn, td_nn, fd_nn, Int.reduceAdd, Int.reduceSub, Int.reduceMul, Int.reduceDiv, Int.reduceMod, Int.reduceNeg, Int.reduceToNat, Int.toNat_natCast, Int.toNat_zero, Int.zero_add, Int.add_zero, Int.one_mul, Int.reducePow, Nat.mul_one, Nat.zero_add, Nat.add_zero, Nat.zero_mul, Nat.reduceAdd, Nat.reduceMul, Nat.reduceSub, Nat.min_eq_left, IntKind.bits, Nat.sub_zero, g0, g1, g2, g3, hrow]; try rfl; done) | rfl)); intro ks hks))) | ((with_reducible refine k_iaddrA ?_); (first | ((with_reducible apply s_iaddrAV); (· rfl); (· rfl); (· (first | omega | exact ⟨rfl, by omega⟩ | skip))) | ((with_reducible apply s_iaddrAP); (· rfl); (· rfl); (· (first | omega | exact ⟨rfl, by omega⟩ | skip))))) | ((with_reducible refine k_load ?_); (first | ((with_reducible apply s_loadV); (· rfl)) | ((with_reducible apply s_loadP); (· rfl); (· (exact hpX))))) | ((with_reducible refine k_loadA ?_); (first | ((with_reducible apply s_loadAV); (· rfl); (· (first | exact Nat.le_of_ble_eq_true rfl | decide | omega | (simp; done) | (simp; omega) | skip))) | ((with_reducible apply s_loadAP); (· rfl); (· (exact hpX)); (· (first | exact Nat.le_of_ble_eq_true rfl | decide | omega | (simp; done) | (simp; omega) | skip))))) | ((with_reducible refine k_add ?_); ((with_reducible apply s_add); (· rfl); (· rfl))) | ((with_reducible refine k_store ?_); ((with_reducible apply s_store0); (· rfl); (· rfl); (· rfl); (· (exact hpX)); (· (exact ⟨rfl, by first | exact Nat.le_of_ble_eq_true rfl | omega | (simp [g0, g1, g2, g3, hrow]; omega)⟩)); (· ((first | (simp (disch := omega) only [upd_self, upd_ne, upd_upd, rep, splice, List.take_succ_cons, List.take_zero, List.drop_succ_cons, List.drop_zero, List.cons_append, List.nil_append, List.append_nil, List.length_cons, List.length_nil, List.reduceReplicate, List.flatten_cons, List.flatten_nil, Nat.reduceAdd, Nat.reduceMul, Nat.reduceSub, Nat.zero_add, Nat.add_zero, List.getElem?_cons_zero, List.getElem?_cons_succ, g0, g1, g2, g3, hrow]; try rfl; done) | rfl))); (· (first | exact upd_upd | rfl)))) | ((with_reducible refine k_faddr ?_); (first | ((with_reducible apply s_faddrV); (· rfl); (· rfl)) | ((with_reducible apply s_faddrP); (· rfl); (· rfl)))) | ((with_reducible refine k_alloc (dst := some 16) ?_); ((with_reducible apply s_alloc); intro k16 hk16; (try simp only [upd_none] at hk16))) | ((with_reducible refine k_br ?_); (first | (with_reducible first | refine Br_dec ?_ | refine Br_not ?_ | refine Br_eqF ?_ | refine Br_and ?_ | refine Br_or ?_ | refine Br_neg ?_ | refine Br_band ?_ | refine Br_bor ?_ | refine Br_beq ?_) | (refine Br_t (by first | with_reducible rfl | omega | assumption | rfl) ?_) | (refine Br_f (by first | omega | assumption | decide) ?_) | (with_reducible apply Br_sb <;> intro hbr <;> (first | subst hbr | simp only [hbr] | skip)) | (with_reducible apply Br_s <;> intro hbr))) | ((first | (with_reducible apply q_eqI) | (with_reducible apply q_eqN)); (first | (simp (disch := omega) only [w64, wu8, wu16, wu32, wu64, tm_nn, td_nn, fd_nn, Int.reduceAdd, Int.reduceSub, Int.reduceMul, Int.reduceDiv, Int.reduceMod, Int.reduceNeg, Int.reduceToNat, Int.toNat_natCast, Int.toNat_zero, Int.zero_add, Int.add_zero, Int.one_mul, Int.reducePow, Nat.mul_one, Nat.zero_add, Nat.add_zero, Nat.zero_mul, Nat.reduceAdd, Nat.reduceMul, Nat.reduceSub, Nat.min_eq_left, IntKind.bits, Nat.sub_zero, g0, g1, g2, g3, hrow]; try rfl; done) | rfl)) | ((first | (with_reducible apply q_eqL) | (with_reducible apply q_eqO)); (first | (simp (disch := omega) only [upd_self, upd_ne, upd_upd, rep, splice, List.take_succ_cons, List.take_zero, List.drop_succ_cons, List.drop_zero, List.cons_append, List.nil_append, List.append_nil, List.length_cons, List.length_nil, List.reduceReplicate, List.flatten_cons, List.flatten_nil, Nat.reduceAdd, Nat.reduceMul, Nat.reduceSub, Nat.zero_add, Nat.add_zero, List.getElem?_cons_zero, List.getElem?_cons_succ, g0, g1, g2, g3, hrow]; try rfl; done) | rfl)))
      all_goals first | (exfalso; omega) | skip
      all_goals repeat' first | rw [if_pos (by omega)] | rw [if_neg (by omega)]
      all_goals try simp only [Bool.true_or, Bool.false_or]
      all_goals refine ⟨_, rfl, ?_⟩
      all_goals first | exact upd_self | exact upd_sub hk16 _ _ hk
    · rintro e' h' ⟨h1, he, hk⟩
      cases he
      by_cases ha : 0 ≤ subF l l.length a
      · rw [decide_eq_true ha] at hk
        by_cases hb : 0 ≤ subF l l.length b
        · rw [decide_eq_true hb] at hk
          rw [if_neg (by omega), ← odO_end hb]
          repeat' (first | (with_reducible first | refine W_seq ?_ | refine then_n ?_ | refine W_block ?_ | refine blk_n ?_ | refine blk_r ?_ | refine blk_e ?_ | refine W_skip ?_ | refine W_ret ?_ | refine then_r ?_ | refine W_exit ?_ | refine then_e ?_) | ((with_reducible refine s_reg ?_); intro K hK) | ((with_reducible refine k_nil ?_); (with_reducible apply s_nil hK); (· exact nmX); clear hK; clear K) | ((with_reducible refine k_cond ?_); (first | ((with_reducible apply s_condT); (· rfl); (· exact nmX)) | ((with_reducible apply s_condF); (· rfl); (· exact nmX)) | ((with_reducible apply s_condS); (· rfl); (· exact nmX); (· exact nmX)))) | ((with_reducible refine k_guard ?_); (first | (refine s_gt rfl ?_) | (refine s_gf1 rfl ?_) | (refine s_gfn rfl ?_) | (refine s_gx1 rfl ?_) | (refine s_gxn rfl ?_) | (refine s_gs rfl ?_))) | ((with_reducible refine k_mv ?_); (refine s_mv rfl ?_)) | ((with_reducible refine k_pick ?_); (first | (refine s_pickT rfl rfl ?_) | (refine s_pickF rfl rfl ?_))) | ((with_reducible refine k_not ?_); (refine s_not rfl (by first | exact Bool.not_true | exact Bool.not_false | rfl) ?_)) | ((with_reducible refine k_lss ?_); (refine s_lss rfl rfl ?_)) | ((with_reducible refine k_iaddrA ?_); (first | ((with_reducible apply s_iaddrAV); (· rfl); (· rfl); (· (first | omega | exact ⟨rfl, by omega⟩ | skip))) | ((with_reducible apply s_iaddrAP); (· rfl); (· rfl); (· (first | omega | exact ⟨rfl, by omega⟩ | skip))))) | ((with_reducible refine k_load ?_); (first | ((with_reducible apply s_loadV); (· rfl)) | ((with_reducible apply s_loadP); (· rfl); (· (exact hpX))))) | ((with_reducible refine k_br ?_); (first | (with_reducible first | refine Br_dec ?_ | refine Br_not ?_ | refine Br_eqF ?_ | refine Br_and ?_ | refine Br_or ?_ | refine Br_neg ?_ | refine Br_band ?_ | refine Br_bor ?_ | refine Br_beq ?_) | (refine Br_t (by first | with_reducible rfl | omega | assumption | rfl) ?_) | (refine Br_f (by first | omega | assumption | decide) ?_) | (with_reducible apply Br_sb <;> intro hbr <;> (first | subst hbr | simp only [hbr] | skip)) | (with_reducible apply Br_s <;> intro hbr))) | ((first | (with_reducible apply q_eqI) | (with_reducible apply q_eqN)); (first | exact nuI | exact nuN)) | ((first | (with_reducible apply q_eqL) | (with_reducible apply q_eqO)); (first | exact liL | exact liO)))
          all_goals first | (exfalso; omega) | (first | exact Fin_flat trivial rfl rfl | (refine Fin_tup trivial rfl ?_ (Nat.le_of_ble_eq_true rfl); (repeat (first | exact All2.nil | (apply All2.cons; (· first | exact exc_n | exact exc_e | exact exc_v rfl rfl | exact exc_o upd_self rfl rfl)))); done) | (refine Fin_own trivial rfl upd_self ?_ (Nat.le_of_ble_eq_true rfl); (repeat (first | exact All2.nil | (apply All2.cons; (· first | exact exc_n | exact exc_e | exact exc_v rfl rfl | exact exc_o upd_self rfl rfl)))); done) | exact Fin_nil trivial rfl | exact Fin_sl trivial rfl upd_self rfl rfl)
        · rw [decide_eq_false hb] at hk
          rw [if_pos (by omega)]
          repeat' (first | (with_reducible first | refine W_seq ?_ | refine then_n ?_ | refine W_block ?_ | refine blk_n ?_ | refine blk_r ?_ | refine blk_e ?_ | refine W_skip ?_ | refine W_ret ?_ | refine then_r ?_ | refine W_exit ?_ | refine then_e ?_) | ((with_reducible refine s_reg ?_); intro K hK) | ((with_reducible refine k_nil ?_); (with_reducible apply s_nil hK); (· exact nmX); clear hK; clear K) | ((with_reducible refine k_cond ?_); (first | ((with_reducible apply s_condT); (· rfl); (· exact nmX)) | ((with_reducible apply s_condF); (· rfl); (· exact nmX)) | ((with_reducible apply s_condS); (· rfl); (· exact nmX); (· exact nmX)))) | ((with_reducible refine k_guard ?_); (first | (refine s_gt rfl ?_) | (refine s_gf1 rfl ?_) | (refine s_gfn rfl ?_) | (refine s_gx1 rfl ?_) | (refine s_gxn rfl ?_) | (refine s_gs rfl ?_))) | ((with_reducible refine k_mv ?_); (refine s_mv rfl ?_)) | ((with_reducible refine k_pick ?_); (first | (refine s_pickT rfl rfl ?_) | (refine s_pickF rfl rfl ?_))) | ((with_reducible refine k_not ?_); (refine s_not rfl (by first | exact Bool.not_true | exact Bool.not_false | rfl) ?_)) | ((with_reducible refine k_lss ?_); (refine s_lss rfl rfl ?_)) | ((with_reducible refine k_iaddrA ?_); (first | ((with_reducible apply s_iaddrAV); (· rfl); (· rfl); (· (first | omega | exact ⟨rfl, by omega⟩ | skip))) | ((with_reducible apply s_iaddrAP); (· rfl); (· rfl); (· (first | omega | exact ⟨rfl, by omega⟩ | skip))))) | ((with_reducible refine k_load ?_); (first | ((with_reducible apply s_loadV); (· rfl)) | ((with_reducible apply s_loadP); (· rfl); (· (exact hpX))))) | ((with_reducible refine k_br ?_); (first | (with_reducible first | refine Br_dec ?_ | refine Br_not ?_ | refine Br_eqF ?_ | refine Br_and ?_ | refine Br_or ?_ | refine Br_neg ?_ | refine Br_band ?_ | refine Br_bor ?_ | refine Br_beq ?_) | (refine Br_t (by first | with_reducible rfl | omega | assumption | rfl) ?_) | (refine Br_f (by first | omega | assumption | decide) ?_) | (with_reducible apply Br_sb <;> intro hbr <;> (first | subst hbr | simp only [hbr] | skip)) | (with_reducible apply Br_s <;> intro hbr))) | ((first | (with_reducible apply q_eqI) | (with_reducible apply q_eqN)); (first | exact nuI | exact nuN)) | ((first | (with_reducible apply q_eqL) | (with_reducible apply q_eqO)); (first | exact liL | exact liO)))
          all_goals first | (exfalso; omega) | (first | exact Fin_flat trivial rfl rfl | (refine Fin_tup trivial rfl ?_ (Nat.le_of_ble_eq_true rfl); (repeat (first | exact All2.nil | (apply All2.cons; (· first | exact exc_n | exact exc_e | exact exc_v rfl rfl | exact exc_o upd_self rfl rfl)))); done) | (refine Fin_own trivial rfl upd_self ?_ (Nat.le_of_ble_eq_true rfl); (repeat (first | exact All2.nil | (apply All2.cons; (· first | exact exc_n | exact exc_e | exact exc_v rfl rfl | exact exc_o upd_self rfl rfl)))); done) | exact Fin_nil trivial rfl | exact Fin_sl trivial rfl upd_self rfl rfl)
      · rw [decide_eq_false ha] at hk
        rw [if_pos (by omega)]
        repeat' (first | (with_reducible first | refine W_seq ?_ | refine then_n ?_ | refine W_block ?_ | refine blk_n ?_ | refine blk_r ?_ | refine blk_e ?_ | refine W_skip ?_ | refine W_ret ?_ | refine then_r ?_ | refine W_exit ?_ | refine then_e ?_) | ((with_reducible refine s_reg ?_); intro K hK) | ((with_reducible refine k_nil ?_); (with_reducible apply s_nil hK); (· exact nmX); clear hK; clear K) | ((with_reducible refine k_cond ?_); (first | ((with_reducible apply s_condT); (· rfl); (· exact nmX)) | ((with_reducible apply s_condF); (· rfl); (· exact nmX)) | ((with_reducible apply s_condS); (· rfl); (· exact nmX); (· exact nmX)))) | ((with_reducible refine k_guard ?_); (first | (refine s_gt rfl ?_) | (refine s_gf1 rfl ?_) | (refine s_gfn rfl ?_) | (refine s_gx1 rfl ?_) | (refine s_gxn rfl ?_) | (refine s_gs rfl ?_))) | ((with_reducible refine k_mv ?_); (refine s_mv rfl ?_)) | ((with_reducible refine k_pick ?_); (first | (refine s_pickT rfl rfl ?_) | (refine s_pickF rfl rfl ?_))) | ((with_reducible refine k_not ?_); (refine s_not rfl (by first | exact Bool.not_true | exact Bool.not_false | rfl) ?_)) | ((with_reducible refine k_lss ?_); (refine s_lss rfl rfl ?_)) | ((with_reducible refine k_iaddrA ?_); (first | ((with_reducible apply s_iaddrAV); (· rfl); (· rfl); (· (first | omega | exact ⟨rfl, by omega⟩ | skip))) | ((with_reducible apply s_iaddrAP); (· rfl); (· rfl); (· (first | omega | exact ⟨rfl, by omega⟩ | skip))))) | ((with_reducible refine k_load ?_); (first | ((with_reducible apply s_loadV); (· rfl)) | ((with_reducible apply s_loadP); (· rfl); (· (exact hpX))))) | ((with_reducible refine k_br ?_); (first | (with_reducible first | refine Br_dec ?_ | refine Br_not ?_ | refine Br_eqF ?_ | refine Br_and ?_ | refine Br_or ?_ | refine Br_neg ?_ | refine Br_band ?_ | refine Br_bor ?_ | refine Br_beq ?_) | (refine Br_t (by first | with_reducible rfl | omega | assumption | rfl) ?_) | (refine Br_f (by first | omega | assumption | decide) ?_) | (with_reducible apply Br_sb <;> intro hbr <;> (first | subst hbr | simp only [hbr] | skip)) | (with_reducible apply Br_s <;> intro hbr))) | ((first | (with_reducible apply q_eqI) | (with_reducible apply q_eqN)); (first | exact nuI | exact nuN)) | ((first | (with_reducible apply q_eqL) | (with_reducible apply q_eqO)); (first | exact liL | exact liO)))
        all_goals first | (exfalso; omega) | (first | exact Fin_flat trivial rfl rfl | (refine Fin_tup trivial rfl ?_ (Nat.le_of_ble_eq_true rfl); (repeat (first | exact All2.nil | (apply All2.cons; (· first | exact exc_n | exact exc_e | exact exc_v rfl rfl | exact exc_o upd_self rfl rfl)))); done) | (refine Fin_own trivial rfl upd_self ?_ (Nat.le_of_ble_eq_true rfl); (repeat (first | exact All2.nil | (apply All2.cons; (· first | exact exc_n | exact exc_e | exact exc_v rfl rfl | exact exc_o upd_self rfl rfl)))); done) | exact Fin_nil trivial rfl | exact Fin_sl trivial rfl upd_self rfl rfl)
  · rw [if_neg hc]
    generalize chkR B l = e at *
    repeat' (first | (with_reducible first | refine W_seq ?_ | refine then_n ?_ | refine W_block ?_ | refine blk_n ?_ | refine blk_r ?_ | refine blk_e ?_ | refine W_skip ?_ | refine W_ret ?_ | refine then_r ?_ | refine W_exit ?_ | refine then_e ?_) | ((with_reducible refine s_reg ?_); intro K hK) | ((with_reducible refine k_nil ?_); (with_reducible apply s_nil hK); (· exact nmX); clear hK; clear K) | ((with_reducible refine k_cond ?_); (first | ((with_reducible apply s_condT); (· rfl); (· exact nmX)) | ((with_reducible apply s_condF); (· rfl); (· exact nmX)) | ((with_reducible apply s_condS); (· rfl); (· exact nmX); (· exact nmX)))) | ((with_reducible refine k_mv ?_); (refine s_mv rfl ?_)) | ((with_reducible refine k_neq ?_); (first | (refine s_neq rfl rfl ?_) | (refine s_strNe rfl rfl ?_))) | ((with_reducible refine k_callF ?_); (first | ((with_reducible apply s_call1); (· rfl)) | ((with_reducible apply s_calln); (· rfl)))) | ((with_reducible refine k_con ?_); (first | ((with_reducible apply con_val (c1)); (· (exact agX)); (· rfl); (· exact fun _ => rfl)))) | ((with_reducible refine k_br ?_); (first | (with_reducible first | refine Br_dec ?_ | refine Br_not ?_ | refine Br_eqF ?_ | refine Br_and ?_ | refine Br_or ?_ | refine Br_neg ?_ | refine Br_band ?_ | refine Br_bor ?_ | refine Br_beq ?_) | (refine Br_t (by first | with_reducible rfl | omega | assumption | rfl) ?_) | (refine Br_f (by first | omega | assumption | decide) ?_) | (with_reducible apply Br_sb <;> intro hbr <;> (first | subst hbr | simp only [hbr] | skip)) | (with_reducible apply Br_s <;> intro hbr))))
    all_goals first | (exfalso; omega) | (first | exact Fin_flat trivial rfl rfl | (refine Fin_tup trivial rfl ?_ (Nat.le_of_ble_eq_true rfl); (repeat (first | exact All2.nil | (apply All2.cons; (· first | exact exc_n | exact exc_e | exact exc_v rfl rfl | exact exc_o upd_self rfl rfl)))); done) | (refine Fin_own trivial rfl upd_self ?_ (Nat.le_of_ble_eq_true rfl); (repeat (first | exact All2.nil | (apply All2.cons; (· first | exact exc_n | exact exc_e | exact exc_v rfl rfl | exact exc_o upd_self rfl rfl)))); done) | exact Fin_nil trivial rfl | exact Fin_sl trivial rfl upd_self rfl rfl)
end Go.Proofs.Ythblalidmmbcoaa
end
section
/- Images: the closure. -/
set_option linter.unusedSimpArgs false
set_option linter.unusedVariables false
namespace Go.Proofs.Ythblalidmmbcoaa
open Go.AM Classical
set_option maxRecDepth 100000
set_option maxHeartbeats 4000000
abbrev imV (im : List Bs) : D := .vn 1 (im.map bD) im.length
structure ImH (h : Heap) (kA kS kO kI kF : Nat) (C : List (List Bs)) (O : List (List Bs)) (im : List Bs) (dO dI : D) : Prop where
  a : h kA = some [.sl kS 1 0 C.length]
  s : h kS = some (C.map bsD)
  o : h kO = some [dO]
  so : SlOwn h dO 1 (O.map imV) O.length
  i : h kI = some [dI]
  pi : SlPre h dI 1 (im.map bD) im.length
  f : h kF = some [.fn 42 [] [.pt kA 0, .pt kO 0, .pt kI 0, .pt kF 0]]
  ne : (kA ≠ kO ∧ kA ≠ kI) ∧ (kS ≠ kO ∧ kS ≠ kI) ∧ kO ≠ kI ∧ kF ≠ kO ∧ kF ≠ kI
  fO : Fr dO kA ∧ Fr dO kS ∧ Fr dO kO ∧ Fr dO kI ∧ Fr dO kF
  fI : Fr dI kA ∧ Fr dI kS ∧ Fr dI kO ∧ Fr dI kI ∧ Fr dI kF
  dis : Dis dO dI
theorem ImH.mono {h h2 : Heap} {kA kS kO kI kF : Nat} {C O : List (List Bs)} {im : List Bs} {dO dI : D} (H : ImH h kA kS kO kI kF C O im dO dI) (hh : ∀ j c, h j = some c → h2 j = some c) : ImH h2 kA kS kO kI kF C O im dO dI where
  a := hh _ _ H.a
  s := hh _ _ H.s
  o := hh _ _ H.o
  so := slSub H.so hh
  i := hh _ _ H.i
  pi := H.pi.mono fun j c hj _ => hh j c hj
  f := hh _ _ H.f
  ne := H.ne
  fO := H.fO
  fI := H.fI
  dis := H.dis
theorem fr_new {h : Heap} {k j sz n : Nat} {c : List D} (hk : h k = none) (hj : h j = some c) : Fr (.sl k sz 0 n) j := Fr.sl fun e => by rw [e, hj] at hk; cases hk
theorem SlPre.oth {h h' : Heap} {d d0 : D} {sz n : Nat} {cells : List D} (ho : SlPre h d sz cells n) (hd : Dis d0 d) (hh : ∀ j c, h j = some c → Fr d0 j → h' j = some c) : SlPre h' d sz cells n := by
  obtain ⟨hc, h0 | ⟨k, tl, t, rfl, hkc, ht⟩⟩ := ho
  · exact ⟨hc, .inl h0⟩
  · refine ⟨hc, .inr ⟨k, tl, t, rfl, hh k _ hkc ?_, ht⟩⟩
    rcases hd k with h1 | h1
    · exact h1
    · exact absurd rfl (h1 sz 0 n)
theorem SlPre.upd' {h : Heap} {d : D} {sz n k : Nat} {cells c : List D} (ho : SlPre h d sz cells n) (hk : Fr d k) : SlPre (AM.upd h k c) d sz cells n :=
  ho.mono fun j c hj ⟨sz, off, n, hd⟩ => by rw [upd_ne (fun e => by subst e; exact hk _ _ _ hd)]; exact hj
theorem ImH.out {h h' : Heap} {kA kS kO kI kF ka : Nat} {C O : List (List Bs)} {im : List Bs} {dO dI : D} (H : ImH h kA kS kO kI kF C O im dO dI) (hn : h ka = none) (hk : h' ka = some (O.map imV ++ [imV im])) (hh : ∀ j c, h j = some c → Fr dO j → h' j = some c) :
    ImH (upd h' kO [.sl ka 1 0 (O.length + 1)]) kA kS kO kI kF C (O ++ [im]) im (.sl ka 1 0 (O.length + 1)) dI := by
  obtain ⟨⟨n1, n2⟩, ⟨n3, n4⟩, n5, n6, n7⟩ := H.ne
  obtain ⟨o1, o2, o3, o4, o5⟩ := H.fO
  have hka : ka ≠ kO := fun e => by rw [e, H.o] at hn; cases hn
  have hln : (O.map imV).length = O.length := List.length_map _
  refine ⟨?_, ?_, upd_self, ?_, ?_, ?_, ?_, H.ne, ⟨fr_new hn H.a, fr_new hn H.s, fr_new hn H.o, fr_new hn H.i, fr_new hn H.f⟩, H.fI, ?_⟩
  · rw [upd_ne n1]; exact hh _ _ H.a o1
  · rw [upd_ne n3]; exact hh _ _ H.s o2
  · rw [List.map_append, List.length_append, List.length_singleton]
    exact SlOwn.sl (by rw [upd_ne hka, hk]; rfl) (by rw [List.length_append, hln, Nat.mul_one]; rfl)
  · rw [upd_ne n5.symm]; exact hh _ _ H.i o4
  · exact (H.pi.oth H.dis hh).upd' H.fI.2.2.1
  · rw [upd_ne n6]; exact hh _ _ H.f o5
  · intro j
    by_cases hj : ka = j
    · subst hj
      right
      intro sz off n hd
      obtain ⟨-, ⟨-, h0 | h0⟩ | ⟨k, tl, t, h0, hkc, -⟩⟩ := H.pi
      · rw [h0] at hd; cases hd
      · rw [h0] at hd; cases hd
      · rw [h0] at hd; injection hd with hd; subst hd; rw [hn] at hkc; cases hkc
    · exact .inl (Fr.sl hj)
theorem ImH.put {h h' : Heap} {kA kS kO kI kF : Nat} {C O : List (List Bs)} {im : List Bs} {c : Bs} {dO dI da : D} (H : ImH h kA kS kO kI kF C O im dO dI) (hp : SlPre h' da 1 (im.map bD ++ [bD c]) (im.length + 1)) (hh : ∀ j c, h j = some c → Fr dI j → h' j = some c ∧ Fr da j) :
    ImH (upd h' kI [da]) kA kS kO kI kF C O (im ++ [c]) dO da := by
  obtain ⟨⟨n1, n2⟩, ⟨n3, n4⟩, n5, n6, n7⟩ := H.ne
  obtain ⟨i1, i2, i3, i4, i5⟩ := H.fI
  refine ⟨?_, ?_, ?_, ?_, upd_self, ?_, ?_, H.ne, H.fO, ⟨(hh _ _ H.a i1).2, (hh _ _ H.s i2).2, (hh _ _ H.o i3).2, (hh _ _ H.i i4).2, (hh _ _ H.f i5).2⟩, ?_⟩
  · rw [upd_ne n2]; exact (hh _ _ H.a i1).1
  · rw [upd_ne n4]; exact (hh _ _ H.s i2).1
  · rw [upd_ne n5]; exact (hh _ _ H.o i3).1
  · exact (H.so.oth H.dis.symm fun j c hj hf => (hh j c hj hf).1).upd' H.fO.2.2.2.1
  · rw [List.map_append, List.length_append, List.length_singleton]
    exact hp.upd' (hh _ _ H.i i4).2
  · rw [upd_ne n7]; exact (hh _ _ H.f i5).1
  · intro j
    by_cases hj : Fr dO j
    · exact .inl hj
    · right
      obtain ⟨-, ⟨-, h0⟩ | ⟨k, h0, hkc⟩⟩ := H.so
      · rcases h0 with h0 | h0 <;> exact absurd (fun sz off n hd => by rw [h0] at hd; cases hd) hj
      · have hjk : k = j := Classical.byContradiction fun h => hj (h0 ▸ Fr.sl h)
        subst hjk
        rcases H.dis k with h1 | h1
        · exact absurd h1 hj
        · exact (hh k _ hkc h1).2
theorem ImH.cut {h : Heap} {kA kS kO kI kF : Nat} {C O : List (List Bs)} {im : List Bs} {c : Bs} {dO dI : D} (H : ImH h kA kS kO kI kF C O (im ++ [c]) dO dI) : ∃ k, dI = .sl k 1 0 (im.length + 1) ∧
    ImH (upd h kI [.sl k 1 0 im.length]) kA kS kO kI kF C O im dO (.sl k 1 0 im.length) ∧ ∃ cs, h k = some cs ∧ im.length + 1 ≤ cs.length := by
  obtain ⟨⟨n1, n2⟩, ⟨n3, n4⟩, n5, n6, n7⟩ := H.ne
  obtain ⟨i1, i2, i3, i4, i5⟩ := H.fI
  have hp := H.pi
  rw [List.map_append, List.length_append, List.length_singleton] at hp
  obtain ⟨k, tl, t, rfl, hk, ht⟩ := hp.pos (by omega)
  have hf : ∀ {j}, Fr (.sl k 1 0 ((im ++ [c]).length)) j → Fr (.sl k 1 0 im.length) j := fun {j} hj => Fr.sl fun e => hj 1 0 _ (by rw [e])
  rw [show im.length + 1 = (im ++ [c]).length by simp] at *
  refine ⟨k, rfl, ⟨?_, ?_, ?_, H.so.upd' H.fO.2.2.2.1, upd_self, ?_, ?_, H.ne, H.fO, ⟨hf i1, hf i2, hf i3, hf i4, hf i5⟩, fun j => (H.dis j).imp id hf⟩, _, hk, ?_⟩
  · rw [upd_ne n2]; exact H.a
  · rw [upd_ne n4]; exact H.s
  · rw [upd_ne n5]; exact H.o
  · refine SlPre.upd' ⟨by simp, .inr ⟨k, bD c :: tl, t + 1, rfl, ?_, by simp [ht]⟩⟩ (hf i4)
    rw [hk]; simp
  · rw [upd_ne n7]; exact H.f
  · simp
end Go.Proofs.Ythblalidmmbcoaa
end
section
/- min -/
/- Images: the closure's walk. -/
set_option linter.unusedSimpArgs false
set_option linter.unusedVariables false
namespace Go.Proofs.Ythblalidmmbcoaa
open Go.AM Classical
set_option maxRecDepth 100000
set_option maxHeartbeats 4000000
theorem Rd_bD {h : Heap} (L : List Bs) : All2 (Rd h) (L.map bD) (L.map bD) := by
  refine ⟨rfl, fun i c d hc hd => ?_⟩
  rw [hc] at hd; injection hd with hd; subst hd
  rw [List.getElem?_map] at hc
  cases hb : L[i]? with
  | none => rw [hb] at hc; cases hc
  | some b => rw [hb] at hc; injection hc with hc; subst hc; exact Rd_vs
theorem choose_con {C : List (List Bs)} (hCl : C.length ≤ 1000000) (hC1 : ∀ c ∈ C, c.length ≤ 1000000 ∧ ∀ b ∈ c, b.length ≤ 1000000) {kA kS kO kI kF : Nat} :
    ∀ (r block : Nat) (im : List Bs) (O : List (List Bs)) (dO dI : D) (h : Heap) (Q : D → Heap → Prop), C.length = block + r → im.length = block → (∀ b ∈ im, b.length ≤ 1000000) → O.length + preP (C.drop block) ≤ 64 → ImH h kA kS kO kI kF C O im dO dI →
    (∀ h2 dO2 dI2, ImH h2 kA kS kO kI kF C (O ++ (prodF (C.drop block)).map (im ++ ·)) im dO2 dI2 → Q (.tup []) h2) →
    Con Try.prog 42 [.int .i64 block, .pt kA 0, .pt kO 0, .pt kI 0, .pt kF 0] h Q
  | 0, block, im, O, dO, dI, h, Q, hb, him, hib, hn, H, hQ => by
    refine con_of_W mixed Try.func42 A42k A42c (by simp [A42]) ?_
    simp only [A42, argEnv]
    have hd : C.drop block = [] := List.drop_eq_nil_of_le (by omega)
    rw [hd] at hQ hn
    have e1 : (prodF []).map (im ++ ·) = [im] := by simp [prodF]
    rw [e1] at hQ
    have ha := H.a
    have hs := H.s
    have ho := H.o
    have hii := H.i
    have hso := H.so
    have c1 := copies_c im (by omega) hib
    have hpi := H.pi
    have hle : C.length = block := by omega
    have hp1 : O.length + 1 ≤ 64 := hn
    repeat' (first | (with_reducible first | refine W_seq ?_ | refine then_n ?_ | refine W_block ?_ | refine blk_n ?_ | refine blk_r ?_ | refine blk_e ?_ | refine W_skip ?_ | refine W_ret ?_ | refine then_r ?_ | refine W_exit ?_ | refine then_e ?_) | ((with_reducible refine s_reg ?_); intro K hK) | ((with_reducible refine k_nil ?_); (with_reducible apply s_nil hK); (· exact nmX); clear hK; clear K) | ((with_reducible refine k_cond ?_); (first | ((with_reducible apply s_condT); (· rfl); (· exact nmX)) | ((with_reducible apply s_condF); (· rfl); (· exact nmX)) | ((with_reducible apply s_condS); (· rfl); (· exact nmX); (· exact nmX)))) | ((with_reducible refine k_mv ?_); (refine s_mv rfl ?_)) | ((with_reducible refine k_len ?_); (first | (refine s_len rfl rfl ?_) | ((with_reducible apply s_len); (· rfl); (· exact SlOwn.len (by assumption))) | ((with_reducible apply s_len); (· rfl); (· assumption)))) | ((with_reducible refine k_eql ?_); (first | (refine s_eql rfl rfl ?_) | (refine s_strEq rfl rfl ?_))) | ((with_reducible refine k_load ?_); (first | ((with_reducible apply s_loadV); (· rfl)) | ((with_reducible apply s_loadP); (· rfl); (· (exact hpX))))) | ((with_reducible refine k_buildS (dst := some 15) ?_); ((with_reducible apply s_buildS); (· rfl); (· (exact ⟨rfl, by decide⟩)); (· (first | (simp only [fillB, rep, splice, List.reduceReplicate, List.flatten_cons, List.flatten_nil, List.cons_append, List.nil_append, List.append_nil, List.length_cons, List.length_nil, Nat.reduceAdd, Nat.reduceMul, Nat.reduceLeDiff, Nat.reduceEqDiff, eq_self, Nat.le_refl, Nat.zero_add, and_self, and_true, true_and, if_true, List.take_zero, List.take_succ_cons, List.drop_zero, List.drop_succ_cons, List.drop_nil, List.take_nil]; rfl) | rfl)); intro k15 hk15; (try simp only [upd_none] at hk15))) | ((with_reducible refine k_append (dst := some 16) ?_); ((with_reducible apply s_app2); (· rfl); (· rfl); (· first | assumption | exact SlOwn.nil | exact SlOwn.emp | ((repeat' (first | assumption | (with_reducible apply SlOwn.upd) | (simp only [upd_none]; assumption))); done)); (· rfl); (· first | exact srcD_sl upd_self rfl | (exact srcD_vs (by first | assumption | simp)) | ((apply srcD_sl); (· (exact hpX)); (· rfl))); (· exact ⟨by first | rfl | assumption | simp, by decide, by decide⟩); (· first | (rw [room_n]; omega) | skip); intro ka16 ha16 hn16 hk16 hoth16)) | ((with_reducible refine k_dreg ?_); refine W_dregM (pre := A42d2a) (suf := A42d2b) rfl rfl rfl rfl ?_; intro K hK) | (with_reducible refine d_nilS ?_) | ((with_reducible refine k_dcall ?_); (first | ((with_reducible apply d_callN); (· rfl); (· exact c1); (· (repeat (first | exact All2.nil | (apply All2.cons; (· first | exact Rd_pre hpi (Rd_bD _) | exact rdX))))); simp only [unow, unowC, List.map, vnw, vnC]))) | ((with_reducible refine k_dop ?_); refine d_step (by first | exact Or.inl rfl | exact Or.inr rfl) ?_) | (with_reducible refine d_back ?_) | ((with_reducible refine k_br ?_); (first | (with_reducible first | refine Br_dec ?_ | refine Br_not ?_ | refine Br_eqF ?_ | refine Br_and ?_ | refine Br_or ?_ | refine Br_neg ?_ | refine Br_band ?_ | refine Br_bor ?_ | refine Br_beq ?_) | (refine Br_t (by first | with_reducible rfl | omega | assumption | rfl) ?_) | (refine Br_f (by first | omega | assumption | decide) ?_) | (with_reducible apply Br_sb <;> intro hbr <;> (first | subst hbr | simp only [hbr] | skip)) | (with_reducible apply Br_s <;> intro hbr))) | ((first | (with_reducible apply q_eqL) | (with_reducible apply q_eqO)); (first | exact liL | exact liO)))
    all_goals first | (exfalso; omega) | skip
    have q1 := hoth16 kO _ (upd_sub hk15 _ _ ho) H.fO.2.2.1
    repeat' (first | (with_reducible first | refine W_seq ?_ | refine then_n ?_ | refine W_block ?_ | refine blk_n ?_ | refine blk_r ?_ | refine blk_e ?_ | refine W_skip ?_ | refine W_ret ?_ | refine then_r ?_ | refine W_exit ?_ | refine then_e ?_) | ((with_reducible refine k_nil ?_); (with_reducible apply s_nil hK); (· exact nmX); clear hK; clear K) | ((with_reducible refine k_store ?_); ((with_reducible apply s_store0); (· rfl); (· rfl); (· rfl); (· (exact hpX)); (· (exact ⟨rfl, by first | exact Nat.le_of_ble_eq_true rfl | omega | (simp; omega)⟩)); (· ((first | exact liL | exact liO))); (· (first | exact upd_upd | rfl)))))
    all_goals exact ⟨trivial, _, rfl, hQ _ _ _ (ImH.out (H.mono (upd_sub hk15)) hn16 hk16 hoth16)⟩
  | r + 1, block, im, O, dO, dI, h, Q, hb, him, hib, hn, H, hQ => by
    refine con_of_W mixed Try.func42 A42k A42c (by simp [A42]) ?_
    simp only [A42, argEnv]
    have hlt : block < C.length := by omega
    have hd : C.drop block = C[block] :: C.drop (block + 1) := List.drop_eq_getElem_cons hlt
    have ha := H.a
    have hs := H.s
    have ho := H.o
    have hii := H.i
    have g1 : (C.map bsD)[block]? = some (bsD C[block]) := by rw [List.getElem?_map, List.getElem?_eq_getElem hlt]; rfl
    obtain ⟨hc1, hc2⟩ := hC1 C[block] (List.getElem_mem hlt)
    rw [hd] at hQ hn
    have ih := choose_con hCl hC1 (kA := kA) (kS := kS) (kO := kO) (kI := kI) (kF := kF) r (block + 1)
    generalize C[block] = c at *
    have hal := bs_len c
    repeat' (first | (with_reducible first | refine W_seq ?_ | refine then_n ?_ | refine W_block ?_ | refine blk_n ?_ | refine blk_r ?_ | refine blk_e ?_ | refine W_skip ?_ | refine W_ret ?_ | refine then_r ?_ | refine W_exit ?_ | refine then_e ?_) | ((with_reducible refine s_reg ?_); intro K hK) | ((with_reducible refine k_nil ?_); (with_reducible apply s_nil hK); (· exact nmX); clear hK; clear K) | ((with_reducible refine k_cond ?_); (first | ((with_reducible apply s_condT); (· rfl); (· exact nmX)) | ((with_reducible apply s_condF); (· rfl); (· exact nmX)) | ((with_reducible apply s_condS); (· rfl); (· exact nmX); (· exact nmX)))) | ((with_reducible refine k_mv ?_); (refine s_mv rfl ?_)) | ((with_reducible refine k_len ?_); (first | (refine s_len rfl rfl ?_) | ((with_reducible apply s_len); (· rfl); (· exact SlOwn.len (by assumption))) | ((with_reducible apply s_len); (· rfl); (· assumption)))) | ((with_reducible refine k_eql ?_); (first | (refine s_eql rfl rfl ?_) | (refine s_strEq rfl rfl ?_))) | ((with_reducible refine k_iaddr ?_); (first | ((with_reducible apply s_iaddrV); (· rfl); (· rfl); (· (first | omega | exact ⟨rfl, by omega⟩ | skip))) | ((with_reducible apply s_iaddrO); (· rfl); (· rfl); (· (first | omega | exact ⟨rfl, by omega⟩ | skip)); (· (exact hpX))) | ((with_reducible apply s_iaddrSO); (· rfl); (· assumption); (· rfl); (· (first | omega | exact ⟨rfl, by omega⟩ | skip)); (· (first | (simp (disch := omega) only [w64, wu8, wu16, wu32, wu64, tm_nn, td_nn, fd_nn, Int.reduceAdd, Int.reduceSub, Int.reduceMul, Int.reduceDiv, Int.reduceMod, Int.reduceNeg, Int.reduceToNat, Int.toNat_natCast, Int.toNat_zero, Int.zero_add, Int.add_zero, Int.one_mul, Int.reducePow, Nat.mul_one, Nat.zero_add, Nat.add_zero, Nat.zero_mul, Nat.reduceAdd, Nat.reduceMul, Nat.reduceSub, Nat.min_eq_left, IntKind.bits, Nat.sub_zero, g1]; try rfl; done) | rfl)); intro ks hks))) | ((with_reducible refine k_load ?_); (first | ((with_reducible apply s_loadV); (· rfl)) | ((with_reducible apply s_loadP); (· rfl); (· (exact hpX))))) | ((with_reducible refine k_br ?_); (first | (with_reducible first | refine Br_dec ?_ | refine Br_not ?_ | refine Br_eqF ?_ | refine Br_and ?_ | refine Br_or ?_ | refine Br_neg ?_ | refine Br_band ?_ | refine Br_bor ?_ | refine Br_beq ?_) | (refine Br_t (by first | with_reducible rfl | omega | assumption | rfl) ?_) | (refine Br_f (by first | omega | assumption | decide) ?_) | (with_reducible apply Br_sb <;> intro hbr <;> (first | subst hbr | simp only [hbr] | skip)) | (with_reducible apply Br_s <;> intro hbr))) | ((first | (with_reducible apply q_eqI) | (with_reducible apply q_eqN)); (first | (simp (disch := omega) only [w64, wu8, wu16, wu32, wu64, tm_nn, td_nn, fd_nn, Int.reduceAdd, Int.reduceSub, Int.reduceMul, Int.reduceDiv, Int.reduceMod, Int.reduceNeg, Int.reduceToNat, Int.toNat_natCast, Int.toNat_zero, Int.zero_add, Int.add_zero, Int.one_mul, Int.reducePow, Nat.mul_one, Nat.zero_add, Nat.add_zero, Nat.zero_mul, Nat.reduceAdd, Nat.reduceMul, Nat.reduceSub, Nat.min_eq_left, IntKind.bits, Nat.sub_zero, g1]; try rfl; done) | rfl)) | ((first | (with_reducible apply q_eqL) | (with_reducible apply q_eqO)); (first | (simp (disch := omega) only [upd_self, upd_ne, upd_upd, rep, splice, List.take_succ_cons, List.take_zero, List.drop_succ_cons, List.drop_zero, List.cons_append, List.nil_append, List.append_nil, List.length_cons, List.length_nil, List.reduceReplicate, List.flatten_cons, List.flatten_nil, Nat.reduceAdd, Nat.reduceMul, Nat.reduceSub, Nat.zero_add, Nat.add_zero, List.getElem?_cons_zero, List.getElem?_cons_succ, g1]; try rfl; done) | rfl)))
    all_goals first | (exfalso; omega) | skip
    have e0 : ((block + 1 : Nat) : Int) = (block : Int) + 1 := by omega
    simp only [e0] at ih
    have hpp : preP (c :: C.drop (block + 1)) = c.length * preP (C.drop (block + 1)) := rfl
    rw [hpp] at hn
    have hpl := prodF_len (C.drop (block + 1))
    have e2 : ∀ i (hi : i < c.length), (c.take (i + 1)).flatMap (fun x => (prodF (C.drop (block + 1))).map (im ++ [x] ++ ·)) = (c.take i).flatMap (fun x => (prodF (C.drop (block + 1))).map (im ++ [x] ++ ·)) ++ (prodF (C.drop (block + 1))).map (im ++ [c[i]] ++ ·) := fun i hi => by
      rw [List.take_add_one, List.getElem?_eq_getElem hi, List.flatMap_append]; simp
    have e3 : ∀ i, ((c.take i).flatMap (fun x => (prodF (C.drop (block + 1))).map (im ++ [x] ++ ·))).length = (c.take i).length * preP (C.drop (block + 1)) := fun i => by
      rw [← hpl]
      generalize c.take i = z
      induction z with
      | nil => simp
      | cons x z ih => rw [List.flatMap_cons, List.length_append, ih, List.length_map, List.length_cons, Nat.add_mul, Nat.one_mul, Nat.add_comm]
    have e4 : (prodF (c :: C.drop (block + 1))).map (im ++ ·) = c.flatMap (fun x => (prodF (C.drop (block + 1))).map (im ++ [x] ++ ·)) := by
      rw [prodF, List.map_flatMap]
      congr 1
      funext x
      rw [List.map_map]
      congr 1
      funext z
      simp
    rw [e4] at hQ
    clear e4
    generalize prodF (C.drop (block + 1)) = R at *
    generalize preP (C.drop (block + 1)) = pr at *
    refine W_for c.length (fun i st => ∃ h', st = ⟨[(0, .int .i64 block), (3, .pt kI 0), (4, .pt kF 0), (20, bsD c), (21, .int .i64 c.length), (22, .int .i64 i)], h'⟩ ∧ ∃ dO2 dI2, ImH h' kA kS kO kI kF C (O ++ (c.take i).flatMap (fun x => R.map (im ++ [x] ++ ·))) im dO2 dI2) ⟨_, rfl, dO, dI, by simpa using H⟩ ?_ ?_
    · rintro i e' h' hi ⟨h1, he, dO2, dI2, H2⟩
      cases he
      have g2 := bsg hi
      have hx := hc2 c[i] (List.getElem_mem hi)
      rw [e2 i hi, ← List.append_assoc]
      have hO2 : (O ++ (c.take i).flatMap (fun x => R.map (im ++ [x] ++ ·))).length + pr ≤ 64 := by
        rw [List.length_append, e3, List.length_take, Nat.min_eq_left (by omega)]
        have : (i + 1) * pr ≤ c.length * pr := Nat.mul_le_mul_right _ (by omega)
        rw [Nat.add_mul] at this
        omega
      generalize O ++ (c.take i).flatMap (fun x => R.map (im ++ [x] ++ ·)) = O2 at *
      generalize c[i] = x at *
      have hi2 := H2.i
      have hf2 := H2.f
      have hp2 := H2.pi
      repeat' (first | (with_reducible first | refine W_seq ?_ | refine then_n ?_ | refine W_block ?_ | refine blk_n ?_ | refine blk_r ?_ | refine blk_e ?_ | refine W_skip ?_ | refine W_ret ?_ | refine then_r ?_ | refine W_exit ?_ | refine then_e ?_) | ((with_reducible refine s_reg ?_); intro K hK) | ((with_reducible refine k_nil ?_); (with_reducible apply s_nil hK); (· exact nmX); clear hK; clear K) | ((with_reducible refine k_cond ?_); (first | ((with_reducible apply s_condT); (· rfl); (· exact nmX)) | ((with_reducible apply s_condF); (· rfl); (· exact nmX)) | ((with_reducible apply s_condS); (· rfl); (· exact nmX); (· exact nmX)))) | ((with_reducible refine k_mv ?_); (refine s_mv rfl ?_)) | ((with_reducible refine k_lss ?_); (refine s_lss rfl rfl ?_)) | ((with_reducible refine k_iaddr ?_); (first | ((with_reducible apply s_iaddrV); (· rfl); (· rfl); (· (first | omega | exact ⟨rfl, by omega⟩ | skip))) | ((with_reducible apply s_iaddrO); (· rfl); (· rfl); (· (first | omega | exact ⟨rfl, by omega⟩ | skip)); (· (exact hpX))) | ((with_reducible apply s_iaddrSO); (· rfl); (· assumption); (· rfl); (· (first | omega | exact ⟨rfl, by omega⟩ | skip)); (· (first | (simp (disch := omega) only [w64, wu8, wu16, wu32, wu64, tm_nn, td_nn, fd_nn, Int.reduceAdd, Int.reduceSub, Int.reduceMul, Int.reduceDiv, Int.reduceMod, Int.reduceNeg, Int.reduceToNat, Int.toNat_natCast, Int.toNat_zero, Int.zero_add, Int.add_zero, Int.one_mul, Int.reducePow, Nat.mul_one, Nat.zero_add, Nat.add_zero, Nat.zero_mul, Nat.reduceAdd, Nat.reduceMul, Nat.reduceSub, Nat.min_eq_left, IntKind.bits, Nat.sub_zero, g2]; try rfl; done) | rfl)); intro ks hks))) | ((with_reducible refine k_load ?_); (first | ((with_reducible apply s_loadV); (· rfl)) | ((with_reducible apply s_loadP); (· rfl); (· (exact hpX))))) | ((with_reducible refine k_buildS (dst := some 28) ?_); ((with_reducible apply s_buildS); (· rfl); (· (exact ⟨rfl, by decide⟩)); (· (first | (simp only [fillB, rep, splice, List.reduceReplicate, List.flatten_cons, List.flatten_nil, List.cons_append, List.nil_append, List.append_nil, List.length_cons, List.length_nil, Nat.reduceAdd, Nat.reduceMul, Nat.reduceLeDiff, Nat.reduceEqDiff, eq_self, Nat.le_refl, Nat.zero_add, and_self, and_true, true_and, if_true, List.take_zero, List.take_succ_cons, List.drop_zero, List.drop_succ_cons, List.drop_nil, List.take_nil]; rfl) | rfl)); intro k28 hk28; (try simp only [upd_none] at hk28))) | ((with_reducible refine k_br ?_); (first | (with_reducible first | refine Br_dec ?_ | refine Br_not ?_ | refine Br_eqF ?_ | refine Br_and ?_ | refine Br_or ?_ | refine Br_neg ?_ | refine Br_band ?_ | refine Br_bor ?_ | refine Br_beq ?_) | (refine Br_t (by first | with_reducible rfl | omega | assumption | rfl) ?_) | (refine Br_f (by first | omega | assumption | decide) ?_) | (with_reducible apply Br_sb <;> intro hbr <;> (first | subst hbr | simp only [hbr] | skip)) | (with_reducible apply Br_s <;> intro hbr))) | ((first | (with_reducible apply q_eqI) | (with_reducible apply q_eqN)); (first | (simp (disch := omega) only [w64, wu8, wu16, wu32, wu64, tm_nn, td_nn, fd_nn, Int.reduceAdd, Int.reduceSub, Int.reduceMul, Int.reduceDiv, Int.reduceMod, Int.reduceNeg, Int.reduceToNat, Int.toNat_natCast, Int.toNat_zero, Int.zero_add, Int.add_zero, Int.one_mul, Int.reducePow, Nat.mul_one, Nat.zero_add, Nat.add_zero, Nat.zero_mul, Nat.reduceAdd, Nat.reduceMul, Nat.reduceSub, Nat.min_eq_left, IntKind.bits, Nat.sub_zero, g2]; try rfl; done) | rfl)) | ((first | (with_reducible apply q_eqL) | (with_reducible apply q_eqO)); (first | (simp (disch := omega) only [upd_self, upd_ne, upd_upd, rep, splice, List.take_succ_cons, List.take_zero, List.drop_succ_cons, List.drop_zero, List.cons_append, List.nil_append, List.append_nil, List.length_cons, List.length_nil, List.reduceReplicate, List.flatten_cons, List.flatten_nil, Nat.reduceAdd, Nat.reduceMul, Nat.reduceSub, Nat.zero_add, Nat.add_zero, List.getElem?_cons_zero, List.getElem?_cons_succ, g2]; try rfl; done) | rfl)))
      all_goals first | (exfalso; omega) | skip
      refine s_appP rfl rfl (hp2.mono fun j c hj _ => upd_sub hk28 j c hj) rfl (srcD_sl upd_self rfl) ⟨rfl, by decide⟩ (by rw [room_n]; omega) fun da ha hso hoth => ?_
      have H3 := (H2.mono (upd_sub hk28)).put hso fun j c hj hf => hoth j c hj hf
      obtain ⟨ka, tl, t, rfl, hO, ht⟩ := hso.pos (by omega)
      have q1 := (hoth kI _ (upd_sub hk28 _ _ hi2) H2.fI.2.2.2.1).1
      repeat' (first | (with_reducible first | refine W_seq ?_ | refine then_n ?_ | refine W_block ?_ | refine blk_n ?_ | refine blk_r ?_ | refine blk_e ?_ | refine W_skip ?_ | refine W_ret ?_ | refine then_r ?_ | refine W_exit ?_ | refine then_e ?_) | ((with_reducible refine s_reg ?_); intro K hK) | ((with_reducible refine k_nil ?_); (with_reducible apply s_nil hK); (· exact nmX); clear hK; clear K) | ((with_reducible refine k_store ?_); ((with_reducible apply s_store0); (· rfl); (· rfl); (· rfl); (· (exact hpX)); (· (exact ⟨rfl, by first | exact Nat.le_of_ble_eq_true rfl | omega | (simp; omega)⟩)); (· ((first | exact liL | exact liO))); (· (first | exact upd_upd | rfl)))))
      all_goals first | (exfalso; omega) | skip
      have hf3 := H3.f
      have hi3 := H3.i
      have ih2 := fun {Q : D → Heap → Prop} q => ih (im ++ [x]) O2 dO2 _ _ Q (by omega) (by simp; omega) (fun b hb => by rcases List.mem_append.1 hb with h1 | h1; exact hib b h1; rw [List.mem_singleton.1 h1]; exact hx) hO2 H3 q
      repeat' (first | (with_reducible first | refine W_seq ?_ | refine then_n ?_ | refine W_block ?_ | refine blk_n ?_ | refine blk_r ?_ | refine blk_e ?_ | refine W_skip ?_ | refine W_ret ?_ | refine then_r ?_ | refine W_exit ?_ | refine then_e ?_) | ((with_reducible refine s_reg ?_); intro K hK) | ((with_reducible refine k_nil ?_); (with_reducible apply s_nil hK); (· exact nmX); clear hK; clear K) | ((with_reducible refine k_mv ?_); (refine s_mv rfl ?_)) | ((with_reducible refine k_load ?_); (first | ((with_reducible apply s_loadV); (· rfl)) | ((with_reducible apply s_loadP); (· rfl); (· (exact hpX))))) | ((with_reducible refine k_add ?_); ((with_reducible apply s_add); (· rfl); (· rfl))) | ((with_reducible refine k_store ?_); ((with_reducible apply s_store0); (· rfl); (· rfl); (· rfl); (· (exact hpX)); (· (exact ⟨rfl, by first | exact Nat.le_of_ble_eq_true rfl | omega | (simp; omega)⟩)); (· ((first | exact liL | exact liO))); (· (first | exact upd_upd | rfl)))) | ((with_reducible refine k_slice ?_); (first | ((with_reducible apply s_sliceV); (· rfl); (· (first | exact b_none | (apply b_some; (· rfl); (· omega); (· (first | exact nuI | exact nuN))))); (· (first | exact b_none | (apply b_some; (· rfl); (· omega); (· (first | exact nuI | exact nuN))))); (· (first | omega | exact ⟨rfl, by omega⟩ | skip))) | ((with_reducible apply s_sliceO); (· rfl); (· (first | exact b_none | (apply b_some; (· rfl); (· omega); (· (first | exact nuI | exact nuN))))); (· (first | exact b_none | (apply b_some; (· rfl); (· omega); (· (first | exact nuI | exact nuN))))); (· (first | omega | exact ⟨rfl, by omega⟩ | skip))) | ((with_reducible apply s_sliceN); (· rfl); (· (first | exact b_none | (apply b_some; (· rfl); (· omega); (· (first | exact nuI | exact nuN))))); (· (first | exact b_none | (apply b_some; (· rfl); (· omega); (· (first | exact nuI | exact nuN))))); (· (first | omega | exact ⟨rfl, by omega⟩ | skip))))) | ((with_reducible refine k_callT ?_); ((with_reducible apply s_callt); (· rfl); (· rfl); (· rfl))) | ((with_reducible refine k_con ?_); (first | (refine ih2 ?_; intro h5 dO5 dI5 H5; have hi5 := H5.i; obtain ⟨k5, e5, H6, cs5, hk5, hl5⟩ := H5.cut; subst e5))) | ((first | (with_reducible apply q_eqI) | (with_reducible apply q_eqN)); (first | exact nuI | exact nuN)) | ((first | (with_reducible apply q_eqL) | (with_reducible apply q_eqO)); (first | exact liL | exact liO)))
      all_goals first | (exfalso; omega) | skip
      rw [him] at H6
      exact ⟨_, rfl, _, _, H6⟩
    · rintro e' h' ⟨h1, he, dO2, dI2, H2⟩
      cases he
      rw [List.take_length] at H2
      repeat' (first | (with_reducible first | refine W_seq ?_ | refine then_n ?_ | refine W_block ?_ | refine blk_n ?_ | refine blk_r ?_ | refine blk_e ?_ | refine W_skip ?_ | refine W_ret ?_ | refine then_r ?_ | refine W_exit ?_ | refine then_e ?_) | ((with_reducible refine s_reg ?_); intro K hK) | ((with_reducible refine k_nil ?_); (with_reducible apply s_nil hK); (· exact nmX); clear hK; clear K) | ((with_reducible refine k_cond ?_); (first | ((with_reducible apply s_condT); (· rfl); (· exact nmX)) | ((with_reducible apply s_condF); (· rfl); (· exact nmX)) | ((with_reducible apply s_condS); (· rfl); (· exact nmX); (· exact nmX)))) | ((with_reducible refine k_lss ?_); (refine s_lss rfl rfl ?_)) | ((with_reducible refine k_br ?_); (first | (with_reducible first | refine Br_dec ?_ | refine Br_not ?_ | refine Br_eqF ?_ | refine Br_and ?_ | refine Br_or ?_ | refine Br_neg ?_ | refine Br_band ?_ | refine Br_bor ?_ | refine Br_beq ?_) | (refine Br_t (by first | with_reducible rfl | omega | assumption | rfl) ?_) | (refine Br_f (by first | omega | assumption | decide) ?_) | (with_reducible apply Br_sb <;> intro hbr <;> (first | subst hbr | simp only [hbr] | skip)) | (with_reducible apply Br_s <;> intro hbr))))
      all_goals first | (exfalso; omega) | exact ⟨trivial, _, rfl, hQ _ _ _ H2⟩
end Go.Proofs.Ythblalidmmbcoaa
end
section
/- min -/
/- Images. -/
set_option linter.unusedSimpArgs false
set_option linter.unusedVariables false
namespace Go.Proofs.Ythblalidmmbcoaa
open Go.AM Classical
set_option maxRecDepth 100000
set_option maxHeartbeats 4000000
def chL (B : List Bs) (l : List Ev) : List (List Bs) := (List.range B.length).map (chF B l)
theorem chL_len (B : List Bs) (l : List Ev) : (chL B l).length = B.length := by simp [chL]
theorem chL_get {B : List Bs} {l : List Ev} {i : Nat} (h : i < (chL B l).length) : (chL B l)[i] = chF B l i := by simp [chL]
def limI (C : List (List Bs)) : Prop := ∃ i < C.length, 64 < preP (C.take (i + 1))
noncomputable def imR (B : List Bs) (l : List Ev) : D := if chkR B l = 0 then (if limI (chL B l) then .tup [.vs 1 [] 0, .int .i64 9] else .tup [.vs 1 ((prodF (chL B l)).map bsD) (prodF (chL B l)).length, .int .i64 0]) else .tup [.vs 1 [] 0, .int .i64 (chkR B l)]
theorem imV_rn {h : Heap} (L : List (List Bs)) : All2 (Rn h) (L.map imV) (L.map bsD) := by
  refine ⟨by simp, fun i c d hc hd => ?_⟩
  rw [List.getElem?_map] at hc hd
  cases hb : L[i]? with
  | none => rw [hb] at hd; cases hd
  | some b => rw [hb] at hc hd; injection hc with hc; injection hd with hd; subst hc; subst hd; exact Rn_vn
def allC (C : List (List Bs)) (i : Nat) : List D := (C.take i).map bsD ++ List.replicate (C.length - i) .nil
theorem allC_len (C : List (List Bs)) {i : Nat} (h : i ≤ C.length) : (allC C i).length = C.length := by
  unfold allC; rw [List.length_append, List.length_map, List.length_take, List.length_replicate]; omega
theorem allC_set {C : List (List Bs)} {i : Nat} (h : i < C.length) : splice (allC C i) i [bsD C[i]] = allC C (i + 1) := by
  have hl := allC_len C (Nat.le_of_lt h)
  have hm : ((C.take i).map bsD).length = i := by rw [List.length_map, List.length_take]; omega
  unfold splice allC
  rw [List.take_left' hm, List.length_singleton]
  rw [show C.length - i = (C.length - (i + 1)) + 1 by omega, List.replicate_succ, List.drop_append, List.drop_eq_nil_of_le (by omega), hm]
  rw [List.take_add_one, List.getElem?_eq_getElem h, List.map_append]
  simp
theorem allC_get {C : List (List Bs)} {i : Nat} (h : i < C.length) : (allC C (i + 1))[i]? = some (bsD C[i]) := by
  have hm : ((C.take (i + 1)).map bsD).length = i + 1 := by rw [List.length_map, List.length_take]; omega
  unfold allC
  rw [List.getElem?_append_left (by omega), List.getElem?_map, List.getElem?_take, if_pos (by omega), List.getElem?_eq_getElem h]
  rfl
theorem allC_end (C : List (List Bs)) : allC C C.length = C.map bsD := by unfold allC; simp
theorem rep_nil (n : Nat) : rep n [D.nil] = List.replicate n .nil := by
  unfold rep; induction n with
  | zero => rfl
  | succ n ih => rw [List.replicate_succ, List.flatten_cons, ih, List.replicate_succ]; rfl
theorem dimages_c {B : List Bs} {l : List Ev} (Ho : HOk B l) : PCon Try.prog 18 [bsD B, evD l] (imR B l) := by
  refine A18p (by simp [A18]) ?_
  simp only [A18, argEnv]
  unfold imR
  have hB := Ho.nB
  have hL := Ho.nL
  have hal := bs_len B
  have hlen := chL_len B l
  by_cases hc : chkR B l = 0
  · rw [if_pos hc]
    repeat' (first | (with_reducible first | refine W_seq ?_ | refine then_n ?_ | refine W_block ?_ | refine blk_n ?_ | refine blk_r ?_ | refine blk_e ?_ | refine W_skip ?_ | refine W_ret ?_ | refine then_r ?_ | refine W_exit ?_ | refine then_e ?_) | ((with_reducible refine s_reg ?_); intro K hK) | ((with_reducible refine k_nil ?_); (with_reducible apply s_nil hK); (· exact nmX); clear hK; clear K) | ((with_reducible refine k_cond ?_); (first | ((with_reducible apply s_condT); (· rfl); (· exact nmX)) | ((with_reducible apply s_condF); (· rfl); (· exact nmX)) | ((with_reducible apply s_condS); (· rfl); (· exact nmX); (· exact nmX)))) | ((with_reducible refine k_mv ?_); (refine s_mv rfl ?_)) | ((with_reducible refine k_extract ?_); (refine s_extract rfl rfl ?_)) | ((with_reducible refine k_len ?_); (first | (refine s_len rfl rfl ?_) | ((with_reducible apply s_len); (· rfl); (· exact SlOwn.len (by assumption))) | ((with_reducible apply s_len); (· rfl); (· assumption)))) | ((with_reducible refine k_neq ?_); (first | (refine s_neq rfl rfl ?_) | (refine s_strNe rfl rfl ?_))) | ((with_reducible refine k_mkslice (dst := some 25) ?_); ((with_reducible apply s_mkslice); (· rfl); (· rfl); (· (exact ⟨rfl, by decide, by omega, by omega, by (rw [room_i]; omega), by omega⟩)); (· ((first | exact nuI | exact nuN))); intro k25 hk25; (try simp only [upd_none] at hk25))) | ((with_reducible refine k_store ?_); ((with_reducible apply s_store0); (· rfl); (· rfl); (· rfl); (· (exact hpX)); (· (exact ⟨rfl, by first | exact Nat.le_of_ble_eq_true rfl | omega | (simp; omega)⟩)); (· ((first | exact liL | exact liO))); (· (first | exact upd_upd | rfl)))) | ((with_reducible refine k_alloc (dst := some 8) ?_); ((with_reducible apply s_alloc); intro k8 hk8; (try simp only [upd_none] at hk8))) | ((with_reducible refine k_callF ?_); (first | ((with_reducible apply s_call1); (· rfl)) | ((with_reducible apply s_calln); (· rfl)))) | ((with_reducible refine k_con ?_); (first | (refine after_ok hB hL Ho.id hc ?_; intro h2 k kF kC dO H hh))) | ((with_reducible refine k_br ?_); (first | (with_reducible first | refine Br_dec ?_ | refine Br_not ?_ | refine Br_eqF ?_ | refine Br_and ?_ | refine Br_or ?_ | refine Br_neg ?_ | refine Br_band ?_ | refine Br_bor ?_ | refine Br_beq ?_) | (refine Br_t (by first | with_reducible rfl | omega | assumption | rfl) ?_) | (refine Br_f (by first | omega | assumption | decide) ?_) | (with_reducible apply Br_sb <;> intro hbr <;> (first | subst hbr | simp only [hbr] | skip)) | (with_reducible apply Br_s <;> intro hbr))))
    all_goals first | (exfalso; omega) | skip
    have hle : ∀ i (hi : i < (chL B l).length), ((chL B l)[i]).length ≤ 902 := fun i hi => by rw [chL_get]; have := ch_len (B := B) (l := l) (b := i); omega
    have h32 : ∀ i (hi : i < (chL B l).length), ∀ b ∈ (chL B l)[i], b.length = 32 := fun i hi b hb => by rw [chL_get] at hb; exact ch_32 hc (by omega) hb
    have pk : ∀ {h : Heap} (hs : ∀ j c, h2 j = some c → h j = some c) (i : Nat) (hi : i < (chL B l).length), PK Try.prog h [.pt k 0, .int .i64 i] 41 (bsD (chL B l)[i]) := fun hs i hi => by rw [chL_get]; exact stch_pk Ho hc (H.mono hs) i (by omega)
    generalize hC : chL B l = C at *
    have hCB : C.length ≤ 1000000 := by omega
    rw [← hlen]
    have hps : ∀ i (hi : i < C.length), preP (C.take (i + 1)) = preP (C.take i) * (C[i]).length := fun i hi => by rw [List.take_add_one, List.getElem?_eq_getElem hi]; exact preP_snoc _ _
    refine W_for C.length (fun i st => ∃ h', st = ⟨[(6, .pt k 0), (8, .pt k8 0), (9, .int .i64 (preP (C.take i) : Nat)), (27, .int .i64 C.length), (28, .int .i64 i)], h'⟩ ∧ h' k8 = some [.sl k25 1 0 C.length] ∧ h' k25 = some (allC C i) ∧ (∀ j c, h2 j = some c → h' j = some c) ∧ (preP (C.take i) ≤ 64 ∧ ∀ t, t < i → preP (C.take (t + 1)) ≤ 64)) ⟨_, rfl, upd_self, ?_, fun j c hj => upd_sub (by rw [upd_ne hk8.1]; exact hk8.2) j c (upd_sub hk25 j c hj), by simp [preP], fun t ht => by omega⟩ ?_ ?_
    · rw [upd_ne hk8.1.symm, upd_self, rep_nil]; simp [allC]
    · rintro i e' h' hi ⟨h1, he, q1, q2, hs, hp, ht⟩
      cases he
      have hb0 := hle i hi
      have p1 := pk hs i hi
      have hcl := allC_len C (Nat.le_of_lt hi)
      have hst := allC_set hi
      have hgt := allC_get hi
      have hlim : 64 < preP (C.take (i + 1)) → limI C := fun h => ⟨i, hi, h⟩
      have hmul : ((preP (C.take i) : Nat) : Int) * ((C[i]).length : Nat) = (preP (C.take (i + 1)) : Nat) := by rw [hps i hi]; simp
      have hpb : preP (C.take (i + 1)) ≤ 64 * 902 := by rw [hps i hi]; exact Nat.mul_le_mul hp hb0
      have hal2 := bs_len C[i]
      generalize C[i] = c at *
      generalize preP (C.take i) = pi at *
      generalize hpj : preP (C.take (i + 1)) = pj at *
      generalize allC C i = A at *
      generalize allC C (i + 1) = A2 at *
      unfold splice at hst
      rw [List.length_singleton] at hst
      repeat' (first | (with_reducible first | refine W_seq ?_ | refine then_n ?_ | refine W_block ?_ | refine blk_n ?_ | refine blk_r ?_ | refine blk_e ?_ | refine W_skip ?_ | refine W_ret ?_ | refine then_r ?_ | refine W_exit ?_ | refine then_e ?_) | ((with_reducible refine s_reg ?_); intro K hK) | ((with_reducible refine k_nil ?_); (with_reducible apply s_nil hK); (· exact nmX); clear hK; clear K) | ((with_reducible refine k_cond ?_); (first | ((with_reducible apply s_condT); (· rfl); (· exact nmX)) | ((with_reducible apply s_condF); (· rfl); (· exact nmX)) | ((with_reducible apply s_condS); (· rfl); (· exact nmX); (· exact nmX)))) | ((with_reducible refine k_mv ?_); (refine s_mv rfl ?_)) | ((with_reducible refine k_len ?_); (first | (refine s_len rfl rfl ?_) | ((with_reducible apply s_len); (· rfl); (· exact SlOwn.len (by assumption))) | ((with_reducible apply s_len); (· rfl); (· assumption)))) | ((with_reducible refine k_lss ?_); (refine s_lss rfl rfl ?_)) | ((with_reducible refine k_gtr ?_); (refine s_gtr rfl rfl ?_)) | ((with_reducible refine k_iaddr ?_); (first | ((with_reducible apply s_iaddrV); (· rfl); (· rfl); (· (first | omega | exact ⟨rfl, by omega⟩ | skip))) | ((with_reducible apply s_iaddrO); (· rfl); (· rfl); (· (first | omega | exact ⟨rfl, by omega⟩ | skip)); (· (exact hpX))) | ((with_reducible apply s_iaddrSO); (· rfl); (· assumption); (· rfl); (· (first | omega | exact ⟨rfl, by omega⟩ | skip)); (· (first | (simp (disch := omega) only [w64, wu8, wu16, wu32, wu64, tm_nn, td_nn, fd_nn, Int.reduceAdd, Int.reduceSub, Int.reduceMul, Int.reduceDiv, Int.reduceMod, Int.reduceNeg, Int.reduceToNat, Int.toNat_natCast, Int.toNat_zero, Int.zero_add, Int.add_zero, Int.one_mul, Int.reducePow, Nat.mul_one, Nat.zero_add, Nat.add_zero, Nat.zero_mul, Nat.reduceAdd, Nat.reduceMul, Nat.reduceSub, Nat.min_eq_left, IntKind.bits, Nat.sub_zero, hst, hgt, hmul]; try rfl; done) | rfl)); intro ks hks))) | ((with_reducible refine k_load ?_); (first | ((with_reducible apply s_loadV); (· rfl)) | ((with_reducible apply s_loadP); (· rfl); (· (exact hpX))))) | ((with_reducible refine k_add ?_); ((with_reducible apply s_add); (· rfl); (· rfl))) | ((with_reducible refine k_mul ?_); ((with_reducible apply s_mul); (· rfl); (· rfl))) | ((with_reducible refine k_store ?_); ((with_reducible apply s_store0); (· rfl); (· rfl); (· rfl); (· (exact hpX)); (· (exact ⟨rfl, by first | exact Nat.le_of_ble_eq_true rfl | omega | (simp [hst, hgt, hmul]; omega)⟩)); (· ((first | (simp (disch := omega) only [upd_self, upd_ne, upd_upd, rep, splice, List.take_succ_cons, List.take_zero, List.drop_succ_cons, List.drop_zero, List.cons_append, List.nil_append, List.append_nil, List.length_cons, List.length_nil, List.reduceReplicate, List.flatten_cons, List.flatten_nil, Nat.reduceAdd, Nat.reduceMul, Nat.reduceSub, Nat.zero_add, Nat.add_zero, List.getElem?_cons_zero, List.getElem?_cons_succ, hst, hgt, hmul]; try rfl; done) | rfl))); (· (first | exact upd_upd | rfl)))) | ((with_reducible refine k_dreg ?_); refine s_dregS (pre := A18d10p) rfl rfl rfl ?_; intro K hK) | (with_reducible refine d_nilS ?_) | ((with_reducible refine k_dcall ?_); (first | ((with_reducible apply d_callK); (· rfl); (· exact p1); (· rfl)))) | ((with_reducible refine k_dop ?_); refine d_step (by first | exact Or.inl rfl | exact Or.inr rfl) ?_) | (with_reducible refine d_back ?_) | ((with_reducible refine k_br ?_); (first | (with_reducible first | refine Br_dec ?_ | refine Br_not ?_ | refine Br_eqF ?_ | refine Br_and ?_ | refine Br_or ?_ | refine Br_neg ?_ | refine Br_band ?_ | refine Br_bor ?_ | refine Br_beq ?_) | (refine Br_t (by first | with_reducible rfl | omega | assumption | rfl) ?_) | (refine Br_f (by first | omega | assumption | decide) ?_) | (with_reducible apply Br_sb <;> intro hbr <;> (first | subst hbr | simp only [hbr] | skip)) | (with_reducible apply Br_s <;> intro hbr))) | ((first | (with_reducible apply q_eqI) | (with_reducible apply q_eqN)); (first | (simp (disch := omega) only [w64, wu8, wu16, wu32, wu64, tm_nn, td_nn, fd_nn, Int.reduceAdd, Int.reduceSub, Int.reduceMul, Int.reduceDiv, Int.reduceMod, Int.reduceNeg, Int.reduceToNat, Int.toNat_natCast, Int.toNat_zero, Int.zero_add, Int.add_zero, Int.one_mul, Int.reducePow, Nat.mul_one, Nat.zero_add, Nat.add_zero, Nat.zero_mul, Nat.reduceAdd, Nat.reduceMul, Nat.reduceSub, Nat.min_eq_left, IntKind.bits, Nat.sub_zero, hst, hgt, hmul]; try rfl; done) | rfl)) | ((first | (with_reducible apply q_eqL) | (with_reducible apply q_eqO)); (first | (simp (disch := omega) only [upd_self, upd_ne, upd_upd, rep, splice, List.take_succ_cons, List.take_zero, List.drop_succ_cons, List.drop_zero, List.cons_append, List.nil_append, List.append_nil, List.length_cons, List.length_nil, List.reduceReplicate, List.flatten_cons, List.flatten_nil, Nat.reduceAdd, Nat.reduceMul, Nat.reduceSub, Nat.zero_add, Nat.add_zero, List.getElem?_cons_zero, List.getElem?_cons_succ, hst, hgt, hmul]; try rfl; done) | rfl)))
      all_goals first | (exfalso; omega) | skip
      · rw [if_pos (hlim (by omega))]
        exact Fin_tupN trivial rfl (All2.cons Rn_nil (All2.cons (Rn_scal rfl) All2.nil)) rfl
      · refine ⟨_, rfl, ?_, upd_self, fun j c hj => ?_, by omega, fun t ht2 => ?_⟩
        · rw [upd_ne hk8.1]; exact q1
        · rw [upd_ne (fun e => by rw [e, hk25] at hj; cases hj)]; exact hs j c hj
        · rcases Nat.lt_succ_iff_lt_or_eq.1 ht2 with h3 | rfl
          · exact ht t h3
          · rw [hpj]; omega
    · rintro e' h' ⟨h1, he, q1, q2, hs, hp, ht⟩
      cases he
      rw [if_neg (fun ⟨i, hi, h⟩ => by have := ht i hi; omega)]
      rw [allC_end] at q2
      clear hps
      rw [List.take_length] at hp
      repeat' (first | (with_reducible first | refine W_seq ?_ | refine then_n ?_ | refine W_block ?_ | refine blk_n ?_ | refine blk_r ?_ | refine blk_e ?_ | refine W_skip ?_ | refine W_ret ?_ | refine then_r ?_ | refine W_exit ?_ | refine then_e ?_) | ((with_reducible refine s_reg ?_); intro K hK) | ((with_reducible refine k_nil ?_); (with_reducible apply s_nil hK); (· exact nmX); clear hK; clear K) | ((with_reducible refine k_cond ?_); (first | ((with_reducible apply s_condT); (· rfl); (· exact nmX)) | ((with_reducible apply s_condF); (· rfl); (· exact nmX)) | ((with_reducible apply s_condS); (· rfl); (· exact nmX); (· exact nmX)))) | ((with_reducible refine k_lss ?_); (refine s_lss rfl rfl ?_)) | ((with_reducible refine k_load ?_); (first | ((with_reducible apply s_loadV); (· rfl)) | ((with_reducible apply s_loadP); (· rfl); (· (exact hpX))))) | ((with_reducible refine k_store ?_); ((with_reducible apply s_store0); (· rfl); (· rfl); (· rfl); (· (exact hpX)); (· (exact ⟨rfl, by first | exact Nat.le_of_ble_eq_true rfl | omega | (simp; omega)⟩)); (· ((first | exact liL | exact liO))); (· (first | exact upd_upd | rfl)))) | ((with_reducible refine k_alloc (dst := some 11) ?_); ((with_reducible apply s_alloc); intro k11 hk11; (try simp only [upd_none] at hk11))) | ((with_reducible refine k_alloc (dst := some 12) ?_); ((with_reducible apply s_alloc); intro k12 hk12; (try simp only [upd_none] at hk12))) | ((with_reducible refine k_alloc (dst := some 13) ?_); ((with_reducible apply s_alloc); intro k13 hk13; (try simp only [upd_none] at hk13))) | ((with_reducible refine k_mkfn ?_); ((with_reducible apply s_mkfn); (· rfl); (· rfl))) | ((with_reducible refine k_callT ?_); ((with_reducible apply s_callt); (· rfl); (· rfl); (· rfl))) | ((with_reducible refine k_br ?_); (first | (with_reducible first | refine Br_dec ?_ | refine Br_not ?_ | refine Br_eqF ?_ | refine Br_and ?_ | refine Br_or ?_ | refine Br_neg ?_ | refine Br_band ?_ | refine Br_bor ?_ | refine Br_beq ?_) | (refine Br_t (by first | with_reducible rfl | omega | assumption | rfl) ?_) | (refine Br_f (by first | omega | assumption | decide) ?_) | (with_reducible apply Br_sb <;> intro hbr <;> (first | subst hbr | simp only [hbr] | skip)) | (with_reducible apply Br_s <;> intro hbr))) | ((first | (with_reducible apply q_eqL) | (with_reducible apply q_eqO)); (first | exact liL | exact liO)))
      all_goals first | (exfalso; omega) | skip
      have hC1 : ∀ c ∈ C, c.length ≤ 1000000 ∧ ∀ b ∈ c, b.length ≤ 1000000 := fun c hcm => by
        obtain ⟨i, hi, rfl⟩ := List.mem_iff_getElem.1 hcm
        refine ⟨by have := hle i hi; omega, fun b hb => ?_⟩
        have h32 := h32 i hi b hb
        omega
      refine choose_con hCB hC1 (kA := k8) (kS := k25) C.length 0 [] [] .nil .nil _ _ (by omega) rfl (by simp) (by simpa using hp) ?_ (fun h5 dO5 dI5 H5 => ?_)
      · have n8 : ∀ {j}, h' j = none → k8 ≠ j := fun hj e => by rw [← e, q1] at hj; cases hj
        have n25 : ∀ {j}, h' j = none → k25 ≠ j := fun hj e => by rw [← e, q2] at hj; cases hj
        obtain ⟨a1, a2⟩ := hk12
        obtain ⟨b1, b2, b3⟩ := hk13
        refine ⟨?_, ?_, ?_, SlOwn.nil, ?_, SlPre.nil, upd_self, ⟨⟨n8 hk11, n8 a2⟩, ⟨n25 hk11, n25 a2⟩, Ne.symm a1, b2, b1⟩, ⟨Fr.nil, Fr.nil, Fr.nil, Fr.nil, Fr.nil⟩, ⟨Fr.nil, Fr.nil, Fr.nil, Fr.nil, Fr.nil⟩, fun j => .inl Fr.nil⟩
        · rw [upd_ne (n8 b3), upd_ne (n8 a2), upd_ne (n8 hk11)]; exact q1
        · rw [upd_ne (n25 b3), upd_ne (n25 a2), upd_ne (n25 hk11)]; exact q2
        · rw [upd_ne (Ne.symm b2), upd_ne (Ne.symm a1)]; exact upd_self
        · rw [upd_ne (Ne.symm b1)]; exact upd_self
      · have ho5 := H5.o
        have so5 := H5.so
        repeat' (first | (with_reducible first | refine W_seq ?_ | refine then_n ?_ | refine W_block ?_ | refine blk_n ?_ | refine blk_r ?_ | refine blk_e ?_ | refine W_skip ?_ | refine W_ret ?_ | refine then_r ?_ | refine W_exit ?_ | refine then_e ?_) | ((with_reducible refine s_reg ?_); intro K hK) | ((with_reducible refine k_nil ?_); (with_reducible apply s_nil hK); (· exact nmX); clear hK; clear K) | ((with_reducible refine k_mv ?_); (refine s_mv rfl ?_)) | ((with_reducible refine k_load ?_); (first | ((with_reducible apply s_loadV); (· rfl)) | ((with_reducible apply s_loadP); (· rfl); (· (exact hpX))))) | ((first | (with_reducible apply q_eqL) | (with_reducible apply q_eqO)); (first | exact liL | exact liO)))
        all_goals first | (exfalso; omega) | skip
        have e5 : [] ++ (prodF (C.drop 0)).map ([] ++ ·) = prodF C := by simp
        rw [e5] at so5
        exact Fin_tupN trivial rfl (All2.cons (Rn_so so5 (imV_rn _)) (All2.cons (Rn_scal rfl) All2.nil)) rfl
  · rw [if_neg hc]
    have c1 := fun {h : Heap} {Q : D → Heap → Prop} q => after_no (h := h) (Q := Q) hB hL Ho.id hc q
    generalize chkR B l = e at *
    repeat' (first | (with_reducible first | refine W_seq ?_ | refine then_n ?_ | refine W_block ?_ | refine blk_n ?_ | refine blk_r ?_ | refine blk_e ?_ | refine W_skip ?_ | refine W_ret ?_ | refine then_r ?_ | refine W_exit ?_ | refine then_e ?_) | ((with_reducible refine s_reg ?_); intro K hK) | ((with_reducible refine k_nil ?_); (with_reducible apply s_nil hK); (· exact nmX); clear hK; clear K) | ((with_reducible refine k_cond ?_); (first | ((with_reducible apply s_condT); (· rfl); (· exact nmX)) | ((with_reducible apply s_condF); (· rfl); (· exact nmX)) | ((with_reducible apply s_condS); (· rfl); (· exact nmX); (· exact nmX)))) | ((with_reducible refine k_mv ?_); (refine s_mv rfl ?_)) | ((with_reducible refine k_extract ?_); (refine s_extract rfl rfl ?_)) | ((with_reducible refine k_neq ?_); (first | (refine s_neq rfl rfl ?_) | (refine s_strNe rfl rfl ?_))) | ((with_reducible refine k_callF ?_); (first | ((with_reducible apply s_call1); (· rfl)) | ((with_reducible apply s_calln); (· rfl)))) | ((with_reducible refine k_con ?_); (first | (refine c1 ?_; intro h2 hh))) | ((with_reducible refine k_br ?_); (first | (with_reducible first | refine Br_dec ?_ | refine Br_not ?_ | refine Br_eqF ?_ | refine Br_and ?_ | refine Br_or ?_ | refine Br_neg ?_ | refine Br_band ?_ | refine Br_bor ?_ | refine Br_beq ?_) | (refine Br_t (by first | with_reducible rfl | omega | assumption | rfl) ?_) | (refine Br_f (by first | omega | assumption | decide) ?_) | (with_reducible apply Br_sb <;> intro hbr <;> (first | subst hbr | simp only [hbr] | skip)) | (with_reducible apply Br_s <;> intro hbr))))
    all_goals first | (exfalso; omega) | exact Fin_tupN trivial rfl (All2.cons Rn_nil (All2.cons (Rn_scal rfl) All2.nil)) rfl
end Go.Proofs.Ythblalidmmbcoaa
end
section
/- min -/
/- The reference: Images. -/
set_option linter.unusedSimpArgs false
set_option linter.unusedVariables false
namespace Go.Proofs.Ythblalidmmbcoaa
open Go.AM Classical
set_option maxRecDepth 100000
set_option maxHeartbeats 4000000
def IM (h : Heap) (cs : List D) (O : List (List Bs)) : Prop := All2 (fun c im => ∃ k, c = .sl k 1 0 im.length ∧ h k = some (im.map vD)) cs O
theorem IM.mono {h h2 : Heap} {cs : List D} {O : List (List Bs)} (H : IM h cs O) (hh : ∀ j c, h j = some c → h2 j = some c) : IM h2 cs O :=
  ⟨H.1, fun i c im hc hm => by obtain ⟨k, h1, h3⟩ := H.2 i c im hc hm; exact ⟨k, h1, hh _ _ h3⟩⟩
theorem IM.step {h h2 h3 : Heap} {d : D} {cs : List D} {O : List (List Bs)} {n : Nat} (H : IM h cs O) (ho : SlOwn h d 1 cs n) (h12 : ∀ k c, h k = some c → h2 k = some c) (h23 : ∀ j c, h2 j = some c → (∀ sz off n, d ≠ .sl j sz off n) → h3 j = some c) : IM h3 cs O := by
  refine ⟨H.1, fun i c im hc hm => ?_⟩
  obtain ⟨k, rfl, hk⟩ := H.2 i c im hc hm
  refine ⟨k, rfl, h23 _ _ (h12 _ _ hk) fun sz off m hd => ?_⟩
  obtain ⟨-, ⟨-, h0 | h0⟩ | ⟨k2, h0, hk2⟩⟩ := ho
  · rw [h0] at hd; cases hd
  · rw [h0] at hd; cases hd
  · rw [h0] at hd
    injection hd with hd
    subst hd
    rw [hk] at hk2
    injection hk2 with hk2
    rw [← hk2, List.getElem?_map] at hc
    cases hb : im[i]? with
    | none => rw [hb] at hc; cases hc
    | some b => rw [hb] at hc; injection hc with hc; cases hc
theorem IM.snoc {h : Heap} {cs : List D} {O : List (List Bs)} (H : IM h cs O) {k : Nat} {im : List Bs} (hk : h k = some (im.map vD)) : IM h (cs ++ [.sl k 1 0 im.length]) (O ++ [im]) := H.append (All2.cons ⟨k, rfl, hk⟩ All2.nil)
theorem IM.rn {h : Heap} {cs : List D} {O : List (List Bs)} (H : IM h cs O) : All2 (Rn h) cs (O.map bsD) := by
  refine ⟨by rw [List.length_map]; exact H.1, fun i c d hc hd => ?_⟩
  rw [List.getElem?_map] at hd
  cases hb : O[i]? with
  | none => rw [hb] at hd; cases hd
  | some im =>
    rw [hb] at hd; injection hd with hd; subst hd
    obtain ⟨k, rfl, hk⟩ := H.2 i c im hc hb
    exact Rn_sl hk (by simp) (vs_rn _)
theorem IM.get {h : Heap} {cs : List D} {O : List (List Bs)} (H : IM h cs O) {i : Nat} (hi : i < O.length) : ∃ k, cs[i]? = some (.sl k 1 0 (O[i]).length) ∧ h k = some ((O[i]).map vD) := by
  have h1 := H.1
  obtain ⟨k, h2, h3⟩ := H.2 i _ _ (List.getElem?_eq_getElem (by omega : i < cs.length)) (List.getElem?_eq_getElem hi)
  exact ⟨k, by rw [List.getElem?_eq_getElem (by omega), h2], h3⟩
end Go.Proofs.Ythblalidmmbcoaa
end
section
/- Drawn regions: makers, then a call. -/
set_option linter.unusedSimpArgs false
set_option linter.unusedVariables false
namespace Go.AM
open Classical
set_option maxRecDepth 100000
set_option maxHeartbeats 4000000
def madeS : List Nat → Nat → List AIns → List Nat
  | made, _, [] => made
  | made, i, o :: r => madeS (if makes o.op then i :: made else made) (i + 1) r
theorem Wmid_run {P : Program} {ops : List AIns} {bef : List (List Nat)} (hbl : bef.length = ops.length) {N : Nat} {rs : Nat → D} : ∀ (l : List AIns) (i : Nat) (made : List Nat) (e : Env) (h : Heap) (K : Env → Heap → Prop), (∃ tail, ops.drop i = l ++ tail) → okS bef made i l = true → Wops P l e h K →
    (∀ k, N ≤ k → h k ≠ none → ∃ m ∈ made, k = N + m) → (∀ m ∈ made, m < i) → ∃ e' h', dRun P N ops.length rs ops bef (List.range' i l.length) (get e) h = some (get e', h') ∧ K e' h' ∧ (∀ k, N ≤ k → h' k ≠ none → ∃ m ∈ madeS made i l, k = N + m) ∧ ∀ m ∈ madeS made i l, m < i + l.length
  | [], i, _, e, h, K, _, _, hw, hN, hm => ⟨e, h, by simp [dRun], hw, hN, hm⟩
  | o :: r, i, made, e, h, K, ⟨tail, hd⟩, hok, hw, hN, hm => by
    have hoi : ops[i]? = some o := by
      have : (ops.drop i)[0]? = some o := by rw [hd]; rfl
      rw [List.getElem?_drop] at this
      simpa using this
    have hil : i < ops.length := by
      rcases Nat.lt_or_ge i ops.length with h' | h'
      · exact h'
      · simp [List.getElem?_eq_none h'] at hoi
    have hbi : bef[i]? = some (befAt bef i) := by
      unfold befAt
      have : i < bef.length := by omega
      simp [this]
    have hdr : ∃ tail, ops.drop (i + 1) = r ++ tail := ⟨tail, by rw [← List.drop_drop, hd]; rfl⟩
    simp only [okS, Bool.and_eq_true] at hok
    obtain ⟨⟨⟨hg, hnc⟩, hcl⟩, hokr⟩ := hok
    have hg : o.guard = none := by simpa using hg
    have hkey : h (N + i) = none := by
      refine Classical.byContradiction fun hne => ?_
      obtain ⟨m, h1, h2⟩ := hN (N + i) (by omega) hne
      have := hm m h1
      omega
    -- the operation on the whole heap
    have key : ∀ d h1, evOp (get e) h (N + i) o.op = some (d, h1) → Wops P r (put o.dst d e) h1 K → (∀ k, N ≤ k → h1 k ≠ none → k = N + i → makes o.op = true) → ∃ e' h', dRun P N ops.length rs ops bef (List.range' i (o :: r).length) (get e) h = some (get e', h') ∧ K e' h' ∧ (∀ k, N ≤ k → h' k ≠ none → ∃ m ∈ madeS made i (o :: r), k = N + m) ∧ ∀ m ∈ madeS made i (o :: r), m < i + (o :: r).length := by
      intro d h1 hev hw1 hmk
      have hres : dRes P N ops.length rs i (befAt bef i) o (get e) h = some (d, h1) := by
        have hgv : guardV o.guard (get e) = some true := by rw [hg]; rfl
        have hcase : (match evOp (get e) (hide (hidF N ops.length (befAt bef i) i) h) (N + i) o.op with | some (d, h1) => some (d, unhide (hidF N ops.length (befAt bef i) i) h h1) | none => none) = some (d, h1) := by
          by_cases hc0 : cls o.op = 0
          · obtain ⟨e1, e2⟩ := cls0 hc0 hev
            rw [e2 _ _, e1]
            simp only [unhide_hide]
          · by_cases hc2 : cls o.op = 2
            · obtain ⟨c, e1, e2⟩ := cls2 hc2 hev
              rw [e2 _, e1]
              simp only [unhide_upd hid_own]
            have hid : hide (hidF N ops.length (befAt bef i) i) h = h := by
              funext k
              simp only [hide]
              split
              · rename_i hk
                refine Classical.byContradiction fun hne => ?_
                simp only [hidF, Bool.and_eq_true, decide_eq_true_eq, Bool.not_eq_true'] at hk
                obtain ⟨m, h3, h4⟩ := hN k hk.1.1.1 (fun h5 => hne h5.symm)
                have h5 : made.all (fun m => (befAt bef i).contains m) = true := by
                  rcases Bool.or_eq_true _ _ ▸ hcl with h6 | h6
                  · rcases (by simpa using h6 : cls o.op = 0 ∨ cls o.op = 2) with h7 | h7
                    · exact absurd h7 hc0
                    · exact absurd h7 hc2
                  · exact h6
                have h6 := List.all_eq_true.1 h5 m h3
                rw [h4, Nat.add_sub_cancel_left] at hk
                rw [h6] at hk
                exact absurd hk.2 (by simp)
              · rfl
            rw [hid, hev]
            simp only
            rw [evOp_fix hid_own hid hev]
        unfold dRes
        rw [hgv]
        simp only
        cases hop : o.op <;> rw [hop] at hcase hnc <;> first | exact hcase | (simp [notCall] at hnc; done)
      have hinv : ∀ k, N ≤ k → h1 k ≠ none → ∃ m ∈ (if makes o.op then i :: made else made), k = N + m := by
        intro k hk hne
        by_cases hki : k = N + i
        · rw [if_pos (hmk k hk hne hki)]
          exact ⟨i, by simp, hki⟩
        · obtain ⟨m, h3, h4⟩ := hN k hk (fun h0 => hne (evOp_none hev h0 hki))
          refine ⟨m, ?_, h4⟩
          split
          · simp [h3]
          · exact h3
      obtain ⟨e', h', h2, h3, h4, h5⟩ := Wmid_run hbl (N := N) (rs := rs) r (i + 1) _ (put o.dst d e) h1 K hdr hokr hw1 hinv (by
        intro m hm2
        split at hm2
        · rcases List.mem_cons.1 hm2 with rfl | hm2
          · omega
          · have := hm m hm2; omega
        · have := hm m hm2; omega)
      refine ⟨e', h', ?_, h3, h4, fun m hm => by have := h5 m hm; rw [List.length_cons]; omega⟩
      simp only [List.length_cons, List.range'_succ, dRun, hoi, hbi, hres]
      rw [← get_put]
      exact h2
    simp only [Wops, Wins, hg, runIns] at hw
    split at hw
    · rename_i hop
      rw [hop] at hnc
      simp [notCall] at hnc
    · split at hw
      · rename_i hmk
        have h1 := hw (N + i) hkey
        split at h1
        · rename_i d h' hev
          exact key d h' hev h1 (fun _ _ _ _ => hmk)
        · exact h1.elim
      · rename_i hmk
        have hmk : makes o.op = false := by simpa using hmk
        split at hw
        · rename_i d h' hev
          rw [key_any hmk 0 (N + i)] at hev
          refine key d h' hev hw (fun k hk hne hki => ?_)
          subst hki
          rw [key_any hmk (N + i) (N + i + 1)] at hev
          exact absurd (evOp_none hev hkey (by omega)) hne
        · obtain ⟨⟨g, x, sz, c, hop, _⟩, _⟩ := hw
          rw [hop] at hnc
          simp [notCall] at hnc
def WcV (P : Program) (rc : D) (c : AIns) (suf : List AIns) (e : Env) (h : Heap) (K : Env → Heap → Prop) : Prop :=
  match c.op with
  | .call f args => match evO (get e) f, evOs (get e) args with
    | some (.fn g fst caps), some ds => PC P h (fst ++ ds ++ caps) g rc ∧ Wops P suf (put c.dst rc e) h K
    | _, _ => False
  | _ => False
theorem W_dregMC {P : Program} {Q : X → St → Prop} {e : Env} {h : Heap} {pre mid suf ops : List AIns} {c : AIns} {bef : List (List Nat)} {keep : List Nat} {rc : D} (hs : pre ++ (mid ++ (c :: suf)) = ops) (hbl : bef.length = ops.length) (hro : pre.all readsOnly = true) (hcg : c.guard = none) (hokm : okS bef [] pre.length mid = true) (hokc : ((madeS [] pre.length mid).all fun m => (befAt bef (pre.length + mid.length)).contains m) = true) (hok : okS bef (madeS [] pre.length mid) (pre.length + mid.length + 1) suf = true) (how : owOf rc = none) (hth : ∀ k, thaw k rc = rc)
    (hw : ∀ K : Env → Heap → Prop, (∀ e1 h1 e2, norm keep e1 = e2 → Q .normal ⟨e2, h1⟩ → K e1 h1) → WdR P pre e h fun e' => Wops P mid e' h fun e2 h2 => WcV P rc c suf e2 h2 K) : W P (.dreg ops bef keep) Q ⟨e, h⟩ := by
  (try refine Or.inl ?_)
  subst hs
  obtain ⟨rs0, e1, hm, hr⟩ := WdR_run (ops := pre ++ (mid ++ (c :: suf))) hbl pre 0 ⟨mid ++ (c :: suf), by simp⟩ hro e h _ (hw (fun e' h' => Q .normal ⟨norm keep e', h'⟩) fun _ _ _ h1 h2 => by rw [h1]; exact h2)
  refine ⟨fun j => if j = pre.length + mid.length then rc else rs0 j, fun N hN => ?_⟩
  have hN : ∀ k, N ≤ k → h k = none := hN
  have hlen : (pre ++ (mid ++ (c :: suf))).length = pre.length + (mid.length + (1 + suf.length)) := by simp; omega
  have h1 := hr N hN
  rw [dRun_congr (rs' := fun j => if j = pre.length + mid.length then rc else rs0 j) _ _ _ (fun j hj => by have := List.mem_range'_1.1 hj; show rs0 j = if j = pre.length + mid.length then rc else rs0 j; rw [if_neg (by omega)])] at h1
  generalize hrs : (fun j => if j = pre.length + mid.length then rc else rs0 j) = rs at *
  have hrsi : rs (pre.length + mid.length) = rc := by rw [← hrs]; simp
  have hci : (pre ++ (mid ++ (c :: suf)))[pre.length + mid.length]? = some c := by simp
  have hbi : bef[pre.length + mid.length]? = some (befAt bef (pre.length + mid.length)) := by
    unfold befAt
    have : pre.length + mid.length < bef.length := by omega
    simp [this]
  obtain ⟨e2, h2, hm1, hc, hN2, hm2⟩ := Wmid_run (ops := pre ++ (mid ++ (c :: suf))) hbl (N := N) (rs := rs) mid pre.length [] e1 h _ ⟨c :: suf, by simp⟩ hokm hm (fun k hk hne => absurd (hN k hk) hne) (by simp)
  unfold WcV at hc
  split at hc
  · rename_i f args hop
    split at hc
    · rename_i g fst caps ds hf ha
      obtain ⟨hpc, hk⟩ := hc
      have hid : hide (hidF N (pre ++ (mid ++ (c :: suf))).length (befAt bef (pre.length + mid.length)) (pre.length + mid.length)) h2 = h2 := by
        funext k
        simp only [hide]
        split
        · rename_i hk2
          refine Classical.byContradiction fun hne => ?_
          simp only [hidF, Bool.and_eq_true, decide_eq_true_eq, Bool.not_eq_true'] at hk2
          obtain ⟨m, h3, h4⟩ := hN2 k hk2.1.1.1 (fun h5 => hne h5.symm)
          have h6 := List.all_eq_true.1 hokc m h3
          rw [h4, Nat.add_sub_cancel_left] at hk2
          rw [h6] at hk2
          exact absurd hk2.2 (by simp)
        · rfl
      have hres : dRes P N (pre ++ (mid ++ (c :: suf))).length rs (pre.length + mid.length) (befAt bef (pre.length + mid.length)) c (get e2) h2 = some (rc, h2) := by
        unfold dRes
        rw [hcg, hop]
        simp only [guardV, hf, ha, hrsi]
        rw [hid, if_pos hpc, hth, thawH_none how]
      obtain ⟨e4, h', h5, h6⟩ := Wsuf_run (ops := pre ++ (mid ++ (c :: suf))) hbl (N := N) (rs := rs) suf (pre.length + mid.length + 1) (madeS [] pre.length mid) _ _ _ (by
          have : (pre ++ (mid ++ (c :: suf))) = (pre ++ (mid ++ [c])) ++ suf := by simp
          rw [this, List.drop_append_of_le_length (by simp; omega)]
          rw [List.drop_eq_nil_of_le (by simp; omega)]; rfl) hok hk hN2 (fun m hm => by have := hm2 m hm; omega)
      refine ⟨(get e4, h'), ?_, ?_⟩
      · rw [hlen, List.range_eq_range', ← List.range'_append_1, dRun_append]
        rw [hlen] at h1 hm1 h5 hres
        rw [h1]
        simp only [Option.bind_some, Nat.zero_add]
        rw [← List.range'_append_1, dRun_append, hm1]
        simp only [Option.bind_some]
        rw [← List.range'_append_1, dRun_append]
        have hr1 : List.range' (pre.length + mid.length) 1 = [pre.length + mid.length] := rfl
        rw [hr1]
        simp only [dRun, hci, hbi, hres, Option.bind_some]
        rw [← get_put]
        exact h5
      · rw [norm_get] at h6
        exact h6
    · exact hc.elim
  · exact hc.elim
end Go.AM
end
section
/- min -/
/- awake. -/
set_option linter.unusedSimpArgs false
set_option linter.unusedVariables false
namespace Go.Proofs.Ythblalidmmbcoaa
open Go.AM Classical
set_option maxRecDepth 100000
set_option maxHeartbeats 4000000
instance (c : Bs) : Decidable (byB c) := inferInstanceAs (Decidable (∀ a ∈ c, 0 ≤ a ∧ a ≤ 255))
def pg (c : Int) : Bs := List.replicate 32 c
def wB : List Bs := [pg 65, pg 66]
def wL : List Ev := [⟨1, 1, 0, pg 67⟩, ⟨2, 1, 0, []⟩, ⟨1, 2, 0, pg 68⟩]
def wM : List Ev := [⟨1, 1, 0, pg 67⟩, ⟨2, 1, 0, []⟩, ⟨3, 0, 0, []⟩, ⟨1, 2, 0, pg 68⟩]
theorem wB_ok {l : List Ev} (h : l = wL ∨ l = wL.take 1 ∨ l = wL.drop 1 ∨ l = wM) : HOk wB l := by
  rcases h with rfl | rfl | rfl | rfl
  all_goals refine ⟨by decide, by decide, by decide, by decide, by decide⟩
theorem w1 : chkR wB wL = 0 := by decide
theorem w2 : chF wB wL 0 = [pg 65, pg 67, pg 68] := by decide
theorem w3 : allF wB wL 3 = [pg 67, pg 66] := by decide
theorem w4 : chkR wB (wL.drop 1) = 6 := by decide
theorem w5 : chkR wB (wL.take 1) = 0 := by decide
theorem w6 : chL wB (wL.take 1) = [[pg 65, pg 67], [pg 66]] := by decide
theorem w7 : chkR wB wM = 0 := by decide
theorem w8 : choR wB wL 0 = .tup [bsD [pg 65, pg 67, pg 68], .int .i64 0] := by
  unfold choR
  rw [if_pos w1, if_neg (by decide)]
  show D.tup [bsD (chF wB wL 0), _] = _
  rw [w2]
theorem w9 : conR wB wL (allF wB wL wL.length) = .tup [bsD [pg 67, pg 66], .int .i64 0] := by
  unfold conR
  rw [if_pos w1]
  show D.tup [bsD (allF wB wL 3), _] = _
  rw [w3]
theorem w10 : imR wB (wL.take 1) = .tup [.vs 1 [bsD [pg 65, pg 66], bsD [pg 67, pg 66]] 2, .int .i64 0] := by
  unfold imR
  rw [if_pos w5, w6, if_neg]
  · rfl
  · rintro ⟨i, hi, h⟩
    have : i = 0 ∨ i = 1 := by simp at hi; omega
    rcases this with rfl | rfl <;> simp [preP] at h
theorem w11 : ordR wB wM 1 2 = .tup [.bool true, .int .i64 0] := by
  unfold ordR
  rw [if_pos w7, if_neg (by decide)]
  have : (0 ≤ comF wM wM.length 1 ∧ sepF wM (comF wM wM.length 1) (subF wM wM.length 2) = true) := ⟨by decide, decide_eq_true ⟨2, by decide, by decide, by decide, by decide⟩⟩
  rw [decide_eq_true this]
theorem pg_len (c : Int) : (pg c).length = 32 := List.length_replicate
theorem pg_by {a : Int} (h : 0 ≤ a ∧ a ≤ 255) : byB (pg a) := fun x hx => by rw [List.eq_of_mem_replicate hx]; exact h
theorem page_v (a : Int) : PCon Try.prog 38 [.int .u8 a] (bD (pg a)) := by
  have := pcon_unow (page_c a)
  rw [bD, pg_len]
  exact this
theorem Rd_slO {h : Heap} {k sz off len : Nat} {c c' : List D} (hk : h k = some c) (hr : All2 (Rd h) c c') (hl : off + len * sz ≤ c'.length) : Rd h (.sl k sz off len) (.vs sz ((c'.drop off).take (len * sz)) len) := by
  intro s v H hv
  obtain ⟨_, ad, cap, rfl, hna, hlc, hq⟩ := hv.inv_sl
  obtain ⟨_, x, hx, hxn, _⟩ := H.own k c hk
  obtain ⟨hcc, hcap⟩ := hq x _ hx
  have hlen := hr.1
  rcases hcap with h0 | ⟨b, cs, e, rfl, rfl, hb, hs⟩
  · obtain rfl : len = 0 := by omega
    simpa using RP.vs0 ad cap sz
  · obtain ⟨hbl, cs2, e2, hh, hl2, hat, hall⟩ := own_cellsR H hk hr hx
    have hall2 := All2.slice hall off (len * sz)
    refine .vs b off cap sz len _ (((cs2.toList.take c'.length).drop off).take (len * sz)) (by simp; omega) hlc hbl hall2.1 ?_ ?_ ?_
    · intro v hv'
      have h1 := List.mem_of_mem_drop (List.mem_of_mem_take hv')
      obtain ⟨i, hi⟩ := List.mem_iff_getElem?.1 h1
      have hlt : i < c'.length := by
        rcases Nat.lt_or_ge i (cs2.toList.take c'.length).length with h' | h'
        · rw [hall.1] at h'; exact h'
        · simp [List.getElem?_eq_none h'] at hi
      exact (hall.2 i v _ hi (List.getElem?_eq_getElem hlt)).2
    · have := hat.sub off (len * sz)
      rw [Nat.zero_add] at this
      exact this
    · intro i v d hv' hd
      exact (hall2.2 i v d hv' hd).1
attribute [irreducible] pg
abbrev wc : List D := [.int .i64 1, .int .i64 1, .int .i64 0, bD (pg 67), .int .i64 2, .int .i64 1, .int .i64 0, .nil, .int .i64 1, .int .i64 2, .int .i64 0, bD (pg 68)]
theorem wc_rd {h : Heap} : All2 (Rd h) wc (wL.flatMap Ev.cells) := by
  show All2 (Rd h) wc [.int .i64 1, .int .i64 1, .int .i64 0, bD (pg 67), .int .i64 2, .int .i64 1, .int .i64 0, bD [], .int .i64 1, .int .i64 2, .int .i64 0, bD (pg 68)]
  repeat (first | exact All2.nil | (apply All2.cons; (· first | exact Rd_int | exact Rd_vs | exact Rd_nil)))
theorem wBc_rd {h : Heap} : All2 (Rd h) [bD (pg 65), bD (pg 66)] (wB.map bD) := All2.cons Rd_vs (All2.cons Rd_vs All2.nil)
abbrev wMc : List D := [.int .i64 1, .int .i64 1, .int .i64 0, bD (pg 67), .int .i64 2, .int .i64 1, .int .i64 0, .nil, .int .i64 3, .int .i64 0, .int .i64 0, .nil, .int .i64 1, .int .i64 2, .int .i64 0, bD (pg 68)]
theorem wMc_rd {h : Heap} : All2 (Rd h) wMc (wM.flatMap Ev.cells) := by
  show All2 (Rd h) wMc [.int .i64 1, .int .i64 1, .int .i64 0, bD (pg 67), .int .i64 2, .int .i64 1, .int .i64 0, bD [], .int .i64 3, .int .i64 0, .int .i64 0, bD [], .int .i64 1, .int .i64 2, .int .i64 0, bD (pg 68)]
  repeat (first | exact All2.nil | (apply All2.cons; (· first | exact Rd_int | exact Rd_vs | exact Rd_nil)))
abbrev awM : List AIns := [⟨(some 51), (.buildS 4 [(.int .i64 0), (.int .i64 0), (.int .i64 0), .nil] 4 [(0, (4, (.tmp 43))), (4, (4, (.tmp 46))), (8, (4, (.tmp 47))), (12, (4, (.tmp 50)))]), none⟩]
abbrev awC : AIns := ⟨(some 52), (.call (.fnc 21) [(.tmp 40), (.tmp 51), (.cst (.int .i64 1)), (.cst (.int .i64 2))]), none⟩
abbrev awS : List AIns := [⟨(some 39), (.mv (.tmp 52)), none⟩, ⟨(some 53), (.extract 0 (.tmp 39)), none⟩, ⟨(some 54), (.extract 1 (.tmp 39)), none⟩, ⟨(some 9), (.mv (.tmp 53)), none⟩, ⟨(some 10), (.mv (.tmp 54)), none⟩]
theorem awake_c : PCon Try.prog 15 [] (.bool true) := by
  refine A15p (by simp [A15]) ?_
  simp only [A15, argEnv]
  have p1 := page_v 65
  have p2 := page_v 66
  have p3 := page_v 67
  have p4 := page_v 68
  repeat' (first | (with_reducible first | refine W_seq ?_ | refine then_n ?_ | refine W_skip ?_ | refine W_ret ?_ | refine then_r ?_) | ((with_reducible refine s_reg ?_); intro K hK) | ((with_reducible refine k_nil ?_); (with_reducible apply s_nil hK); (· exact nmX); clear hK; clear K) | ((with_reducible refine k_mv ?_); (refine s_mv rfl ?_)) | ((with_reducible refine k_build ?_); ((with_reducible apply s_build); (· rfl); (· rfl))) | ((with_reducible refine k_buildS (dst := some 13) ?_); ((with_reducible apply s_buildS); (· rfl); (· (exact ⟨rfl, by decide⟩)); (· (first | (simp only [fillB, rep, splice, List.reduceReplicate, List.flatten_cons, List.flatten_nil, List.cons_append, List.nil_append, List.append_nil, List.length_cons, List.length_nil, Nat.reduceAdd, Nat.reduceMul, Nat.reduceLeDiff, Nat.reduceEqDiff, eq_self, Nat.le_refl, Nat.zero_add, and_self, and_true, true_and, if_true, List.take_zero, List.take_succ_cons, List.drop_zero, List.drop_succ_cons, List.drop_nil, List.take_nil]; rfl) | rfl)); intro k13 hk13; (try simp only [upd_none] at hk13))) | ((with_reducible refine k_buildS (dst := some 19) ?_); ((with_reducible apply s_buildS); (· rfl); (· (exact ⟨rfl, by decide⟩)); (· (first | (simp only [fillB, rep, splice, List.reduceReplicate, List.flatten_cons, List.flatten_nil, List.cons_append, List.nil_append, List.append_nil, List.length_cons, List.length_nil, Nat.reduceAdd, Nat.reduceMul, Nat.reduceLeDiff, Nat.reduceEqDiff, eq_self, Nat.le_refl, Nat.zero_add, and_self, and_true, true_and, if_true, List.take_zero, List.take_succ_cons, List.drop_zero, List.drop_succ_cons, List.drop_nil, List.take_nil]; rfl) | rfl)); intro k19 hk19; (try simp only [upd_none] at hk19))) | ((with_reducible refine k_callF ?_); (first | ((with_reducible apply s_call1); (· rfl)) | ((with_reducible apply s_calln); (· rfl)))) | ((with_reducible refine k_con ?_); (first | ((with_reducible apply con_val (p1)); (· (exact agX)); (· rfl); (· exact fun _ => rfl)) | ((with_reducible apply con_val (p2)); (· (exact agX)); (· rfl); (· exact fun _ => rfl)) | ((with_reducible apply con_val (p3)); (· (exact agX)); (· rfl); (· exact fun _ => rfl)) | ((with_reducible apply con_val (p4)); (· (exact agX)); (· rfl); (· exact fun _ => rfl)))))
  all_goals first | (exfalso; omega) | skip
  have e13 : upd (upd (fun _ => none) k13 [bD (pg 65), bD (pg 66)]) k19 wc k13 = some [bD (pg 65), bD (pg 66)] := by rw [upd_ne (Ne.symm hk19.1)]; exact upd_self
  have e19 : upd (upd (fun _ => none) k13 [bD (pg 65), bD (pg 66)]) k19 wc k19 = some wc := upd_self
  show Con _ _ _ (upd (upd (fun _ => none) k13 [bD (pg 65), bD (pg 66)]) k19 wc) _
  generalize (upd (upd (fun _ => none) k13 [bD (pg 65), bD (pg 66)]) k19 wc : Heap) = h0 at *
  have rB : Rd h0 (.sl k13 1 0 2) (bsD wB) := Rd_slR e13 wBc_rd rfl
  have rL : Rd h0 (.sl k19 4 0 3) (evD wL) := Rd_slR e19 wc_rd rfl
  have rL1 : Rd h0 (.sl k19 4 0 1) (evD (wL.take 1)) := Rd_slO (off := 0) (len := 1) e19 wc_rd (by decide)
  have rL2 : Rd h0 (.sl k19 4 4 2) (evD (wL.drop 1)) := Rd_slO (off := 4) (len := 2) e19 wc_rd (by decide)
  have c1 := dchoices_c (wB_ok (l := wL) (.inl rfl)) 0
  have c2 := dlatest_c wB wL (by decide) (by decide) (wB_ok (l := wL) (.inl rfl)).id
  have c3 := dimages_c (wB_ok (l := wL.take 1) (.inr (.inl rfl)))
  have c4 := dordered_c wB wM (by decide) (by decide) (wB_ok (l := wM) (.inr (.inr (.inr rfl)))).id 1 2
  have c5 := dcheck_c wB (wL.drop 1) (by decide) (by decide) (wB_ok (l := wL.drop 1) (.inr (.inr (.inl rfl)))).id
  rw [show choR wB wL 0 = .tup [bsD [pg 65, pg 67, pg 68], .int .i64 0] from w8] at c1
  rw [show conR wB wL (allF wB wL wL.length) = .tup [bsD [pg 67, pg 66], .int .i64 0] from w9] at c2
  rw [w10] at c3
  rw [w11] at c4
  rw [w4] at c5
  repeat' (first | (with_reducible first | refine W_seq ?_ | refine then_n ?_ | refine W_skip ?_ | refine W_ret ?_ | refine then_r ?_) | ((with_reducible refine s_reg ?_); intro K hK) | ((with_reducible refine k_nil ?_); (with_reducible apply s_nil hK); (· exact nmX); clear hK; clear K) | ((with_reducible refine k_mv ?_); (refine s_mv rfl ?_)) | ((with_reducible refine k_extract ?_); (refine s_extract rfl rfl ?_)) | ((with_reducible refine k_slice ?_); (first | ((with_reducible apply s_sliceV); (· rfl); (· (first | exact b_none | (apply b_some; (· rfl); (· omega); (· (first | exact nuI | exact nuN))))); (· (first | exact b_none | (apply b_some; (· rfl); (· omega); (· (first | exact nuI | exact nuN))))); (· (first | omega | exact ⟨rfl, by omega⟩ | skip))) | ((with_reducible apply s_sliceO); (· rfl); (· (first | exact b_none | (apply b_some; (· rfl); (· omega); (· (first | exact nuI | exact nuN))))); (· (first | exact b_none | (apply b_some; (· rfl); (· omega); (· (first | exact nuI | exact nuN))))); (· (first | omega | exact ⟨rfl, by omega⟩ | skip))) | ((with_reducible apply s_sliceN); (· rfl); (· (first | exact b_none | (apply b_some; (· rfl); (· omega); (· (first | exact nuI | exact nuN))))); (· (first | exact b_none | (apply b_some; (· rfl); (· omega); (· (first | exact nuI | exact nuN))))); (· (first | omega | exact ⟨rfl, by omega⟩ | skip))))) | ((with_reducible refine k_callF ?_); (first | ((with_reducible apply s_call1); (· rfl)) | ((with_reducible apply s_calln); (· rfl)))) | ((with_reducible refine k_con ?_); (first | ((with_reducible apply con_val (p1)); (· (repeat (first | exact All2.nil | (apply All2.cons; (· first | exact rB | exact rL | exact rL1 | exact rL2 | exact rdX))))); (· rfl); (· exact fun _ => rfl)) | ((with_reducible apply con_val (p2)); (· (repeat (first | exact All2.nil | (apply All2.cons; (· first | exact rB | exact rL | exact rL1 | exact rL2 | exact rdX))))); (· rfl); (· exact fun _ => rfl)) | ((with_reducible apply con_val (p3)); (· (repeat (first | exact All2.nil | (apply All2.cons; (· first | exact rB | exact rL | exact rL1 | exact rL2 | exact rdX))))); (· rfl); (· exact fun _ => rfl)) | ((with_reducible apply con_val (p4)); (· (repeat (first | exact All2.nil | (apply All2.cons; (· first | exact rB | exact rL | exact rL1 | exact rL2 | exact rdX))))); (· rfl); (· exact fun _ => rfl)) | ((with_reducible apply con_val (c1)); (· (repeat (first | exact All2.nil | (apply All2.cons; (· first | exact rB | exact rL | exact rL1 | exact rL2 | exact rdX))))); (· rfl); (· exact fun _ => rfl)) | ((with_reducible apply con_val (c2)); (· (repeat (first | exact All2.nil | (apply All2.cons; (· first | exact rB | exact rL | exact rL1 | exact rL2 | exact rdX))))); (· rfl); (· exact fun _ => rfl)) | ((with_reducible apply con_val (c3)); (· (repeat (first | exact All2.nil | (apply All2.cons; (· first | exact rB | exact rL | exact rL1 | exact rL2 | exact rdX))))); (· rfl); (· exact fun _ => rfl)) | ((with_reducible apply con_val (c4)); (· (repeat (first | exact All2.nil | (apply All2.cons; (· first | exact rB | exact rL | exact rL1 | exact rL2 | exact rdX))))); (· rfl); (· exact fun _ => rfl)) | ((with_reducible apply con_val (c5)); (· (repeat (first | exact All2.nil | (apply All2.cons; (· first | exact rB | exact rL | exact rL1 | exact rL2 | exact rdX))))); (· rfl); (· exact fun _ => rfl)))) | ((first | (with_reducible apply q_eqI) | (with_reducible apply q_eqN)); (first | exact nuI | exact nuN)))
  all_goals first | (exfalso; omega) | skip
  with_reducible refine k_dreg ?_
  refine W_dregMC (pre := A15d7a) (mid := awM) (c := awC) (suf := awS) (rc := .tup [.bool true, .int .i64 0]) rfl rfl rfl rfl rfl rfl rfl rfl (fun _ => rfl) ?_
  intro K hK
  repeat' (first | ((with_reducible refine k_mv ?_); (refine s_mv rfl ?_)) | ((with_reducible refine k_iaddr ?_); (first | ((with_reducible apply s_iaddrV); (· rfl); (· rfl); (· (first | omega | exact ⟨rfl, by omega⟩ | skip))) | ((with_reducible apply s_iaddrO); (· rfl); (· rfl); (· (first | omega | exact ⟨rfl, by omega⟩ | skip)); (· (exact hpX))) | ((with_reducible apply s_iaddrSO); (· rfl); (· assumption); (· rfl); (· (first | omega | exact ⟨rfl, by omega⟩ | skip)); (· (first | (simp (disch := omega) only [w64, wu8, wu16, wu32, wu64, tm_nn, td_nn, fd_nn, Int.reduceAdd, Int.reduceSub, Int.reduceMul, Int.reduceDiv, Int.reduceMod, Int.reduceNeg, Int.reduceToNat, Int.toNat_natCast, Int.toNat_zero, Int.zero_add, Int.add_zero, Int.one_mul, Int.reducePow, Nat.mul_one, Nat.zero_add, Nat.add_zero, Nat.zero_mul, Nat.reduceAdd, Nat.reduceMul, Nat.reduceSub, Nat.min_eq_left, IntKind.bits, Nat.sub_zero, e19]; try rfl; done) | rfl)); intro ks hks))) | ((with_reducible refine k_loadA ?_); (first | ((with_reducible apply s_loadAV); (· rfl); (· (first | exact Nat.le_of_ble_eq_true rfl | decide | omega | (simp; done) | (simp; omega) | skip))) | ((with_reducible apply s_loadAP); (· rfl); (· (exact hpX)); (· (first | exact Nat.le_of_ble_eq_true rfl | decide | omega | (simp; done) | (simp; omega) | skip))))) | ((with_reducible refine k_build ?_); ((with_reducible apply s_build); (· rfl); (· rfl))) | ((with_reducible refine k_buildS (dst := some 51) ?_); ((with_reducible apply s_buildS); (· rfl); (· (exact ⟨rfl, by decide⟩)); (· (first | (simp only [fillB, rep, splice, List.reduceReplicate, List.flatten_cons, List.flatten_nil, List.cons_append, List.nil_append, List.append_nil, List.length_cons, List.length_nil, Nat.reduceAdd, Nat.reduceMul, Nat.reduceLeDiff, Nat.reduceEqDiff, eq_self, Nat.le_refl, Nat.zero_add, and_self, and_true, true_and, if_true, List.take_zero, List.take_succ_cons, List.drop_zero, List.drop_succ_cons, List.drop_nil, List.take_nil]; rfl) | rfl)); intro k51 hk51; (try simp only [upd_none] at hk51))) | (with_reducible refine d_nilS ?_) | ((with_reducible refine k_dop ?_); refine d_step (by first | exact Or.inl rfl | exact Or.inr rfl) ?_) | (with_reducible refine d_back ?_) | ((first | (with_reducible apply q_eqI) | (with_reducible apply q_eqN)); (first | (simp (disch := omega) only [w64, wu8, wu16, wu32, wu64, tm_nn, td_nn, fd_nn, Int.reduceAdd, Int.reduceSub, Int.reduceMul, Int.reduceDiv, Int.reduceMod, Int.reduceNeg, Int.reduceToNat, Int.toNat_natCast, Int.toNat_zero, Int.zero_add, Int.add_zero, Int.one_mul, Int.reducePow, Nat.mul_one, Nat.zero_add, Nat.add_zero, Nat.zero_mul, Nat.reduceAdd, Nat.reduceMul, Nat.reduceSub, Nat.min_eq_left, IntKind.bits, Nat.sub_zero, e19]; try rfl; done) | rfl)) | ((first | (with_reducible apply q_eqL) | (with_reducible apply q_eqO)); (first | (simp (disch := omega) only [upd_self, upd_ne, upd_upd, rep, splice, List.take_succ_cons, List.take_zero, List.drop_succ_cons, List.drop_zero, List.cons_append, List.nil_append, List.append_nil, List.length_cons, List.length_nil, List.reduceReplicate, List.flatten_cons, List.flatten_nil, Nat.reduceAdd, Nat.reduceMul, Nat.reduceSub, Nat.zero_add, Nat.add_zero, List.getElem?_cons_zero, List.getElem?_cons_succ, e19]; try rfl; done) | rfl)))
  have f13 := upd_sub (x := wMc) hk51 _ _ e13
  have f19 := upd_sub (x := wMc) hk51 _ _ e19
  have rM : Rd (upd h0 k51 wMc) (.sl k51 4 0 4) (evD wM) := Rd_slR upd_self wMc_rd rfl
  have rB2 : Rd (upd h0 k51 wMc) (.sl k13 1 0 2) (bsD wB) := Rd_slR f13 wBc_rd rfl
  show PC Try.prog (upd h0 k51 wMc) ([] ++ [.sl k13 1 0 2, .sl k51 4 0 4, .int .i64 1, .int .i64 2] ++ []) _ _ ∧ Wops Try.prog awS _ (upd h0 k51 wMc) K
  refine ⟨.inl ⟨_, All2.cons rB2 (All2.cons rM (All2.cons Rd_int (All2.cons Rd_int All2.nil))), c4⟩, ?_⟩
  clear rM rB rL rL1 rL2 e13 e19
  generalize (upd h0 k51 wMc : Heap) = h1 at *
  have rL2 : Rd h1 (.sl k19 4 4 2) (evD (wL.drop 1)) := Rd_slO (off := 4) (len := 2) f19 wc_rd (by decide)
  have y1 : ∀ c ∈ [pg 65, pg 67, pg 68], byB c := by
    intro c hc; simp only [List.mem_cons, List.not_mem_nil, or_false] at hc; rcases hc with rfl | rfl | rfl <;> exact pg_by (by decide)
  have y2 : ∀ c ∈ [pg 67, pg 66], byB c := by
    intro c hc; simp only [List.mem_cons, List.not_mem_nil, or_false] at hc; rcases hc with rfl | rfl <;> exact pg_by (by decide)
  have s1 := rsame_c [pg 65, pg 67, pg 68] [pg 65, pg 67, pg 68] (by decide) (by decide) y1 y1
  have s2 := rsame_c [pg 67, pg 66] [pg 67, pg 66] (by decide) (by decide) y2 y2
  rw [decide_eq_true rfl] at s1 s2
  show Wops Try.prog awS ((_, D.tup [D.bool true, D.int IntKind.i64 0]) :: _) h1 K
  clear c1 c2 c3 c4
  repeat' (first | (with_reducible first | refine W_seq ?_ | refine then_n ?_ | refine W_skip ?_ | refine W_ret ?_ | refine then_r ?_) | ((with_reducible refine s_reg ?_); intro K hK) | ((with_reducible refine k_nil ?_); (with_reducible apply s_nil hK); (· exact nmX); clear hK; clear K) | ((with_reducible refine k_guard ?_); (first | (refine s_gt rfl ?_) | (refine s_gf1 rfl ?_) | (refine s_gfn rfl ?_) | (refine s_gx1 rfl ?_) | (refine s_gxn rfl ?_) | (refine s_gs rfl ?_))) | ((with_reducible refine k_mv ?_); (refine s_mv rfl ?_)) | ((with_reducible refine k_extract ?_); (refine s_extract rfl rfl ?_)) | ((with_reducible refine k_len ?_); (first | (refine s_len rfl rfl ?_) | ((with_reducible apply s_len); (· rfl); (· exact SlOwn.len (by assumption))) | ((with_reducible apply s_len); (· rfl); (· assumption)))) | ((with_reducible refine k_pick ?_); (first | (refine s_pickT rfl rfl ?_) | (refine s_pickF rfl rfl ?_))) | ((with_reducible refine k_eql ?_); (first | (refine s_eql rfl rfl ?_) | (refine s_strEq rfl rfl ?_))) | ((with_reducible refine k_slice ?_); (first | ((with_reducible apply s_sliceV); (· rfl); (· (first | exact b_none | (apply b_some; (· rfl); (· omega); (· (first | exact nuI | exact nuN))))); (· (first | exact b_none | (apply b_some; (· rfl); (· omega); (· (first | exact nuI | exact nuN))))); (· (first | omega | exact ⟨rfl, by omega⟩ | skip))) | ((with_reducible apply s_sliceO); (· rfl); (· (first | exact b_none | (apply b_some; (· rfl); (· omega); (· (first | exact nuI | exact nuN))))); (· (first | exact b_none | (apply b_some; (· rfl); (· omega); (· (first | exact nuI | exact nuN))))); (· (first | omega | exact ⟨rfl, by omega⟩ | skip))) | ((with_reducible apply s_sliceN); (· rfl); (· (first | exact b_none | (apply b_some; (· rfl); (· omega); (· (first | exact nuI | exact nuN))))); (· (first | exact b_none | (apply b_some; (· rfl); (· omega); (· (first | exact nuI | exact nuN))))); (· (first | omega | exact ⟨rfl, by omega⟩ | skip))))) | ((with_reducible refine k_buildS (dst := some 82) ?_); ((with_reducible apply s_buildS); (· rfl); (· (exact ⟨rfl, by decide⟩)); (· (first | (simp only [fillB, rep, splice, List.reduceReplicate, List.flatten_cons, List.flatten_nil, List.cons_append, List.nil_append, List.append_nil, List.length_cons, List.length_nil, Nat.reduceAdd, Nat.reduceMul, Nat.reduceLeDiff, Nat.reduceEqDiff, eq_self, Nat.le_refl, Nat.zero_add, and_self, and_true, true_and, if_true, List.take_zero, List.take_succ_cons, List.drop_zero, List.drop_succ_cons, List.drop_nil, List.take_nil]; rfl) | rfl)); intro k82 hk82; (try simp only [upd_none] at hk82))) | ((with_reducible refine k_buildS (dst := some 89) ?_); ((with_reducible apply s_buildS); (· rfl); (· (exact ⟨rfl, by decide⟩)); (· (first | (simp only [fillB, rep, splice, List.reduceReplicate, List.flatten_cons, List.flatten_nil, List.cons_append, List.nil_append, List.append_nil, List.length_cons, List.length_nil, Nat.reduceAdd, Nat.reduceMul, Nat.reduceLeDiff, Nat.reduceEqDiff, eq_self, Nat.le_refl, Nat.zero_add, and_self, and_true, true_and, if_true, List.take_zero, List.take_succ_cons, List.drop_zero, List.drop_succ_cons, List.drop_nil, List.take_nil]; rfl) | rfl)); intro k89 hk89; (try simp only [upd_none] at hk89))) | ((with_reducible refine k_callF ?_); (first | ((with_reducible apply s_call1); (· rfl)) | ((with_reducible apply s_calln); (· rfl)))) | ((with_reducible refine k_con ?_); (first | ((with_reducible apply con_val (p1)); (· (repeat (first | exact All2.nil | (apply All2.cons; (· first | exact rB2 | exact rL2 | exact (Rd_slR upd_self (All2.cons Rd_vs (All2.cons Rd_vs (All2.cons Rd_vs All2.nil))) rfl) | exact (Rd_slR upd_self (All2.cons Rd_vs (All2.cons Rd_vs All2.nil)) rfl) | exact (Rd_slR (upd_sub (by assumption) _ _ f13) wBc_rd rfl) | exact rdX))))); (· rfl); (· exact fun _ => rfl)) | ((with_reducible apply con_val (p2)); (· (repeat (first | exact All2.nil | (apply All2.cons; (· first | exact rB2 | exact rL2 | exact (Rd_slR upd_self (All2.cons Rd_vs (All2.cons Rd_vs (All2.cons Rd_vs All2.nil))) rfl) | exact (Rd_slR upd_self (All2.cons Rd_vs (All2.cons Rd_vs All2.nil)) rfl) | exact (Rd_slR (upd_sub (by assumption) _ _ f13) wBc_rd rfl) | exact rdX))))); (· rfl); (· exact fun _ => rfl)) | ((with_reducible apply con_val (p3)); (· (repeat (first | exact All2.nil | (apply All2.cons; (· first | exact rB2 | exact rL2 | exact (Rd_slR upd_self (All2.cons Rd_vs (All2.cons Rd_vs (All2.cons Rd_vs All2.nil))) rfl) | exact (Rd_slR upd_self (All2.cons Rd_vs (All2.cons Rd_vs All2.nil)) rfl) | exact (Rd_slR (upd_sub (by assumption) _ _ f13) wBc_rd rfl) | exact rdX))))); (· rfl); (· exact fun _ => rfl)) | ((with_reducible apply con_val (p4)); (· (repeat (first | exact All2.nil | (apply All2.cons; (· first | exact rB2 | exact rL2 | exact (Rd_slR upd_self (All2.cons Rd_vs (All2.cons Rd_vs (All2.cons Rd_vs All2.nil))) rfl) | exact (Rd_slR upd_self (All2.cons Rd_vs (All2.cons Rd_vs All2.nil)) rfl) | exact (Rd_slR (upd_sub (by assumption) _ _ f13) wBc_rd rfl) | exact rdX))))); (· rfl); (· exact fun _ => rfl)) | ((with_reducible apply con_val (s1)); (· (repeat (first | exact All2.nil | (apply All2.cons; (· first | exact rB2 | exact rL2 | exact (Rd_slR upd_self (All2.cons Rd_vs (All2.cons Rd_vs (All2.cons Rd_vs All2.nil))) rfl) | exact (Rd_slR upd_self (All2.cons Rd_vs (All2.cons Rd_vs All2.nil)) rfl) | exact (Rd_slR (upd_sub (by assumption) _ _ f13) wBc_rd rfl) | exact rdX))))); (· rfl); (· exact fun _ => rfl)) | ((with_reducible apply con_val (s2)); (· (repeat (first | exact All2.nil | (apply All2.cons; (· first | exact rB2 | exact rL2 | exact (Rd_slR upd_self (All2.cons Rd_vs (All2.cons Rd_vs (All2.cons Rd_vs All2.nil))) rfl) | exact (Rd_slR upd_self (All2.cons Rd_vs (All2.cons Rd_vs All2.nil)) rfl) | exact (Rd_slR (upd_sub (by assumption) _ _ f13) wBc_rd rfl) | exact rdX))))); (· rfl); (· exact fun _ => rfl)) | ((with_reducible apply con_val (c5)); (· (repeat (first | exact All2.nil | (apply All2.cons; (· first | exact rB2 | exact rL2 | exact (Rd_slR upd_self (All2.cons Rd_vs (All2.cons Rd_vs (All2.cons Rd_vs All2.nil))) rfl) | exact (Rd_slR upd_self (All2.cons Rd_vs (All2.cons Rd_vs All2.nil)) rfl) | exact (Rd_slR (upd_sub (by assumption) _ _ f13) wBc_rd rfl) | exact rdX))))); (· rfl); (· exact fun _ => rfl)))) | ((with_reducible refine k_br ?_); (first | (with_reducible first | refine Br_dec ?_ | refine Br_not ?_ | refine Br_eqF ?_ | refine Br_and ?_ | refine Br_or ?_ | refine Br_neg ?_ | refine Br_band ?_ | refine Br_bor ?_ | refine Br_beq ?_) | (refine Br_t (by first | with_reducible rfl | omega | assumption | rfl) ?_) | (refine Br_f (by first | omega | assumption | decide) ?_) | (with_reducible apply Br_sb <;> intro hbr <;> (first | subst hbr | simp only [hbr] | skip)) | (with_reducible apply Br_s <;> intro hbr))) | ((first | (with_reducible apply q_eqI) | (with_reducible apply q_eqN)); (first | exact nuI | exact nuN)))
  have z : ∀ j c, h1 j = some c → upd (upd h1 k82 [bD (pg 65), bD (pg 67), bD (pg 68)]) k89 [bD (pg 67), bD (pg 66)] j = some c := fun j c hj => upd_sub (by rw [upd_ne hk89.1]; exact hk89.2) j c (upd_sub hk82 j c hj)
  have rB3 := Rd_slR (sz := 1) (len := 2) (z _ _ f13) wBc_rd rfl
  have rL3 : Rd (upd (upd h1 k82 [bD (pg 65), bD (pg 67), bD (pg 68)]) k89 [bD (pg 67), bD (pg 66)]) (.sl k19 4 4 2) (evD (wL.drop 1)) := Rd_slO (off := 4) (len := 2) (z _ _ f19) wc_rd (by decide)
  repeat' (first | (with_reducible first | refine W_seq ?_ | refine then_n ?_ | refine W_skip ?_ | refine W_ret ?_ | refine then_r ?_) | ((with_reducible refine k_nil ?_); (with_reducible apply s_nil hK); (· exact nmX); clear hK; clear K) | ((with_reducible refine k_guard ?_); (first | (refine s_gt rfl ?_) | (refine s_gf1 rfl ?_) | (refine s_gfn rfl ?_) | (refine s_gx1 rfl ?_) | (refine s_gxn rfl ?_) | (refine s_gs rfl ?_))) | ((with_reducible refine k_mv ?_); (refine s_mv rfl ?_)) | ((with_reducible refine k_pick ?_); (first | (refine s_pickT rfl rfl ?_) | (refine s_pickF rfl rfl ?_))) | ((with_reducible refine k_eql ?_); (first | (refine s_eql rfl rfl ?_) | (refine s_strEq rfl rfl ?_))) | ((with_reducible refine k_con ?_); (first | ((with_reducible apply con_val (c5)); (· (repeat (first | exact All2.nil | (apply All2.cons; (· first | exact rB3 | exact rL3 | exact rdX))))); (· rfl); (· exact fun _ => rfl)))) | ((with_reducible refine k_br ?_); (first | (with_reducible first | refine Br_dec ?_ | refine Br_not ?_ | refine Br_eqF ?_ | refine Br_and ?_ | refine Br_or ?_ | refine Br_neg ?_ | refine Br_band ?_ | refine Br_bor ?_ | refine Br_beq ?_) | (refine Br_t (by first | with_reducible rfl | omega | assumption | rfl) ?_) | (refine Br_f (by first | omega | assumption | decide) ?_) | (with_reducible apply Br_sb <;> intro hbr <;> (first | subst hbr | simp only [hbr] | skip)) | (with_reducible apply Br_s <;> intro hbr))))
  all_goals first | exact Fin_flat trivial rfl rfl | (refine Fin_tup trivial rfl ?_ (Nat.le_of_ble_eq_true rfl); (repeat (first | exact All2.nil | (apply All2.cons; (· first | exact exc_n | exact exc_e | exact exc_v rfl rfl | exact exc_o upd_self rfl rfl)))); done) | (refine Fin_own trivial rfl upd_self ?_ (Nat.le_of_ble_eq_true rfl); (repeat (first | exact All2.nil | (apply All2.cons; (· first | exact exc_n | exact exc_e | exact exc_v rfl rfl | exact exc_o upd_self rfl rfl)))); done) | exact Fin_nil trivial rfl | exact Fin_sl trivial rfl upd_self rfl rfl
end Go.Proofs.Ythblalidmmbcoaa
end
section
/- The laws: arguments. -/
set_option linter.unusedSimpArgs false
set_option linter.unusedVariables false
namespace Go.Proofs.Ythblalidmmbcoaa
open Go.AM Classical
set_option maxRecDepth 100000
set_option maxHeartbeats 4000000
theorem maxLen_le {n : Nat} (h : n ≤ maxLen) : n ≤ 9223372036854775807 := by
  unfold maxLen at h; omega
theorem typed_by {n : Nat} {d : List D} (h : Typed Try.prog (n + 2) 36 d) : ∃ c : Bs, d = [bD c] ∧ byB c := by
  obtain ⟨ps, rfl, h1, h2⟩ := typed_slice' Try.underlying36 h
  obtain ⟨l, rfl, h3⟩ := all_map (f := fun x => [D.int .u8 x]) (q := fun x => (Lit.int .u8 x).wf = true) (fun p hp => typed_int' Try.underlying5 (h2 p hp))
  refine ⟨l, ?_, fun x hx => wf_u8 (h3 x hx)⟩
  rw [flat_one, List.length_map, show Try.prog.cellsOf 5 = 1 by kernel_rfl]
theorem typed_bs {n : Nat} {d : List D} (h : Typed Try.prog (n + 3) 22 d) : ∃ B : List Bs, d = [bsD B] ∧ B.length ≤ maxLen ∧ ∀ b ∈ B, byB b := by
  obtain ⟨ps, rfl, h1, h2⟩ := typed_slice' Try.underlying22 h
  obtain ⟨B, rfl, h3⟩ := all_map (f := fun c => [bD c]) (q := byB) (fun p hp => typed_by (h2 p hp))
  refine ⟨B, ?_, by simpa using h1, h3⟩
  rw [flat_one, List.length_map, show Try.prog.cellsOf 36 = 1 by kernel_rfl]
def EvIn (x : Ev) : Prop := (-9223372036854775808 ≤ x.id ∧ x.id ≤ 9223372036854775807) ∧ byB x.data
theorem typed_ev {n : Nat} {d : List D} (h : Typed Try.prog (n + 4) 38 d) : ∃ x : Ev, d = x.cells ∧ EvIn x := by
  obtain ⟨ps, rfl, h1⟩ := typed_struct' Try.underlying38 h
  match ps, h1.1 with
  | [a, b, c, e], _ =>
    obtain ⟨x, rfl, hx⟩ := typed_int' Try.underlying3 (h1.2 0 _ a rfl rfl)
    obtain ⟨y, rfl, hy⟩ := typed_int' Try.underlying3 (h1.2 1 _ b rfl rfl)
    obtain ⟨z, rfl, hz⟩ := typed_int' Try.underlying3 (h1.2 2 _ c rfl rfl)
    obtain ⟨w, rfl, hw⟩ := typed_by (h1.2 3 _ e rfl rfl)
    exact ⟨⟨x, y, z, w⟩, rfl, wf_i64 hy, hw⟩
theorem typed_evs {n : Nat} {d : List D} (h : Typed Try.prog (n + 5) 23 d) : ∃ l : List Ev, d = [evD l] ∧ l.length ≤ maxLen ∧ ∀ x ∈ l, EvIn x := by
  obtain ⟨ps, rfl, h1, h2⟩ := typed_slice' Try.underlying23 h
  obtain ⟨l, rfl, h3⟩ := all_map (f := Ev.cells) (q := EvIn) (fun p hp => typed_ev (h2 p hp))
  refine ⟨l, ?_, by simpa using h1, h3⟩
  rw [List.length_map, ← List.flatMap_def, show Try.prog.cellsOf 38 = 4 by kernel_rfl]
theorem typed_hist {d : D} (h : TypedA Try.prog 25 d) : ∃ (B : List Bs) (l : List Ev), d = .agg [bsD B, evD l] ∧ B.length ≤ 9223372036854775807 ∧ l.length ≤ 9223372036854775807 ∧ (∀ b ∈ B, byB b) ∧ ∀ x ∈ l, EvIn x := by
  obtain ⟨ds, rfl, hc2⟩ := typed_agg (agg_yes Try.underlying25 rfl) h
  obtain ⟨ps, rfl, h1⟩ := typed_struct' Try.underlying25 hc2
  match ps, h1.1 with
  | [a, b], _ =>
    obtain ⟨B, rfl, hB, hB2⟩ := typed_bs (h1.2 0 _ a rfl rfl)
    obtain ⟨l, rfl, hl, hl2⟩ := typed_evs (h1.2 1 _ b rfl rfl)
    exact ⟨B, l, rfl, maxLen_le hB, maxLen_le hl, hB2, hl2⟩
end Go.Proofs.Ythblalidmmbcoaa
end
section
/- min -/
/- The laws: checks, orders. -/
set_option linter.unusedSimpArgs false
set_option linter.unusedVariables false
namespace Go.Proofs.Ythblalidmmbcoaa
open Go.AM Classical
set_option maxRecDepth 100000
set_option maxHeartbeats 4000000
end Go.Proofs.Ythblalidmmbcoaa
end
section
/- min -/
/- The laws: contents, images, allows. -/
set_option linter.unusedSimpArgs false
set_option linter.unusedVariables false
namespace Go.Proofs.Ythblalidmmbcoaa
open Go.AM Classical
set_option maxRecDepth 100000
set_option maxHeartbeats 4000000
theorem allF_by {B : List Bs} {l : List Ev} (Ho : HOk B l) (n : Nat) : ∀ c ∈ allF B l n, byB c := by
  intro c hc
  unfold allF at hc
  obtain ⟨i, hi, rfl⟩ := List.mem_map.1 hc
  exact Ho.upto n (List.mem_range.1 hi)
end Go.Proofs.Ythblalidmmbcoaa
end
section
/- Histories: the images are the product of the possible contents. No program. -/
set_option linter.unusedSimpArgs false
set_option linter.unusedVariables false
namespace Go.Proofs.Ythblalidmmbcoaa
open Go.AM Classical
end Go.Proofs.Ythblalidmmbcoaa
end
section
/- Histories: all outstanding writes complete, and then a flush does. No program. -/
set_option linter.unusedSimpArgs false
set_option linter.unusedVariables false
namespace Go.Proofs.Ythblalidmmbcoaa
open Go.AM Classical
end Go.Proofs.Ythblalidmmbcoaa
end
section
/- Histories: a flush separates two writes. No program. -/
set_option linter.unusedSimpArgs false
set_option linter.unusedVariables false
namespace Go.Proofs.Ythblalidmmbcoaa
open Go.AM Classical
end Go.Proofs.Ythblalidmmbcoaa
end
section
/- A function that is run in a heap of its own: what it hands over is put beside the caller's blocks. Generic over the program. -/
set_option linter.unusedSimpArgs false
set_option linter.unusedVariables false
namespace Go.AM
open Classical
def kd (h1 : Heap) (d : D) : Prop := scal d = true ∨ ∃ k sz off n, d = .sl k sz off n ∧ h1 k ≠ none
def kdR (h1 : Heap) : D → Prop
  | .tup ds => ∀ d ∈ ds, kd h1 d
  | d => kd h1 d
def mrg (h h1 : Heap) : Heap := fun k => match h k with | some c => some c | none => h1 k
theorem mrg_old {h h1 : Heap} {k : Nat} {c : List D} (hk : h k = some c) : mrg h h1 k = some c := by simp only [mrg, hk]
theorem mrg_new {h h1 : Heap} {k : Nat} (hk : h k = none) : mrg h h1 k = h1 k := by simp only [mrg, hk]
theorem con_iso {P : Program} {f : Nat} {ds ds1 : List D} {h : Heap} {Q : D → Heap → Prop} (hr : All2 (Rd h) ds ds1)
    (hw : Con P f ds1 (fun _ => none) fun d h1 => ∃ h2 : Heap, (∀ k c, h2 k = some c → h1 k = some c ∧ ∀ x ∈ c, kd h2 x) ∧ kdR h2 d ∧ ((∀ k, h2 k ≠ none → h k = none) → Q d (mrg h h2))) : Con P f ds h Q := by
  refine ⟨hw.1, fun s args H A => ?_⟩
  let s1 : Sg := { w := s.w, ρ := fun _ => none, μ := fun _ => none, prot := below s.w.heap.size, base := s.base, fr := s.fr, used := s.used, next := s.next }
  have H1 : RH s1 (fun _ => none) := ⟨fun b hb => hb, fun _ _ _ _ _ h => (by cases h), fun _ _ => rfl, H.bound, fun _ _ h => (by cases h), fun _ _ _ h => (by cases h), fun b hb => H.lt b (H.bp b hb), fun b hb => ⟨H.lt b (H.fp b hb).1, (H.fp b hb).2⟩⟩
  have A1 : All2 (RV s1) args.toList ds1 := by
    refine ⟨A.1.trans hr.1, fun i v d' hv hd => ?_⟩
    have hlt : i < ds.length := by
      rcases Nat.lt_or_ge i ds.length with h' | h'
      · exact h'
      · rw [hr.1] at h'; simp [List.getElem?_eq_none h'] at hd
    have hdi := List.getElem?_eq_getElem hlt
    exact .pure (hr.2 i _ d' hdi hd s v H.toO (A.2 i v _ hv hdi))
  refine (hw.2 s1 args H1 A1).mono ?_
  rintro e w' ⟨v, d, h1, s', rfl, rfl, hx, H', hv, h2, hcl, hkd, hQ⟩
  have hsame : ∀ b, b < s.w.heap.size → s'.w.heap[b]? = s.w.heap[b]? := fun b hb => (hx.prot b hb).2
  have hpr : ∀ b, b < s.w.heap.size → s'.prot b := fun b hb => (hx.prot b hb).1
  have hnew : ∀ k, h2 k ≠ none → ¬ s.used k := by
    intro k hk hu
    cases hc : h2 k with
    | none => exact hk hc
    | some c =>
      obtain ⟨_, x, hρ, _⟩ := H'.own k c (hcl k c hc).1
      have := hx.key k _ hu hρ
      cases this
  have hdis : ∀ k, h2 k ≠ none → h k = none := by
    intro k hk
    cases hc : h k with
    | none => rfl
    | some c => exact absurd (H.own k c hc).1 (hnew k hk)
  have hlive : ∀ k b n, s.ρ k = some (some b, n) → b < s.w.heap.size := by
    intro k b n hρ
    cases hc : h k with
    | none => rw [H.dead k hc] at hρ; cases hρ
    | some c =>
      obtain ⟨_, x, hρ2, _, hq⟩ := H.own k c hc
      rw [hρ] at hρ2; injection hρ2 with hρ2; injection hρ2 with e1 e2
      obtain ⟨_, cs, e, hh, _⟩ := hq b e1.symm
      rcases Nat.lt_or_ge b s.w.heap.size with h' | h'
      · exact h'
      · simp [Array.getElem?_eq_none h'] at hh
  let s2 : Sg := { w := s'.w, ρ := fun k => if s.used k then s.ρ k else if h2 k = none then none else s'.ρ k, μ := fun k => if s.used k then s.μ k else none, prot := s.prot, base := s.base, fr := s.fr, used := s'.used, next := s'.next }
  have ρu : ∀ k, s.used k → s2.ρ k = s.ρ k := fun k hu => if_pos hu
  have ρn : ∀ k, h2 k ≠ none → s2.ρ k = s'.ρ k := fun k hk => (if_neg (hnew k hk)).trans (if_neg hk)
  have ρ0 : ∀ k x, ¬ s.used k → s2.ρ k = some x → h2 k ≠ none ∧ s'.ρ k = some x := by
    intro k x hu hρ
    have h3 : (if s.used k then s.ρ k else if h2 k = none then none else s'.ρ k) = some x := hρ
    rw [if_neg hu] at h3
    split at h3
    · cases h3
    · rename_i h4; exact ⟨h4, h3⟩
  have hE : Ext s s2 := ⟨hx.next, hx.used, hx.size, fun b hb => ⟨hb, hsame b (H.lt b hb)⟩, fun k x hu hk => (ρu k hu) ▸ hk,
    fun k b n cs e hu hρ hh => ⟨cs, (hsame b (by
      rcases Nat.lt_or_ge b s.w.heap.size with h' | h'
      · exact h'
      · simp [Array.getElem?_eq_none h'] at hh)).trans hh, rfl⟩, hx.so, fun k hu => if_pos hu, rfl, fun b hb => ⟨hb, hsame b (H.lt b (H.fp b hb).1)⟩⟩
  have kRV : ∀ v d, RV s' v d → kd h2 d → RV s2 v d := by
    rintro v d hv (hs | ⟨k, sz, off, n, rfl, hk⟩)
    · exact .pure (hv.scal hs _)
    · obtain ⟨hu, a, cap, rfl, hna, hlc, hq⟩ := hv.inv_sl
      exact .sl a k sz off n cap hu hna hlc fun x m hxm => hq x m ((ρn k hk) ▸ hxm)
  have HM : RH s2 (mrg h h2) := by
    refine ⟨fun b hb => Nat.lt_of_lt_of_le (H.lt b hb) hx.size, ?_, ?_, H'.bound, ?_, ?_, H.bp, H.fp⟩
    · intro k k' b n n' hk hk'
      by_cases hu : s.used k <;> by_cases hu' : s.used k'
      · exact H.inj k k' b n n' ((ρu k hu) ▸ hk) ((ρu k' hu') ▸ hk')
      · have h3 := hlive k b n ((ρu k hu) ▸ hk)
        obtain ⟨h4, h5⟩ := ρ0 k' _ hu' hk'
        cases hc : h2 k' with
        | none => exact absurd hc h4
        | some c =>
          obtain ⟨_, x, hρ, _, hq⟩ := H'.own k' c (hcl k' c hc).1
          rw [h5] at hρ; injection hρ with hρ; injection hρ with e1 e2
          exact absurd (hpr b h3) (hq b e1.symm).1
      · have h3 := hlive k' b n' ((ρu k' hu') ▸ hk')
        obtain ⟨h4, h5⟩ := ρ0 k _ hu hk
        cases hc : h2 k with
        | none => exact absurd hc h4
        | some c =>
          obtain ⟨_, x, hρ, _, hq⟩ := H'.own k c (hcl k c hc).1
          rw [h5] at hρ; injection hρ with hρ; injection hρ with e1 e2
          exact absurd (hpr b h3) (hq b e1.symm).1
      · exact H'.inj k k' b n n' (ρ0 k _ hu hk).2 (ρ0 k' _ hu' hk').2
    · intro k hk
      cases hc : h k with
      | some c => rw [mrg_old hc] at hk; cases hk
      | none =>
        rw [mrg_new hc] at hk
        by_cases hu : s.used k
        · rw [ρu k hu]; exact H.dead k hc
        · exact (if_neg hu).trans (if_pos hk)
    · intro k c hk
      cases hc : h k with
      | some c0 =>
        rw [mrg_old hc] at hk; injection hk with hk; subst hk
        obtain ⟨hu, x, hρ, hn, hq⟩ := H.own k c0 hc
        refine ⟨hx.used k hu, x, (ρu k hu).trans hρ, fun h0 => (hn h0).imp id ?_, fun b hb => ?_⟩
        · rintro ⟨l, b, h3, h4, h5⟩
          exact ⟨l, b, h3, (if_pos hu).trans h4, h5.kept (hsame b h5.lt)⟩
        · obtain ⟨h3, cs, e, h4, h5, h6⟩ := hq b hb
          refine ⟨h3, cs, e, (hsame b ?_).trans h4, h5, h6.mono fun _ _ h => h.mono hE⟩
          rcases Nat.lt_or_ge b s.w.heap.size with h' | h'
          · exact h'
          · simp [Array.getElem?_eq_none h'] at h4
      | none =>
        rw [mrg_new hc] at hk
        have hk0 : h2 k ≠ none := by rw [hk]; simp
        obtain ⟨h3, hxk⟩ := hcl k c hk
        obtain ⟨hu, x, hρ, hn, hq⟩ := H'.own k c h3
        refine ⟨hu, x, (ρn k hk0).trans hρ, fun h0 => ?_, fun b hb => ?_⟩
        · rcases hn h0 with h4 | ⟨l, b, rfl, _⟩
          · exact .inl h4
          · rcases hxk (.mpc l) (by simp) with h5 | ⟨_, _, _, _, h5, _⟩
            · cases h5
            · cases h5
        · obtain ⟨h4, cs, e, h5, h6, h7⟩ := hq b hb
          refine ⟨fun hp => h4 (hpr b (H.lt b hp)), cs, e, h5, h6, ⟨h7.1, fun i u d hu hd => ⟨kRV u d (h7.2 i u d hu hd).1 (hxk d (List.mem_of_getElem? hd)), (h7.2 i u d hu hd).2⟩⟩⟩
    · intro k b hu hμ
      have hμ' : (if s.used k then s.μ k else none) = some b := hμ
      split at hμ'
      · rename_i hu0
        obtain ⟨⟨h3, es, cl, h4⟩, h5, h6⟩ := H.mu k b hu0 hμ'
        refine ⟨⟨Nat.lt_of_lt_of_le h3 hx.size, es, cl, (hsame b h3).trans h4⟩, h5, fun k' _ hk' => ?_⟩
        have hk2 : (if s.used k' then s.μ k' else none) = some b := hk'
        split at hk2
        · rename_i hu2; exact h6 k' hu2 hk2
        · cases hk2
      · cases hμ'
  refine ⟨v, d, mrg h h2, s2, rfl, rfl, hE, HM, ?_, hQ hdis⟩
  cases d <;> simp only [kdR] at hkd
  case tup ds =>
    obtain ⟨vs, rfl, hall⟩ := hv.inv_tup
    refine .tup vs ds hall.1 fun i u d hu hd => kRV u d (hall.2 i u d hu hd) (hkd d (List.mem_of_getElem? hd))
  all_goals exact kRV v _ hv hkd
end Go.AM
end
section
/- min -/
/- Results that are slices of slices of their own. -/
set_option linter.unusedSimpArgs false
set_option linter.unusedVariables false
namespace Go.Proofs.Ythblalidmmbcoaa
open Go.AM Classical
set_option maxRecDepth 100000
set_option maxHeartbeats 4000000
def S1 (K : Nat → Prop) (h : Heap) (x : D) : Prop := ∃ (k : Nat) (xs : Bs), K k ∧ x = .sl k 1 0 xs.length ∧ h k = some (xs.map (D.int .u8)) ∧ byB xs ∧ 0 < xs.length ∧ xs.length ≤ 1000000
def S2 (K : Nat → Prop) (h : Heap) (c : D) : Prop := ∃ cs n, SlOwn h c 1 cs n ∧ n ≤ 1000000 ∧ (∀ k sz off m, c = .sl k sz off m → K k) ∧ ∀ x ∈ cs, S1 K h x
def S3 (K : Nat → Prop) (h : Heap) (c : D) : Prop := ∃ cs n, SlOwn h c 1 cs n ∧ n ≤ 64 ∧ (∀ k sz off m, c = .sl k sz off m → K k) ∧ ∀ x ∈ cs, S2 K h x
theorem S1.mono {K K' : Nat → Prop} {h h' : Heap} {x : D} (H : S1 K h x) (hk : ∀ k, K k → K' k) (hh : ∀ k c, h k = some c → h' k = some c) : S1 K' h' x := by
  obtain ⟨k, xs, h1, h2, h3, h4⟩ := H; exact ⟨k, xs, hk k h1, h2, hh _ _ h3, h4⟩
theorem S2.mono {K K' : Nat → Prop} {h h' : Heap} {x : D} (H : S2 K h x) (hk : ∀ k, K k → K' k) (hh : ∀ k c, h k = some c → h' k = some c) : S2 K' h' x := by
  obtain ⟨cs, n, h1, h0, h2, h3⟩ := H; exact ⟨cs, n, slSub h1 hh, h0, fun k sz off m e => hk k (h2 k sz off m e), fun x hx => (h3 x hx).mono hk hh⟩
theorem S3.mono {K K' : Nat → Prop} {h h' : Heap} {x : D} (H : S3 K h x) (hk : ∀ k, K k → K' k) (hh : ∀ k c, h k = some c → h' k = some c) : S3 K' h' x := by
  obtain ⟨cs, n, h1, h0, h2, h3⟩ := H; exact ⟨cs, n, slSub h1 hh, h0, fun k sz off m e => hk k (h2 k sz off m e), fun x hx => (h3 x hx).mono hk hh⟩
theorem S2.nil {K : Nat → Prop} {h : Heap} : S2 K h .nil := ⟨[], 0, SlOwn.nil, by omega, fun _ _ _ _ e => (by cases e), fun x hx => by cases hx⟩
theorem S3.nil {K : Nat → Prop} {h : Heap} : S3 K h .nil := ⟨[], 0, SlOwn.nil, by omega, fun _ _ _ _ e => (by cases e), fun x hx => by cases hx⟩
def NoI (x : D) : Prop := ∀ k n, x ≠ .int k n
theorem S1.noI {K : Nat → Prop} {h : Heap} {x : D} (H : S1 K h x) : NoI x := by obtain ⟨k, xs, -, rfl, -⟩ := H; intro k n e; cases e
theorem so_noI {h : Heap} {d : D} {sz n : Nat} {cs : List D} (ho : SlOwn h d sz cs n) : NoI d := by
  obtain ⟨-, ⟨-, rfl | rfl⟩ | ⟨k, rfl, -⟩⟩ := ho <;> intro k n e <;> cases e
theorem S2.noI {K : Nat → Prop} {h : Heap} {x : D} (H : S2 K h x) : NoI x := by obtain ⟨cs, n, h1, -⟩ := H; exact so_noI h1
theorem so_ne {h : Heap} {d : D} {sz n k : Nat} {cs : List D} {xs : Bs} (ho : SlOwn h d sz cs n) (hn : ∀ x ∈ cs, NoI x) (hk : h k = some (xs.map (D.int .u8))) (hx : 0 < xs.length) : Fr d k := by
  obtain ⟨-, ⟨-, rfl | rfl⟩ | ⟨j, rfl, hj⟩⟩ := ho
  · intro _ _ _ e; cases e
  · intro _ _ _ e; cases e
  · refine Fr.sl ?_
    rintro rfl
    rw [hk] at hj; injection hj with hj
    cases xs with
    | nil => simp at hx
    | cons a r => exact hn (.int .u8 a) (by rw [← hj]; simp) _ _ rfl
theorem S1.step {K : Nat → Prop} {h h2 h3 : Heap} {d x : D} {cs : List D} {n : Nat} (H : S1 K h x) (hn : ∀ x ∈ cs, NoI x) (ho : SlOwn h d 1 cs n) (h12 : ∀ k c, h k = some c → h2 k = some c) (h23 : ∀ j c, h2 j = some c → (∀ sz off n, d ≠ .sl j sz off n) → h3 j = some c) : S1 K h3 x := by
  obtain ⟨k, xs, h1, hx, hk, hy, h0⟩ := H
  exact ⟨k, xs, h1, hx, h23 _ _ (h12 _ _ hk) (so_ne ho hn hk h0.1), hy, h0⟩
/-! ### What is handed over -/
def L0 (h : Heap) (k : Nat) : Prop := ∃ c, h k = some c ∧ ∀ x ∈ c, scal x = true
def L1 (h : Heap) (k : Nat) : Prop := ∃ c, h k = some c ∧ ∀ x ∈ c, scal x = true ∨ ∃ j sz off n, x = .sl j sz off n ∧ L0 h j
def L2 (h : Heap) (k : Nat) : Prop := ∃ c, h k = some c ∧ ∀ x ∈ c, scal x = true ∨ ∃ j sz off n, x = .sl j sz off n ∧ L1 h j
theorem L0.up {h : Heap} {k : Nat} (H : L0 h k) : L1 h k := by obtain ⟨c, h1, h2⟩ := H; exact ⟨c, h1, fun x hx => .inl (h2 x hx)⟩
theorem L1.up {h : Heap} {k : Nat} (H : L1 h k) : L2 h k := by
  obtain ⟨c, h1, h2⟩ := H
  exact ⟨c, h1, fun x hx => (h2 x hx).imp id fun ⟨j, sz, off, n, h3, h4⟩ => ⟨j, sz, off, n, h3, h4.up⟩⟩
noncomputable def cut2 (h : Heap) : Heap := fun k => if L2 h k then h k else none
theorem cut2_at {h : Heap} {k : Nat} {c : List D} (H : L2 h k) (hk : h k = some c) : cut2 h k = some c := (if_pos H).trans hk
theorem cut2_some {h : Heap} {k : Nat} {c : List D} (hk : cut2 h k = some c) : L2 h k ∧ h k = some c := by
  unfold cut2 at hk
  split at hk
  · rename_i h1; exact ⟨h1, hk⟩
  · cases hk
theorem cut2_ne {h : Heap} {k : Nat} (H : L2 h k) : cut2 h k ≠ none := by obtain ⟨c, hc, -⟩ := id H; rw [cut2_at H hc]; simp
theorem con_iso2 {P : Program} {f : Nat} {ds ds1 : List D} {h : Heap} {Q : D → Heap → Prop} (hr : All2 (Rd h) ds ds1)
    (hw : Con P f ds1 (fun _ => none) fun d h1 => kdR (cut2 h1) d ∧ ∀ h', (∀ k c, cut2 h1 k = some c → h' k = some c ∧ h k = none) → (∀ k c, h k = some c → h' k = some c) → Q d h') : Con P f ds h Q := by
  refine con_iso hr (hw.mono ?_)
  rintro d h1 ⟨hk, hq⟩
  refine ⟨cut2 h1, fun k c hc => ?_, hk, fun hd => hq _ (fun k c hc => ?_) fun k c hc => mrg_old hc⟩
  · obtain ⟨h2, h3⟩ := cut2_some hc
    refine ⟨h3, fun x hx => ?_⟩
    obtain ⟨c2, h4, h5⟩ := h2
    rw [h3] at h4; injection h4 with h4; subst h4
    rcases h5 x hx with h6 | ⟨j, sz, off, n, h6, h7⟩
    · exact .inl h6
    · exact .inr ⟨j, sz, off, n, h6, cut2_ne h7.up⟩
  · have h0 := hd k (by rw [hc]; simp)
    exact ⟨(mrg_new h0).trans hc, h0⟩
theorem S1.l0 {K : Nat → Prop} {h : Heap} {x : D} (H : S1 K h x) : ∃ j sz off n, x = .sl j sz off n ∧ L0 h j := by
  obtain ⟨k, xs, -, rfl, h1, -⟩ := H
  exact ⟨k, 1, 0, _, rfl, _, h1, fun x hx => by obtain ⟨a, _, rfl⟩ := List.mem_map.1 hx; rfl⟩
theorem S2.l1 {K : Nat → Prop} {h : Heap} {x : D} (H : S2 K h x) : scal x = true ∨ ∃ j sz off n, x = .sl j sz off n ∧ L1 h j := by
  obtain ⟨cs, n, ⟨-, ⟨-, rfl | rfl⟩ | ⟨k, rfl, hk⟩⟩, -, -, h2⟩ := H
  · exact .inl rfl
  · exact .inl rfl
  · exact .inr ⟨k, 1, 0, n, rfl, cs, hk, fun x hx => .inr (h2 x hx).l0⟩
theorem S3.l2 {K : Nat → Prop} {h : Heap} {x : D} (H : S3 K h x) : scal x = true ∨ ∃ j sz off n, x = .sl j sz off n ∧ L2 h j := by
  obtain ⟨cs, n, ⟨-, ⟨-, rfl | rfl⟩ | ⟨k, rfl, hk⟩⟩, -, -, h2⟩ := H
  · exact .inl rfl
  · exact .inl rfl
  · exact .inr ⟨k, 1, 0, n, rfl, cs, hk, fun x hx => (h2 x hx).l1⟩
theorem S2.kd {K : Nat → Prop} {h : Heap} {x : D} (H : S2 K h x) : kd (cut2 h) x := H.l1.imp id fun ⟨j, sz, off, n, h1, h2⟩ => ⟨j, sz, off, n, h1, cut2_ne h2.up⟩
theorem S3.kd {K : Nat → Prop} {h : Heap} {x : D} (H : S3 K h x) : kd (cut2 h) x := H.l2.imp id fun ⟨j, sz, off, n, h1, h2⟩ => ⟨j, sz, off, n, h1, cut2_ne h2⟩
theorem S1.cut {K K' : Nat → Prop} {h h' : Heap} {x : D} (H : S1 K h x) (hh : ∀ k c, cut2 h k = some c → h' k = some c ∧ K' k) : S1 K' h' x := by
  have hl := H.l0
  obtain ⟨k, xs, h1, rfl, h2, h3⟩ := H
  obtain ⟨j, _, _, _, e, hj⟩ := hl
  injection e with e; subst e
  obtain ⟨h4, h5⟩ := hh k _ (cut2_at hj.up.up h2)
  exact ⟨k, xs, h5, rfl, h4, h3⟩
theorem so_cut {K' : Nat → Prop} {h h' : Heap} {x : D} {cs : List D} {n : Nat} (ho : SlOwn h x 1 cs n) (hl : scal x = true ∨ ∃ j sz off n, x = .sl j sz off n ∧ L2 h j) (hh : ∀ k c, cut2 h k = some c → h' k = some c ∧ K' k) : SlOwn h' x 1 cs n ∧ ∀ k sz off m, x = .sl k sz off m → K' k := by
  obtain ⟨h1, h2 | ⟨k, rfl, hk⟩⟩ := ho
  · exact ⟨⟨h1, .inl h2⟩, fun k sz off m e => by rcases h2.2 with h3 | h3 <;> rw [h3] at e <;> cases e⟩
  · rcases hl with h2 | ⟨j, _, _, _, e, hj⟩
    · cases h2
    · injection e with e; subst e
      obtain ⟨h4, h5⟩ := hh k _ (cut2_at hj hk)
      exact ⟨⟨h1, .inr ⟨k, rfl, h4⟩⟩, fun k2 _ _ _ e => by injection e with e; rw [← e]; exact h5⟩
theorem S2.cut {K K' : Nat → Prop} {h h' : Heap} {x : D} (H : S2 K h x) (hh : ∀ k c, cut2 h k = some c → h' k = some c ∧ K' k) : S2 K' h' x := by
  have hl := H.l1
  obtain ⟨cs, n, h1, h0, h2, h3⟩ := H
  obtain ⟨h4, h5⟩ := so_cut h1 (hl.imp id fun ⟨j, sz, off, n, e, h⟩ => ⟨j, sz, off, n, e, h.up⟩) hh
  exact ⟨cs, n, h4, h0, h5, fun x hx => (h3 x hx).cut hh⟩
theorem S3.cut {K K' : Nat → Prop} {h h' : Heap} {x : D} (H : S3 K h x) (hh : ∀ k c, cut2 h k = some c → h' k = some c ∧ K' k) : S3 K' h' x := by
  have hl := H.l2
  obtain ⟨cs, n, h1, h0, h2, h3⟩ := H
  obtain ⟨h4, h5⟩ := so_cut h1 hl hh
  exact ⟨cs, n, h4, h0, h5, fun x hx => (h3 x hx).cut hh⟩
/-! ### The functions -/
theorem copies_kon (B : List Bs) (hB : B.length ≤ 1000000) (hb : ∀ b ∈ B, 0 < b.length ∧ b.length ≤ 1000000) (hy : ∀ b ∈ B, byB b) (h : Heap) {Q : D → Heap → Prop} (hQ : ∀ h2 d, S2 (fun k => h k = none) h2 d → lenD d = some B.length → (∀ j c, h j = some c → h2 j = some c) → Q d h2) : Con Try.prog 43 [bsD B] h Q := by
  refine con_of_W mixed Try.func43 A43k A43c (by simp [A43]) ?_
  simp only [A43, argEnv]
  have hal := bs_len B
  repeat' (first | (with_reducible first | refine W_seq ?_ | refine then_n ?_ | refine W_block ?_ | refine blk_n ?_ | refine blk_r ?_ | refine blk_e ?_ | refine W_skip ?_ | refine W_ret ?_ | refine then_r ?_ | refine W_exit ?_ | refine then_e ?_) | ((with_reducible refine s_reg ?_); intro K hK) | ((with_reducible refine k_nil ?_); (with_reducible apply s_nil hK); (· exact nmX); clear hK; clear K) | ((with_reducible refine k_mv ?_); (refine s_mv rfl ?_)) | ((with_reducible refine k_len ?_); (first | (refine s_len rfl rfl ?_) | ((with_reducible apply s_len); (· rfl); (· exact SlOwn.len (by assumption))) | ((with_reducible apply s_len); (· rfl); (· assumption)))))
  refine W_for B.length (fun i st => ∃ h' d cs, st = ⟨[(3, d), (6, bsD B), (7, .int .i64 B.length), (8, .int .i64 i)], h'⟩ ∧ SlOwn h' d 1 cs i ∧ (∀ x ∈ cs, S1 (fun k => h k = none) h' x) ∧ (∀ k sz off m, d = .sl k sz off m → h k = none) ∧ ∀ j c, h j = some c → h' j = some c ∧ Fr d j) ⟨_, _, [], rfl, SlOwn.nil, fun x hx => (by cases hx), fun _ _ _ _ e => (by cases e), fun j c hj => ⟨hj, Fr.nil⟩⟩ ?_ ?_
  · rintro i e' h' hi ⟨h1, d, cs, he, ho, hr, hd, hk⟩
    cases he
    have hg := bsg hi
    obtain ⟨hb0, hb1⟩ := hb _ (List.getElem_mem hi)
    have hyb := hy _ (List.getElem_mem hi)
    have c1 := bclone_c B[i] hb1
    generalize B[i] = b at *
    repeat' (first | (with_reducible first | refine W_seq ?_ | refine then_n ?_ | refine W_block ?_ | refine blk_n ?_ | refine blk_r ?_ | refine blk_e ?_ | refine W_skip ?_ | refine W_ret ?_ | refine then_r ?_ | refine W_exit ?_ | refine then_e ?_) | ((with_reducible refine s_reg ?_); intro K hK) | ((with_reducible refine k_nil ?_); (with_reducible apply s_nil hK); (· exact nmX); clear hK; clear K) | ((with_reducible refine k_cond ?_); (first | ((with_reducible apply s_condT); (· rfl); (· exact nmX)) | ((with_reducible apply s_condF); (· rfl); (· exact nmX)) | ((with_reducible apply s_condS); (· rfl); (· exact nmX); (· exact nmX)))) | ((with_reducible refine k_mv ?_); (refine s_mv rfl ?_)) | ((with_reducible refine k_lss ?_); (refine s_lss rfl rfl ?_)) | ((with_reducible refine k_iaddr ?_); (first | ((with_reducible apply s_iaddrV); (· rfl); (· rfl); (· (first | omega | exact ⟨rfl, by omega⟩ | skip))) | ((with_reducible apply s_iaddrO); (· rfl); (· rfl); (· (first | omega | exact ⟨rfl, by omega⟩ | skip)); (· (exact hpX))) | ((with_reducible apply s_iaddrSO); (· rfl); (· assumption); (· rfl); (· (first | omega | exact ⟨rfl, by omega⟩ | skip)); (· (first | (simp (disch := omega) only [w64, wu8, wu16, wu32, wu64, tm_nn, td_nn, fd_nn, Int.reduceAdd, Int.reduceSub, Int.reduceMul, Int.reduceDiv, Int.reduceMod, Int.reduceNeg, Int.reduceToNat, Int.toNat_natCast, Int.toNat_zero, Int.zero_add, Int.add_zero, Int.one_mul, Int.reducePow, Nat.mul_one, Nat.zero_add, Nat.add_zero, Nat.zero_mul, Nat.reduceAdd, Nat.reduceMul, Nat.reduceSub, Nat.min_eq_left, IntKind.bits, Nat.sub_zero, hg]; try rfl; done) | rfl)); intro ks hks))) | ((with_reducible refine k_load ?_); (first | ((with_reducible apply s_loadV); (· rfl)) | ((with_reducible apply s_loadP); (· rfl); (· (exact hpX))))) | ((with_reducible refine k_add ?_); ((with_reducible apply s_add); (· rfl); (· rfl))) | ((with_reducible refine k_buildS (dst := some 15) ?_); ((with_reducible apply s_buildS); (· rfl); (· (exact ⟨rfl, by decide⟩)); (· (first | (simp only [fillB, rep, splice, List.reduceReplicate, List.flatten_cons, List.flatten_nil, List.cons_append, List.nil_append, List.append_nil, List.length_cons, List.length_nil, Nat.reduceAdd, Nat.reduceMul, Nat.reduceLeDiff, Nat.reduceEqDiff, eq_self, Nat.le_refl, Nat.zero_add, and_self, and_true, true_and, if_true, List.take_zero, List.take_succ_cons, List.drop_zero, List.drop_succ_cons, List.drop_nil, List.take_nil]; rfl) | rfl)); intro k15 hk15; (try simp only [upd_none] at hk15))) | ((with_reducible refine k_append (dst := some 16) ?_); ((with_reducible apply s_app2); (· rfl); (· rfl); (· first | assumption | exact SlOwn.nil | exact SlOwn.emp | ((repeat' (first | assumption | (with_reducible apply SlOwn.upd) | (simp only [upd_none]; assumption))); done)); (· rfl); (· first | exact srcD_sl upd_self rfl | (exact srcD_vs (by first | assumption | simp)) | ((apply srcD_sl); (· (exact hpX)); (· rfl))); (· exact ⟨by first | rfl | assumption | simp, by decide, by decide⟩); (· first | (rw [room_n]; omega) | skip); intro ka16 ha16 hn16 hk16 hoth16)) | ((with_reducible refine k_callF ?_); (first | ((with_reducible apply s_call1); (· rfl)) | ((with_reducible apply s_calln); (· rfl)))) | ((with_reducible refine k_con ?_); (first | ((with_reducible apply con_of_pcon (c1)); (· (repeat (first | exact All2.nil | (apply All2.cons; (· first | ((apply Rd_sl0); (· exact hpX); (· first | rfl | exact scal_i | exact scal_b | assumption); (· first | rfl | assumption | (simp [hg]; done) | (simp [hg]; omega))) | exact rdX))))); intro kC hkC; (try simp only [upd_none] at hkC); simp only [thaw, thawC, List.map, thawH, owOf, owL]))) | ((with_reducible refine k_br ?_); (first | (with_reducible first | refine Br_dec ?_ | refine Br_not ?_ | refine Br_eqF ?_ | refine Br_and ?_ | refine Br_or ?_ | refine Br_neg ?_ | refine Br_band ?_ | refine Br_bor ?_ | refine Br_beq ?_) | (refine Br_t (by first | with_reducible rfl | omega | assumption | rfl) ?_) | (refine Br_f (by first | omega | assumption | decide) ?_) | (with_reducible apply Br_sb <;> intro hbr <;> (first | subst hbr | simp only [hbr] | skip)) | (with_reducible apply Br_s <;> intro hbr))) | ((first | (with_reducible apply q_eqI) | (with_reducible apply q_eqN)); (first | (simp (disch := omega) only [w64, wu8, wu16, wu32, wu64, tm_nn, td_nn, fd_nn, Int.reduceAdd, Int.reduceSub, Int.reduceMul, Int.reduceDiv, Int.reduceMod, Int.reduceNeg, Int.reduceToNat, Int.toNat_natCast, Int.toNat_zero, Int.zero_add, Int.add_zero, Int.one_mul, Int.reducePow, Nat.mul_one, Nat.zero_add, Nat.add_zero, Nat.zero_mul, Nat.reduceAdd, Nat.reduceMul, Nat.reduceSub, Nat.min_eq_left, IntKind.bits, Nat.sub_zero, hg]; try rfl; done) | rfl)) | ((first | (with_reducible apply q_eqL) | (with_reducible apply q_eqO)); (first | (simp (disch := omega) only [upd_self, upd_ne, upd_upd, rep, splice, List.take_succ_cons, List.take_zero, List.drop_succ_cons, List.drop_zero, List.cons_append, List.nil_append, List.append_nil, List.length_cons, List.length_nil, List.reduceReplicate, List.flatten_cons, List.flatten_nil, Nat.reduceAdd, Nat.reduceMul, Nat.reduceSub, Nat.zero_add, Nat.add_zero, List.getElem?_cons_zero, List.getElem?_cons_succ, hg]; try rfl; done) | rfl)))
    all_goals first | (exfalso; omega) | skip
    have hkn : ∀ k c, h' k = some c → upd (upd h' kC (b.map (.int .u8))) k15 [.sl kC 1 0 b.length] k = some c := fun k c hk => by
      rw [upd_ne (fun e => by rw [e, hk15.2] at hk; cases hk), upd_ne (fun e => by rw [e, hkC] at hk; cases hk)]; exact hk
    have hnh : ∀ k, h' k = none → h k = none := fun k hn => by
      cases hc : h k with
      | none => rfl
      | some c => rw [(hk k c hc).1] at hn; cases hn
    have hn16' : h' ka16 = none := by
      cases hc : h' ka16 with
      | none => rfl
      | some c => rw [hkn _ _ hc] at hn16; cases hn16
    have hcl : cs.length = i := by simpa using ho.1
    refine ⟨_, _, _, rfl, SlOwn.sl hk16 (by rw [List.length_append, hcl, List.length_singleton, Nat.mul_one]), ?_, fun k sz off m e => ?_, fun j c hj => ?_⟩
    · intro x hx
      rcases List.mem_append.1 hx with hx | hx
      · exact (hr x hx).step (fun y hy => (hr y hy).noI) ho hkn hoth16
      · rw [List.mem_singleton.1 hx]
        refine ⟨kC, b, hnh _ hkC, rfl, hoth16 kC _ ?_ ?_, hyb, hb0, hb1⟩
        · rw [upd_ne (Ne.symm hk15.1)]; exact upd_self
        · intro sz off n he
          obtain ⟨_, ⟨_, h4⟩ | ⟨k2, h4, h5⟩⟩ := ho
          · rcases h4 with h4 | h4 <;> rw [h4] at he <;> cases he
          · rw [h4] at he; injection he with he; subst he; rw [hkC] at h5; cases h5
    · injection e with e; rw [← e]; exact hnh _ hn16'
    · obtain ⟨a1, a2⟩ := hk j c hj
      exact ⟨hoth16 _ _ (hkn _ _ a1) a2, Fr.sl (fun e => by rw [e] at hn16'; rw [hn16'] at a1; cases a1)⟩
  · rintro e' h' ⟨h1, d, cs, he, ho, hr, hd, hk⟩
    cases he
    repeat' (first | (with_reducible first | refine W_seq ?_ | refine then_n ?_ | refine W_block ?_ | refine blk_n ?_ | refine blk_r ?_ | refine blk_e ?_ | refine W_skip ?_ | refine W_ret ?_ | refine then_r ?_ | refine W_exit ?_ | refine then_e ?_) | ((with_reducible refine s_reg ?_); intro K hK) | ((with_reducible refine k_nil ?_); (with_reducible apply s_nil hK); (· exact nmX); clear hK; clear K) | ((with_reducible refine k_cond ?_); (first | ((with_reducible apply s_condT); (· rfl); (· exact nmX)) | ((with_reducible apply s_condF); (· rfl); (· exact nmX)) | ((with_reducible apply s_condS); (· rfl); (· exact nmX); (· exact nmX)))) | ((with_reducible refine k_mv ?_); (refine s_mv rfl ?_)) | ((with_reducible refine k_lss ?_); (refine s_lss rfl rfl ?_)) | ((with_reducible refine k_br ?_); (first | (with_reducible first | refine Br_dec ?_ | refine Br_not ?_ | refine Br_eqF ?_ | refine Br_and ?_ | refine Br_or ?_ | refine Br_neg ?_ | refine Br_band ?_ | refine Br_bor ?_ | refine Br_beq ?_) | (refine Br_t (by first | with_reducible rfl | omega | assumption | rfl) ?_) | (refine Br_f (by first | omega | assumption | decide) ?_) | (with_reducible apply Br_sb <;> intro hbr <;> (first | subst hbr | simp only [hbr] | skip)) | (with_reducible apply Br_s <;> intro hbr))))
    all_goals first | (exfalso; omega) | skip
    exact ⟨trivial, _, rfl, hQ _ _ ⟨cs, _, ho, hB, hd, hr⟩ ho.len fun j c hj => (hk j c hj).1⟩
abbrev TK : Nat → Prop := fun _ => True
def R2 (r : D) (h1 : Heap) : Prop := ∃ d e, r = .tup [d, .int .i64 e] ∧ S2 TK h1 d
def R3 (r : D) (h1 : Heap) : Prop := ∃ d e, r = .tup [d, .int .i64 e] ∧ S3 TK h1 d
theorem R2.of {h : Heap} {d : D} {e : Int} (H : S2 TK h d) : R2 (.tup [d, .int .i64 e]) h := ⟨d, e, rfl, H⟩
theorem R3.of {h : Heap} {d : D} {e : Int} (H : S3 TK h d) : R3 (.tup [d, .int .i64 e]) h := ⟨d, e, rfl, H⟩
theorem latest_k (B : List Bs) (l : List Ev) (hB : B.length ≤ 1000000) (hL : l.length ≤ 900) (hid : ∀ x ∈ l, -9223372036854775808 ≤ x.id ∧ x.id ≤ 9223372036854775807) (hAy : ∀ c ∈ allF B l l.length, byB c) : Con Try.prog 25 [bsD B, evD l] (fun _ => none) R2 := by
  refine con_of_W mixed Try.func25 A25k A25c (by simp [A25]) ?_
  simp only [A25, argEnv]
  by_cases hc : chkR B l = 0
  · obtain ⟨hok, I⟩ := chk_inv hc
    have hz := chk_zero hc
    obtain ⟨m1, m2, m3⟩ := st_more (Nat.le_refl _) hz
    have hF := I.firmL
    have hC := I.cacheL
    have hal := bs_len B
    repeat' (first | (with_reducible first | refine W_seq ?_ | refine then_n ?_ | refine W_block ?_ | refine blk_n ?_ | refine blk_r ?_ | refine blk_e ?_ | refine W_skip ?_ | refine W_ret ?_ | refine then_r ?_ | refine W_exit ?_ | refine then_e ?_) | ((with_reducible refine s_reg ?_); intro K hK) | ((with_reducible refine k_nil ?_); (with_reducible apply s_nil hK); (· exact nmX); clear hK; clear K) | ((with_reducible refine k_cond ?_); (first | ((with_reducible apply s_condT); (· rfl); (· exact nmX)) | ((with_reducible apply s_condF); (· rfl); (· exact nmX)) | ((with_reducible apply s_condS); (· rfl); (· exact nmX); (· exact nmX)))) | ((with_reducible refine k_mv ?_); (refine s_mv rfl ?_)) | ((with_reducible refine k_extract ?_); (refine s_extract rfl rfl ?_)) | ((with_reducible refine k_len ?_); (first | (refine s_len rfl rfl ?_) | ((with_reducible apply s_len); (· rfl); (· exact SlOwn.len (by assumption))) | ((with_reducible apply s_len); (· rfl); (· assumption)))) | ((with_reducible refine k_neq ?_); (first | (refine s_neq rfl rfl ?_) | (refine s_strNe rfl rfl ?_))) | ((with_reducible refine k_callF ?_); (first | ((with_reducible apply s_call1); (· rfl)) | ((with_reducible apply s_calln); (· rfl)))) | ((with_reducible refine k_con ?_); (first | (refine after_ok hB hL hid hc ?_; intro h2 k kF kC dO H hh))) | ((with_reducible refine k_br ?_); (first | (with_reducible first | refine Br_dec ?_ | refine Br_not ?_ | refine Br_eqF ?_ | refine Br_and ?_ | refine Br_or ?_ | refine Br_neg ?_ | refine Br_band ?_ | refine Br_bor ?_ | refine Br_beq ?_) | (refine Br_t (by first | with_reducible rfl | omega | assumption | rfl) ?_) | (refine Br_f (by first | omega | assumption | decide) ?_) | (with_reducible apply Br_sb <;> intro hbr <;> (first | subst hbr | simp only [hbr] | skip)) | (with_reducible apply Br_s <;> intro hbr))))
    all_goals first | (exfalso; omega) | skip
    refine W_for B.length (fun i st => ∃ h' d, st = ⟨[(6, .pt k 0), (8, d), (20, .int .i64 B.length), (21, .int .i64 i)], h'⟩ ∧ SlOwn h' d 1 ((List.range i).map fun b => bD (uptoF B l l.length b)) i ∧ ∀ j c, h2 j = some c → h' j = some c ∧ Fr d j) ⟨_, _, rfl, SlOwn.nil, fun j c hj => ⟨hj, Fr.nil⟩⟩ ?_ ?_
    · rintro i e' h' hi ⟨h1, d, he, ho, hk⟩
      cases he
      have H2 := H.mono fun j c hj => (hk j c hj).1
      have c1 := fun h3 (hs : Sub h' h3) => latest_con (H2.mono hs) (by omega) (by omega) (fun c hc => by rw [m1 c hc]; omega) i (by omega)
      rw [I.lat i hi] at c1
      rw [range_s]
      generalize uptoF B l l.length i = x at *
      have hll : ((List.range i).map fun b => bD (uptoF B l l.length b)).length = i := by simp
      generalize ((List.range i).map fun b => bD (uptoF B l l.length b)) = L at *
      repeat' (first | (with_reducible first | refine W_seq ?_ | refine then_n ?_ | refine W_block ?_ | refine blk_n ?_ | refine blk_r ?_ | refine blk_e ?_ | refine W_skip ?_ | refine W_ret ?_ | refine then_r ?_ | refine W_exit ?_ | refine then_e ?_) | ((with_reducible refine s_reg ?_); intro K hK) | ((with_reducible refine k_nil ?_); (with_reducible apply s_nil hK); (· exact nmX); clear hK; clear K) | ((with_reducible refine k_cond ?_); (first | ((with_reducible apply s_condT); (· rfl); (· exact nmX)) | ((with_reducible apply s_condF); (· rfl); (· exact nmX)) | ((with_reducible apply s_condS); (· rfl); (· exact nmX); (· exact nmX)))) | ((with_reducible refine k_mv ?_); (refine s_mv rfl ?_)) | ((with_reducible refine k_lss ?_); (refine s_lss rfl rfl ?_)) | ((with_reducible refine k_add ?_); ((with_reducible apply s_add); (· rfl); (· rfl))) | ((with_reducible refine k_buildS (dst := some 28) ?_); ((with_reducible apply s_buildS); (· rfl); (· (exact ⟨rfl, by decide⟩)); (· (first | (simp only [fillB, rep, splice, List.reduceReplicate, List.flatten_cons, List.flatten_nil, List.cons_append, List.nil_append, List.append_nil, List.length_cons, List.length_nil, Nat.reduceAdd, Nat.reduceMul, Nat.reduceLeDiff, Nat.reduceEqDiff, eq_self, Nat.le_refl, Nat.zero_add, and_self, and_true, true_and, if_true, List.take_zero, List.take_succ_cons, List.drop_zero, List.drop_succ_cons, List.drop_nil, List.take_nil]; rfl) | rfl)); intro k28 hk28; (try simp only [upd_none] at hk28))) | ((with_reducible refine k_append (dst := some 29) ?_); ((with_reducible apply s_app2); (· rfl); (· rfl); (· first | assumption | exact SlOwn.nil | exact SlOwn.emp | ((repeat' (first | assumption | (with_reducible apply SlOwn.upd) | (simp only [upd_none]; assumption))); done)); (· rfl); (· first | exact srcD_sl upd_self rfl | (exact srcD_vs (by first | assumption | simp)) | ((apply srcD_sl); (· (exact hpX)); (· rfl))); (· exact ⟨by first | rfl | assumption | simp, by decide, by decide⟩); (· first | (rw [room_n]; omega) | skip); intro ka29 ha29 hn29 hk29 hoth29)) | ((with_reducible refine k_callF ?_); (first | ((with_reducible apply s_call1); (· rfl)) | ((with_reducible apply s_calln); (· rfl)))) | ((with_reducible refine k_con ?_); (first | (refine (c1 _ (Sub.refl _)).mono ?_; rintro _ _ ⟨rfl, rfl⟩))) | ((with_reducible refine k_br ?_); (first | (with_reducible first | refine Br_dec ?_ | refine Br_not ?_ | refine Br_eqF ?_ | refine Br_and ?_ | refine Br_or ?_ | refine Br_neg ?_ | refine Br_band ?_ | refine Br_bor ?_ | refine Br_beq ?_) | (refine Br_t (by first | with_reducible rfl | omega | assumption | rfl) ?_) | (refine Br_f (by first | omega | assumption | decide) ?_) | (with_reducible apply Br_sb <;> intro hbr <;> (first | subst hbr | simp only [hbr] | skip)) | (with_reducible apply Br_s <;> intro hbr))) | ((first | (with_reducible apply q_eqI) | (with_reducible apply q_eqN)); (first | exact nuI | exact nuN)))
      all_goals first | (exfalso; omega) | skip
      refine ⟨_, _, rfl, SlOwn.sl hk29 (by rw [List.length_append, hll, List.length_singleton, Nat.mul_one]), fun j c hj => ?_⟩
      obtain ⟨a1, a2⟩ := hk j c hj
      have a3 := upd_sub hk28 (x := [bD x]) j c a1
      exact ⟨hoth29 j c a3 a2, Fr.sl (fun e => by rw [e] at hn29; rw [hn29] at a3; cases a3)⟩
    · rintro e' h' ⟨h1, d, he, ho, hk⟩
      cases he
      have e1 : ((List.range B.length).map fun b => bD (uptoF B l l.length b)) = (allF B l l.length).map bD := by rw [allF, List.map_map]; rfl
      rw [e1] at ho
      have h1 : (allF B l l.length).length ≤ 1000000 := by rw [allF_len]; omega
      have h3 : ∀ b ∈ allF B l l.length, 0 < b.length ∧ b.length ≤ 1000000 := fun b hb => by
        obtain ⟨i, hi, rfl⟩ := List.mem_map.1 hb
        rw [(lat_32 hok (Nat.le_refl _) hz I (by simpa using hi)).1]; omega
      have hal2 := allF_len B l l.length
      generalize allF B l l.length = L at *
      rw [← hal2] at ho
      repeat' (first | (with_reducible first | refine W_seq ?_ | refine then_n ?_ | refine W_block ?_ | refine blk_n ?_ | refine blk_r ?_ | refine blk_e ?_ | refine W_skip ?_ | refine W_ret ?_ | refine then_r ?_ | refine W_exit ?_ | refine then_e ?_) | ((with_reducible refine s_reg ?_); intro K hK) | ((with_reducible refine k_nil ?_); (with_reducible apply s_nil hK); (· exact nmX); clear hK; clear K) | ((with_reducible refine k_cond ?_); (first | ((with_reducible apply s_condT); (· rfl); (· exact nmX)) | ((with_reducible apply s_condF); (· rfl); (· exact nmX)) | ((with_reducible apply s_condS); (· rfl); (· exact nmX); (· exact nmX)))) | ((with_reducible refine k_mv ?_); (refine s_mv rfl ?_)) | ((with_reducible refine k_lss ?_); (refine s_lss rfl rfl ?_)) | ((with_reducible refine k_callF ?_); (first | ((with_reducible apply s_call1); (· rfl)) | ((with_reducible apply s_calln); (· rfl)))) | ((with_reducible refine k_con ?_); (first | (refine con_so ho bDs_kl bDs_mp (fun h4 => copies_kon L h1 h3 hAy h4 ?_); intro h5 d5 so5 le5 in5))) | ((with_reducible refine k_br ?_); (first | (with_reducible first | refine Br_dec ?_ | refine Br_not ?_ | refine Br_eqF ?_ | refine Br_and ?_ | refine Br_or ?_ | refine Br_neg ?_ | refine Br_band ?_ | refine Br_bor ?_ | refine Br_beq ?_) | (refine Br_t (by first | with_reducible rfl | omega | assumption | rfl) ?_) | (refine Br_f (by first | omega | assumption | decide) ?_) | (with_reducible apply Br_sb <;> intro hbr <;> (first | subst hbr | simp only [hbr] | skip)) | (with_reducible apply Br_s <;> intro hbr))))
      all_goals first | (exfalso; omega) | exact con_end rfl (R2.of (so5.mono (fun _ _ => trivial) fun _ _ h => h))
  · have c1 := fun {h : Heap} {Q : D → Heap → Prop} q => after_no (h := h) (Q := Q) hB hL hid hc q
    generalize chkR B l = e at *
    repeat' (first | (with_reducible first | refine W_seq ?_ | refine then_n ?_ | refine W_block ?_ | refine blk_n ?_ | refine blk_r ?_ | refine blk_e ?_ | refine W_skip ?_ | refine W_ret ?_ | refine then_r ?_ | refine W_exit ?_ | refine then_e ?_) | ((with_reducible refine s_reg ?_); intro K hK) | ((with_reducible refine k_nil ?_); (with_reducible apply s_nil hK); (· exact nmX); clear hK; clear K) | ((with_reducible refine k_cond ?_); (first | ((with_reducible apply s_condT); (· rfl); (· exact nmX)) | ((with_reducible apply s_condF); (· rfl); (· exact nmX)) | ((with_reducible apply s_condS); (· rfl); (· exact nmX); (· exact nmX)))) | ((with_reducible refine k_mv ?_); (refine s_mv rfl ?_)) | ((with_reducible refine k_extract ?_); (refine s_extract rfl rfl ?_)) | ((with_reducible refine k_neq ?_); (first | (refine s_neq rfl rfl ?_) | (refine s_strNe rfl rfl ?_))) | ((with_reducible refine k_callF ?_); (first | ((with_reducible apply s_call1); (· rfl)) | ((with_reducible apply s_calln); (· rfl)))) | ((with_reducible refine k_con ?_); (first | (refine c1 ?_; intro h2 hh))) | ((with_reducible refine k_br ?_); (first | (with_reducible first | refine Br_dec ?_ | refine Br_not ?_ | refine Br_eqF ?_ | refine Br_and ?_ | refine Br_or ?_ | refine Br_neg ?_ | refine Br_band ?_ | refine Br_bor ?_ | refine Br_beq ?_) | (refine Br_t (by first | with_reducible rfl | omega | assumption | rfl) ?_) | (refine Br_f (by first | omega | assumption | decide) ?_) | (with_reducible apply Br_sb <;> intro hbr <;> (first | subst hbr | simp only [hbr] | skip)) | (with_reducible apply Br_s <;> intro hbr))))
    all_goals first | (exfalso; omega) | exact con_end rfl (R2.of S2.nil)
theorem durable_k (B : List Bs) (l : List Ev) (hB : B.length ≤ 1000000) (hL : l.length ≤ 900) (hid : ∀ x ∈ l, -9223372036854775808 ≤ x.id ∧ x.id ≤ 9223372036854775807) (hAy : ∀ c ∈ allF B l (fluF l l.length), byB c) : Con Try.prog 26 [bsD B, evD l] (fun _ => none) R2 := by
  refine con_of_W mixed Try.func26 A26k A26c (by simp [A26]) ?_
  simp only [A26, argEnv]
  by_cases hc : chkR B l = 0
  · obtain ⟨hok, I⟩ := chk_inv hc
    have hz := chk_zero hc
    have hF := I.firmL
    have hfe : (stS B l l.length).firm = allF B l (fluF l l.length) := by
      apply List.ext_getElem?
      intro b
      rw [allF, List.getElem?_map]
      by_cases hb : b < B.length
      · rw [List.getElem?_eq_getElem (by omega), List.getElem?_range hb]
        have := I.firm b hb
        rw [List.getD_eq_getElem?_getD, List.getElem?_eq_getElem (by omega : b < (stS B l l.length).firm.length)] at this
        simpa using this
      · rw [List.getElem?_eq_none (by omega), List.getElem?_eq_none (by simpa using hb)]; rfl
    have h1 : (allF B l (fluF l l.length)).length ≤ 1000000 := by rw [allF_len]; omega
    have h3 : ∀ b ∈ allF B l (fluF l l.length), 0 < b.length ∧ b.length ≤ 1000000 := fun b hb => by
      obtain ⟨i, hi, rfl⟩ := List.mem_map.1 hb
      rw [(lat_32 hok (Nat.le_refl _) hz I (by simpa using hi)).2]; omega
    repeat' (first | (with_reducible first | refine W_seq ?_ | refine then_n ?_ | refine W_skip ?_ | refine W_ret ?_ | refine then_r ?_) | ((with_reducible refine s_reg ?_); intro K hK) | ((with_reducible refine k_nil ?_); (with_reducible apply s_nil hK); (· exact nmX); clear hK; clear K) | ((with_reducible refine k_cond ?_); (first | ((with_reducible apply s_condT); (· rfl); (· exact nmX)) | ((with_reducible apply s_condF); (· rfl); (· exact nmX)) | ((with_reducible apply s_condS); (· rfl); (· exact nmX); (· exact nmX)))) | ((with_reducible refine k_mv ?_); (refine s_mv rfl ?_)) | ((with_reducible refine k_extract ?_); (refine s_extract rfl rfl ?_)) | ((with_reducible refine k_neq ?_); (first | (refine s_neq rfl rfl ?_) | (refine s_strNe rfl rfl ?_))) | ((with_reducible refine k_load ?_); (first | ((with_reducible apply s_loadV); (· rfl)) | ((with_reducible apply s_loadP); (· rfl); (· (exact hpX))))) | ((with_reducible refine k_faddr ?_); (first | ((with_reducible apply s_faddrV); (· rfl); (· rfl)) | ((with_reducible apply s_faddrP); (· rfl); (· rfl)))) | ((with_reducible refine k_nilck ?_); (first | ((with_reducible apply s_nilckV); (· rfl)) | ((with_reducible apply s_nilckP); (· rfl)) | ((with_reducible apply s_nilckF); (· rfl)))) | ((with_reducible refine k_callF ?_); (first | ((with_reducible apply s_call1); (· rfl)) | ((with_reducible apply s_calln); (· rfl)))) | ((with_reducible refine k_con ?_); (first | (refine after_ok hB hL hid hc ?_; intro h2 k kF kC dO H hh; have hst := H.st; have hf := H.f; rw [hfe] at hst hf; generalize allF B l (fluF l l.length) = L at *) | (refine con_so (SlOwn.sl (by assumption) (by simp)) bDs_kl bDs_mp (fun h4 => copies_kon _ h1 h3 hAy h4 ?_); intro h5 d5 so5 le5 in5))) | ((with_reducible refine k_br ?_); (first | (with_reducible first | refine Br_dec ?_ | refine Br_not ?_ | refine Br_eqF ?_ | refine Br_and ?_ | refine Br_or ?_ | refine Br_neg ?_ | refine Br_band ?_ | refine Br_bor ?_ | refine Br_beq ?_) | (refine Br_t (by first | with_reducible rfl | omega | assumption | rfl) ?_) | (refine Br_f (by first | omega | assumption | decide) ?_) | (with_reducible apply Br_sb <;> intro hbr <;> (first | subst hbr | simp only [hbr] | skip)) | (with_reducible apply Br_s <;> intro hbr))) | ((first | (with_reducible apply q_eqL) | (with_reducible apply q_eqO)); (first | exact liL | exact liO)))
    all_goals first | (exfalso; omega) | exact con_end rfl (R2.of (so5.mono (fun _ _ => trivial) fun _ _ h => h))
  · have c1 := fun {h : Heap} {Q : D → Heap → Prop} q => after_no (h := h) (Q := Q) hB hL hid hc q
    generalize chkR B l = e at *
    repeat' (first | (with_reducible first | refine W_seq ?_ | refine then_n ?_ | refine W_skip ?_ | refine W_ret ?_ | refine then_r ?_) | ((with_reducible refine s_reg ?_); intro K hK) | ((with_reducible refine k_nil ?_); (with_reducible apply s_nil hK); (· exact nmX); clear hK; clear K) | ((with_reducible refine k_cond ?_); (first | ((with_reducible apply s_condT); (· rfl); (· exact nmX)) | ((with_reducible apply s_condF); (· rfl); (· exact nmX)) | ((with_reducible apply s_condS); (· rfl); (· exact nmX); (· exact nmX)))) | ((with_reducible refine k_mv ?_); (refine s_mv rfl ?_)) | ((with_reducible refine k_extract ?_); (refine s_extract rfl rfl ?_)) | ((with_reducible refine k_neq ?_); (first | (refine s_neq rfl rfl ?_) | (refine s_strNe rfl rfl ?_))) | ((with_reducible refine k_callF ?_); (first | ((with_reducible apply s_call1); (· rfl)) | ((with_reducible apply s_calln); (· rfl)))) | ((with_reducible refine k_con ?_); (first | (refine c1 ?_; intro h2 hh))) | ((with_reducible refine k_br ?_); (first | (with_reducible first | refine Br_dec ?_ | refine Br_not ?_ | refine Br_eqF ?_ | refine Br_and ?_ | refine Br_or ?_ | refine Br_neg ?_ | refine Br_band ?_ | refine Br_bor ?_ | refine Br_beq ?_) | (refine Br_t (by first | with_reducible rfl | omega | assumption | rfl) ?_) | (refine Br_f (by first | omega | assumption | decide) ?_) | (with_reducible apply Br_sb <;> intro hbr <;> (first | subst hbr | simp only [hbr] | skip)) | (with_reducible apply Br_s <;> intro hbr))))
    all_goals first | (exfalso; omega) | exact con_end rfl (R2.of S2.nil)
theorem choices_k {B : List Bs} {l : List Ev} (Ho : HOk B l) (b : Int) : Con Try.prog 23 [bsD B, evD l, .int .i64 b] (fun _ => none) R2 := by
  refine con_of_W mixed Try.func23 A23k A23c (by simp [A23]) ?_
  simp only [A23, argEnv]
  have hB := Ho.nB
  have hL := Ho.nL
  have hal := bs_len B
  by_cases hc : chkR B l = 0
  · by_cases hb : b < 0 ∨ B.length ≤ b
    · repeat' (first | (with_reducible first | refine W_seq ?_ | refine then_n ?_ | refine W_skip ?_ | refine W_ret ?_ | refine then_r ?_) | ((with_reducible refine s_reg ?_); intro K hK) | ((with_reducible refine k_nil ?_); (with_reducible apply s_nil hK); (· exact nmX); clear hK; clear K) | ((with_reducible refine k_cond ?_); (first | ((with_reducible apply s_condT); (· rfl); (· exact nmX)) | ((with_reducible apply s_condF); (· rfl); (· exact nmX)) | ((with_reducible apply s_condS); (· rfl); (· exact nmX); (· exact nmX)))) | ((with_reducible refine k_guard ?_); (first | (refine s_gt rfl ?_) | (refine s_gf1 rfl ?_) | (refine s_gfn rfl ?_) | (refine s_gx1 rfl ?_) | (refine s_gxn rfl ?_) | (refine s_gs rfl ?_))) | ((with_reducible refine k_mv ?_); (refine s_mv rfl ?_)) | ((with_reducible refine k_extract ?_); (refine s_extract rfl rfl ?_)) | ((with_reducible refine k_len ?_); (first | (refine s_len rfl rfl ?_) | ((with_reducible apply s_len); (· rfl); (· exact SlOwn.len (by assumption))) | ((with_reducible apply s_len); (· rfl); (· assumption)))) | ((with_reducible refine k_pick ?_); (first | (refine s_pickT rfl rfl ?_) | (refine s_pickF rfl rfl ?_))) | ((with_reducible refine k_neq ?_); (first | (refine s_neq rfl rfl ?_) | (refine s_strNe rfl rfl ?_))) | ((with_reducible refine k_lss ?_); (refine s_lss rfl rfl ?_)) | ((with_reducible refine k_geq ?_); (refine s_geq rfl rfl ?_)) | ((with_reducible refine k_callF ?_); (first | ((with_reducible apply s_call1); (· rfl)) | ((with_reducible apply s_calln); (· rfl)))) | ((with_reducible refine k_con ?_); (first | (refine after_ok hB hL Ho.id hc ?_; intro h2 k kF kC dO H hh))) | ((with_reducible refine k_br ?_); (first | (with_reducible first | refine Br_dec ?_ | refine Br_not ?_ | refine Br_eqF ?_ | refine Br_and ?_ | refine Br_or ?_ | refine Br_neg ?_ | refine Br_band ?_ | refine Br_bor ?_ | refine Br_beq ?_) | (refine Br_t (by first | with_reducible rfl | omega | assumption | rfl) ?_) | (refine Br_f (by first | omega | assumption | decide) ?_) | (with_reducible apply Br_sb <;> intro hbr <;> (first | subst hbr | simp only [hbr] | skip)) | (with_reducible apply Br_s <;> intro hbr))))
      all_goals first | (exfalso; omega) | exact con_end rfl (R2.of S2.nil)
    · obtain ⟨n, rfl⟩ : ∃ n : Nat, b = n := ⟨b.toNat, by omega⟩
      have hbn : n < B.length := by omega
      have hl1 := ch_len (B := B) (l := l) (b := n)
      have c2 := fun {h : Heap} {k kF kC : Nat} {dO : D} {Q : D → Heap → Prop} (H : StH h k kF kC dO (stS B l l.length)) q => stch_con Ho hc H n hbn (Q := Q) q
      have c3 := fun h3 {Q : D → Heap → Prop} q => copies_kon (chF B l n) (by omega) (fun c h => by rw [ch_32 hc hbn h]; omega) (fun c h => Ho.ch hbn h) h3 (Q := Q) q
      generalize chF B l n = C at *
      repeat' (first | (with_reducible first | refine W_seq ?_ | refine then_n ?_ | refine W_skip ?_ | refine W_ret ?_ | refine then_r ?_) | ((with_reducible refine s_reg ?_); intro K hK) | ((with_reducible refine k_nil ?_); (with_reducible apply s_nil hK); (· exact nmX); clear hK; clear K) | ((with_reducible refine k_cond ?_); (first | ((with_reducible apply s_condT); (· rfl); (· exact nmX)) | ((with_reducible apply s_condF); (· rfl); (· exact nmX)) | ((with_reducible apply s_condS); (· rfl); (· exact nmX); (· exact nmX)))) | ((with_reducible refine k_guard ?_); (first | (refine s_gt rfl ?_) | (refine s_gf1 rfl ?_) | (refine s_gfn rfl ?_) | (refine s_gx1 rfl ?_) | (refine s_gxn rfl ?_) | (refine s_gs rfl ?_))) | ((with_reducible refine k_mv ?_); (refine s_mv rfl ?_)) | ((with_reducible refine k_extract ?_); (refine s_extract rfl rfl ?_)) | ((with_reducible refine k_len ?_); (first | (refine s_len rfl rfl ?_) | ((with_reducible apply s_len); (· rfl); (· exact SlOwn.len (by assumption))) | ((with_reducible apply s_len); (· rfl); (· assumption)))) | ((with_reducible refine k_pick ?_); (first | (refine s_pickT rfl rfl ?_) | (refine s_pickF rfl rfl ?_))) | ((with_reducible refine k_neq ?_); (first | (refine s_neq rfl rfl ?_) | (refine s_strNe rfl rfl ?_))) | ((with_reducible refine k_lss ?_); (refine s_lss rfl rfl ?_)) | ((with_reducible refine k_geq ?_); (refine s_geq rfl rfl ?_)) | ((with_reducible refine k_callF ?_); (first | ((with_reducible apply s_call1); (· rfl)) | ((with_reducible apply s_calln); (· rfl)))) | ((with_reducible refine k_con ?_); (first | (refine after_ok hB hL Ho.id hc ?_; intro h2 k kF kC dO H hh) | (refine c2 H ?_; intro h3 d3 so3 hh3) | (refine con_so so3 bDs_kl bDs_mp (fun h4 => c3 h4 ?_); intro h5 d5 so5 le5 in5))) | ((with_reducible refine k_br ?_); (first | (with_reducible first | refine Br_dec ?_ | refine Br_not ?_ | refine Br_eqF ?_ | refine Br_and ?_ | refine Br_or ?_ | refine Br_neg ?_ | refine Br_band ?_ | refine Br_bor ?_ | refine Br_beq ?_) | (refine Br_t (by first | with_reducible rfl | omega | assumption | rfl) ?_) | (refine Br_f (by first | omega | assumption | decide) ?_) | (with_reducible apply Br_sb <;> intro hbr <;> (first | subst hbr | simp only [hbr] | skip)) | (with_reducible apply Br_s <;> intro hbr))))
      all_goals first | (exfalso; omega) | exact con_end rfl (R2.of (so5.mono (fun _ _ => trivial) fun _ _ h => h))
  · have c1 := fun {h : Heap} {Q : D → Heap → Prop} q => after_no (h := h) (Q := Q) hB hL Ho.id hc q
    generalize chkR B l = e at *
    repeat' (first | (with_reducible first | refine W_seq ?_ | refine then_n ?_ | refine W_skip ?_ | refine W_ret ?_ | refine then_r ?_) | ((with_reducible refine s_reg ?_); intro K hK) | ((with_reducible refine k_nil ?_); (with_reducible apply s_nil hK); (· exact nmX); clear hK; clear K) | ((with_reducible refine k_cond ?_); (first | ((with_reducible apply s_condT); (· rfl); (· exact nmX)) | ((with_reducible apply s_condF); (· rfl); (· exact nmX)) | ((with_reducible apply s_condS); (· rfl); (· exact nmX); (· exact nmX)))) | ((with_reducible refine k_mv ?_); (refine s_mv rfl ?_)) | ((with_reducible refine k_extract ?_); (refine s_extract rfl rfl ?_)) | ((with_reducible refine k_neq ?_); (first | (refine s_neq rfl rfl ?_) | (refine s_strNe rfl rfl ?_))) | ((with_reducible refine k_callF ?_); (first | ((with_reducible apply s_call1); (· rfl)) | ((with_reducible apply s_calln); (· rfl)))) | ((with_reducible refine k_con ?_); (first | (refine c1 ?_; intro h2 hh))) | ((with_reducible refine k_br ?_); (first | (with_reducible first | refine Br_dec ?_ | refine Br_not ?_ | refine Br_eqF ?_ | refine Br_and ?_ | refine Br_or ?_ | refine Br_neg ?_ | refine Br_band ?_ | refine Br_bor ?_ | refine Br_beq ?_) | (refine Br_t (by first | with_reducible rfl | omega | assumption | rfl) ?_) | (refine Br_f (by first | omega | assumption | decide) ?_) | (with_reducible apply Br_sb <;> intro hbr <;> (first | subst hbr | simp only [hbr] | skip)) | (with_reducible apply Br_s <;> intro hbr))))
    all_goals first | (exfalso; omega) | exact con_end rfl (R2.of S2.nil)
theorem con_R2 {f : Nat} {ds ds1 : List D} {h : Heap} {Q : D → Heap → Prop} (hc : Con Try.prog f ds1 (fun _ => none) R2) (hr : All2 (Rd h) ds ds1) (hQ : ∀ h' d e, S2 (fun k => h k = none) h' d → (∀ k c, h k = some c → h' k = some c) → Q (.tup [d, .int .i64 e]) h') : Con Try.prog f ds h Q := by
  refine con_iso2 hr (hc.mono ?_)
  rintro r h1 ⟨d, e, rfl, H⟩
  refine ⟨fun x hx => ?_, fun h' h2 h3 => hQ h' d e (H.cut h2) h3⟩
  simp only [List.mem_cons, List.not_mem_nil, or_false] at hx
  rcases hx with rfl | rfl
  · exact H.kd
  · exact .inl rfl
theorem con_R3 {f : Nat} {ds ds1 : List D} {h : Heap} {Q : D → Heap → Prop} (hc : Con Try.prog f ds1 (fun _ => none) R3) (hr : All2 (Rd h) ds ds1) (hQ : ∀ h' d e, S3 (fun k => h k = none) h' d → (∀ k c, h k = some c → h' k = some c) → Q (.tup [d, .int .i64 e]) h') : Con Try.prog f ds h Q := by
  refine con_iso2 hr (hc.mono ?_)
  rintro r h1 ⟨d, e, rfl, H⟩
  refine ⟨fun x hx => ?_, fun h' h2 h3 => hQ h' d e (H.cut h2) h3⟩
  simp only [List.mem_cons, List.not_mem_nil, or_false] at hx
  rcases hx with rfl | rfl
  · exact H.kd
  · exact .inl rfl
end Go.Proofs.Ythblalidmmbcoaa
end
section
/- min -/
/- Images, handed out as slices of their own. -/
set_option linter.unusedSimpArgs false
set_option linter.unusedVariables false
namespace Go.Proofs.Ythblalidmmbcoaa
open Go.AM Classical
set_option maxRecDepth 100000
set_option maxHeartbeats 4000000
theorem S1.keep {K : Nat → Prop} {h h' : Heap} {x : D} (H : S1 K h x) (hh : ∀ k c, K k → h k = some c → h' k = some c) : S1 K h' x := by
  obtain ⟨k, xs, h1, h2, h3, h4⟩ := H; exact ⟨k, xs, h1, h2, hh _ _ h1 h3, h4⟩
theorem so_kept {K : Nat → Prop} {h h' : Heap} {x : D} {cs : List D} {n : Nat} (ho : SlOwn h x 1 cs n) (hk : ∀ k sz off m, x = .sl k sz off m → K k) (hh : ∀ k c, K k → h k = some c → h' k = some c) : SlOwn h' x 1 cs n := by
  obtain ⟨h1, h2 | ⟨k, rfl, h3⟩⟩ := ho
  · exact ⟨h1, .inl h2⟩
  · exact ⟨h1, .inr ⟨k, rfl, hh _ _ (hk k _ _ _ rfl) h3⟩⟩
theorem S2.keep {K : Nat → Prop} {h h' : Heap} {x : D} (H : S2 K h x) (hh : ∀ k c, K k → h k = some c → h' k = some c) : S2 K h' x := by
  obtain ⟨cs, n, h1, h0, h2, h3⟩ := H; exact ⟨cs, n, so_kept h1 h2 hh, h0, h2, fun x hx => (h3 x hx).keep hh⟩
theorem S2.live {K : Nat → Prop} {h : Heap} {x : D} (H : S2 K h x) : S2 (fun k => K k ∧ h k ≠ none) h x := by
  obtain ⟨cs, n, h1, h0, h2, h3⟩ := H
  refine ⟨cs, n, h1, h0, fun k sz off m e => ⟨h2 k sz off m e, ?_⟩, fun x hx => ?_⟩
  · obtain ⟨-, ⟨-, h4 | h4⟩ | ⟨j, h4, h5⟩⟩ := h1
    · rw [h4] at e; cases e
    · rw [h4] at e; cases e
    · rw [h4] at e; injection e with e; rw [← e, h5]; simp
  · obtain ⟨k, xs, a1, a2, a3, a4⟩ := h3 x hx
    exact ⟨k, xs, ⟨a1, by rw [a3]; simp⟩, a2, a3, a4⟩
structure ImK (h : Heap) (kA kS kO kI kF : Nat) (C : List (List Bs)) (im : List Bs) (dO dI : D) (K : Nat → Prop) (N : Nat) : Prop where
  a : h kA = some [.sl kS 1 0 C.length]
  s : h kS = some (C.map bsD)
  o : h kO = some [dO]
  so : ∃ cs, SlOwn h dO 1 cs N ∧ ∀ x ∈ cs, S2 K h x
  i : h kI = some [dI]
  pi : SlPre h dI 1 (im.map bD) im.length
  f : h kF = some [.fn 42 [] [.pt kA 0, .pt kO 0, .pt kI 0, .pt kF 0]]
  ne : (kA ≠ kO ∧ kA ≠ kI) ∧ (kS ≠ kO ∧ kS ≠ kI) ∧ kO ≠ kI ∧ kF ≠ kO ∧ kF ≠ kI
  fO : Fr dO kA ∧ Fr dO kS ∧ Fr dO kO ∧ Fr dO kI ∧ Fr dO kF
  fI : Fr dI kA ∧ Fr dI kS ∧ Fr dI kO ∧ Fr dI kI ∧ Fr dI kF
  dis : Dis dO dI
  kk : ∀ k, K k → h k ≠ none ∧ k ≠ kO ∧ k ≠ kI ∧ Fr dO k ∧ Fr dI k
theorem ImK.mono {h h2 : Heap} {kA kS kO kI kF N : Nat} {C : List (List Bs)} {im : List Bs} {dO dI : D} {K : Nat → Prop} (H : ImK h kA kS kO kI kF C im dO dI K N) (hh : ∀ j c, h j = some c → h2 j = some c) : ImK h2 kA kS kO kI kF C im dO dI K N where
  a := hh _ _ H.a
  s := hh _ _ H.s
  o := hh _ _ H.o
  so := by obtain ⟨cs, h1, h3⟩ := H.so; exact ⟨cs, slSub h1 hh, fun x hx => (h3 x hx).mono (fun _ h => h) hh⟩
  i := hh _ _ H.i
  pi := H.pi.mono fun j c hj _ => hh j c hj
  f := hh _ _ H.f
  ne := H.ne
  fO := H.fO
  fI := H.fI
  dis := H.dis
  kk := fun k hk => by
    obtain ⟨h1, h3⟩ := H.kk k hk
    refine ⟨fun h0 => ?_, h3⟩
    cases hc : h k with
    | none => exact h1 hc
    | some c => rw [hh k c hc] at h0; cases h0
theorem ImK.more {h h2 : Heap} {kA kS kO kI kF N : Nat} {C : List (List Bs)} {im : List Bs} {dO dI : D} {K : Nat → Prop} (H : ImK h kA kS kO kI kF C im dO dI K N) (hh : ∀ j c, h j = some c → h2 j = some c) :
    ImK h2 kA kS kO kI kF C im dO dI (fun k => K k ∨ (h k = none ∧ h2 k ≠ none)) N := by
  have H2 := H.mono hh
  refine { H2 with so := ?_, kk := ?_ }
  · obtain ⟨cs, h1, h3⟩ := H2.so; exact ⟨cs, h1, fun x hx => (h3 x hx).mono (fun _ h => .inl h) fun _ _ h => h⟩
  · rintro k (hk | ⟨hn, hl⟩)
    · exact H2.kk k hk
    · refine ⟨hl, (fun e => by rw [e, H.o] at hn; cases hn), (fun e => by rw [e, H.i] at hn; cases hn), ?_, ?_⟩
      · obtain ⟨cs, ⟨-, ⟨-, h4 | h4⟩ | ⟨j, h4, h5⟩⟩, -⟩ := H.so
        · rw [h4]; exact Fr.nil
        · rw [h4]; intro _ _ _ e; cases e
        · rw [h4]; exact Fr.sl fun e => by rw [e, hn] at h5; cases h5
      · obtain ⟨-, ⟨-, h4 | h4⟩ | ⟨j, tl, t, h4, h5, -⟩⟩ := H.pi
        · rw [h4]; exact Fr.nil
        · rw [h4]; intro _ _ _ e; cases e
        · rw [h4]; exact Fr.sl fun e => by rw [e, hn] at h5; cases h5
theorem ImK.out {h h' : Heap} {kA kS kO kI kF ka N : Nat} {C : List (List Bs)} {im : List Bs} {dO dI d : D} {K : Nat → Prop} {cs : List D} (H : ImK h kA kS kO kI kF C im dO dI K N) (hcs : SlOwn h dO 1 cs N) (h2 : ∀ x ∈ cs, S2 K h x) (hd : S2 K h d) (hn : h ka = none) (hk : h' ka = some (cs ++ [d])) (hh : ∀ j c, h j = some c → Fr dO j → h' j = some c) :
    ImK (upd h' kO [.sl ka 1 0 (N + 1)]) kA kS kO kI kF C im (.sl ka 1 0 (N + 1)) dI K (N + 1) := by
  obtain ⟨⟨n1, n2⟩, ⟨n3, n4⟩, n5, n6, n7⟩ := H.ne
  obtain ⟨o1, o2, o3, o4, o5⟩ := H.fO
  have hka : ka ≠ kO := fun e => by rw [e, H.o] at hn; cases hn
  have hln : cs.length = N := by simpa using hcs.1
  have keep : ∀ k c, K k → h k = some c → upd h' kO [.sl ka 1 0 (N + 1)] k = some c := fun k c hk hc => by
    obtain ⟨q1, q2, q3, q4, q5⟩ := H.kk k hk
    rw [upd_ne q2]; exact hh k c hc q4
  refine ⟨?_, ?_, upd_self, ⟨cs ++ [d], SlOwn.sl (by rw [upd_ne hka, hk]) (by rw [List.length_append, hln, Nat.mul_one]; rfl), fun x hx => ?_⟩, ?_, ?_, ?_, H.ne, ⟨fr_new hn H.a, fr_new hn H.s, fr_new hn H.o, fr_new hn H.i, fr_new hn H.f⟩, H.fI, ?_, fun k hk => ?_⟩
  · rw [upd_ne n1]; exact hh _ _ H.a o1
  · rw [upd_ne n3]; exact hh _ _ H.s o2
  · rcases List.mem_append.1 hx with hx | hx
    · exact (h2 x hx).keep keep
    · rw [List.mem_singleton.1 hx]; exact hd.keep keep
  · rw [upd_ne n5.symm]; exact hh _ _ H.i o4
  · exact (H.pi.oth H.dis hh).upd' H.fI.2.2.1
  · rw [upd_ne n6]; exact hh _ _ H.f o5
  · intro j
    by_cases hj : ka = j
    · subst hj
      right
      intro sz off n hd
      obtain ⟨-, ⟨-, h0 | h0⟩ | ⟨k, tl, t, h0, hkc, -⟩⟩ := H.pi
      · rw [h0] at hd; cases hd
      · rw [h0] at hd; cases hd
      · rw [h0] at hd; injection hd with hd; subst hd; rw [hn] at hkc; cases hkc
    · exact .inl (Fr.sl hj)
  · obtain ⟨q1, q2, q3, q4, q5⟩ := H.kk k hk
    refine ⟨?_, q2, q3, ?_, q5⟩
    · cases hc : h k with
      | none => exact absurd hc q1
      | some c => rw [keep k c hk hc]; simp
    · exact Fr.sl fun e => q1 (e ▸ hn)
theorem ImK.put {h h' : Heap} {kA kS kO kI kF N : Nat} {C : List (List Bs)} {im : List Bs} {c : Bs} {dO dI da : D} {K : Nat → Prop} (H : ImK h kA kS kO kI kF C im dO dI K N) (hp : SlPre h' da 1 (im.map bD ++ [bD c]) (im.length + 1)) (hh : ∀ j c, h j = some c → Fr dI j → h' j = some c ∧ Fr da j) :
    ImK (upd h' kI [da]) kA kS kO kI kF C (im ++ [c]) dO da K N := by
  obtain ⟨⟨n1, n2⟩, ⟨n3, n4⟩, n5, n6, n7⟩ := H.ne
  obtain ⟨i1, i2, i3, i4, i5⟩ := H.fI
  obtain ⟨cs, hso, hx2⟩ := H.so
  have keep : ∀ k c, K k → h k = some c → upd h' kI [da] k = some c := fun k c hk hc => by
    obtain ⟨q1, q2, q3, q4, q5⟩ := H.kk k hk
    rw [upd_ne q3]; exact (hh k c hc q5).1
  refine ⟨?_, ?_, ?_, ⟨cs, ?_, fun x hx => (hx2 x hx).keep keep⟩, upd_self, ?_, ?_, H.ne, H.fO, ⟨(hh _ _ H.a i1).2, (hh _ _ H.s i2).2, (hh _ _ H.o i3).2, (hh _ _ H.i i4).2, (hh _ _ H.f i5).2⟩, ?_, fun k hk => ?_⟩
  · rw [upd_ne n2]; exact (hh _ _ H.a i1).1
  · rw [upd_ne n4]; exact (hh _ _ H.s i2).1
  · rw [upd_ne n5]; exact (hh _ _ H.o i3).1
  · exact (hso.oth H.dis.symm fun j c hj hf => (hh j c hj hf).1).upd' H.fO.2.2.2.1
  · rw [List.map_append, List.length_append, List.length_singleton]
    exact hp.upd' (hh _ _ H.i i4).2
  · rw [upd_ne n7]; exact (hh _ _ H.f i5).1
  · intro j
    by_cases hj : Fr dO j
    · exact .inl hj
    · right
      obtain ⟨-, ⟨-, h0⟩ | ⟨k, h0, hkc⟩⟩ := hso
      · rcases h0 with h0 | h0 <;> exact absurd (fun sz off n hd => by rw [h0] at hd; cases hd) hj
      · have hjk : k = j := Classical.byContradiction fun h => hj (h0 ▸ Fr.sl h)
        subst hjk
        rcases H.dis k with h1 | h1
        · exact absurd h1 hj
        · exact (hh k _ hkc h1).2
  · obtain ⟨q1, q2, q3, q4, q5⟩ := H.kk k hk
    cases hc : h k with
    | none => exact absurd hc q1
    | some c => exact ⟨by rw [keep k c hk hc]; simp, q2, q3, q4, (hh k c hc q5).2⟩
theorem ImK.cut {h : Heap} {kA kS kO kI kF N : Nat} {C : List (List Bs)} {im : List Bs} {c : Bs} {dO dI : D} {K : Nat → Prop} (H : ImK h kA kS kO kI kF C (im ++ [c]) dO dI K N) : ∃ k, dI = .sl k 1 0 (im.length + 1) ∧
    ImK (upd h kI [.sl k 1 0 im.length]) kA kS kO kI kF C im dO (.sl k 1 0 im.length) K N ∧ ∃ cs, h k = some cs ∧ im.length + 1 ≤ cs.length := by
  obtain ⟨⟨n1, n2⟩, ⟨n3, n4⟩, n5, n6, n7⟩ := H.ne
  obtain ⟨i1, i2, i3, i4, i5⟩ := H.fI
  obtain ⟨cs, hso, hx2⟩ := H.so
  have hp := H.pi
  rw [List.map_append, List.length_append, List.length_singleton] at hp
  obtain ⟨k, tl, t, rfl, hk, ht⟩ := hp.pos (by omega)
  have hf : ∀ {j}, Fr (.sl k 1 0 ((im ++ [c]).length)) j → Fr (.sl k 1 0 im.length) j := fun {j} hj => Fr.sl fun e => hj 1 0 _ (by rw [e])
  rw [show im.length + 1 = (im ++ [c]).length by simp] at *
  have keep : ∀ j c, K j → h j = some c → upd h kI [.sl k 1 0 im.length] j = some c := fun j c hj hc => by
    obtain ⟨q1, q2, q3, q4, q5⟩ := H.kk j hj
    rw [upd_ne q3]; exact hc
  refine ⟨k, rfl, ⟨?_, ?_, ?_, ⟨cs, hso.upd' H.fO.2.2.2.1, fun x hx => (hx2 x hx).keep keep⟩, upd_self, ?_, ?_, H.ne, H.fO, ⟨hf i1, hf i2, hf i3, hf i4, hf i5⟩, fun j => (H.dis j).imp id hf, fun j hj => ?_⟩, _, hk, ?_⟩
  · rw [upd_ne n2]; exact H.a
  · rw [upd_ne n4]; exact H.s
  · rw [upd_ne n5]; exact H.o
  · refine SlPre.upd' ⟨by simp, .inr ⟨k, bD c :: tl, t + 1, rfl, ?_, by simp [ht]⟩⟩ (hf i4)
    rw [hk]; simp
  · rw [upd_ne n7]; exact H.f
  · obtain ⟨q1, q2, q3, q4, q5⟩ := H.kk j hj
    refine ⟨?_, q2, q3, q4, hf q5⟩
    cases hc : h j with
    | none => exact absurd hc q1
    | some c => rw [keep j c hj hc]; simp
  · simp
theorem S2.form {K : Nat → Prop} {h : Heap} {x : D} (H : S2 K h x) : x = .nil ∨ x = .emp ∨ ∃ k n, x = .sl k 1 0 n := by
  obtain ⟨cs, n, ⟨-, ⟨-, h1 | h1⟩ | ⟨k, h1, -⟩⟩, -⟩ := H
  · exact .inl h1
  · exact .inr (.inl h1)
  · exact .inr (.inr ⟨k, n, h1⟩)
theorem copies_at {im : List Bs} (hB : im.length ≤ 1000000) (hb : ∀ b ∈ im, 0 < b.length ∧ b.length ≤ 1000000) (hy : ∀ b ∈ im, byB b) {h : Heap} {dI : D} (hr : Rd h dI (bsD im)) {Q : D → Heap → Prop} (hQ : ∀ h2 d, S2 (fun k => h k = none) h2 d → (∀ j c, h j = some c → h2 j = some c) → Q d h2) : Con Try.prog 43 [dI] h Q := by
  refine con_iso2 (All2.cons hr All2.nil) (copies_kon im hB hb hy _ fun h1 d s2 hl hs => ?_)
  refine ⟨?_, fun h' a1 a2 => hQ h' d (s2.cut a1) a2⟩
  have hk := s2.kd
  obtain ⟨cs, n, ⟨-, ⟨-, rfl | rfl⟩ | ⟨k, rfl, hk2⟩⟩, -⟩ := s2
  · exact hk
  · exact hk
  · exact hk
theorem choose_kon {C : List (List Bs)} (hCl : C.length ≤ 1000000) (hC1 : ∀ c ∈ C, c.length ≤ 1000000 ∧ ∀ b ∈ c, (0 < b.length ∧ b.length ≤ 1000000) ∧ byB b) {kA kS kO kI kF : Nat} :
    ∀ (r block : Nat) (im : List Bs) (N : Nat) (dO dI : D) (K : Nat → Prop) (h : Heap) (Q : D → Heap → Prop), C.length = block + r → im.length = block → (∀ b ∈ im, (0 < b.length ∧ b.length ≤ 1000000) ∧ byB b) → N + preP (C.drop block) ≤ 64 → ImK h kA kS kO kI kF C im dO dI K N →
    (∀ h2 dO2 dI2 K2, ImK h2 kA kS kO kI kF C im dO2 dI2 K2 (N + preP (C.drop block)) → Q (.tup []) h2) →
    Con Try.prog 42 [.int .i64 block, .pt kA 0, .pt kO 0, .pt kI 0, .pt kF 0] h Q
  | 0, block, im, N, dO, dI, K, h, Q, hb, him, hib, hn, H, hQ => by
    refine con_of_W mixed Try.func42 A42k A42c (by simp [A42]) ?_
    simp only [A42, argEnv]
    have hd : C.drop block = [] := List.drop_eq_nil_of_le (by omega)
    rw [hd] at hQ hn
    have e1 : preP [] = 1 := rfl
    rw [e1] at hQ hn
    have ha := H.a
    have hs := H.s
    have ho := H.o
    have hii := H.i
    obtain ⟨cs, hso, hx2⟩ := H.so
    have c1 := fun {Q : D → Heap → Prop} q => copies_at (Q := Q) (im := im) (by omega) (fun b hb => (hib b hb).1) (fun b hb => (hib b hb).2) (Rd_pre H.pi (Rd_bD _)) q
    have hle : C.length = block := by omega
    repeat' (first | (with_reducible first | refine W_seq ?_ | refine then_n ?_ | refine W_block ?_ | refine blk_n ?_ | refine blk_r ?_ | refine blk_e ?_ | refine W_skip ?_ | refine W_ret ?_ | refine then_r ?_ | refine W_exit ?_ | refine then_e ?_) | ((with_reducible refine s_reg ?_); intro K hK) | ((with_reducible refine k_nil ?_); (with_reducible apply s_nil hK); (· exact nmX); clear hK; clear K) | ((with_reducible refine k_cond ?_); (first | ((with_reducible apply s_condT); (· rfl); (· exact nmX)) | ((with_reducible apply s_condF); (· rfl); (· exact nmX)) | ((with_reducible apply s_condS); (· rfl); (· exact nmX); (· exact nmX)))) | ((with_reducible refine k_mv ?_); (refine s_mv rfl ?_)) | ((with_reducible refine k_len ?_); (first | (refine s_len rfl rfl ?_) | ((with_reducible apply s_len); (· rfl); (· exact SlOwn.len (by assumption))) | ((with_reducible apply s_len); (· rfl); (· assumption)))) | ((with_reducible refine k_eql ?_); (first | (refine s_eql rfl rfl ?_) | (refine s_strEq rfl rfl ?_))) | ((with_reducible refine k_load ?_); (first | ((with_reducible apply s_loadV); (· rfl)) | ((with_reducible apply s_loadP); (· rfl); (· (exact hpX))))) | ((with_reducible refine k_buildS (dst := some 15) ?_); ((with_reducible apply s_buildS); (· rfl); (· (exact ⟨rfl, by decide⟩)); (· (first | (simp only [fillB, rep, splice, List.reduceReplicate, List.flatten_cons, List.flatten_nil, List.cons_append, List.nil_append, List.append_nil, List.length_cons, List.length_nil, Nat.reduceAdd, Nat.reduceMul, Nat.reduceLeDiff, Nat.reduceEqDiff, eq_self, Nat.le_refl, Nat.zero_add, and_self, and_true, true_and, if_true, List.take_zero, List.take_succ_cons, List.drop_zero, List.drop_succ_cons, List.drop_nil, List.take_nil]; rfl) | rfl)); intro k15 hk15; (try simp only [upd_none] at hk15))) | ((with_reducible refine k_append (dst := some 16) ?_); ((with_reducible apply s_app2); (· rfl); (· rfl); (· first | assumption | exact SlOwn.nil | exact SlOwn.emp | ((repeat' (first | assumption | (with_reducible apply SlOwn.upd) | (simp only [upd_none]; assumption))); done)); (· rfl); (· first | exact srcD_sl upd_self rfl | (exact srcD_vs (by first | assumption | simp)) | ((apply srcD_sl); (· (exact hpX)); (· rfl))); (· exact ⟨by first | rfl | assumption | simp, by decide, by decide⟩); (· first | (rw [room_n]; omega) | skip); intro ka16 ha16 hn16 hk16 hoth16)) | ((with_reducible refine k_callF ?_); (first | ((with_reducible apply s_call1); (· rfl)) | ((with_reducible apply s_calln); (· rfl)))) | ((with_reducible refine k_con ?_); (first | (refine c1 ?_; intro h2 d2 s2 sub2; have ho2 := sub2 _ _ ho; have so2 := slSub hso sub2; rcases s2.form with e2 | e2 | ⟨ki, ni, e2⟩ <;> subst e2))) | ((with_reducible refine k_dreg ?_); refine s_dregA (ops := A42d2) (n := 6) (rm := [0, 1, 2, 3, 4, 5]) rfl rfl ?_; intro K hK) | (with_reducible refine o_step ?_) | (with_reducible exact o_nil) | (with_reducible refine o_node ?_) | (refine o_skip rfl ?_) | ((with_reducible apply o_cons); (· rfl); (· (simp only [List.filter_cons, List.filter_nil, Nat.reduceBEq, beq_self_eq_true, Bool.not_true, Bool.not_false, Bool.false_eq_true, if_true, if_false, ↓reduceIte]; rfl))) | ((with_reducible refine k_br ?_); (first | (with_reducible first | refine Br_dec ?_ | refine Br_not ?_ | refine Br_eqF ?_ | refine Br_and ?_ | refine Br_or ?_ | refine Br_neg ?_ | refine Br_band ?_ | refine Br_bor ?_ | refine Br_beq ?_) | (refine Br_t (by first | with_reducible rfl | omega | assumption | rfl) ?_) | (refine Br_f (by first | omega | assumption | decide) ?_) | (with_reducible apply Br_sb <;> intro hbr <;> (first | subst hbr | simp only [hbr] | skip)) | (with_reducible apply Br_s <;> intro hbr))) | ((first | (with_reducible apply q_eqL) | (with_reducible apply q_eqO)); (first | exact liL | exact liO)))
    all_goals first | (exfalso; omega) | skip
    all_goals have q1 := hoth16 kO _ (upd_sub hk15 _ _ ho2) H.fO.2.2.1
    all_goals
      repeat' (first | (with_reducible first | refine W_seq ?_ | refine then_n ?_ | refine W_block ?_ | refine blk_n ?_ | refine blk_r ?_ | refine blk_e ?_ | refine W_skip ?_ | refine W_ret ?_ | refine then_r ?_ | refine W_exit ?_ | refine then_e ?_) | ((with_reducible refine k_store ?_); ((with_reducible apply s_store0); (· rfl); (· rfl); (· rfl); (· (exact hpX)); (· (exact ⟨rfl, by first | exact Nat.le_of_ble_eq_true rfl | omega | (simp; omega)⟩)); (· ((first | exact liL | exact liO))); (· (first | exact upd_upd | rfl)))) | (with_reducible refine o_step ?_) | ((with_reducible apply o_end hK); (· exact nmX); clear hK; clear K))
    all_goals
      have H2 := fun x => (H.more sub2).mono (upd_sub (x := x) hk15)
      exact ⟨trivial, _, rfl, hQ _ _ _ _ (ImK.out (H2 _) (slSub so2 (upd_sub hk15)) (fun x hx => (hx2 x hx).mono (fun _ h => .inl h) fun j c hj => upd_sub hk15 j c (sub2 j c hj)) (s2.live.mono (fun k hk => .inr hk) (upd_sub hk15)) hn16 hk16 hoth16)⟩
  | r + 1, block, im, N, dO, dI, K, h, Q, hb, him, hib, hn, H, hQ => by
    refine con_of_W mixed Try.func42 A42k A42c (by simp [A42]) ?_
    simp only [A42, argEnv]
    have hlt : block < C.length := by omega
    have hd : C.drop block = C[block] :: C.drop (block + 1) := List.drop_eq_getElem_cons hlt
    have ha := H.a
    have hs := H.s
    have ho := H.o
    have hii := H.i
    have g1 : (C.map bsD)[block]? = some (bsD C[block]) := by rw [List.getElem?_map, List.getElem?_eq_getElem hlt]; rfl
    obtain ⟨hc1, hc2⟩ := hC1 C[block] (List.getElem_mem hlt)
    rw [hd] at hQ hn
    have ih := choose_kon hCl hC1 (kA := kA) (kS := kS) (kO := kO) (kI := kI) (kF := kF) r (block + 1)
    generalize C[block] = c at *
    have hal := bs_len c
    repeat' (first | (with_reducible first | refine W_seq ?_ | refine then_n ?_ | refine W_block ?_ | refine blk_n ?_ | refine blk_r ?_ | refine blk_e ?_ | refine W_skip ?_ | refine W_ret ?_ | refine then_r ?_ | refine W_exit ?_ | refine then_e ?_) | ((with_reducible refine s_reg ?_); intro K hK) | ((with_reducible refine k_nil ?_); (with_reducible apply s_nil hK); (· exact nmX); clear hK; clear K) | ((with_reducible refine k_cond ?_); (first | ((with_reducible apply s_condT); (· rfl); (· exact nmX)) | ((with_reducible apply s_condF); (· rfl); (· exact nmX)) | ((with_reducible apply s_condS); (· rfl); (· exact nmX); (· exact nmX)))) | ((with_reducible refine k_mv ?_); (refine s_mv rfl ?_)) | ((with_reducible refine k_len ?_); (first | (refine s_len rfl rfl ?_) | ((with_reducible apply s_len); (· rfl); (· exact SlOwn.len (by assumption))) | ((with_reducible apply s_len); (· rfl); (· assumption)))) | ((with_reducible refine k_eql ?_); (first | (refine s_eql rfl rfl ?_) | (refine s_strEq rfl rfl ?_))) | ((with_reducible refine k_iaddr ?_); (first | ((with_reducible apply s_iaddrV); (· rfl); (· rfl); (· (first | omega | exact ⟨rfl, by omega⟩ | skip))) | ((with_reducible apply s_iaddrO); (· rfl); (· rfl); (· (first | omega | exact ⟨rfl, by omega⟩ | skip)); (· (exact hpX))) | ((with_reducible apply s_iaddrSO); (· rfl); (· assumption); (· rfl); (· (first | omega | exact ⟨rfl, by omega⟩ | skip)); (· (first | (simp (disch := omega) only [w64, wu8, wu16, wu32, wu64, tm_nn, td_nn, fd_nn, Int.reduceAdd, Int.reduceSub, Int.reduceMul, Int.reduceDiv, Int.reduceMod, Int.reduceNeg, Int.reduceToNat, Int.toNat_natCast, Int.toNat_zero, Int.zero_add, Int.add_zero, Int.one_mul, Int.reducePow, Nat.mul_one, Nat.zero_add, Nat.add_zero, Nat.zero_mul, Nat.reduceAdd, Nat.reduceMul, Nat.reduceSub, Nat.min_eq_left, IntKind.bits, Nat.sub_zero, g1]; try rfl; done) | rfl)); intro ks hks))) | ((with_reducible refine k_load ?_); (first | ((with_reducible apply s_loadV); (· rfl)) | ((with_reducible apply s_loadP); (· rfl); (· (exact hpX))))) | ((with_reducible refine k_br ?_); (first | (with_reducible first | refine Br_dec ?_ | refine Br_not ?_ | refine Br_eqF ?_ | refine Br_and ?_ | refine Br_or ?_ | refine Br_neg ?_ | refine Br_band ?_ | refine Br_bor ?_ | refine Br_beq ?_) | (refine Br_t (by first | with_reducible rfl | omega | assumption | rfl) ?_) | (refine Br_f (by first | omega | assumption | decide) ?_) | (with_reducible apply Br_sb <;> intro hbr <;> (first | subst hbr | simp only [hbr] | skip)) | (with_reducible apply Br_s <;> intro hbr))) | ((first | (with_reducible apply q_eqI) | (with_reducible apply q_eqN)); (first | (simp (disch := omega) only [w64, wu8, wu16, wu32, wu64, tm_nn, td_nn, fd_nn, Int.reduceAdd, Int.reduceSub, Int.reduceMul, Int.reduceDiv, Int.reduceMod, Int.reduceNeg, Int.reduceToNat, Int.toNat_natCast, Int.toNat_zero, Int.zero_add, Int.add_zero, Int.one_mul, Int.reducePow, Nat.mul_one, Nat.zero_add, Nat.add_zero, Nat.zero_mul, Nat.reduceAdd, Nat.reduceMul, Nat.reduceSub, Nat.min_eq_left, IntKind.bits, Nat.sub_zero, g1]; try rfl; done) | rfl)) | ((first | (with_reducible apply q_eqL) | (with_reducible apply q_eqO)); (first | (simp (disch := omega) only [upd_self, upd_ne, upd_upd, rep, splice, List.take_succ_cons, List.take_zero, List.drop_succ_cons, List.drop_zero, List.cons_append, List.nil_append, List.append_nil, List.length_cons, List.length_nil, List.reduceReplicate, List.flatten_cons, List.flatten_nil, Nat.reduceAdd, Nat.reduceMul, Nat.reduceSub, Nat.zero_add, Nat.add_zero, List.getElem?_cons_zero, List.getElem?_cons_succ, g1]; try rfl; done) | rfl)))
    all_goals first | (exfalso; omega) | skip
    have e0 : ((block + 1 : Nat) : Int) = (block : Int) + 1 := by omega
    simp only [e0] at ih
    have hpp : preP (c :: C.drop (block + 1)) = c.length * preP (C.drop (block + 1)) := rfl
    rw [hpp] at hn hQ
    generalize preP (C.drop (block + 1)) = pr at *
    refine W_for c.length (fun i st => ∃ h', st = ⟨[(0, .int .i64 block), (3, .pt kI 0), (4, .pt kF 0), (20, bsD c), (21, .int .i64 c.length), (22, .int .i64 i)], h'⟩ ∧ ∃ dO2 dI2 K2, ImK h' kA kS kO kI kF C im dO2 dI2 K2 (N + i * pr)) ⟨_, rfl, dO, dI, K, by simpa using H⟩ ?_ ?_
    · rintro i e' h' hi ⟨h1, he, dO2, dI2, K2, H2⟩
      cases he
      have g2 := bsg hi
      have hx := hc2 c[i] (List.getElem_mem hi)
      have hO2 : N + i * pr + pr ≤ 64 := by
        have : (i + 1) * pr ≤ c.length * pr := Nat.mul_le_mul_right _ (by omega)
        rw [Nat.add_mul] at this
        omega
      rw [show N + (i + 1) * pr = N + i * pr + pr by rw [Nat.add_mul]; omega]
      generalize N + i * pr = N2 at *
      generalize c[i] = x at *
      have hi2 := H2.i
      have hf2 := H2.f
      have hp2 := H2.pi
      repeat' (first | (with_reducible first | refine W_seq ?_ | refine then_n ?_ | refine W_block ?_ | refine blk_n ?_ | refine blk_r ?_ | refine blk_e ?_ | refine W_skip ?_ | refine W_ret ?_ | refine then_r ?_ | refine W_exit ?_ | refine then_e ?_) | ((with_reducible refine s_reg ?_); intro K hK) | ((with_reducible refine k_nil ?_); (with_reducible apply s_nil hK); (· exact nmX); clear hK; clear K) | ((with_reducible refine k_cond ?_); (first | ((with_reducible apply s_condT); (· rfl); (· exact nmX)) | ((with_reducible apply s_condF); (· rfl); (· exact nmX)) | ((with_reducible apply s_condS); (· rfl); (· exact nmX); (· exact nmX)))) | ((with_reducible refine k_mv ?_); (refine s_mv rfl ?_)) | ((with_reducible refine k_lss ?_); (refine s_lss rfl rfl ?_)) | ((with_reducible refine k_iaddr ?_); (first | ((with_reducible apply s_iaddrV); (· rfl); (· rfl); (· (first | omega | exact ⟨rfl, by omega⟩ | skip))) | ((with_reducible apply s_iaddrO); (· rfl); (· rfl); (· (first | omega | exact ⟨rfl, by omega⟩ | skip)); (· (exact hpX))) | ((with_reducible apply s_iaddrSO); (· rfl); (· assumption); (· rfl); (· (first | omega | exact ⟨rfl, by omega⟩ | skip)); (· (first | (simp (disch := omega) only [w64, wu8, wu16, wu32, wu64, tm_nn, td_nn, fd_nn, Int.reduceAdd, Int.reduceSub, Int.reduceMul, Int.reduceDiv, Int.reduceMod, Int.reduceNeg, Int.reduceToNat, Int.toNat_natCast, Int.toNat_zero, Int.zero_add, Int.add_zero, Int.one_mul, Int.reducePow, Nat.mul_one, Nat.zero_add, Nat.add_zero, Nat.zero_mul, Nat.reduceAdd, Nat.reduceMul, Nat.reduceSub, Nat.min_eq_left, IntKind.bits, Nat.sub_zero, g2]; try rfl; done) | rfl)); intro ks hks))) | ((with_reducible refine k_load ?_); (first | ((with_reducible apply s_loadV); (· rfl)) | ((with_reducible apply s_loadP); (· rfl); (· (exact hpX))))) | ((with_reducible refine k_buildS (dst := some 28) ?_); ((with_reducible apply s_buildS); (· rfl); (· (exact ⟨rfl, by decide⟩)); (· (first | (simp only [fillB, rep, splice, List.reduceReplicate, List.flatten_cons, List.flatten_nil, List.cons_append, List.nil_append, List.append_nil, List.length_cons, List.length_nil, Nat.reduceAdd, Nat.reduceMul, Nat.reduceLeDiff, Nat.reduceEqDiff, eq_self, Nat.le_refl, Nat.zero_add, and_self, and_true, true_and, if_true, List.take_zero, List.take_succ_cons, List.drop_zero, List.drop_succ_cons, List.drop_nil, List.take_nil]; rfl) | rfl)); intro k28 hk28; (try simp only [upd_none] at hk28))) | ((with_reducible refine k_br ?_); (first | (with_reducible first | refine Br_dec ?_ | refine Br_not ?_ | refine Br_eqF ?_ | refine Br_and ?_ | refine Br_or ?_ | refine Br_neg ?_ | refine Br_band ?_ | refine Br_bor ?_ | refine Br_beq ?_) | (refine Br_t (by first | with_reducible rfl | omega | assumption | rfl) ?_) | (refine Br_f (by first | omega | assumption | decide) ?_) | (with_reducible apply Br_sb <;> intro hbr <;> (first | subst hbr | simp only [hbr] | skip)) | (with_reducible apply Br_s <;> intro hbr))) | ((first | (with_reducible apply q_eqI) | (with_reducible apply q_eqN)); (first | (simp (disch := omega) only [w64, wu8, wu16, wu32, wu64, tm_nn, td_nn, fd_nn, Int.reduceAdd, Int.reduceSub, Int.reduceMul, Int.reduceDiv, Int.reduceMod, Int.reduceNeg, Int.reduceToNat, Int.toNat_natCast, Int.toNat_zero, Int.zero_add, Int.add_zero, Int.one_mul, Int.reducePow, Nat.mul_one, Nat.zero_add, Nat.add_zero, Nat.zero_mul, Nat.reduceAdd, Nat.reduceMul, Nat.reduceSub, Nat.min_eq_left, IntKind.bits, Nat.sub_zero, g2]; try rfl; done) | rfl)) | ((first | (with_reducible apply q_eqL) | (with_reducible apply q_eqO)); (first | (simp (disch := omega) only [upd_self, upd_ne, upd_upd, rep, splice, List.take_succ_cons, List.take_zero, List.drop_succ_cons, List.drop_zero, List.cons_append, List.nil_append, List.append_nil, List.length_cons, List.length_nil, List.reduceReplicate, List.flatten_cons, List.flatten_nil, Nat.reduceAdd, Nat.reduceMul, Nat.reduceSub, Nat.zero_add, Nat.add_zero, List.getElem?_cons_zero, List.getElem?_cons_succ, g2]; try rfl; done) | rfl)))
      all_goals first | (exfalso; omega) | skip
      refine s_appP rfl rfl (hp2.mono fun j c hj _ => upd_sub hk28 j c hj) rfl (srcD_sl upd_self rfl) ⟨rfl, by decide⟩ (by rw [room_n]; omega) fun da ha hso hoth => ?_
      have H3 := (H2.mono (upd_sub hk28)).put hso fun j c hj hf => hoth j c hj hf
      obtain ⟨ka, tl, t, rfl, hO, ht⟩ := hso.pos (by omega)
      have q1 := (hoth kI _ (upd_sub hk28 _ _ hi2) H2.fI.2.2.2.1).1
      repeat' (first | (with_reducible first | refine W_seq ?_ | refine then_n ?_ | refine W_block ?_ | refine blk_n ?_ | refine blk_r ?_ | refine blk_e ?_ | refine W_skip ?_ | refine W_ret ?_ | refine then_r ?_ | refine W_exit ?_ | refine then_e ?_) | ((with_reducible refine s_reg ?_); intro K hK) | ((with_reducible refine k_nil ?_); (with_reducible apply s_nil hK); (· exact nmX); clear hK; clear K) | ((with_reducible refine k_store ?_); ((with_reducible apply s_store0); (· rfl); (· rfl); (· rfl); (· (exact hpX)); (· (exact ⟨rfl, by first | exact Nat.le_of_ble_eq_true rfl | omega | (simp; omega)⟩)); (· ((first | exact liL | exact liO))); (· (first | exact upd_upd | rfl)))))
      all_goals first | (exfalso; omega) | skip
      have hf3 := H3.f
      have hi3 := H3.i
      have ih2 := fun {Q : D → Heap → Prop} q => ih (im ++ [x]) N2 dO2 _ K2 _ Q (by omega) (by simp; omega) (fun b hb => by rcases List.mem_append.1 hb with h1 | h1; exact hib b h1; rw [List.mem_singleton.1 h1]; exact hx) hO2 H3 q
      repeat' (first | (with_reducible first | refine W_seq ?_ | refine then_n ?_ | refine W_block ?_ | refine blk_n ?_ | refine blk_r ?_ | refine blk_e ?_ | refine W_skip ?_ | refine W_ret ?_ | refine then_r ?_ | refine W_exit ?_ | refine then_e ?_) | ((with_reducible refine s_reg ?_); intro K hK) | ((with_reducible refine k_nil ?_); (with_reducible apply s_nil hK); (· exact nmX); clear hK; clear K) | ((with_reducible refine k_mv ?_); (refine s_mv rfl ?_)) | ((with_reducible refine k_load ?_); (first | ((with_reducible apply s_loadV); (· rfl)) | ((with_reducible apply s_loadP); (· rfl); (· (exact hpX))))) | ((with_reducible refine k_add ?_); ((with_reducible apply s_add); (· rfl); (· rfl))) | ((with_reducible refine k_store ?_); ((with_reducible apply s_store0); (· rfl); (· rfl); (· rfl); (· (exact hpX)); (· (exact ⟨rfl, by first | exact Nat.le_of_ble_eq_true rfl | omega | (simp; omega)⟩)); (· ((first | exact liL | exact liO))); (· (first | exact upd_upd | rfl)))) | ((with_reducible refine k_slice ?_); (first | ((with_reducible apply s_sliceV); (· rfl); (· (first | exact b_none | (apply b_some; (· rfl); (· omega); (· (first | exact nuI | exact nuN))))); (· (first | exact b_none | (apply b_some; (· rfl); (· omega); (· (first | exact nuI | exact nuN))))); (· (first | omega | exact ⟨rfl, by omega⟩ | skip))) | ((with_reducible apply s_sliceO); (· rfl); (· (first | exact b_none | (apply b_some; (· rfl); (· omega); (· (first | exact nuI | exact nuN))))); (· (first | exact b_none | (apply b_some; (· rfl); (· omega); (· (first | exact nuI | exact nuN))))); (· (first | omega | exact ⟨rfl, by omega⟩ | skip))) | ((with_reducible apply s_sliceN); (· rfl); (· (first | exact b_none | (apply b_some; (· rfl); (· omega); (· (first | exact nuI | exact nuN))))); (· (first | exact b_none | (apply b_some; (· rfl); (· omega); (· (first | exact nuI | exact nuN))))); (· (first | omega | exact ⟨rfl, by omega⟩ | skip))))) | ((with_reducible refine k_callT ?_); ((with_reducible apply s_callt); (· rfl); (· rfl); (· rfl))) | ((with_reducible refine k_con ?_); (first | (refine ih2 ?_; intro h5 dO5 dI5 K5 H5; have hi5 := H5.i; obtain ⟨k5, e5, H6, cs5, hk5, hl5⟩ := H5.cut; subst e5))) | ((first | (with_reducible apply q_eqI) | (with_reducible apply q_eqN)); (first | exact nuI | exact nuN)) | ((first | (with_reducible apply q_eqL) | (with_reducible apply q_eqO)); (first | exact liL | exact liO)))
      all_goals first | (exfalso; omega) | skip
      rw [him] at H6
      exact ⟨_, rfl, _, _, _, H6⟩
    · rintro e' h' ⟨h1, he, dO2, dI2, K2, H2⟩
      cases he
      repeat' (first | (with_reducible first | refine W_seq ?_ | refine then_n ?_ | refine W_block ?_ | refine blk_n ?_ | refine blk_r ?_ | refine blk_e ?_ | refine W_skip ?_ | refine W_ret ?_ | refine then_r ?_ | refine W_exit ?_ | refine then_e ?_) | ((with_reducible refine s_reg ?_); intro K hK) | ((with_reducible refine k_nil ?_); (with_reducible apply s_nil hK); (· exact nmX); clear hK; clear K) | ((with_reducible refine k_cond ?_); (first | ((with_reducible apply s_condT); (· rfl); (· exact nmX)) | ((with_reducible apply s_condF); (· rfl); (· exact nmX)) | ((with_reducible apply s_condS); (· rfl); (· exact nmX); (· exact nmX)))) | ((with_reducible refine k_lss ?_); (refine s_lss rfl rfl ?_)) | ((with_reducible refine k_br ?_); (first | (with_reducible first | refine Br_dec ?_ | refine Br_not ?_ | refine Br_eqF ?_ | refine Br_and ?_ | refine Br_or ?_ | refine Br_neg ?_ | refine Br_band ?_ | refine Br_bor ?_ | refine Br_beq ?_) | (refine Br_t (by first | with_reducible rfl | omega | assumption | rfl) ?_) | (refine Br_f (by first | omega | assumption | decide) ?_) | (with_reducible apply Br_sb <;> intro hbr <;> (first | subst hbr | simp only [hbr] | skip)) | (with_reducible apply Br_s <;> intro hbr))))
      all_goals first | (exfalso; omega) | exact ⟨trivial, _, rfl, hQ _ _ _ _ H2⟩
theorem images_k {B : List Bs} {l : List Ev} (Ho : HOk B l) : Con Try.prog 18 [bsD B, evD l] (fun _ => none) R3 := by
  refine con_of_W mixed Try.func18 A18k A18c (by simp [A18]) ?_
  simp only [A18, argEnv]
  have hB := Ho.nB
  have hL := Ho.nL
  have hal := bs_len B
  have hlen := chL_len B l
  by_cases hc : chkR B l = 0
  · repeat' (first | (with_reducible first | refine W_seq ?_ | refine then_n ?_ | refine W_block ?_ | refine blk_n ?_ | refine blk_r ?_ | refine blk_e ?_ | refine W_skip ?_ | refine W_ret ?_ | refine then_r ?_ | refine W_exit ?_ | refine then_e ?_) | ((with_reducible refine s_reg ?_); intro K hK) | ((with_reducible refine k_nil ?_); (with_reducible apply s_nil hK); (· exact nmX); clear hK; clear K) | ((with_reducible refine k_cond ?_); (first | ((with_reducible apply s_condT); (· rfl); (· exact nmX)) | ((with_reducible apply s_condF); (· rfl); (· exact nmX)) | ((with_reducible apply s_condS); (· rfl); (· exact nmX); (· exact nmX)))) | ((with_reducible refine k_mv ?_); (refine s_mv rfl ?_)) | ((with_reducible refine k_extract ?_); (refine s_extract rfl rfl ?_)) | ((with_reducible refine k_len ?_); (first | (refine s_len rfl rfl ?_) | ((with_reducible apply s_len); (· rfl); (· exact SlOwn.len (by assumption))) | ((with_reducible apply s_len); (· rfl); (· assumption)))) | ((with_reducible refine k_neq ?_); (first | (refine s_neq rfl rfl ?_) | (refine s_strNe rfl rfl ?_))) | ((with_reducible refine k_mkslice (dst := some 25) ?_); ((with_reducible apply s_mkslice); (· rfl); (· rfl); (· (exact ⟨rfl, by decide, by omega, by omega, by (rw [room_i]; omega), by omega⟩)); (· ((first | exact nuI | exact nuN))); intro k25 hk25; (try simp only [upd_none] at hk25))) | ((with_reducible refine k_store ?_); ((with_reducible apply s_store0); (· rfl); (· rfl); (· rfl); (· (exact hpX)); (· (exact ⟨rfl, by first | exact Nat.le_of_ble_eq_true rfl | omega | (simp; omega)⟩)); (· ((first | exact liL | exact liO))); (· (first | exact upd_upd | rfl)))) | ((with_reducible refine k_alloc (dst := some 8) ?_); ((with_reducible apply s_alloc); intro k8 hk8; (try simp only [upd_none] at hk8))) | ((with_reducible refine k_callF ?_); (first | ((with_reducible apply s_call1); (· rfl)) | ((with_reducible apply s_calln); (· rfl)))) | ((with_reducible refine k_con ?_); (first | (refine after_ok hB hL Ho.id hc ?_; intro h2 k kF kC dO H hh))) | ((with_reducible refine k_br ?_); (first | (with_reducible first | refine Br_dec ?_ | refine Br_not ?_ | refine Br_eqF ?_ | refine Br_and ?_ | refine Br_or ?_ | refine Br_neg ?_ | refine Br_band ?_ | refine Br_bor ?_ | refine Br_beq ?_) | (refine Br_t (by first | with_reducible rfl | omega | assumption | rfl) ?_) | (refine Br_f (by first | omega | assumption | decide) ?_) | (with_reducible apply Br_sb <;> intro hbr <;> (first | subst hbr | simp only [hbr] | skip)) | (with_reducible apply Br_s <;> intro hbr))))
    all_goals first | (exfalso; omega) | skip
    have hle : ∀ i (hi : i < (chL B l).length), ((chL B l)[i]).length ≤ 902 := fun i hi => by rw [chL_get]; have := ch_len (B := B) (l := l) (b := i); omega
    have h32 : ∀ i (hi : i < (chL B l).length), ∀ b ∈ (chL B l)[i], b.length = 32 ∧ byB b := fun i hi b hb => by rw [chL_get] at hb; exact ⟨ch_32 hc (by omega) hb, Ho.ch (by omega) hb⟩
    have pk : ∀ {h : Heap} (hs : ∀ j c, h2 j = some c → h j = some c) (i : Nat) (hi : i < (chL B l).length), PK Try.prog h [.pt k 0, .int .i64 i] 41 (bsD (chL B l)[i]) := fun hs i hi => by rw [chL_get]; exact stch_pk Ho hc (H.mono hs) i (by omega)
    generalize hC : chL B l = C at *
    have hCB : C.length ≤ 1000000 := by omega
    rw [← hlen]
    have hps : ∀ i (hi : i < C.length), preP (C.take (i + 1)) = preP (C.take i) * (C[i]).length := fun i hi => by rw [List.take_add_one, List.getElem?_eq_getElem hi]; exact preP_snoc _ _
    refine W_for C.length (fun i st => ∃ h', st = ⟨[(6, .pt k 0), (8, .pt k8 0), (9, .int .i64 (preP (C.take i) : Nat)), (27, .int .i64 C.length), (28, .int .i64 i)], h'⟩ ∧ h' k8 = some [.sl k25 1 0 C.length] ∧ h' k25 = some (allC C i) ∧ (∀ j c, h2 j = some c → h' j = some c) ∧ preP (C.take i) ≤ 64) ⟨_, rfl, upd_self, ?_, fun j c hj => upd_sub (by rw [upd_ne hk8.1]; exact hk8.2) j c (upd_sub hk25 j c hj), by simp [preP]⟩ ?_ ?_
    · rw [upd_ne hk8.1.symm, upd_self, rep_nil]; simp [allC]
    · rintro i e' h' hi ⟨h1, he, q1, q2, hs, hp⟩
      cases he
      have hb0 := hle i hi
      have p1 := pk hs i hi
      have hcl := allC_len C (Nat.le_of_lt hi)
      have hst := allC_set hi
      have hgt := allC_get hi
      have hmul : ((preP (C.take i) : Nat) : Int) * ((C[i]).length : Nat) = (preP (C.take (i + 1)) : Nat) := by rw [hps i hi]; simp
      have hpb : preP (C.take (i + 1)) ≤ 64 * 902 := by rw [hps i hi]; exact Nat.mul_le_mul hp hb0
      have hal2 := bs_len C[i]
      generalize C[i] = c at *
      generalize preP (C.take i) = pi at *
      generalize hpj : preP (C.take (i + 1)) = pj at *
      generalize allC C i = A at *
      generalize allC C (i + 1) = A2 at *
      unfold splice at hst
      rw [List.length_singleton] at hst
      repeat' (first | (with_reducible first | refine W_seq ?_ | refine then_n ?_ | refine W_block ?_ | refine blk_n ?_ | refine blk_r ?_ | refine blk_e ?_ | refine W_skip ?_ | refine W_ret ?_ | refine then_r ?_ | refine W_exit ?_ | refine then_e ?_) | ((with_reducible refine s_reg ?_); intro K hK) | ((with_reducible refine k_nil ?_); (with_reducible apply s_nil hK); (· exact nmX); clear hK; clear K) | ((with_reducible refine k_cond ?_); (first | ((with_reducible apply s_condT); (· rfl); (· exact nmX)) | ((with_reducible apply s_condF); (· rfl); (· exact nmX)) | ((with_reducible apply s_condS); (· rfl); (· exact nmX); (· exact nmX)))) | ((with_reducible refine k_mv ?_); (refine s_mv rfl ?_)) | ((with_reducible refine k_len ?_); (first | (refine s_len rfl rfl ?_) | ((with_reducible apply s_len); (· rfl); (· exact SlOwn.len (by assumption))) | ((with_reducible apply s_len); (· rfl); (· assumption)))) | ((with_reducible refine k_lss ?_); (refine s_lss rfl rfl ?_)) | ((with_reducible refine k_gtr ?_); (refine s_gtr rfl rfl ?_)) | ((with_reducible refine k_iaddr ?_); (first | ((with_reducible apply s_iaddrV); (· rfl); (· rfl); (· (first | omega | exact ⟨rfl, by omega⟩ | skip))) | ((with_reducible apply s_iaddrO); (· rfl); (· rfl); (· (first | omega | exact ⟨rfl, by omega⟩ | skip)); (· (exact hpX))) | ((with_reducible apply s_iaddrSO); (· rfl); (· assumption); (· rfl); (· (first | omega | exact ⟨rfl, by omega⟩ | skip)); (· (first | (simp (disch := omega) only [w64, wu8, wu16, wu32, wu64, tm_nn, td_nn, fd_nn, Int.reduceAdd, Int.reduceSub, Int.reduceMul, Int.reduceDiv, Int.reduceMod, Int.reduceNeg, Int.reduceToNat, Int.toNat_natCast, Int.toNat_zero, Int.zero_add, Int.add_zero, Int.one_mul, Int.reducePow, Nat.mul_one, Nat.zero_add, Nat.add_zero, Nat.zero_mul, Nat.reduceAdd, Nat.reduceMul, Nat.reduceSub, Nat.min_eq_left, IntKind.bits, Nat.sub_zero, hst, hgt, hmul]; try rfl; done) | rfl)); intro ks hks))) | ((with_reducible refine k_load ?_); (first | ((with_reducible apply s_loadV); (· rfl)) | ((with_reducible apply s_loadP); (· rfl); (· (exact hpX))))) | ((with_reducible refine k_add ?_); ((with_reducible apply s_add); (· rfl); (· rfl))) | ((with_reducible refine k_mul ?_); ((with_reducible apply s_mul); (· rfl); (· rfl))) | ((with_reducible refine k_store ?_); ((with_reducible apply s_store0); (· rfl); (· rfl); (· rfl); (· (exact hpX)); (· (exact ⟨rfl, by first | exact Nat.le_of_ble_eq_true rfl | omega | (simp [hst, hgt, hmul]; omega)⟩)); (· ((first | (simp (disch := omega) only [upd_self, upd_ne, upd_upd, rep, splice, List.take_succ_cons, List.take_zero, List.drop_succ_cons, List.drop_zero, List.cons_append, List.nil_append, List.append_nil, List.length_cons, List.length_nil, List.reduceReplicate, List.flatten_cons, List.flatten_nil, Nat.reduceAdd, Nat.reduceMul, Nat.reduceSub, Nat.zero_add, Nat.add_zero, List.getElem?_cons_zero, List.getElem?_cons_succ, hst, hgt, hmul]; try rfl; done) | rfl))); (· (first | exact upd_upd | rfl)))) | ((with_reducible refine k_dreg ?_); refine s_dregS (pre := A18d10p) rfl rfl rfl ?_; intro K hK) | (with_reducible refine d_nilS ?_) | ((with_reducible refine k_dcall ?_); (first | ((with_reducible apply d_callK); (· rfl); (· exact p1); (· rfl)))) | ((with_reducible refine k_dop ?_); refine d_step (by first | exact Or.inl rfl | exact Or.inr rfl) ?_) | (with_reducible refine d_back ?_) | ((with_reducible refine k_br ?_); (first | (with_reducible first | refine Br_dec ?_ | refine Br_not ?_ | refine Br_eqF ?_ | refine Br_and ?_ | refine Br_or ?_ | refine Br_neg ?_ | refine Br_band ?_ | refine Br_bor ?_ | refine Br_beq ?_) | (refine Br_t (by first | with_reducible rfl | omega | assumption | rfl) ?_) | (refine Br_f (by first | omega | assumption | decide) ?_) | (with_reducible apply Br_sb <;> intro hbr <;> (first | subst hbr | simp only [hbr] | skip)) | (with_reducible apply Br_s <;> intro hbr))) | ((first | (with_reducible apply q_eqI) | (with_reducible apply q_eqN)); (first | (simp (disch := omega) only [w64, wu8, wu16, wu32, wu64, tm_nn, td_nn, fd_nn, Int.reduceAdd, Int.reduceSub, Int.reduceMul, Int.reduceDiv, Int.reduceMod, Int.reduceNeg, Int.reduceToNat, Int.toNat_natCast, Int.toNat_zero, Int.zero_add, Int.add_zero, Int.one_mul, Int.reducePow, Nat.mul_one, Nat.zero_add, Nat.add_zero, Nat.zero_mul, Nat.reduceAdd, Nat.reduceMul, Nat.reduceSub, Nat.min_eq_left, IntKind.bits, Nat.sub_zero, hst, hgt, hmul]; try rfl; done) | rfl)) | ((first | (with_reducible apply q_eqL) | (with_reducible apply q_eqO)); (first | (simp (disch := omega) only [upd_self, upd_ne, upd_upd, rep, splice, List.take_succ_cons, List.take_zero, List.drop_succ_cons, List.drop_zero, List.cons_append, List.nil_append, List.append_nil, List.length_cons, List.length_nil, List.reduceReplicate, List.flatten_cons, List.flatten_nil, Nat.reduceAdd, Nat.reduceMul, Nat.reduceSub, Nat.zero_add, Nat.add_zero, List.getElem?_cons_zero, List.getElem?_cons_succ, hst, hgt, hmul]; try rfl; done) | rfl)))
      all_goals first | (exfalso; omega) | skip
      · exact con_end rfl (R3.of S3.nil)
      · refine ⟨_, rfl, ?_, upd_self, fun j c hj => ?_, by omega⟩
        · rw [upd_ne hk8.1]; exact q1
        · rw [upd_ne (fun e => by rw [e, hk25] at hj; cases hj)]; exact hs j c hj
    · rintro e' h' ⟨h1, he, q1, q2, hs, hp⟩
      cases he
      rw [allC_end] at q2
      clear hps
      rw [List.take_length] at hp
      repeat' (first | (with_reducible first | refine W_seq ?_ | refine then_n ?_ | refine W_block ?_ | refine blk_n ?_ | refine blk_r ?_ | refine blk_e ?_ | refine W_skip ?_ | refine W_ret ?_ | refine then_r ?_ | refine W_exit ?_ | refine then_e ?_) | ((with_reducible refine s_reg ?_); intro K hK) | ((with_reducible refine k_nil ?_); (with_reducible apply s_nil hK); (· exact nmX); clear hK; clear K) | ((with_reducible refine k_cond ?_); (first | ((with_reducible apply s_condT); (· rfl); (· exact nmX)) | ((with_reducible apply s_condF); (· rfl); (· exact nmX)) | ((with_reducible apply s_condS); (· rfl); (· exact nmX); (· exact nmX)))) | ((with_reducible refine k_lss ?_); (refine s_lss rfl rfl ?_)) | ((with_reducible refine k_load ?_); (first | ((with_reducible apply s_loadV); (· rfl)) | ((with_reducible apply s_loadP); (· rfl); (· (exact hpX))))) | ((with_reducible refine k_store ?_); ((with_reducible apply s_store0); (· rfl); (· rfl); (· rfl); (· (exact hpX)); (· (exact ⟨rfl, by first | exact Nat.le_of_ble_eq_true rfl | omega | (simp; omega)⟩)); (· ((first | exact liL | exact liO))); (· (first | exact upd_upd | rfl)))) | ((with_reducible refine k_alloc (dst := some 11) ?_); ((with_reducible apply s_alloc); intro k11 hk11; (try simp only [upd_none] at hk11))) | ((with_reducible refine k_alloc (dst := some 12) ?_); ((with_reducible apply s_alloc); intro k12 hk12; (try simp only [upd_none] at hk12))) | ((with_reducible refine k_alloc (dst := some 13) ?_); ((with_reducible apply s_alloc); intro k13 hk13; (try simp only [upd_none] at hk13))) | ((with_reducible refine k_mkfn ?_); ((with_reducible apply s_mkfn); (· rfl); (· rfl))) | ((with_reducible refine k_callT ?_); ((with_reducible apply s_callt); (· rfl); (· rfl); (· rfl))) | ((with_reducible refine k_br ?_); (first | (with_reducible first | refine Br_dec ?_ | refine Br_not ?_ | refine Br_eqF ?_ | refine Br_and ?_ | refine Br_or ?_ | refine Br_neg ?_ | refine Br_band ?_ | refine Br_bor ?_ | refine Br_beq ?_) | (refine Br_t (by first | with_reducible rfl | omega | assumption | rfl) ?_) | (refine Br_f (by first | omega | assumption | decide) ?_) | (with_reducible apply Br_sb <;> intro hbr <;> (first | subst hbr | simp only [hbr] | skip)) | (with_reducible apply Br_s <;> intro hbr))) | ((first | (with_reducible apply q_eqL) | (with_reducible apply q_eqO)); (first | exact liL | exact liO)))
      all_goals first | (exfalso; omega) | skip
      have hC1 : ∀ c ∈ C, c.length ≤ 1000000 ∧ ∀ b ∈ c, (0 < b.length ∧ b.length ≤ 1000000) ∧ byB b := fun c hcm => by
        obtain ⟨i, hi, rfl⟩ := List.mem_iff_getElem.1 hcm
        refine ⟨by have := hle i hi; omega, fun b hb => ?_⟩
        have h32 := h32 i hi b hb
        exact ⟨by omega, h32.2⟩
      refine choose_kon hCB hC1 (kA := k8) (kS := k25) C.length 0 [] 0 .nil .nil (fun _ => False) _ _ (by omega) rfl (by simp) (by simpa using hp) ?_ (fun h5 dO5 dI5 K5 H5 => ?_)
      · have n8 : ∀ {j}, h' j = none → k8 ≠ j := fun hj e => by rw [← e, q1] at hj; cases hj
        have n25 : ∀ {j}, h' j = none → k25 ≠ j := fun hj e => by rw [← e, q2] at hj; cases hj
        obtain ⟨a1, a2⟩ := hk12
        obtain ⟨b1, b2, b3⟩ := hk13
        refine ⟨?_, ?_, ?_, ⟨[], SlOwn.nil, fun x hx => (by cases hx)⟩, ?_, SlPre.nil, upd_self, ⟨⟨n8 hk11, n8 a2⟩, ⟨n25 hk11, n25 a2⟩, Ne.symm a1, b2, b1⟩, ⟨Fr.nil, Fr.nil, Fr.nil, Fr.nil, Fr.nil⟩, ⟨Fr.nil, Fr.nil, Fr.nil, Fr.nil, Fr.nil⟩, fun j => .inl Fr.nil, fun k hk => hk.elim⟩
        · rw [upd_ne (n8 b3), upd_ne (n8 a2), upd_ne (n8 hk11)]; exact q1
        · rw [upd_ne (n25 b3), upd_ne (n25 a2), upd_ne (n25 hk11)]; exact q2
        · rw [upd_ne (Ne.symm b2), upd_ne (Ne.symm a1)]; exact upd_self
        · rw [upd_ne (Ne.symm b1)]; exact upd_self
      · have ho5 := H5.o
        obtain ⟨cs5, so5, x5⟩ := H5.so
        repeat' (first | (with_reducible first | refine W_seq ?_ | refine then_n ?_ | refine W_block ?_ | refine blk_n ?_ | refine blk_r ?_ | refine blk_e ?_ | refine W_skip ?_ | refine W_ret ?_ | refine then_r ?_ | refine W_exit ?_ | refine then_e ?_) | ((with_reducible refine s_reg ?_); intro K hK) | ((with_reducible refine k_nil ?_); (with_reducible apply s_nil hK); (· exact nmX); clear hK; clear K) | ((with_reducible refine k_mv ?_); (refine s_mv rfl ?_)) | ((with_reducible refine k_load ?_); (first | ((with_reducible apply s_loadV); (· rfl)) | ((with_reducible apply s_loadP); (· rfl); (· (exact hpX))))) | ((first | (with_reducible apply q_eqL) | (with_reducible apply q_eqO)); (first | exact liL | exact liO)))
        all_goals first | (exfalso; omega) | skip
        exact con_end rfl (R3.of ⟨cs5, _, so5, by simp; omega, fun _ _ _ _ _ => trivial, fun x hx => (x5 x hx).mono (fun _ _ => trivial) fun _ _ h => h⟩)
  · have c1 := fun {h : Heap} {Q : D → Heap → Prop} q => after_no (h := h) (Q := Q) hB hL Ho.id hc q
    generalize chkR B l = e at *
    repeat' (first | (with_reducible first | refine W_seq ?_ | refine then_n ?_ | refine W_block ?_ | refine blk_n ?_ | refine blk_r ?_ | refine blk_e ?_ | refine W_skip ?_ | refine W_ret ?_ | refine then_r ?_ | refine W_exit ?_ | refine then_e ?_) | ((with_reducible refine s_reg ?_); intro K hK) | ((with_reducible refine k_nil ?_); (with_reducible apply s_nil hK); (· exact nmX); clear hK; clear K) | ((with_reducible refine k_cond ?_); (first | ((with_reducible apply s_condT); (· rfl); (· exact nmX)) | ((with_reducible apply s_condF); (· rfl); (· exact nmX)) | ((with_reducible apply s_condS); (· rfl); (· exact nmX); (· exact nmX)))) | ((with_reducible refine k_mv ?_); (refine s_mv rfl ?_)) | ((with_reducible refine k_extract ?_); (refine s_extract rfl rfl ?_)) | ((with_reducible refine k_neq ?_); (first | (refine s_neq rfl rfl ?_) | (refine s_strNe rfl rfl ?_))) | ((with_reducible refine k_callF ?_); (first | ((with_reducible apply s_call1); (· rfl)) | ((with_reducible apply s_calln); (· rfl)))) | ((with_reducible refine k_con ?_); (first | (refine c1 ?_; intro h2 hh))) | ((with_reducible refine k_br ?_); (first | (with_reducible first | refine Br_dec ?_ | refine Br_not ?_ | refine Br_eqF ?_ | refine Br_and ?_ | refine Br_or ?_ | refine Br_neg ?_ | refine Br_band ?_ | refine Br_bor ?_ | refine Br_beq ?_) | (refine Br_t (by first | with_reducible rfl | omega | assumption | rfl) ?_) | (refine Br_f (by first | omega | assumption | decide) ?_) | (with_reducible apply Br_sb <;> intro hbr <;> (first | subst hbr | simp only [hbr] | skip)) | (with_reducible apply Br_s <;> intro hbr))))
    all_goals first | (exfalso; omega) | exact con_end rfl (R3.of S3.nil)
end Go.Proofs.Ythblalidmmbcoaa
end
section
/- min -/
/- The law DurableOrdered: settled, and the law. -/
set_option linter.unusedSimpArgs false
set_option linter.unusedVariables false
namespace Go.Proofs.Ythblalidmmbcoaa
open Go.AM Classical
set_option maxRecDepth 100000
set_option maxHeartbeats 4000000
end Go.Proofs.Ythblalidmmbcoaa
end
section
/- min -/
/- The law DurableFlushed. -/
set_option linter.unusedSimpArgs false
set_option linter.unusedVariables false
namespace Go.Proofs.Ythblalidmmbcoaa
open Go.AM Classical
set_option maxRecDepth 100000
set_option maxHeartbeats 4000000
theorem Rd_soR {h : Heap} {d : D} {sz n : Nat} {cells cells' : List D} (ho : SlOwn h d sz cells n) (hr : All2 (Rd h) cells cells') : Rd h d (.vs sz cells' n) := by
  obtain ⟨hc, ⟨rfl, hd⟩ | ⟨k, rfl, hk⟩⟩ := ho
  · have h0 : cells' = [] := List.length_eq_zero_iff.1 (by rw [← hr.1, hc]; simp)
    subst h0
    rcases hd with rfl | rfl
    · exact Rd_nil
    · exact Rd_emp
  · exact Rd_slR hk hr (by rw [← hr.1]; exact hc)
end Go.Proofs.Ythblalidmmbcoaa
end
section
/- min -/
/- The law DurableExact. -/
set_option linter.unusedSimpArgs false
set_option linter.unusedVariables false
namespace Go.Proofs.Ythblalidmmbcoaa
open Go.AM Classical
set_option maxRecDepth 100000
set_option maxHeartbeats 4000000
theorem FewP.okG {B : List Bs} {l : List Ev} {n m : Int} (h : FewP B l n m) (hn : n ≤ 1000000) (hm : m ≤ 900) (h1 : ∀ b ∈ B, byB b) (h2 : ∀ x ∈ l, EvIn x) : HOk B l :=
  ⟨by have := h.1; omega, by have := h.2.1; omega, fun x hx => (h2 x hx).1, h1, fun x hx => (h2 x hx).2⟩
end Go.Proofs.Ythblalidmmbcoaa
end
section
/- The law DurableKeeps: own copies of a history; what the writes keep. -/
set_option linter.unusedSimpArgs false
set_option linter.unusedVariables false
namespace Go.AM
open Classical
theorem s_appE {P : Program} {e : Env} {h : Heap} {r : List AIns} {K : Env → Heap → Prop} {t sz bytes n m k : Nat} {x y : O} {dy : D} {cells new : List D} (h1 : evO (get e) x = some (.sl k sz 0 n)) (h2 : evO (get e) y = some dy) (hk : h k = some cells) (hcl : cells.length = n * sz) (hy : lenA dy = some m) (hs : srcD h sz m dy = some new) (hl : new.length = m * sz ∧ 0 < sz) (hr : (n + m) * bytes ≤ room)
    (hw : ∀ k' h', (k' = k ∨ h k' = none) → h' k' = some (cells ++ new) → (∀ j c, h j = some c → j ≠ k → h' j = some c) → Wops P r ((t, .sl k' sz 0 (n + m)) :: e) h' K) : Wops P (⟨some t, .append sz bytes x y, none⟩ :: r) e h K := by
  by_cases hm : m = 0
  · subst hm
    have hn : new = [] := List.length_eq_zero_iff.1 (by rw [hl.1]; simp)
    subst hn
    refine s_append h1 h2 fun key hkey => ⟨.sl k sz 0 n, h, by simp only [appD, hy, hs, if_true, hk], ?_⟩
    exact hw k h (.inl rfl) (by rw [hk, List.append_nil]) fun j c hj _ => hj
  · refine s_append h1 h2 fun key hkey => ?_
    obtain ⟨h', h3, h4, h5⟩ := append_own2 (d := .sl k sz 0 n) (SlOwn.sl hk hcl) hy hs hl.1 hl.2 hm hr hkey
    exact ⟨_, h', h3, hw key h' (.inr hkey) h4 fun j c hj hne => h5 j c hj (Fr.sl (Ne.symm hne))⟩
theorem s_strNeV {P : Program} {e : Env} {h : Heap} {r : List AIns} {K : Env → Heap → Prop} {t : Nat} {x y : O} {a b : ByteArray} {v : Bool} (h1 : evO (get e) x = some (.str a)) (h2 : evO (get e) y = some (.str b)) (hv : (a.toList == b.toList) = v) (hw : Wops P r ((t, .bool (!v)) :: e) h K) : Wops P (⟨some t, .bin .neq x y, none⟩ :: r) e h K :=
  s_strNe h1 h2 (by rw [hv]; exact hw)
end Go.AM
namespace Go.Proofs.Ythblalidmmbcoaa
open Go.AM Classical
set_option maxRecDepth 100000
set_option maxHeartbeats 4000000
theorem so_one {h : Heap} {d : D} {sz n : Nat} {cs : List D} (ho : SlOwn h d sz cs n) : cellsD d = some [d] := by
  obtain ⟨-, ⟨-, rfl | rfl⟩ | ⟨k, rfl, -⟩⟩ := ho <;> rfl
theorem S2.one {K : Nat → Prop} {h : Heap} {x : D} (H : S2 K h x) : cellsD x = some [x] := by obtain ⟨cs, n, h1, -⟩ := H; exact so_one h1
abbrev byD (b : Bs) : List D := b.map (D.int .u8)
def BO (h : Heap) (cs : List D) (L : List Bs) : Prop := All2 (fun c b => SlOwn h c 1 (byD b) b.length) cs L
theorem BO.mono {h h2 : Heap} {cs : List D} {L : List Bs} (H : BO h cs L) (hh : ∀ j c, h j = some c → h2 j = some c) : BO h2 cs L := ⟨H.1, fun i c b hc hb => slSub (H.2 i c b hc hb) hh⟩
theorem BO.noI {h : Heap} {cs : List D} {L : List Bs} (H : BO h cs L) : ∀ x ∈ cs, NoI x ∧ ∀ sz c n, x ≠ .vs sz c n := by
  intro x hx
  obtain ⟨i, hi⟩ := List.mem_iff_getElem?.1 hx
  have hlt : i < cs.length := by
    rcases Nat.lt_or_ge i cs.length with h' | h'
    · exact h'
    · simp [List.getElem?_eq_none h'] at hi
  have := H.2 i x _ hi (List.getElem?_eq_getElem (by rw [← H.1]; exact hlt))
  refine ⟨so_noI this, ?_⟩
  obtain ⟨-, ⟨-, rfl | rfl⟩ | ⟨k, rfl, -⟩⟩ := this <;> intro _ _ _ e <;> cases e
theorem BO.fr {h : Heap} {d : D} {cs : List D} {L : List Bs} {n k : Nat} {c : List D} (H : BO h cs L) (ho : SlOwn h d 1 cs n) (h0 : n = 0 → d = .nil) (hk : h k = some c) (hc : ∀ a ∈ c, (∃ q m, a = .int q m) ∨ ∃ sz l m, a = .vs sz l m) : Fr d k := by
  obtain ⟨hl, ⟨-, rfl | rfl⟩ | ⟨j, rfl, hj⟩⟩ := ho
  · exact Fr.nil
  · intro _ _ _ e; cases e
  · refine Fr.sl ?_
    rintro rfl
    rw [hk] at hj; injection hj with hj
    subst hj
    cases c with
    | nil => have := h0 (by simpa using hl.symm); cases this
    | cons a r =>
      obtain ⟨h1, h2⟩ := H.noI a (by simp)
      rcases hc a (by simp) with ⟨q, m, e⟩ | ⟨sz, l, m, e⟩
      · exact h1 q m e
      · exact h2 sz l m e
theorem BO.step {h h2 : Heap} {d : D} {cs cs0 : List D} {L L0 : List Bs} {n : Nat} (H : BO h cs L) (H0 : BO h cs0 L0) (ho : SlOwn h d 1 cs0 n) (h0 : n = 0 → d = .nil) (hh : ∀ j c, h j = some c → Fr d j → h2 j = some c) : BO h2 cs L := by
  refine ⟨H.1, fun i c b hc hb => ?_⟩
  obtain ⟨h1, h3 | ⟨k, h3, h4⟩⟩ := H.2 i c b hc hb
  · exact ⟨h1, .inl h3⟩
  · exact ⟨h1, .inr ⟨k, h3, hh k _ h4 (H0.fr ho h0 h4 fun a ha => by obtain ⟨m, _, rfl⟩ := List.mem_map.1 ha; exact .inl ⟨_, _, rfl⟩)⟩⟩
theorem BO.rd {h : Heap} {d : D} {cs : List D} {L : List Bs} (H : BO h cs L) (ho : SlOwn h d 1 cs L.length) : Rd h d (bsD L) := by
  refine Rd_soR ho ⟨by rw [List.length_map]; exact H.1, fun i c b hc hb => ?_⟩
  rw [List.getElem?_map] at hb
  cases hx : L[i]? with
  | none => rw [hx] at hb; cases hb
  | some x =>
    rw [hx] at hb; injection hb with hb; subst hb
    exact Rd_so (H.2 i c x hc hx) (bD_scal x)
/-! ### Events -/
abbrev rcE (r : Ev × D) : List D := [.int .i64 r.1.kind, .int .i64 r.1.id, .int .i64 r.1.block, r.2]
theorem rcE_len (r : Ev × D) : (rcE r).length = 4 := rfl
def RO (h : Heap) (rs : List (Ev × D)) : Prop := ∀ r ∈ rs, SlOwn h r.2 1 (byD r.1.data) r.1.data.length
theorem RO.mono {h h2 : Heap} {rs : List (Ev × D)} (H : RO h rs) (hh : ∀ j c, h j = some c → h2 j = some c) : RO h2 rs := fun r hr => slSub (H r hr) hh
theorem rows_fr {h : Heap} {d : D} {rs : List (Ev × D)} {n k : Nat} {c : List D} (ho : SlOwn h d 4 (rs.flatMap rcE) n) (h0 : n = 0 → d = .nil) (hk : h k = some c) (hc : ∀ a ∈ c, ∀ m, a ≠ .int .i64 m) : Fr d k := by
  obtain ⟨hl, ⟨-, rfl | rfl⟩ | ⟨j, rfl, hj⟩⟩ := ho
  · exact Fr.nil
  · intro _ _ _ e; cases e
  · refine Fr.sl ?_
    rintro rfl
    rw [hk] at hj; injection hj with hj
    subst hj
    cases rs with
    | nil => (have h9 : n * 4 = 0 := by simpa using hl.symm); have h8 := h0 (by omega); cases h8
    | cons a r => exact hc (.int .i64 a.1.kind) (by simp) _ rfl
theorem RO.step {h h2 : Heap} {d : D} {rs rs0 : List (Ev × D)} {n : Nat} (H : RO h rs) (ho : SlOwn h d 4 (rs0.flatMap rcE) n) (h0 : n = 0 → d = .nil) (hh : ∀ j c, h j = some c → Fr d j → h2 j = some c) : RO h2 rs := by
  intro r hr
  obtain ⟨h1, h3 | ⟨k, h3, h4⟩⟩ := H r hr
  · exact ⟨h1, .inl h3⟩
  · exact ⟨h1, .inr ⟨k, h3, hh k _ h4 (rows_fr ho h0 h4 fun a ha m => by obtain ⟨q, _, rfl⟩ := List.mem_map.1 ha; intro e; cases e)⟩⟩
theorem rows_rd {h : Heap} {d : D} {rs : List (Ev × D)} {l : List Ev} (hl : rs.map Prod.fst = l) (H : RO h rs) (ho : SlOwn h d 4 (rs.flatMap rcE) l.length) : Rd h d (evD l) := by
  refine Rd_soR ho ?_
  subst hl
  clear ho
  induction rs with
  | nil => exact All2.nil
  | cons a r ih =>
    refine All2.append (xs := rcE a) (ys := a.1.cells) ?_ (ih fun q hq => H q (by simp [hq]))
    exact All2.cons Rd_int (All2.cons Rd_int (All2.cons Rd_int (All2.cons (Rd_so (H a (by simp)) (bD_scal _)) All2.nil)))
structure CoH (h : Heap) (k1 : Nat) (d3 d5 : D) (cs : List D) (rs : List (Ev × D)) (B : List Bs) (l : List Ev) : Prop where
  b : h k1 = some [bsD B, evD l]
  s3 : SlOwn h d3 1 cs B.length
  z3 : B.length = 0 → d3 = .nil
  o3 : BO h cs B
  s5 : SlOwn h d5 4 (rs.flatMap rcE) l.length
  f5 : rs.map Prod.fst = l
  o5 : RO h rs
theorem CoH.mono {h h2 : Heap} {k1 : Nat} {d3 d5 : D} {cs : List D} {rs : List (Ev × D)} {B : List Bs} {l : List Ev} (H : CoH h k1 d3 d5 cs rs B l) (hh : ∀ j c, h j = some c → h2 j = some c) : CoH h2 k1 d3 d5 cs rs B l :=
  ⟨hh _ _ H.b, slSub H.s3 hh, H.z3, H.o3.mono hh, slSub H.s5 hh, H.f5, H.o5.mono hh⟩
theorem CoH.rd {h : Heap} {k1 : Nat} {d3 d5 : D} {cs : List D} {rs : List (Ev × D)} {B : List Bs} {l : List Ev} (H : CoH h k1 d3 d5 cs rs B l) : Rd h d3 (bsD B) ∧ Rd h d5 (evD l) := ⟨H.o3.rd H.s3, rows_rd H.f5 H.o5 H.s5⟩
/-! ### Writes into results -/
structure WrI (hb h : Heap) (kA : Nat) (cells : List D) : Prop where
  old : ∀ k c, hb k = some c → h k = some c
  a : h kA = some cells
  c2 : ∀ x ∈ cells, S2 (fun k => hb k = none) h x
theorem S1.wr {K : Nat → Prop} {h : Heap} {x : D} {k : Nat} {xs ys : Bs} (H : S1 K h x) (hk : h k = some (byD xs)) (hl : ys.length = xs.length) (hy : byB ys) : S1 K (upd h k (byD ys)) x := by
  obtain ⟨j, zs, h1, h2, h3, h4, h5⟩ := H
  by_cases e : j = k
  · subst e
    rw [hk] at h3; injection h3 with h3
    have h6 := congrArg List.length h3
    rw [List.length_map, List.length_map] at h6
    exact ⟨j, ys, h1, by rw [h2, hl, h6], upd_self, hy, by omega, by omega⟩
  · exact ⟨j, zs, h1, h2, by rw [upd_ne e]; exact h3, h4, h5⟩
theorem so_wr {h : Heap} {x : D} {k n : Nat} {xs : Bs} {c cs : List D} (ho : SlOwn h x 1 cs n) (hn : ∀ y ∈ cs, NoI y) (hk : h k = some (byD xs)) (h0 : 0 < xs.length) : SlOwn (upd h k c) x 1 cs n := by
  have hf := so_ne ho hn hk h0
  obtain ⟨h1, h3 | ⟨j, h3, h4⟩⟩ := ho
  · exact ⟨h1, .inl h3⟩
  · subst h3
    exact ⟨h1, .inr ⟨j, rfl, by rw [upd_ne (fun e => hf 1 0 n (by rw [e]))]; exact h4⟩⟩
theorem S2.wr {K : Nat → Prop} {h : Heap} {x : D} {k : Nat} {xs ys : Bs} (H : S2 K h x) (hk : h k = some (byD xs)) (h0 : 0 < xs.length) (hl : ys.length = xs.length) (hy : byB ys) : S2 K (upd h k (byD ys)) x := by
  obtain ⟨cs, n, h1, h9, h2, h3⟩ := H
  exact ⟨cs, n, so_wr h1 (fun y hy => (h3 y hy).noI) hk h0, h9, h2, fun y hy2 => (h3 y hy2).wr hk hl hy⟩
theorem WrI.wr {hb h : Heap} {kA k : Nat} {cells : List D} {xs ys : Bs} (H : WrI hb h kA cells) (hn : cells ≠ []) (hb0 : hb k = none) (hk : h k = some (byD xs)) (h0 : 0 < xs.length) (hl : ys.length = xs.length) (hy : byB ys) : WrI hb (upd h k (byD ys)) kA cells := by
  refine ⟨fun j c hj => ?_, ?_, fun x hx => (H.c2 x hx).wr hk h0 hl hy⟩
  · rw [upd_ne (fun e => by rw [e, hb0] at hj; cases hj)]; exact H.old j c hj
  · rw [upd_ne]
    · exact H.a
    · rintro rfl
      have ha := H.a
      rw [hk] at ha; injection ha with ha
      cases xs with
      | nil => simp at h0
      | cons a r => exact (H.c2 (.int .u8 a) (by rw [← ha]; simp)).noI _ _ rfl
theorem x255 {a : Int} (h : 0 ≤ a ∧ a ≤ 255) : 0 ≤ ((a.toNat ^^^ (255 : Int).toNat : Nat) : Int) ∧ ((a.toNat ^^^ (255 : Int).toNat : Nat) : Int) ≤ 255 := by
  have : a.toNat ^^^ (255 : Int).toNat < 2 ^ 8 := Nat.xor_lt_two_pow (by omega) (by decide)
  omega
theorem by_set {xs : Bs} {n : Nat} {v : Int} (hx : byB xs) (hv : 0 ≤ v ∧ v ≤ 255) : byB (xs.set n v) := fun a ha => by
  rcases List.mem_or_eq_of_mem_set ha with h | rfl
  · exact hx a h
  · exact hv
end Go.Proofs.Ythblalidmmbcoaa
end
