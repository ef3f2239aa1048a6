/- The contracts of Layout. -/
import Derived.Test.YtoaanhoelhmekaaC4
import Derived.Test.YtoaanhoelhmekaaAmW
set_option linter.unusedSimpArgs false
set_option linter.unusedVariables false
namespace Go.Proofs.Ytoaanhoelhmekaa
open Go.AM
set_option maxRecDepth 100000
set_option maxHeartbeats 4000000

def layS (p : List Int × Int) (n : Int) : List Int × Int := (p.1 ++ [p.2], p.2 + (1 + n))
def layP (l : List Int) : List Int × Int := l.foldl layS ([], 0)
def layOk (l : List Int) : Prop := ∀ n ∈ l, 1 ≤ n ∧ n ≤ 16
instance (l : List Int) : Decidable (layOk l) := inferInstanceAs (Decidable (∀ n ∈ l, 1 ≤ n ∧ n ≤ 16))
def layF (l : List Int) (s : Int) : List Int × Int :=
  if 4 < l.length then ([], 9) else if layOk l then (if 0 ≤ s ∧ s ≤ 64 then ((layP l).1 ++ [(layP l).2, (layP l).2 + s], 0) else ([], 2)) else ([], 2)
def layR (r : List Int × Int) : D := .tup [.ow 1 (r.1.map (.int .i64)) r.1.length, .int .i64 r.2]
theorem layP_len (l : List Int) : (layP l).1.length = l.length := by
  have key : ∀ (l : List Int) p, (l.foldl layS p).1.length = p.1.length + l.length := by
    intro l
    induction l with
    | nil => intro p; rfl
    | cons a r ih => intro p; rw [List.foldl_cons, ih]; simp [layS]; omega
  have := key l ([], 0)
  rw [layP, this]; simp
theorem layP_in (l : List Int) (h : layOk l) : 0 ≤ (layP l).2 ∧ (layP l).2 ≤ 17 * l.length := by
  have key : ∀ (l : List Int) p, layOk l → p.2 ≤ (l.foldl layS p).2 ∧ (l.foldl layS p).2 ≤ p.2 + 17 * l.length := by
    intro l
    induction l with
    | nil => intro p _; simp
    | cons a r ih =>
      intro p h
      have ha := h a (by simp)
      have := ih (layS p a) (fun n hn => h n (by simp [hn]))
      simp only [layS] at this
      simp only [List.foldl_cons, List.length_cons, layS] at this ⊢
      omega
  have := key l ([], 0) h
  simp only [layP] at this ⊢
  omega
theorem lay_bad {l : List Int} {i : Nat} (hi : i < l.length) (hn : ¬ (1 ≤ l[i] ∧ l[i] ≤ 16)) (s : Int) (hl : ¬ 4 < l.length) : layF l s = ([], 2) := by
  have : ¬ layOk l := fun h => hn (h l[i] (List.getElem_mem hi))
  simp [layF, hl, this]
theorem layOk_take {l : List Int} {i : Nat} (hi : i < l.length) (h : layOk (l.take i)) (hn : 1 ≤ l[i] ∧ l[i] ≤ 16) : layOk (l.take (i + 1)) := by
  intro n hm
  rw [List.take_succ_eq_append_getElem hi, List.mem_append] at hm
  rcases hm with hm | hm
  · exact h n hm
  · simp at hm; subst hm; exact hn

theorem layP_step {l : List Int} {i : Nat} (hi : i < l.length) : layP (l.take (i + 1)) = ((layP (l.take i)).1 ++ [(layP (l.take i)).2], (layP (l.take i)).2 + (1 + l[i])) := foldl_take hi
theorem lay_ok {l : List Int} {s : Int} (hl : ¬ 4 < l.length) (hok : layOk l) (hs : 0 ≤ s ∧ s ≤ 64) : layF l s = ((layP l).1 ++ [(layP l).2, (layP l).2 + s], 0) := by simp only [layF, if_neg hl, if_pos hok, if_pos hs]
theorem lay_no {l : List Int} {s : Int} (hl : ¬ 4 < l.length) (hs : ¬ (0 ≤ s ∧ s ≤ 64)) : layF l s = ([], 2) := by
  simp only [layF, if_neg hl, if_neg hs]
  split <;> rfl
theorem lay_end {h : Heap} {d : D} {l : List Int} {s : Int} {n : Nat} (hso : SlOwn h d 1 ((layP l).1.map (.int .i64) ++ [.int .i64 (layP l).2, .int .i64 ((layP l).2 + s)]) n) : SlOwn h d 1 (((layP l).1 ++ [(layP l).2, (layP l).2 + s]).map (.int .i64)) n := by
  rw [List.map_append]; exact hso
theorem lay_fin {rs : List ARes} {e : Env} {h : Heap} {d : D} {l : List Int} {s : Int} {x : X} (hx : match x with | .exit _ => False | _ => True) (hd : resD rs (get e) h = some (.tup [d, .int .i64 0]))
    (hl : ¬ 4 < l.length) (hok : layOk l) (hs : 0 ≤ s ∧ s ≤ 64) (hso : SlOwn h d 1 ((layP l).1.map (.int .i64) ++ [.int .i64 (layP l).2, .int .i64 ((layP l).2 + s)]) (l.length + 2)) : AM.Fin rs (layR (layF l s)) x ⟨e, h⟩ := by
  rw [lay_ok hl hok hs]
  have hlen : ((layP l).1 ++ [(layP l).2, (layP l).2 + s]).length = l.length + 2 := by rw [List.length_append, layP_len]; rfl
  simp only [layR, hlen]
  exact Fin_sot hx hd (lay_end hso) scal_i rfl

theorem lay_c (l : List Int) (s : Int) : PCon Try.prog 17 [i64s l, .int .i64 s] (layR (layF l s)) := by
  refine A17p (by simp [A17]) ?_
  simp only [A17, argEnv]
  repeat' (first
    | (with_reducible refine W_seq ?_)
    | (with_reducible refine then_n ?_)
    | (with_reducible refine W_block ?_)
    | (with_reducible refine blk_n ?_)
    | (with_reducible refine blk_r ?_)
    | (with_reducible refine blk_e ?_)
    | (refine blk_j (by decide) ?_)
    | (with_reducible refine W_skip ?_)
    | (with_reducible refine W_ret ?_)
    | (with_reducible refine then_r ?_)
    | (with_reducible refine W_exit ?_)
    | (with_reducible refine then_e ?_)
    | ((with_reducible refine s_reg ?_); intro K hK)
    | ((with_reducible refine k_nil ?_); (with_reducible apply s_nil hK); (· (repeat (first | exact norm_nil | ((with_reducible apply norm_cons); (· rfl)) | ((with_reducible apply norm_skip); (· rfl))))); clear hK; clear K)
    | ((with_reducible refine k_cond ?_); (first | ((with_reducible apply s_condT); (· rfl); (· (repeat (first | exact norm_nil | ((with_reducible apply norm_cons); (· rfl)) | ((with_reducible apply norm_skip); (· rfl)))))) | ((with_reducible apply s_condF); (· rfl); (· (repeat (first | exact norm_nil | ((with_reducible apply norm_cons); (· rfl)) | ((with_reducible apply norm_skip); (· rfl)))))) | ((with_reducible apply s_condS); (· rfl); (· (repeat (first | exact norm_nil | ((with_reducible apply norm_cons); (· rfl)) | ((with_reducible apply norm_skip); (· rfl))))); (· (repeat (first | exact norm_nil | ((with_reducible apply norm_cons); (· rfl)) | ((with_reducible apply norm_skip); (· rfl))))))))
    | ((with_reducible refine k_guard ?_); (first | (refine s_gt rfl ?_) | (refine s_gf1 rfl ?_) | (refine s_gfn rfl ?_) | (refine s_gx1 rfl ?_) | (refine s_gxn rfl ?_) | (refine s_gs rfl ?_)))
    | ((with_reducible refine k_mv ?_); (refine s_mv rfl ?_))
    | ((with_reducible refine k_len ?_); (first | (refine s_len rfl rfl ?_) | ((with_reducible apply s_len); (· rfl); (· exact SlOwn.len (by assumption)))))
    | ((with_reducible refine k_pick ?_); (first | (refine s_pickT rfl rfl ?_) | (refine s_pickF rfl rfl ?_)))
    | ((with_reducible refine k_not ?_); (refine s_not rfl (by first | exact Bool.not_true | exact Bool.not_false | rfl) ?_))
    | ((with_reducible refine k_lss ?_); (refine s_lss rfl rfl ?_))
    | ((with_reducible refine k_gtr ?_); (refine s_gtr rfl rfl ?_))
    | ((with_reducible refine k_iaddr ?_); (first | ((with_reducible apply s_iaddrV); (· rfl); (· rfl); (· (first | omega | exact ⟨rfl, by omega⟩ | skip))) | ((with_reducible apply s_iaddrO); (· rfl); (· rfl); (· (first | omega | exact ⟨rfl, by omega⟩ | skip)); (· (first | exact upd_self | rfl | assumption | (simp (disch := omega) only [upd_self, upd_ne]; done) | (simp (disch := omega) only [upd_self, upd_ne]; rfl)))) | ((with_reducible apply s_iaddrSO); (· rfl); (· assumption); (· rfl); (· (first | omega | exact ⟨rfl, by omega⟩ | skip)); (· (first | (simp (disch := omega) only [w64, wu8, wu16, wu32, wu64, tm_nn, td_nn, fd_nn, Int.reduceAdd, Int.reduceSub, Int.reduceMul, Int.reduceDiv, Int.reduceMod, Int.reduceNeg, Int.reduceToNat, Int.toNat_natCast, Int.toNat_zero, Int.zero_add, Int.add_zero, Int.one_mul, Int.reducePow, Nat.mul_one, Nat.zero_add, Nat.add_zero, Nat.zero_mul, Nat.reduceAdd, Nat.reduceMul, Nat.reduceSub, Nat.min_eq_left, IntKind.bits, Nat.sub_zero]; done) | (simp (disch := omega) only [w64, wu8, wu16, wu32, wu64, tm_nn, td_nn, fd_nn, Int.reduceAdd, Int.reduceSub, Int.reduceMul, Int.reduceDiv, Int.reduceMod, Int.reduceNeg, Int.reduceToNat, Int.toNat_natCast, Int.toNat_zero, Int.zero_add, Int.add_zero, Int.one_mul, Int.reducePow, Nat.mul_one, Nat.zero_add, Nat.add_zero, Nat.zero_mul, Nat.reduceAdd, Nat.reduceMul, Nat.reduceSub, Nat.min_eq_left, IntKind.bits, Nat.sub_zero]; rfl) | rfl)); intro ks hks)))
    | ((with_reducible refine k_load ?_); (first | ((with_reducible apply s_loadV); (· rfl)) | ((with_reducible apply s_loadP); (· rfl); (· (first | exact upd_self | rfl | assumption | (simp (disch := omega) only [upd_self, upd_ne]; done) | (simp (disch := omega) only [upd_self, upd_ne]; rfl))))))
    | ((with_reducible refine k_add ?_); ((with_reducible apply s_add); (· rfl); (· rfl)))
    | ((with_reducible refine k_buildS ?_); ((with_reducible apply s_buildS); (· rfl); (· (exact ⟨rfl, by decide⟩)); (· (first | (simp only [fillB, rep, splice, List.reduceReplicate, List.flatten_cons, List.flatten_nil, List.cons_append, List.nil_append, List.append_nil, List.length_cons, List.length_nil, Nat.reduceAdd, Nat.reduceMul, Nat.reduceLeDiff, Nat.reduceEqDiff, eq_self, Nat.le_refl, Nat.zero_add, and_self, and_true, true_and, if_true, List.take_zero, List.take_succ_cons, List.drop_zero, List.drop_succ_cons, List.drop_nil, List.take_nil]; rfl) | rfl)); intro k hk; (try simp only [upd_none] at hk)))
    | ((with_reducible refine k_append ?_); ((with_reducible apply s_app); (· rfl); (· rfl); (· first | assumption | exact SlOwn.nil | exact SlOwn.emp | exact SlOwn.sl upd_self rfl | (apply SlOwn.upd <;> assumption) | ((apply SlOwn.sl); (· (first | exact upd_self | rfl | assumption | (simp (disch := omega) only [upd_self, upd_ne]; done) | (simp (disch := omega) only [upd_self, upd_ne]; rfl))); (· rfl))); (· rfl); (· first | exact srcD_sl upd_self rfl | (exact srcD_vs (by simp)) | ((apply srcD_sl); (· (first | exact upd_self | rfl | assumption | (simp (disch := omega) only [upd_self, upd_ne]; done) | (simp (disch := omega) only [upd_self, upd_ne]; rfl))); (· rfl))); (· exact ⟨by first | rfl | simp, by decide⟩); (· first | (rw [room_n]; omega) | skip); intro da ha hso hoth))
    | ((with_reducible refine k_callF ?_); (first | ((with_reducible apply s_call1); (· rfl)) | ((with_reducible apply s_calln); (· rfl))))
    | ((with_reducible refine k_br ?_); (first | (with_reducible refine Br_dec ?_) | (with_reducible refine Br_not ?_) | (with_reducible refine Br_eqF ?_) | (with_reducible refine Br_and ?_) | (with_reducible refine Br_or ?_) | (with_reducible refine Br_neg ?_) | (with_reducible refine Br_band ?_) | (with_reducible refine Br_bor ?_) | (with_reducible refine Br_beq ?_) | (refine Br_t (by first | omega | assumption | rfl) ?_) | (refine Br_f (by first | omega | assumption | decide) ?_) | (with_reducible apply Br_sb <;> intro hbr <;> (first | subst hbr | simp only [hbr] | skip)) | (with_reducible apply Br_s <;> intro hbr)))
    | (with_reducible refine WN_succ ?_)
    | ((first | (with_reducible apply q_eqI) | (with_reducible apply q_eqN)); (first | (simp (disch := omega) only [w64, wu8, wu16, wu32, wu64, tm_nn, td_nn, fd_nn, Int.reduceAdd, Int.reduceSub, Int.reduceMul, Int.reduceDiv, Int.reduceMod, Int.reduceNeg, Int.reduceToNat, Int.toNat_natCast, Int.toNat_zero, Int.zero_add, Int.add_zero, Int.one_mul, Int.reducePow, Nat.mul_one, Nat.zero_add, Nat.add_zero, Nat.zero_mul, Nat.reduceAdd, Nat.reduceMul, Nat.reduceSub, Nat.min_eq_left, IntKind.bits, Nat.sub_zero]; done) | (simp (disch := omega) only [w64, wu8, wu16, wu32, wu64, tm_nn, td_nn, fd_nn, Int.reduceAdd, Int.reduceSub, Int.reduceMul, Int.reduceDiv, Int.reduceMod, Int.reduceNeg, Int.reduceToNat, Int.toNat_natCast, Int.toNat_zero, Int.zero_add, Int.add_zero, Int.one_mul, Int.reducePow, Nat.mul_one, Nat.zero_add, Nat.add_zero, Nat.zero_mul, Nat.reduceAdd, Nat.reduceMul, Nat.reduceSub, Nat.min_eq_left, IntKind.bits, Nat.sub_zero]; rfl) | rfl))
    | ((first | (with_reducible apply q_eqL) | (with_reducible apply q_eqO)); (first | (simp (disch := omega) only [upd_self, upd_ne, upd_upd, rep, splice, List.take_succ_cons, List.take_zero, List.drop_succ_cons, List.drop_zero, List.cons_append, List.nil_append, List.append_nil, List.length_cons, List.length_nil, List.reduceReplicate, List.flatten_cons, List.flatten_nil, Nat.reduceAdd, Nat.reduceMul, Nat.reduceSub, Nat.zero_add, Nat.add_zero, List.getElem?_cons_zero, List.getElem?_cons_succ]; done) | (simp (disch := omega) only [upd_self, upd_ne, upd_upd, rep, splice, List.take_succ_cons, List.take_zero, List.drop_succ_cons, List.drop_zero, List.cons_append, List.nil_append, List.append_nil, List.length_cons, List.length_nil, List.reduceReplicate, List.flatten_cons, List.flatten_nil, Nat.reduceAdd, Nat.reduceMul, Nat.reduceSub, Nat.zero_add, Nat.add_zero, List.getElem?_cons_zero, List.getElem?_cons_succ]; rfl) | rfl)))
  · rw [show layF l s = ([], 9) by simp [layF]; omega]
    first | exact Fin_flat trivial rfl rfl | (refine Fin_tup trivial rfl ?_ (Nat.le_of_ble_eq_true rfl); (repeat (first | exact All2.nil | (apply All2.cons; (· first | exact exc_n | exact exc_e | exact exc_v rfl rfl | exact exc_o upd_self rfl rfl)))); done) | (refine Fin_own trivial rfl upd_self ?_ (Nat.le_of_ble_eq_true rfl); (repeat (first | exact All2.nil | (apply All2.cons; (· first | exact exc_n | exact exc_e | exact exc_v rfl rfl | exact exc_o upd_self rfl rfl)))); done) | exact Fin_nil trivial rfl | exact Fin_sl trivial rfl upd_self rfl rfl
  · have hl4 : ¬ 4 < l.length := by omega
    refine W_for l.length (fun i st => layOk (l.take i) ∧ ∃ d h', st = ⟨[(1, .int .i64 s), (6, .int .i64 (layP (l.take i)).2), (7, d), (13, i64s l), (14, .int .i64 l.length), (15, .int .i64 i)], h'⟩ ∧ SlOwn h' d 1 ((layP (l.take i)).1.map (.int .i64)) i) ⟨by intro n hn; simp at hn, _, _, rfl, SlOwn.nil⟩ ?_ ?_
    · rintro i e' h' hi ⟨hok, d, h1, he, ho⟩
      cases he
      have hb := layP_in _ hok
      have hb2 : (l.take i).length = i := by rw [List.length_take]; omega
      rw [hb2] at hb
      repeat' (first
        | (with_reducible refine W_seq ?_)
        | (with_reducible refine then_n ?_)
        | (with_reducible refine W_block ?_)
        | (with_reducible refine blk_n ?_)
        | (with_reducible refine blk_r ?_)
        | (with_reducible refine blk_e ?_)
        | (refine blk_j (by decide) ?_)
        | (with_reducible refine W_skip ?_)
        | (with_reducible refine W_ret ?_)
        | (with_reducible refine then_r ?_)
        | (with_reducible refine W_exit ?_)
        | (with_reducible refine then_e ?_)
        | ((with_reducible refine s_reg ?_); intro K hK)
        | ((with_reducible refine k_nil ?_); (with_reducible apply s_nil hK); (· (repeat (first | exact norm_nil | ((with_reducible apply norm_cons); (· rfl)) | ((with_reducible apply norm_skip); (· rfl))))); clear hK; clear K)
        | ((with_reducible refine k_cond ?_); (first | ((with_reducible apply s_condT); (· rfl); (· (repeat (first | exact norm_nil | ((with_reducible apply norm_cons); (· rfl)) | ((with_reducible apply norm_skip); (· rfl)))))) | ((with_reducible apply s_condF); (· rfl); (· (repeat (first | exact norm_nil | ((with_reducible apply norm_cons); (· rfl)) | ((with_reducible apply norm_skip); (· rfl)))))) | ((with_reducible apply s_condS); (· rfl); (· (repeat (first | exact norm_nil | ((with_reducible apply norm_cons); (· rfl)) | ((with_reducible apply norm_skip); (· rfl))))); (· (repeat (first | exact norm_nil | ((with_reducible apply norm_cons); (· rfl)) | ((with_reducible apply norm_skip); (· rfl))))))))
        | ((with_reducible refine k_guard ?_); (first | (refine s_gt rfl ?_) | (refine s_gf1 rfl ?_) | (refine s_gfn rfl ?_) | (refine s_gx1 rfl ?_) | (refine s_gxn rfl ?_) | (refine s_gs rfl ?_)))
        | ((with_reducible refine k_mv ?_); (refine s_mv rfl ?_))
        | ((with_reducible refine k_len ?_); (first | (refine s_len rfl rfl ?_) | ((with_reducible apply s_len); (· rfl); (· exact SlOwn.len (by assumption)))))
        | ((with_reducible refine k_pick ?_); (first | (refine s_pickT rfl rfl ?_) | (refine s_pickF rfl rfl ?_)))
        | ((with_reducible refine k_not ?_); (refine s_not rfl (by first | exact Bool.not_true | exact Bool.not_false | rfl) ?_))
        | ((with_reducible refine k_lss ?_); (refine s_lss rfl rfl ?_))
        | ((with_reducible refine k_gtr ?_); (refine s_gtr rfl rfl ?_))
        | ((with_reducible refine k_iaddr ?_); (first | ((with_reducible apply s_iaddrV); (· rfl); (· rfl); (· (first | omega | exact ⟨rfl, by omega⟩ | skip))) | ((with_reducible apply s_iaddrO); (· rfl); (· rfl); (· (first | omega | exact ⟨rfl, by omega⟩ | skip)); (· (first | exact upd_self | rfl | assumption | (simp (disch := omega) only [upd_self, upd_ne]; done) | (simp (disch := omega) only [upd_self, upd_ne]; rfl)))) | ((with_reducible apply s_iaddrSO); (· rfl); (· assumption); (· rfl); (· (first | omega | exact ⟨rfl, by omega⟩ | skip)); (· (first | (simp (disch := omega) only [w64, wu8, wu16, wu32, wu64, tm_nn, td_nn, fd_nn, Int.reduceAdd, Int.reduceSub, Int.reduceMul, Int.reduceDiv, Int.reduceMod, Int.reduceNeg, Int.reduceToNat, Int.toNat_natCast, Int.toNat_zero, Int.zero_add, Int.add_zero, Int.one_mul, Int.reducePow, Nat.mul_one, Nat.zero_add, Nat.add_zero, Nat.zero_mul, Nat.reduceAdd, Nat.reduceMul, Nat.reduceSub, Nat.min_eq_left, IntKind.bits, Nat.sub_zero, gm]; done) | (simp (disch := omega) only [w64, wu8, wu16, wu32, wu64, tm_nn, td_nn, fd_nn, Int.reduceAdd, Int.reduceSub, Int.reduceMul, Int.reduceDiv, Int.reduceMod, Int.reduceNeg, Int.reduceToNat, Int.toNat_natCast, Int.toNat_zero, Int.zero_add, Int.add_zero, Int.one_mul, Int.reducePow, Nat.mul_one, Nat.zero_add, Nat.add_zero, Nat.zero_mul, Nat.reduceAdd, Nat.reduceMul, Nat.reduceSub, Nat.min_eq_left, IntKind.bits, Nat.sub_zero, gm]; rfl) | rfl)); intro ks hks)))
        | ((with_reducible refine k_load ?_); (first | ((with_reducible apply s_loadV); (· rfl)) | ((with_reducible apply s_loadP); (· rfl); (· (first | exact upd_self | rfl | assumption | (simp (disch := omega) only [upd_self, upd_ne]; done) | (simp (disch := omega) only [upd_self, upd_ne]; rfl))))))
        | ((with_reducible refine k_add ?_); ((with_reducible apply s_add); (· rfl); (· rfl)))
        | ((with_reducible refine k_buildS ?_); ((with_reducible apply s_buildS); (· rfl); (· (exact ⟨rfl, by decide⟩)); (· (first | (simp only [fillB, rep, splice, List.reduceReplicate, List.flatten_cons, List.flatten_nil, List.cons_append, List.nil_append, List.append_nil, List.length_cons, List.length_nil, Nat.reduceAdd, Nat.reduceMul, Nat.reduceLeDiff, Nat.reduceEqDiff, eq_self, Nat.le_refl, Nat.zero_add, and_self, and_true, true_and, if_true, List.take_zero, List.take_succ_cons, List.drop_zero, List.drop_succ_cons, List.drop_nil, List.take_nil]; rfl) | rfl)); intro k hk; (try simp only [upd_none] at hk)))
        | ((with_reducible refine k_append ?_); ((with_reducible apply s_app); (· rfl); (· rfl); (· first | assumption | exact SlOwn.nil | exact SlOwn.emp | exact SlOwn.sl upd_self rfl | (apply SlOwn.upd <;> assumption) | ((apply SlOwn.sl); (· (first | exact upd_self | rfl | assumption | (simp (disch := omega) only [upd_self, upd_ne]; done) | (simp (disch := omega) only [upd_self, upd_ne]; rfl))); (· rfl))); (· rfl); (· first | exact srcD_sl upd_self rfl | (exact srcD_vs (by simp)) | ((apply srcD_sl); (· (first | exact upd_self | rfl | assumption | (simp (disch := omega) only [upd_self, upd_ne]; done) | (simp (disch := omega) only [upd_self, upd_ne]; rfl))); (· rfl))); (· exact ⟨by first | rfl | simp, by decide⟩); (· first | (rw [room_n]; omega) | skip); intro da ha hso hoth))
        | ((with_reducible refine k_callF ?_); (first | ((with_reducible apply s_call1); (· rfl)) | ((with_reducible apply s_calln); (· rfl))))
        | ((with_reducible refine k_con ?_); (first | ((with_reducible apply con_valB (size_c _)); (· (repeat (first | exact All2.nil | (apply All2.cons; (· first | exact Rd_int | exact Rd_bool | exact Rd_vs | exact Rd_nil | exact Rd_emp | exact Rd_vp | exact Rd_sl0 upd_self rfl rfl | exact Rd_flat rfl | ((apply Rd_sl0); (· (first | exact upd_self | rfl | assumption | (simp (disch := omega) only [upd_self, upd_ne]; done) | (simp (disch := omega) only [upd_self, upd_ne]; rfl))); (· first | rfl | exact scal_i | exact scal_b | assumption); (· first | rfl | simp)) | ((apply Rd_so); (· assumption); (· first | rfl | exact scal_i | exact scal_b | assumption))))))))))
        | ((with_reducible refine k_br ?_); (first | (with_reducible refine Br_dec ?_) | (with_reducible refine Br_not ?_) | (with_reducible refine Br_eqF ?_) | (with_reducible refine Br_and ?_) | (with_reducible refine Br_or ?_) | (with_reducible refine Br_neg ?_) | (with_reducible refine Br_band ?_) | (with_reducible refine Br_bor ?_) | (with_reducible refine Br_beq ?_) | (refine Br_t (by first | omega | assumption | rfl) ?_) | (refine Br_f (by first | omega | assumption | decide) ?_) | (with_reducible apply Br_sb <;> intro hbr <;> (first | subst hbr | simp only [hbr] | skip)) | (with_reducible apply Br_s <;> intro hbr)))
        | (with_reducible refine WN_succ ?_)
        | ((first | (with_reducible apply q_eqI) | (with_reducible apply q_eqN)); (first | (simp (disch := omega) only [w64, wu8, wu16, wu32, wu64, tm_nn, td_nn, fd_nn, Int.reduceAdd, Int.reduceSub, Int.reduceMul, Int.reduceDiv, Int.reduceMod, Int.reduceNeg, Int.reduceToNat, Int.toNat_natCast, Int.toNat_zero, Int.zero_add, Int.add_zero, Int.one_mul, Int.reducePow, Nat.mul_one, Nat.zero_add, Nat.add_zero, Nat.zero_mul, Nat.reduceAdd, Nat.reduceMul, Nat.reduceSub, Nat.min_eq_left, IntKind.bits, Nat.sub_zero, gm]; done) | (simp (disch := omega) only [w64, wu8, wu16, wu32, wu64, tm_nn, td_nn, fd_nn, Int.reduceAdd, Int.reduceSub, Int.reduceMul, Int.reduceDiv, Int.reduceMod, Int.reduceNeg, Int.reduceToNat, Int.toNat_natCast, Int.toNat_zero, Int.zero_add, Int.add_zero, Int.one_mul, Int.reducePow, Nat.mul_one, Nat.zero_add, Nat.add_zero, Nat.zero_mul, Nat.reduceAdd, Nat.reduceMul, Nat.reduceSub, Nat.min_eq_left, IntKind.bits, Nat.sub_zero, gm]; rfl) | rfl))
        | ((first | (with_reducible apply q_eqL) | (with_reducible apply q_eqO)); (first | (simp (disch := omega) only [upd_self, upd_ne, upd_upd, rep, splice, List.take_succ_cons, List.take_zero, List.drop_succ_cons, List.drop_zero, List.cons_append, List.nil_append, List.append_nil, List.length_cons, List.length_nil, List.reduceReplicate, List.flatten_cons, List.flatten_nil, Nat.reduceAdd, Nat.reduceMul, Nat.reduceSub, Nat.zero_add, Nat.add_zero, List.getElem?_cons_zero, List.getElem?_cons_succ, gm]; done) | (simp (disch := omega) only [upd_self, upd_ne, upd_upd, rep, splice, List.take_succ_cons, List.take_zero, List.drop_succ_cons, List.drop_zero, List.cons_append, List.nil_append, List.append_nil, List.length_cons, List.length_nil, List.reduceReplicate, List.flatten_cons, List.flatten_nil, Nat.reduceAdd, Nat.reduceMul, Nat.reduceSub, Nat.zero_add, Nat.add_zero, List.getElem?_cons_zero, List.getElem?_cons_succ, gm]; rfl) | rfl)))
      · rw [lay_bad hi (by omega) s hl4]
        first | exact Fin_flat trivial rfl rfl | (refine Fin_tup trivial rfl ?_ (Nat.le_of_ble_eq_true rfl); (repeat (first | exact All2.nil | (apply All2.cons; (· first | exact exc_n | exact exc_e | exact exc_v rfl rfl | exact exc_o upd_self rfl rfl)))); done) | (refine Fin_own trivial rfl upd_self ?_ (Nat.le_of_ble_eq_true rfl); (repeat (first | exact All2.nil | (apply All2.cons; (· first | exact exc_n | exact exc_e | exact exc_v rfl rfl | exact exc_o upd_self rfl rfl)))); done) | exact Fin_nil trivial rfl | exact Fin_sl trivial rfl upd_self rfl rfl
      · rw [layP_step hi]
        exact ⟨layOk_take hi hok (by omega), _, _, rfl, map_snoc hso⟩
      · rw [lay_bad hi (by omega) s hl4]
        first | exact Fin_flat trivial rfl rfl | (refine Fin_tup trivial rfl ?_ (Nat.le_of_ble_eq_true rfl); (repeat (first | exact All2.nil | (apply All2.cons; (· first | exact exc_n | exact exc_e | exact exc_v rfl rfl | exact exc_o upd_self rfl rfl)))); done) | (refine Fin_own trivial rfl upd_self ?_ (Nat.le_of_ble_eq_true rfl); (repeat (first | exact All2.nil | (apply All2.cons; (· first | exact exc_n | exact exc_e | exact exc_v rfl rfl | exact exc_o upd_self rfl rfl)))); done) | exact Fin_nil trivial rfl | exact Fin_sl trivial rfl upd_self rfl rfl
    · rintro e' h' ⟨hok, d, h1, he, ho⟩
      cases he
      rw [List.take_length] at hok ho ⊢
      have hb := layP_in _ hok
      repeat' (first
        | (with_reducible refine W_seq ?_)
        | (with_reducible refine then_n ?_)
        | (with_reducible refine W_block ?_)
        | (with_reducible refine blk_n ?_)
        | (with_reducible refine blk_r ?_)
        | (with_reducible refine blk_e ?_)
        | (refine blk_j (by decide) ?_)
        | (with_reducible refine W_skip ?_)
        | (with_reducible refine W_ret ?_)
        | (with_reducible refine then_r ?_)
        | (with_reducible refine W_exit ?_)
        | (with_reducible refine then_e ?_)
        | ((with_reducible refine s_reg ?_); intro K hK)
        | ((with_reducible refine k_nil ?_); (with_reducible apply s_nil hK); (· (repeat (first | exact norm_nil | ((with_reducible apply norm_cons); (· rfl)) | ((with_reducible apply norm_skip); (· rfl))))); clear hK; clear K)
        | ((with_reducible refine k_cond ?_); (first | ((with_reducible apply s_condT); (· rfl); (· (repeat (first | exact norm_nil | ((with_reducible apply norm_cons); (· rfl)) | ((with_reducible apply norm_skip); (· rfl)))))) | ((with_reducible apply s_condF); (· rfl); (· (repeat (first | exact norm_nil | ((with_reducible apply norm_cons); (· rfl)) | ((with_reducible apply norm_skip); (· rfl)))))) | ((with_reducible apply s_condS); (· rfl); (· (repeat (first | exact norm_nil | ((with_reducible apply norm_cons); (· rfl)) | ((with_reducible apply norm_skip); (· rfl))))); (· (repeat (first | exact norm_nil | ((with_reducible apply norm_cons); (· rfl)) | ((with_reducible apply norm_skip); (· rfl))))))))
        | ((with_reducible refine k_guard ?_); (first | (refine s_gt rfl ?_) | (refine s_gf1 rfl ?_) | (refine s_gfn rfl ?_) | (refine s_gx1 rfl ?_) | (refine s_gxn rfl ?_) | (refine s_gs rfl ?_)))
        | ((with_reducible refine k_mv ?_); (refine s_mv rfl ?_))
        | ((with_reducible refine k_len ?_); (first | (refine s_len rfl rfl ?_) | ((with_reducible apply s_len); (· rfl); (· exact SlOwn.len (by assumption)))))
        | ((with_reducible refine k_pick ?_); (first | (refine s_pickT rfl rfl ?_) | (refine s_pickF rfl rfl ?_)))
        | ((with_reducible refine k_not ?_); (refine s_not rfl (by first | exact Bool.not_true | exact Bool.not_false | rfl) ?_))
        | ((with_reducible refine k_lss ?_); (refine s_lss rfl rfl ?_))
        | ((with_reducible refine k_gtr ?_); (refine s_gtr rfl rfl ?_))
        | ((with_reducible refine k_iaddr ?_); (first | ((with_reducible apply s_iaddrV); (· rfl); (· rfl); (· (first | omega | exact ⟨rfl, by omega⟩ | skip))) | ((with_reducible apply s_iaddrO); (· rfl); (· rfl); (· (first | omega | exact ⟨rfl, by omega⟩ | skip)); (· (first | exact upd_self | rfl | assumption | (simp (disch := omega) only [upd_self, upd_ne]; done) | (simp (disch := omega) only [upd_self, upd_ne]; rfl)))) | ((with_reducible apply s_iaddrSO); (· rfl); (· assumption); (· rfl); (· (first | omega | exact ⟨rfl, by omega⟩ | skip)); (· (first | (simp (disch := omega) only [w64, wu8, wu16, wu32, wu64, tm_nn, td_nn, fd_nn, Int.reduceAdd, Int.reduceSub, Int.reduceMul, Int.reduceDiv, Int.reduceMod, Int.reduceNeg, Int.reduceToNat, Int.toNat_natCast, Int.toNat_zero, Int.zero_add, Int.add_zero, Int.one_mul, Int.reducePow, Nat.mul_one, Nat.zero_add, Nat.add_zero, Nat.zero_mul, Nat.reduceAdd, Nat.reduceMul, Nat.reduceSub, Nat.min_eq_left, IntKind.bits, Nat.sub_zero, gm]; done) | (simp (disch := omega) only [w64, wu8, wu16, wu32, wu64, tm_nn, td_nn, fd_nn, Int.reduceAdd, Int.reduceSub, Int.reduceMul, Int.reduceDiv, Int.reduceMod, Int.reduceNeg, Int.reduceToNat, Int.toNat_natCast, Int.toNat_zero, Int.zero_add, Int.add_zero, Int.one_mul, Int.reducePow, Nat.mul_one, Nat.zero_add, Nat.add_zero, Nat.zero_mul, Nat.reduceAdd, Nat.reduceMul, Nat.reduceSub, Nat.min_eq_left, IntKind.bits, Nat.sub_zero, gm]; rfl) | rfl)); intro ks hks)))
        | ((with_reducible refine k_load ?_); (first | ((with_reducible apply s_loadV); (· rfl)) | ((with_reducible apply s_loadP); (· rfl); (· (first | exact upd_self | rfl | assumption | (simp (disch := omega) only [upd_self, upd_ne]; done) | (simp (disch := omega) only [upd_self, upd_ne]; rfl))))))
        | ((with_reducible refine k_add ?_); ((with_reducible apply s_add); (· rfl); (· rfl)))
        | ((with_reducible refine k_buildS ?_); ((with_reducible apply s_buildS); (· rfl); (· (exact ⟨rfl, by decide⟩)); (· (first | (simp only [fillB, rep, splice, List.reduceReplicate, List.flatten_cons, List.flatten_nil, List.cons_append, List.nil_append, List.append_nil, List.length_cons, List.length_nil, Nat.reduceAdd, Nat.reduceMul, Nat.reduceLeDiff, Nat.reduceEqDiff, eq_self, Nat.le_refl, Nat.zero_add, and_self, and_true, true_and, if_true, List.take_zero, List.take_succ_cons, List.drop_zero, List.drop_succ_cons, List.drop_nil, List.take_nil]; rfl) | rfl)); intro k hk; (try simp only [upd_none] at hk)))
        | ((with_reducible refine k_append ?_); ((with_reducible apply s_app); (· rfl); (· rfl); (· first | assumption | exact SlOwn.nil | exact SlOwn.emp | exact SlOwn.sl upd_self rfl | (apply SlOwn.upd <;> assumption) | ((apply SlOwn.sl); (· (first | exact upd_self | rfl | assumption | (simp (disch := omega) only [upd_self, upd_ne]; done) | (simp (disch := omega) only [upd_self, upd_ne]; rfl))); (· rfl))); (· rfl); (· first | exact srcD_sl upd_self rfl | (exact srcD_vs (by simp)) | ((apply srcD_sl); (· (first | exact upd_self | rfl | assumption | (simp (disch := omega) only [upd_self, upd_ne]; done) | (simp (disch := omega) only [upd_self, upd_ne]; rfl))); (· rfl))); (· exact ⟨by first | rfl | simp, by decide⟩); (· first | (rw [room_n]; omega) | skip); intro da ha hso hoth))
        | ((with_reducible refine k_callF ?_); (first | ((with_reducible apply s_call1); (· rfl)) | ((with_reducible apply s_calln); (· rfl))))
        | ((with_reducible refine k_br ?_); (first | (with_reducible refine Br_dec ?_) | (with_reducible refine Br_not ?_) | (with_reducible refine Br_eqF ?_) | (with_reducible refine Br_and ?_) | (with_reducible refine Br_or ?_) | (with_reducible refine Br_neg ?_) | (with_reducible refine Br_band ?_) | (with_reducible refine Br_bor ?_) | (with_reducible refine Br_beq ?_) | (refine Br_t (by first | omega | assumption | rfl) ?_) | (refine Br_f (by first | omega | assumption | decide) ?_) | (with_reducible apply Br_sb <;> intro hbr <;> (first | subst hbr | simp only [hbr] | skip)) | (with_reducible apply Br_s <;> intro hbr)))
        | (with_reducible refine WN_succ ?_)
        | ((first | (with_reducible apply q_eqI) | (with_reducible apply q_eqN)); (first | (simp (disch := omega) only [w64, wu8, wu16, wu32, wu64, tm_nn, td_nn, fd_nn, Int.reduceAdd, Int.reduceSub, Int.reduceMul, Int.reduceDiv, Int.reduceMod, Int.reduceNeg, Int.reduceToNat, Int.toNat_natCast, Int.toNat_zero, Int.zero_add, Int.add_zero, Int.one_mul, Int.reducePow, Nat.mul_one, Nat.zero_add, Nat.add_zero, Nat.zero_mul, Nat.reduceAdd, Nat.reduceMul, Nat.reduceSub, Nat.min_eq_left, IntKind.bits, Nat.sub_zero, gm]; done) | (simp (disch := omega) only [w64, wu8, wu16, wu32, wu64, tm_nn, td_nn, fd_nn, Int.reduceAdd, Int.reduceSub, Int.reduceMul, Int.reduceDiv, Int.reduceMod, Int.reduceNeg, Int.reduceToNat, Int.toNat_natCast, Int.toNat_zero, Int.zero_add, Int.add_zero, Int.one_mul, Int.reducePow, Nat.mul_one, Nat.zero_add, Nat.add_zero, Nat.zero_mul, Nat.reduceAdd, Nat.reduceMul, Nat.reduceSub, Nat.min_eq_left, IntKind.bits, Nat.sub_zero, gm]; rfl) | rfl))
        | ((first | (with_reducible apply q_eqL) | (with_reducible apply q_eqO)); (first | (simp (disch := omega) only [upd_self, upd_ne, upd_upd, rep, splice, List.take_succ_cons, List.take_zero, List.drop_succ_cons, List.drop_zero, List.cons_append, List.nil_append, List.append_nil, List.length_cons, List.length_nil, List.reduceReplicate, List.flatten_cons, List.flatten_nil, Nat.reduceAdd, Nat.reduceMul, Nat.reduceSub, Nat.zero_add, Nat.add_zero, List.getElem?_cons_zero, List.getElem?_cons_succ, gm]; done) | (simp (disch := omega) only [upd_self, upd_ne, upd_upd, rep, splice, List.take_succ_cons, List.take_zero, List.drop_succ_cons, List.drop_zero, List.cons_append, List.nil_append, List.append_nil, List.length_cons, List.length_nil, List.reduceReplicate, List.flatten_cons, List.flatten_nil, Nat.reduceAdd, Nat.reduceMul, Nat.reduceSub, Nat.zero_add, Nat.add_zero, List.getElem?_cons_zero, List.getElem?_cons_succ, gm]; rfl) | rfl)))
      · rw [lay_no hl4 (by omega)]
        first | exact Fin_flat trivial rfl rfl | (refine Fin_tup trivial rfl ?_ (Nat.le_of_ble_eq_true rfl); (repeat (first | exact All2.nil | (apply All2.cons; (· first | exact exc_n | exact exc_e | exact exc_v rfl rfl | exact exc_o upd_self rfl rfl)))); done) | (refine Fin_own trivial rfl upd_self ?_ (Nat.le_of_ble_eq_true rfl); (repeat (first | exact All2.nil | (apply All2.cons; (· first | exact exc_n | exact exc_e | exact exc_v rfl rfl | exact exc_o upd_self rfl rfl)))); done) | exact Fin_nil trivial rfl | exact Fin_sl trivial rfl upd_self rfl rfl
      · rw [lay_no hl4 (by omega)]
        first | exact Fin_flat trivial rfl rfl | (refine Fin_tup trivial rfl ?_ (Nat.le_of_ble_eq_true rfl); (repeat (first | exact All2.nil | (apply All2.cons; (· first | exact exc_n | exact exc_e | exact exc_v rfl rfl | exact exc_o upd_self rfl rfl)))); done) | (refine Fin_own trivial rfl upd_self ?_ (Nat.le_of_ble_eq_true rfl); (repeat (first | exact All2.nil | (apply All2.cons; (· first | exact exc_n | exact exc_e | exact exc_v rfl rfl | exact exc_o upd_self rfl rfl)))); done) | exact Fin_nil trivial rfl | exact Fin_sl trivial rfl upd_self rfl rfl
      · exact lay_fin trivial rfl hl4 hok (by omega) hso
theorem rlay_c (l : List Int) (s : Int) : PCon Try.prog 18 [i64s l, .int .i64 s] (layR (layF l s)) := by
  refine A18p (by simp [A18]) ?_
  simp only [A18, argEnv]
  repeat' (first
    | (with_reducible refine W_seq ?_)
    | (with_reducible refine then_n ?_)
    | (with_reducible refine W_block ?_)
    | (with_reducible refine blk_n ?_)
    | (with_reducible refine blk_r ?_)
    | (with_reducible refine blk_e ?_)
    | (refine blk_j (by decide) ?_)
    | (with_reducible refine W_skip ?_)
    | (with_reducible refine W_ret ?_)
    | (with_reducible refine then_r ?_)
    | (with_reducible refine W_exit ?_)
    | (with_reducible refine then_e ?_)
    | ((with_reducible refine s_reg ?_); intro K hK)
    | ((with_reducible refine k_nil ?_); (with_reducible apply s_nil hK); (· (repeat (first | exact norm_nil | ((with_reducible apply norm_cons); (· rfl)) | ((with_reducible apply norm_skip); (· rfl))))); clear hK; clear K)
    | ((with_reducible refine k_cond ?_); (first | ((with_reducible apply s_condT); (· rfl); (· (repeat (first | exact norm_nil | ((with_reducible apply norm_cons); (· rfl)) | ((with_reducible apply norm_skip); (· rfl)))))) | ((with_reducible apply s_condF); (· rfl); (· (repeat (first | exact norm_nil | ((with_reducible apply norm_cons); (· rfl)) | ((with_reducible apply norm_skip); (· rfl)))))) | ((with_reducible apply s_condS); (· rfl); (· (repeat (first | exact norm_nil | ((with_reducible apply norm_cons); (· rfl)) | ((with_reducible apply norm_skip); (· rfl))))); (· (repeat (first | exact norm_nil | ((with_reducible apply norm_cons); (· rfl)) | ((with_reducible apply norm_skip); (· rfl))))))))
    | ((with_reducible refine k_guard ?_); (first | (refine s_gt rfl ?_) | (refine s_gf1 rfl ?_) | (refine s_gfn rfl ?_) | (refine s_gx1 rfl ?_) | (refine s_gxn rfl ?_) | (refine s_gs rfl ?_)))
    | ((with_reducible refine k_mv ?_); (refine s_mv rfl ?_))
    | ((with_reducible refine k_len ?_); (first | (refine s_len rfl rfl ?_) | ((with_reducible apply s_len); (· rfl); (· exact SlOwn.len (by assumption)))))
    | ((with_reducible refine k_pick ?_); (first | (refine s_pickT rfl rfl ?_) | (refine s_pickF rfl rfl ?_)))
    | ((with_reducible refine k_lss ?_); (refine s_lss rfl rfl ?_))
    | ((with_reducible refine k_gtr ?_); (refine s_gtr rfl rfl ?_))
    | ((with_reducible refine k_iaddr ?_); (first | ((with_reducible apply s_iaddrV); (· rfl); (· rfl); (· (first | omega | exact ⟨rfl, by omega⟩ | skip))) | ((with_reducible apply s_iaddrO); (· rfl); (· rfl); (· (first | omega | exact ⟨rfl, by omega⟩ | skip)); (· (first | exact upd_self | rfl | assumption | (simp (disch := omega) only [upd_self, upd_ne]; done) | (simp (disch := omega) only [upd_self, upd_ne]; rfl)))) | ((with_reducible apply s_iaddrSO); (· rfl); (· assumption); (· rfl); (· (first | omega | exact ⟨rfl, by omega⟩ | skip)); (· (first | (simp (disch := omega) only [w64, wu8, wu16, wu32, wu64, tm_nn, td_nn, fd_nn, Int.reduceAdd, Int.reduceSub, Int.reduceMul, Int.reduceDiv, Int.reduceMod, Int.reduceNeg, Int.reduceToNat, Int.toNat_natCast, Int.toNat_zero, Int.zero_add, Int.add_zero, Int.one_mul, Int.reducePow, Nat.mul_one, Nat.zero_add, Nat.add_zero, Nat.zero_mul, Nat.reduceAdd, Nat.reduceMul, Nat.reduceSub, Nat.min_eq_left, IntKind.bits, Nat.sub_zero]; done) | (simp (disch := omega) only [w64, wu8, wu16, wu32, wu64, tm_nn, td_nn, fd_nn, Int.reduceAdd, Int.reduceSub, Int.reduceMul, Int.reduceDiv, Int.reduceMod, Int.reduceNeg, Int.reduceToNat, Int.toNat_natCast, Int.toNat_zero, Int.zero_add, Int.add_zero, Int.one_mul, Int.reducePow, Nat.mul_one, Nat.zero_add, Nat.add_zero, Nat.zero_mul, Nat.reduceAdd, Nat.reduceMul, Nat.reduceSub, Nat.min_eq_left, IntKind.bits, Nat.sub_zero]; rfl) | rfl)); intro ks hks)))
    | ((with_reducible refine k_load ?_); (first | ((with_reducible apply s_loadV); (· rfl)) | ((with_reducible apply s_loadP); (· rfl); (· (first | exact upd_self | rfl | assumption | (simp (disch := omega) only [upd_self, upd_ne]; done) | (simp (disch := omega) only [upd_self, upd_ne]; rfl))))))
    | ((with_reducible refine k_add ?_); ((with_reducible apply s_add); (· rfl); (· rfl)))
    | ((with_reducible refine k_buildS ?_); ((with_reducible apply s_buildS); (· rfl); (· (exact ⟨rfl, by decide⟩)); (· (first | (simp only [fillB, rep, splice, List.reduceReplicate, List.flatten_cons, List.flatten_nil, List.cons_append, List.nil_append, List.append_nil, List.length_cons, List.length_nil, Nat.reduceAdd, Nat.reduceMul, Nat.reduceLeDiff, Nat.reduceEqDiff, eq_self, Nat.le_refl, Nat.zero_add, and_self, and_true, true_and, if_true, List.take_zero, List.take_succ_cons, List.drop_zero, List.drop_succ_cons, List.drop_nil, List.take_nil]; rfl) | rfl)); intro k hk; (try simp only [upd_none] at hk)))
    | ((with_reducible refine k_append ?_); ((with_reducible apply s_app); (· rfl); (· rfl); (· first | assumption | exact SlOwn.nil | exact SlOwn.emp | exact SlOwn.sl upd_self rfl | (apply SlOwn.upd <;> assumption) | ((apply SlOwn.sl); (· (first | exact upd_self | rfl | assumption | (simp (disch := omega) only [upd_self, upd_ne]; done) | (simp (disch := omega) only [upd_self, upd_ne]; rfl))); (· rfl))); (· rfl); (· first | exact srcD_sl upd_self rfl | (exact srcD_vs (by simp)) | ((apply srcD_sl); (· (first | exact upd_self | rfl | assumption | (simp (disch := omega) only [upd_self, upd_ne]; done) | (simp (disch := omega) only [upd_self, upd_ne]; rfl))); (· rfl))); (· exact ⟨by first | rfl | simp, by decide⟩); (· first | (rw [room_n]; omega) | skip); intro da ha hso hoth))
    | ((with_reducible refine k_br ?_); (first | (with_reducible refine Br_dec ?_) | (with_reducible refine Br_not ?_) | (with_reducible refine Br_eqF ?_) | (with_reducible refine Br_and ?_) | (with_reducible refine Br_or ?_) | (with_reducible refine Br_neg ?_) | (with_reducible refine Br_band ?_) | (with_reducible refine Br_bor ?_) | (with_reducible refine Br_beq ?_) | (refine Br_t (by first | omega | assumption | rfl) ?_) | (refine Br_f (by first | omega | assumption | decide) ?_) | (with_reducible apply Br_sb <;> intro hbr <;> (first | subst hbr | simp only [hbr] | skip)) | (with_reducible apply Br_s <;> intro hbr)))
    | (with_reducible refine WN_succ ?_)
    | ((first | (with_reducible apply q_eqI) | (with_reducible apply q_eqN)); (first | (simp (disch := omega) only [w64, wu8, wu16, wu32, wu64, tm_nn, td_nn, fd_nn, Int.reduceAdd, Int.reduceSub, Int.reduceMul, Int.reduceDiv, Int.reduceMod, Int.reduceNeg, Int.reduceToNat, Int.toNat_natCast, Int.toNat_zero, Int.zero_add, Int.add_zero, Int.one_mul, Int.reducePow, Nat.mul_one, Nat.zero_add, Nat.add_zero, Nat.zero_mul, Nat.reduceAdd, Nat.reduceMul, Nat.reduceSub, Nat.min_eq_left, IntKind.bits, Nat.sub_zero]; done) | (simp (disch := omega) only [w64, wu8, wu16, wu32, wu64, tm_nn, td_nn, fd_nn, Int.reduceAdd, Int.reduceSub, Int.reduceMul, Int.reduceDiv, Int.reduceMod, Int.reduceNeg, Int.reduceToNat, Int.toNat_natCast, Int.toNat_zero, Int.zero_add, Int.add_zero, Int.one_mul, Int.reducePow, Nat.mul_one, Nat.zero_add, Nat.add_zero, Nat.zero_mul, Nat.reduceAdd, Nat.reduceMul, Nat.reduceSub, Nat.min_eq_left, IntKind.bits, Nat.sub_zero]; rfl) | rfl))
    | ((first | (with_reducible apply q_eqL) | (with_reducible apply q_eqO)); (first | (simp (disch := omega) only [upd_self, upd_ne, upd_upd, rep, splice, List.take_succ_cons, List.take_zero, List.drop_succ_cons, List.drop_zero, List.cons_append, List.nil_append, List.append_nil, List.length_cons, List.length_nil, List.reduceReplicate, List.flatten_cons, List.flatten_nil, Nat.reduceAdd, Nat.reduceMul, Nat.reduceSub, Nat.zero_add, Nat.add_zero, List.getElem?_cons_zero, List.getElem?_cons_succ]; done) | (simp (disch := omega) only [upd_self, upd_ne, upd_upd, rep, splice, List.take_succ_cons, List.take_zero, List.drop_succ_cons, List.drop_zero, List.cons_append, List.nil_append, List.append_nil, List.length_cons, List.length_nil, List.reduceReplicate, List.flatten_cons, List.flatten_nil, Nat.reduceAdd, Nat.reduceMul, Nat.reduceSub, Nat.zero_add, Nat.add_zero, List.getElem?_cons_zero, List.getElem?_cons_succ]; rfl) | rfl)))
  · rw [show layF l s = ([], 9) by simp [layF]; omega]
    first | exact Fin_flat trivial rfl rfl | (refine Fin_tup trivial rfl ?_ (Nat.le_of_ble_eq_true rfl); (repeat (first | exact All2.nil | (apply All2.cons; (· first | exact exc_n | exact exc_e | exact exc_v rfl rfl | exact exc_o upd_self rfl rfl)))); done) | (refine Fin_own trivial rfl upd_self ?_ (Nat.le_of_ble_eq_true rfl); (repeat (first | exact All2.nil | (apply All2.cons; (· first | exact exc_n | exact exc_e | exact exc_v rfl rfl | exact exc_o upd_self rfl rfl)))); done) | exact Fin_nil trivial rfl | exact Fin_sl trivial rfl upd_self rfl rfl
  · have hl4 : ¬ 4 < l.length := by omega
    refine W_for l.length (fun i st => layOk (l.take i) ∧ ∃ d h', st = ⟨[(0, i64s l), (1, .int .i64 s), (6, d), (7, .int .i64 (layP (l.take i)).2), (8, .int .i64 i)], h'⟩ ∧ SlOwn h' d 1 ((layP (l.take i)).1.map (.int .i64)) i) ⟨by intro n hn; simp at hn, _, _, rfl, SlOwn.nil⟩ ?_ ?_
    · rintro i e' h' hi ⟨hok, d, h1, he, ho⟩
      cases he
      have hb := layP_in _ hok
      have hb2 : (l.take i).length = i := by rw [List.length_take]; omega
      rw [hb2] at hb
      repeat' (first
        | (with_reducible refine W_seq ?_)
        | (with_reducible refine then_n ?_)
        | (with_reducible refine W_block ?_)
        | (with_reducible refine blk_n ?_)
        | (with_reducible refine blk_r ?_)
        | (with_reducible refine blk_e ?_)
        | (refine blk_j (by decide) ?_)
        | (with_reducible refine W_skip ?_)
        | (with_reducible refine W_ret ?_)
        | (with_reducible refine then_r ?_)
        | (with_reducible refine W_exit ?_)
        | (with_reducible refine then_e ?_)
        | ((with_reducible refine s_reg ?_); intro K hK)
        | ((with_reducible refine k_nil ?_); (with_reducible apply s_nil hK); (· (repeat (first | exact norm_nil | ((with_reducible apply norm_cons); (· rfl)) | ((with_reducible apply norm_skip); (· rfl))))); clear hK; clear K)
        | ((with_reducible refine k_cond ?_); (first | ((with_reducible apply s_condT); (· rfl); (· (repeat (first | exact norm_nil | ((with_reducible apply norm_cons); (· rfl)) | ((with_reducible apply norm_skip); (· rfl)))))) | ((with_reducible apply s_condF); (· rfl); (· (repeat (first | exact norm_nil | ((with_reducible apply norm_cons); (· rfl)) | ((with_reducible apply norm_skip); (· rfl)))))) | ((with_reducible apply s_condS); (· rfl); (· (repeat (first | exact norm_nil | ((with_reducible apply norm_cons); (· rfl)) | ((with_reducible apply norm_skip); (· rfl))))); (· (repeat (first | exact norm_nil | ((with_reducible apply norm_cons); (· rfl)) | ((with_reducible apply norm_skip); (· rfl))))))))
        | ((with_reducible refine k_guard ?_); (first | (refine s_gt rfl ?_) | (refine s_gf1 rfl ?_) | (refine s_gfn rfl ?_) | (refine s_gx1 rfl ?_) | (refine s_gxn rfl ?_) | (refine s_gs rfl ?_)))
        | ((with_reducible refine k_mv ?_); (refine s_mv rfl ?_))
        | ((with_reducible refine k_len ?_); (first | (refine s_len rfl rfl ?_) | ((with_reducible apply s_len); (· rfl); (· exact SlOwn.len (by assumption)))))
        | ((with_reducible refine k_pick ?_); (first | (refine s_pickT rfl rfl ?_) | (refine s_pickF rfl rfl ?_)))
        | ((with_reducible refine k_lss ?_); (refine s_lss rfl rfl ?_))
        | ((with_reducible refine k_gtr ?_); (refine s_gtr rfl rfl ?_))
        | ((with_reducible refine k_iaddr ?_); (first | ((with_reducible apply s_iaddrV); (· rfl); (· rfl); (· (first | omega | exact ⟨rfl, by omega⟩ | skip))) | ((with_reducible apply s_iaddrO); (· rfl); (· rfl); (· (first | omega | exact ⟨rfl, by omega⟩ | skip)); (· (first | exact upd_self | rfl | assumption | (simp (disch := omega) only [upd_self, upd_ne]; done) | (simp (disch := omega) only [upd_self, upd_ne]; rfl)))) | ((with_reducible apply s_iaddrSO); (· rfl); (· assumption); (· rfl); (· (first | omega | exact ⟨rfl, by omega⟩ | skip)); (· (first | (simp (disch := omega) only [w64, wu8, wu16, wu32, wu64, tm_nn, td_nn, fd_nn, Int.reduceAdd, Int.reduceSub, Int.reduceMul, Int.reduceDiv, Int.reduceMod, Int.reduceNeg, Int.reduceToNat, Int.toNat_natCast, Int.toNat_zero, Int.zero_add, Int.add_zero, Int.one_mul, Int.reducePow, Nat.mul_one, Nat.zero_add, Nat.add_zero, Nat.zero_mul, Nat.reduceAdd, Nat.reduceMul, Nat.reduceSub, Nat.min_eq_left, IntKind.bits, Nat.sub_zero, gm]; done) | (simp (disch := omega) only [w64, wu8, wu16, wu32, wu64, tm_nn, td_nn, fd_nn, Int.reduceAdd, Int.reduceSub, Int.reduceMul, Int.reduceDiv, Int.reduceMod, Int.reduceNeg, Int.reduceToNat, Int.toNat_natCast, Int.toNat_zero, Int.zero_add, Int.add_zero, Int.one_mul, Int.reducePow, Nat.mul_one, Nat.zero_add, Nat.add_zero, Nat.zero_mul, Nat.reduceAdd, Nat.reduceMul, Nat.reduceSub, Nat.min_eq_left, IntKind.bits, Nat.sub_zero, gm]; rfl) | rfl)); intro ks hks)))
        | ((with_reducible refine k_load ?_); (first | ((with_reducible apply s_loadV); (· rfl)) | ((with_reducible apply s_loadP); (· rfl); (· (first | exact upd_self | rfl | assumption | (simp (disch := omega) only [upd_self, upd_ne]; done) | (simp (disch := omega) only [upd_self, upd_ne]; rfl))))))
        | ((with_reducible refine k_add ?_); ((with_reducible apply s_add); (· rfl); (· rfl)))
        | ((with_reducible refine k_buildS ?_); ((with_reducible apply s_buildS); (· rfl); (· (exact ⟨rfl, by decide⟩)); (· (first | (simp only [fillB, rep, splice, List.reduceReplicate, List.flatten_cons, List.flatten_nil, List.cons_append, List.nil_append, List.append_nil, List.length_cons, List.length_nil, Nat.reduceAdd, Nat.reduceMul, Nat.reduceLeDiff, Nat.reduceEqDiff, eq_self, Nat.le_refl, Nat.zero_add, and_self, and_true, true_and, if_true, List.take_zero, List.take_succ_cons, List.drop_zero, List.drop_succ_cons, List.drop_nil, List.take_nil]; rfl) | rfl)); intro k hk; (try simp only [upd_none] at hk)))
        | ((with_reducible refine k_append ?_); ((with_reducible apply s_app); (· rfl); (· rfl); (· first | assumption | exact SlOwn.nil | exact SlOwn.emp | exact SlOwn.sl upd_self rfl | (apply SlOwn.upd <;> assumption) | ((apply SlOwn.sl); (· (first | exact upd_self | rfl | assumption | (simp (disch := omega) only [upd_self, upd_ne]; done) | (simp (disch := omega) only [upd_self, upd_ne]; rfl))); (· rfl))); (· rfl); (· first | exact srcD_sl upd_self rfl | (exact srcD_vs (by simp)) | ((apply srcD_sl); (· (first | exact upd_self | rfl | assumption | (simp (disch := omega) only [upd_self, upd_ne]; done) | (simp (disch := omega) only [upd_self, upd_ne]; rfl))); (· rfl))); (· exact ⟨by first | rfl | simp, by decide⟩); (· first | (rw [room_n]; omega) | skip); intro da ha hso hoth))
        | ((with_reducible refine k_br ?_); (first | (with_reducible refine Br_dec ?_) | (with_reducible refine Br_not ?_) | (with_reducible refine Br_eqF ?_) | (with_reducible refine Br_and ?_) | (with_reducible refine Br_or ?_) | (with_reducible refine Br_neg ?_) | (with_reducible refine Br_band ?_) | (with_reducible refine Br_bor ?_) | (with_reducible refine Br_beq ?_) | (refine Br_t (by first | omega | assumption | rfl) ?_) | (refine Br_f (by first | omega | assumption | decide) ?_) | (with_reducible apply Br_sb <;> intro hbr <;> (first | subst hbr | simp only [hbr] | skip)) | (with_reducible apply Br_s <;> intro hbr)))
        | (with_reducible refine WN_succ ?_)
        | ((first | (with_reducible apply q_eqI) | (with_reducible apply q_eqN)); (first | (simp (disch := omega) only [w64, wu8, wu16, wu32, wu64, tm_nn, td_nn, fd_nn, Int.reduceAdd, Int.reduceSub, Int.reduceMul, Int.reduceDiv, Int.reduceMod, Int.reduceNeg, Int.reduceToNat, Int.toNat_natCast, Int.toNat_zero, Int.zero_add, Int.add_zero, Int.one_mul, Int.reducePow, Nat.mul_one, Nat.zero_add, Nat.add_zero, Nat.zero_mul, Nat.reduceAdd, Nat.reduceMul, Nat.reduceSub, Nat.min_eq_left, IntKind.bits, Nat.sub_zero, gm]; done) | (simp (disch := omega) only [w64, wu8, wu16, wu32, wu64, tm_nn, td_nn, fd_nn, Int.reduceAdd, Int.reduceSub, Int.reduceMul, Int.reduceDiv, Int.reduceMod, Int.reduceNeg, Int.reduceToNat, Int.toNat_natCast, Int.toNat_zero, Int.zero_add, Int.add_zero, Int.one_mul, Int.reducePow, Nat.mul_one, Nat.zero_add, Nat.add_zero, Nat.zero_mul, Nat.reduceAdd, Nat.reduceMul, Nat.reduceSub, Nat.min_eq_left, IntKind.bits, Nat.sub_zero, gm]; rfl) | rfl))
        | ((first | (with_reducible apply q_eqL) | (with_reducible apply q_eqO)); (first | (simp (disch := omega) only [upd_self, upd_ne, upd_upd, rep, splice, List.take_succ_cons, List.take_zero, List.drop_succ_cons, List.drop_zero, List.cons_append, List.nil_append, List.append_nil, List.length_cons, List.length_nil, List.reduceReplicate, List.flatten_cons, List.flatten_nil, Nat.reduceAdd, Nat.reduceMul, Nat.reduceSub, Nat.zero_add, Nat.add_zero, List.getElem?_cons_zero, List.getElem?_cons_succ, gm]; done) | (simp (disch := omega) only [upd_self, upd_ne, upd_upd, rep, splice, List.take_succ_cons, List.take_zero, List.drop_succ_cons, List.drop_zero, List.cons_append, List.nil_append, List.append_nil, List.length_cons, List.length_nil, List.reduceReplicate, List.flatten_cons, List.flatten_nil, Nat.reduceAdd, Nat.reduceMul, Nat.reduceSub, Nat.zero_add, Nat.add_zero, List.getElem?_cons_zero, List.getElem?_cons_succ, gm]; rfl) | rfl)))
      · rw [lay_bad hi (by omega) s hl4]
        first | exact Fin_flat trivial rfl rfl | (refine Fin_tup trivial rfl ?_ (Nat.le_of_ble_eq_true rfl); (repeat (first | exact All2.nil | (apply All2.cons; (· first | exact exc_n | exact exc_e | exact exc_v rfl rfl | exact exc_o upd_self rfl rfl)))); done) | (refine Fin_own trivial rfl upd_self ?_ (Nat.le_of_ble_eq_true rfl); (repeat (first | exact All2.nil | (apply All2.cons; (· first | exact exc_n | exact exc_e | exact exc_v rfl rfl | exact exc_o upd_self rfl rfl)))); done) | exact Fin_nil trivial rfl | exact Fin_sl trivial rfl upd_self rfl rfl
      · rw [lay_bad hi (by omega) s hl4]
        first | exact Fin_flat trivial rfl rfl | (refine Fin_tup trivial rfl ?_ (Nat.le_of_ble_eq_true rfl); (repeat (first | exact All2.nil | (apply All2.cons; (· first | exact exc_n | exact exc_e | exact exc_v rfl rfl | exact exc_o upd_self rfl rfl)))); done) | (refine Fin_own trivial rfl upd_self ?_ (Nat.le_of_ble_eq_true rfl); (repeat (first | exact All2.nil | (apply All2.cons; (· first | exact exc_n | exact exc_e | exact exc_v rfl rfl | exact exc_o upd_self rfl rfl)))); done) | exact Fin_nil trivial rfl | exact Fin_sl trivial rfl upd_self rfl rfl
      · rw [layP_step hi]
        exact ⟨layOk_take hi hok (by omega), _, _, rfl, map_snoc hso⟩
    · rintro e' h' ⟨hok, d, h1, he, ho⟩
      cases he
      rw [List.take_length] at hok ho ⊢
      have hb := layP_in _ hok
      repeat' (first
        | (with_reducible refine W_seq ?_)
        | (with_reducible refine then_n ?_)
        | (with_reducible refine W_block ?_)
        | (with_reducible refine blk_n ?_)
        | (with_reducible refine blk_r ?_)
        | (with_reducible refine blk_e ?_)
        | (refine blk_j (by decide) ?_)
        | (with_reducible refine W_skip ?_)
        | (with_reducible refine W_ret ?_)
        | (with_reducible refine then_r ?_)
        | (with_reducible refine W_exit ?_)
        | (with_reducible refine then_e ?_)
        | ((with_reducible refine s_reg ?_); intro K hK)
        | ((with_reducible refine k_nil ?_); (with_reducible apply s_nil hK); (· (repeat (first | exact norm_nil | ((with_reducible apply norm_cons); (· rfl)) | ((with_reducible apply norm_skip); (· rfl))))); clear hK; clear K)
        | ((with_reducible refine k_cond ?_); (first | ((with_reducible apply s_condT); (· rfl); (· (repeat (first | exact norm_nil | ((with_reducible apply norm_cons); (· rfl)) | ((with_reducible apply norm_skip); (· rfl)))))) | ((with_reducible apply s_condF); (· rfl); (· (repeat (first | exact norm_nil | ((with_reducible apply norm_cons); (· rfl)) | ((with_reducible apply norm_skip); (· rfl)))))) | ((with_reducible apply s_condS); (· rfl); (· (repeat (first | exact norm_nil | ((with_reducible apply norm_cons); (· rfl)) | ((with_reducible apply norm_skip); (· rfl))))); (· (repeat (first | exact norm_nil | ((with_reducible apply norm_cons); (· rfl)) | ((with_reducible apply norm_skip); (· rfl))))))))
        | ((with_reducible refine k_guard ?_); (first | (refine s_gt rfl ?_) | (refine s_gf1 rfl ?_) | (refine s_gfn rfl ?_) | (refine s_gx1 rfl ?_) | (refine s_gxn rfl ?_) | (refine s_gs rfl ?_)))
        | ((with_reducible refine k_mv ?_); (refine s_mv rfl ?_))
        | ((with_reducible refine k_len ?_); (first | (refine s_len rfl rfl ?_) | ((with_reducible apply s_len); (· rfl); (· exact SlOwn.len (by assumption)))))
        | ((with_reducible refine k_pick ?_); (first | (refine s_pickT rfl rfl ?_) | (refine s_pickF rfl rfl ?_)))
        | ((with_reducible refine k_lss ?_); (refine s_lss rfl rfl ?_))
        | ((with_reducible refine k_gtr ?_); (refine s_gtr rfl rfl ?_))
        | ((with_reducible refine k_iaddr ?_); (first | ((with_reducible apply s_iaddrV); (· rfl); (· rfl); (· (first | omega | exact ⟨rfl, by omega⟩ | skip))) | ((with_reducible apply s_iaddrO); (· rfl); (· rfl); (· (first | omega | exact ⟨rfl, by omega⟩ | skip)); (· (first | exact upd_self | rfl | assumption | (simp (disch := omega) only [upd_self, upd_ne]; done) | (simp (disch := omega) only [upd_self, upd_ne]; rfl)))) | ((with_reducible apply s_iaddrSO); (· rfl); (· assumption); (· rfl); (· (first | omega | exact ⟨rfl, by omega⟩ | skip)); (· (first | (simp (disch := omega) only [w64, wu8, wu16, wu32, wu64, tm_nn, td_nn, fd_nn, Int.reduceAdd, Int.reduceSub, Int.reduceMul, Int.reduceDiv, Int.reduceMod, Int.reduceNeg, Int.reduceToNat, Int.toNat_natCast, Int.toNat_zero, Int.zero_add, Int.add_zero, Int.one_mul, Int.reducePow, Nat.mul_one, Nat.zero_add, Nat.add_zero, Nat.zero_mul, Nat.reduceAdd, Nat.reduceMul, Nat.reduceSub, Nat.min_eq_left, IntKind.bits, Nat.sub_zero, gm]; done) | (simp (disch := omega) only [w64, wu8, wu16, wu32, wu64, tm_nn, td_nn, fd_nn, Int.reduceAdd, Int.reduceSub, Int.reduceMul, Int.reduceDiv, Int.reduceMod, Int.reduceNeg, Int.reduceToNat, Int.toNat_natCast, Int.toNat_zero, Int.zero_add, Int.add_zero, Int.one_mul, Int.reducePow, Nat.mul_one, Nat.zero_add, Nat.add_zero, Nat.zero_mul, Nat.reduceAdd, Nat.reduceMul, Nat.reduceSub, Nat.min_eq_left, IntKind.bits, Nat.sub_zero, gm]; rfl) | rfl)); intro ks hks)))
        | ((with_reducible refine k_load ?_); (first | ((with_reducible apply s_loadV); (· rfl)) | ((with_reducible apply s_loadP); (· rfl); (· (first | exact upd_self | rfl | assumption | (simp (disch := omega) only [upd_self, upd_ne]; done) | (simp (disch := omega) only [upd_self, upd_ne]; rfl))))))
        | ((with_reducible refine k_add ?_); ((with_reducible apply s_add); (· rfl); (· rfl)))
        | ((with_reducible refine k_buildS ?_); ((with_reducible apply s_buildS); (· rfl); (· (exact ⟨rfl, by decide⟩)); (· (first | (simp only [fillB, rep, splice, List.reduceReplicate, List.flatten_cons, List.flatten_nil, List.cons_append, List.nil_append, List.append_nil, List.length_cons, List.length_nil, Nat.reduceAdd, Nat.reduceMul, Nat.reduceLeDiff, Nat.reduceEqDiff, eq_self, Nat.le_refl, Nat.zero_add, and_self, and_true, true_and, if_true, List.take_zero, List.take_succ_cons, List.drop_zero, List.drop_succ_cons, List.drop_nil, List.take_nil]; rfl) | rfl)); intro k hk; (try simp only [upd_none] at hk)))
        | ((with_reducible refine k_append ?_); ((with_reducible apply s_app); (· rfl); (· rfl); (· first | assumption | exact SlOwn.nil | exact SlOwn.emp | exact SlOwn.sl upd_self rfl | (apply SlOwn.upd <;> assumption) | ((apply SlOwn.sl); (· (first | exact upd_self | rfl | assumption | (simp (disch := omega) only [upd_self, upd_ne]; done) | (simp (disch := omega) only [upd_self, upd_ne]; rfl))); (· rfl))); (· rfl); (· first | exact srcD_sl upd_self rfl | (exact srcD_vs (by simp)) | ((apply srcD_sl); (· (first | exact upd_self | rfl | assumption | (simp (disch := omega) only [upd_self, upd_ne]; done) | (simp (disch := omega) only [upd_self, upd_ne]; rfl))); (· rfl))); (· exact ⟨by first | rfl | simp, by decide⟩); (· first | (rw [room_n]; omega) | skip); intro da ha hso hoth))
        | ((with_reducible refine k_br ?_); (first | (with_reducible refine Br_dec ?_) | (with_reducible refine Br_not ?_) | (with_reducible refine Br_eqF ?_) | (with_reducible refine Br_and ?_) | (with_reducible refine Br_or ?_) | (with_reducible refine Br_neg ?_) | (with_reducible refine Br_band ?_) | (with_reducible refine Br_bor ?_) | (with_reducible refine Br_beq ?_) | (refine Br_t (by first | omega | assumption | rfl) ?_) | (refine Br_f (by first | omega | assumption | decide) ?_) | (with_reducible apply Br_sb <;> intro hbr <;> (first | subst hbr | simp only [hbr] | skip)) | (with_reducible apply Br_s <;> intro hbr)))
        | (with_reducible refine WN_succ ?_)
        | ((first | (with_reducible apply q_eqI) | (with_reducible apply q_eqN)); (first | (simp (disch := omega) only [w64, wu8, wu16, wu32, wu64, tm_nn, td_nn, fd_nn, Int.reduceAdd, Int.reduceSub, Int.reduceMul, Int.reduceDiv, Int.reduceMod, Int.reduceNeg, Int.reduceToNat, Int.toNat_natCast, Int.toNat_zero, Int.zero_add, Int.add_zero, Int.one_mul, Int.reducePow, Nat.mul_one, Nat.zero_add, Nat.add_zero, Nat.zero_mul, Nat.reduceAdd, Nat.reduceMul, Nat.reduceSub, Nat.min_eq_left, IntKind.bits, Nat.sub_zero, gm]; done) | (simp (disch := omega) only [w64, wu8, wu16, wu32, wu64, tm_nn, td_nn, fd_nn, Int.reduceAdd, Int.reduceSub, Int.reduceMul, Int.reduceDiv, Int.reduceMod, Int.reduceNeg, Int.reduceToNat, Int.toNat_natCast, Int.toNat_zero, Int.zero_add, Int.add_zero, Int.one_mul, Int.reducePow, Nat.mul_one, Nat.zero_add, Nat.add_zero, Nat.zero_mul, Nat.reduceAdd, Nat.reduceMul, Nat.reduceSub, Nat.min_eq_left, IntKind.bits, Nat.sub_zero, gm]; rfl) | rfl))
        | ((first | (with_reducible apply q_eqL) | (with_reducible apply q_eqO)); (first | (simp (disch := omega) only [upd_self, upd_ne, upd_upd, rep, splice, List.take_succ_cons, List.take_zero, List.drop_succ_cons, List.drop_zero, List.cons_append, List.nil_append, List.append_nil, List.length_cons, List.length_nil, List.reduceReplicate, List.flatten_cons, List.flatten_nil, Nat.reduceAdd, Nat.reduceMul, Nat.reduceSub, Nat.zero_add, Nat.add_zero, List.getElem?_cons_zero, List.getElem?_cons_succ, gm]; done) | (simp (disch := omega) only [upd_self, upd_ne, upd_upd, rep, splice, List.take_succ_cons, List.take_zero, List.drop_succ_cons, List.drop_zero, List.cons_append, List.nil_append, List.append_nil, List.length_cons, List.length_nil, List.reduceReplicate, List.flatten_cons, List.flatten_nil, Nat.reduceAdd, Nat.reduceMul, Nat.reduceSub, Nat.zero_add, Nat.add_zero, List.getElem?_cons_zero, List.getElem?_cons_succ, gm]; rfl) | rfl)))
      · rw [lay_no hl4 (by omega)]
        first | exact Fin_flat trivial rfl rfl | (refine Fin_tup trivial rfl ?_ (Nat.le_of_ble_eq_true rfl); (repeat (first | exact All2.nil | (apply All2.cons; (· first | exact exc_n | exact exc_e | exact exc_v rfl rfl | exact exc_o upd_self rfl rfl)))); done) | (refine Fin_own trivial rfl upd_self ?_ (Nat.le_of_ble_eq_true rfl); (repeat (first | exact All2.nil | (apply All2.cons; (· first | exact exc_n | exact exc_e | exact exc_v rfl rfl | exact exc_o upd_self rfl rfl)))); done) | exact Fin_nil trivial rfl | exact Fin_sl trivial rfl upd_self rfl rfl
      · rw [lay_no hl4 (by omega)]
        first | exact Fin_flat trivial rfl rfl | (refine Fin_tup trivial rfl ?_ (Nat.le_of_ble_eq_true rfl); (repeat (first | exact All2.nil | (apply All2.cons; (· first | exact exc_n | exact exc_e | exact exc_v rfl rfl | exact exc_o upd_self rfl rfl)))); done) | (refine Fin_own trivial rfl upd_self ?_ (Nat.le_of_ble_eq_true rfl); (repeat (first | exact All2.nil | (apply All2.cons; (· first | exact exc_n | exact exc_e | exact exc_v rfl rfl | exact exc_o upd_self rfl rfl)))); done) | exact Fin_nil trivial rfl | exact Fin_sl trivial rfl upd_self rfl rfl
      · exact lay_fin trivial rfl hl4 hok (by omega) hso
end Go.Proofs.Ytoaanhoelhmekaa
