import Derived.Test.YtfdfmbmhefckaaaNR4q9ff349
import Derived.Test.YtfdfmbmhefckaaaNAmZ3q0bf57a
section
/- Reclaim plans: the program's answers. -/
set_option linter.unusedSimpArgs false
set_option linter.unusedVariables false
namespace Go.Proofs.Ytfdfmbmhefckaaa
open Go.AM Classical
set_option maxRecDepth 100000
set_option maxHeartbeats 4000000
theorem ask_no {p : List Pg} {l : List Acct} (hL : l.length ≤ 9223372036854775807) (hP : p.length ≤ 1000000) {s : Int} {kn : Bool} {Q : D → Heap → Prop} (hn : ¬ quP p l s) (h0 : ∀ h', Q (.tup [.nilp, .int .i64 (askE p l s)]) h') :
    Con Try.prog 42 [pgs p, accs l, .int .i64 s, .bool kn] (fun _ => none) Q := ask_c p l hL hP s kn (fun _ => h0) (fun h => absurd h hn)
theorem ask_yes {p : List Pg} {l : List Acct} (hL : l.length ≤ 9223372036854775807) (hP : p.length ≤ 1000000) {s : Int} {kn : Bool} {Q : D → Heap → Prop} (hq : quP p l s) (h1 : ∀ k h', QIn h' k p l s kn l.length → Q (.tup [.pt k 0, .int .i64 0]) h') :
    Con Try.prog 42 [pgs p, accs l, .int .i64 s, .bool kn] (fun _ => none) Q := ask_c p l hL hP s kn (fun h => absurd (askE_ok.2 hq) h) (fun _ => h1)
theorem qu_in {p : List Pg} {l : List Acct} {s : Int} (h : quP p l s) {i : Nat} (hi : i < p.length) : inQ l p[i] := ((errA_ok h.1).2 i hi).2.1.2
theorem qu_no {p : List Pg} {l : List Acct} {s : Int} (h : ¬ quP p l s) : askE p l s ≠ 0 := fun h2 => h (askE_ok.1 h2)
noncomputable def reaF (p : List Pg) (l : List Acct) (s i : Int) (kn : Bool) : Int := if quP p l s then (if h : 0 ≤ i ∧ i < p.length then rsn l (lvL l p) s kn p[i.toNat] else -1) else -1
theorem Reason_c (p : List Pg) (l : List Acct) (hL : l.length ≤ 9223372036854775807) (hP : p.length ≤ 1000000) (s i : Int) (kn : Bool) : PCon Try.prog 20 [pgs p, accs l, .int .i64 s, .int .i64 i, .bool kn] (.int .i64 (reaF p l s i kn)) := by
  refine A20p (by simp [A20]) ?_
  simp only [A20, argEnv]
  have hpl := pgs_len p
  unfold reaF
  by_cases hq : quP p l s
  · rw [if_pos hq]
    by_cases hi : 0 ≤ i ∧ i < p.length
    · rw [dif_pos hi]
      have hrow := pgr (p := p) (i := i.toNat) (by omega)
      have c1 := qreason_c p[i.toNat] p l s kn (qu_in hq (by omega))
      dsimp only [Pg.cells] at c1
      repeat' (first | (with_reducible first | refine W_seq ?_ | refine then_n ?_ | refine W_skip ?_ | refine W_ret ?_ | refine then_r ?_) | ((with_reducible refine s_reg ?_); intro K hK) | ((with_reducible refine k_nil ?_); (with_reducible apply s_nil hK); (· exact nmX); clear hK; clear K) | ((with_reducible refine k_cond ?_); (first | ((with_reducible apply s_condT); (· rfl); (· exact nmX)) | ((with_reducible apply s_condF); (· rfl); (· exact nmX)) | ((with_reducible apply s_condS); (· rfl); (· exact nmX); (· exact nmX)))) | ((with_reducible refine k_guard ?_); (first | (refine s_gt rfl ?_) | (refine s_gf1 rfl ?_) | (refine s_gfn rfl ?_) | (refine s_gx1 rfl ?_) | (refine s_gxn rfl ?_) | (refine s_gs rfl ?_))) | ((with_reducible refine k_mv ?_); (refine s_mv rfl ?_)) | ((with_reducible refine k_extract ?_); (refine s_extract rfl rfl ?_)) | ((with_reducible refine k_len ?_); (first | (refine s_len rfl rfl ?_) | ((with_reducible apply s_len); (· rfl); (· exact SlOwn.len (by assumption))))) | ((with_reducible refine k_pick ?_); (first | (refine s_pickT rfl rfl ?_) | (refine s_pickF rfl rfl ?_))) | ((with_reducible refine k_neq ?_); (first | (refine s_neq rfl rfl ?_) | (refine s_strNe rfl rfl ?_))) | ((with_reducible refine k_lss ?_); (refine s_lss rfl rfl ?_)) | ((with_reducible refine k_geq ?_); (refine s_geq rfl rfl ?_)) | ((with_reducible refine k_iaddr ?_); (first | ((with_reducible apply s_iaddrV); (· rfl); (· rfl); (· (first | omega | exact ⟨rfl, by omega⟩ | skip))) | ((with_reducible apply s_iaddrO); (· rfl); (· rfl); (· (first | omega | exact ⟨rfl, by omega⟩ | skip)); (· (exact hpX))) | ((with_reducible apply s_iaddrSO); (· rfl); (· assumption); (· rfl); (· (first | omega | exact ⟨rfl, by omega⟩ | skip)); (· (first | (simp (disch := omega) only [w64, wu8, wu16, wu32, wu64, tm_nn, td_nn, fd_nn, Int.reduceAdd, Int.reduceSub, Int.reduceMul, Int.reduceDiv, Int.reduceMod, Int.reduceNeg, Int.reduceToNat, Int.toNat_natCast, Int.toNat_zero, Int.zero_add, Int.add_zero, Int.one_mul, Int.reducePow, Nat.mul_one, Nat.zero_add, Nat.add_zero, Nat.zero_mul, Nat.reduceAdd, Nat.reduceMul, Nat.reduceSub, Nat.min_eq_left, IntKind.bits, Nat.sub_zero, hrow]; try rfl; done) | rfl)); intro ks hks))) | ((with_reducible refine k_loadA ?_); (first | ((with_reducible apply s_loadAV); (· rfl); (· (first | exact Nat.le_of_ble_eq_true rfl | decide | omega | (simp; done) | (simp; omega) | skip))) | ((with_reducible apply s_loadAP); (· rfl); (· (exact hpX)); (· (first | exact Nat.le_of_ble_eq_true rfl | decide | omega | (simp; done) | (simp; omega) | skip))))) | ((with_reducible refine k_callF ?_); (first | ((with_reducible apply s_call1); (· rfl)) | ((with_reducible apply s_calln); (· rfl)))) | ((with_reducible refine k_con ?_); (first | (refine ask_yes hL hP hq ?_; intro kq hQ hqi; (try dsimp only)) | ((with_reducible apply con_val (c1)); (· (repeat (first | exact All2.nil | (apply All2.cons; (· first | exact QIn.rd (by assumption) | exact rdX))))); (· rfl); (· exact fun _ => rfl)))) | ((with_reducible refine k_br ?_); (first | (with_reducible first | refine Br_dec ?_ | refine Br_not ?_ | refine Br_eqF ?_ | refine Br_and ?_ | refine Br_or ?_ | refine Br_neg ?_ | refine Br_band ?_ | refine Br_bor ?_ | refine Br_beq ?_) | (refine Br_t (by first | omega | assumption | rfl) ?_) | (refine Br_f (by first | omega | assumption | decide) ?_) | (with_reducible apply Br_sb <;> intro hbr <;> (first | subst hbr | simp only [hbr] | skip)) | (with_reducible apply Br_s <;> intro hbr))) | (with_reducible refine WN_succ ?_) | ((first | (with_reducible apply q_eqI) | (with_reducible apply q_eqN)); (first | (simp (disch := omega) only [w64, wu8, wu16, wu32, wu64, tm_nn, td_nn, fd_nn, Int.reduceAdd, Int.reduceSub, Int.reduceMul, Int.reduceDiv, Int.reduceMod, Int.reduceNeg, Int.reduceToNat, Int.toNat_natCast, Int.toNat_zero, Int.zero_add, Int.add_zero, Int.one_mul, Int.reducePow, Nat.mul_one, Nat.zero_add, Nat.add_zero, Nat.zero_mul, Nat.reduceAdd, Nat.reduceMul, Nat.reduceSub, Nat.min_eq_left, IntKind.bits, Nat.sub_zero, hrow]; try rfl; done) | rfl)) | ((first | (with_reducible apply q_eqL) | (with_reducible apply q_eqO)); (first | (simp (disch := omega) only [upd_self, upd_ne, upd_upd, rep, splice, List.take_succ_cons, List.take_zero, List.drop_succ_cons, List.drop_zero, List.cons_append, List.nil_append, List.append_nil, List.length_cons, List.length_nil, List.reduceReplicate, List.flatten_cons, List.flatten_nil, Nat.reduceAdd, Nat.reduceMul, Nat.reduceSub, Nat.zero_add, Nat.add_zero, List.getElem?_cons_zero, List.getElem?_cons_succ, hrow]; try rfl; done) | rfl)))
      all_goals first | (exfalso; omega) | exact Fin_flat trivial rfl rfl
    · rw [dif_neg hi]
      repeat' (first | (with_reducible first | refine W_seq ?_ | refine then_n ?_ | refine W_skip ?_ | refine W_ret ?_ | refine then_r ?_) | ((with_reducible refine s_reg ?_); intro K hK) | ((with_reducible refine k_nil ?_); (with_reducible apply s_nil hK); (· exact nmX); clear hK; clear K) | ((with_reducible refine k_cond ?_); (first | ((with_reducible apply s_condT); (· rfl); (· exact nmX)) | ((with_reducible apply s_condF); (· rfl); (· exact nmX)) | ((with_reducible apply s_condS); (· rfl); (· exact nmX); (· exact nmX)))) | ((with_reducible refine k_guard ?_); (first | (refine s_gt rfl ?_) | (refine s_gf1 rfl ?_) | (refine s_gfn rfl ?_) | (refine s_gx1 rfl ?_) | (refine s_gxn rfl ?_) | (refine s_gs rfl ?_))) | ((with_reducible refine k_mv ?_); (refine s_mv rfl ?_)) | ((with_reducible refine k_extract ?_); (refine s_extract rfl rfl ?_)) | ((with_reducible refine k_len ?_); (first | (refine s_len rfl rfl ?_) | ((with_reducible apply s_len); (· rfl); (· exact SlOwn.len (by assumption))))) | ((with_reducible refine k_pick ?_); (first | (refine s_pickT rfl rfl ?_) | (refine s_pickF rfl rfl ?_))) | ((with_reducible refine k_neq ?_); (first | (refine s_neq rfl rfl ?_) | (refine s_strNe rfl rfl ?_))) | ((with_reducible refine k_lss ?_); (refine s_lss rfl rfl ?_)) | ((with_reducible refine k_geq ?_); (refine s_geq rfl rfl ?_)) | ((with_reducible refine k_iaddr ?_); (first | ((with_reducible apply s_iaddrV); (· rfl); (· rfl); (· (first | omega | exact ⟨rfl, by omega⟩ | skip))) | ((with_reducible apply s_iaddrO); (· rfl); (· rfl); (· (first | omega | exact ⟨rfl, by omega⟩ | skip)); (· (exact hpX))) | ((with_reducible apply s_iaddrSO); (· rfl); (· assumption); (· rfl); (· (first | omega | exact ⟨rfl, by omega⟩ | skip)); (· (first | exact nuI | exact nuN)); intro ks hks))) | ((with_reducible refine k_loadA ?_); (first | ((with_reducible apply s_loadAV); (· rfl); (· (first | exact Nat.le_of_ble_eq_true rfl | decide | omega | (simp; done) | (simp; omega) | skip))) | ((with_reducible apply s_loadAP); (· rfl); (· (exact hpX)); (· (first | exact Nat.le_of_ble_eq_true rfl | decide | omega | (simp; done) | (simp; omega) | skip))))) | ((with_reducible refine k_callF ?_); (first | ((with_reducible apply s_call1); (· rfl)) | ((with_reducible apply s_calln); (· rfl)))) | ((with_reducible refine k_con ?_); (first | (refine ask_yes hL hP hq ?_; intro kq hQ hqi; (try dsimp only)))) | ((with_reducible refine k_br ?_); (first | (with_reducible first | refine Br_dec ?_ | refine Br_not ?_ | refine Br_eqF ?_ | refine Br_and ?_ | refine Br_or ?_ | refine Br_neg ?_ | refine Br_band ?_ | refine Br_bor ?_ | refine Br_beq ?_) | (refine Br_t (by first | omega | assumption | rfl) ?_) | (refine Br_f (by first | omega | assumption | decide) ?_) | (with_reducible apply Br_sb <;> intro hbr <;> (first | subst hbr | simp only [hbr] | skip)) | (with_reducible apply Br_s <;> intro hbr))) | (with_reducible refine WN_succ ?_) | ((first | (with_reducible apply q_eqI) | (with_reducible apply q_eqN)); (first | exact nuI | exact nuN)) | ((first | (with_reducible apply q_eqL) | (with_reducible apply q_eqO)); (first | exact liL | exact liO)))
      all_goals first | (exfalso; omega) | exact Fin_flat trivial rfl rfl
  · rw [if_neg hq]
    have he := qu_no hq
    repeat' (first | (with_reducible first | refine W_seq ?_ | refine then_n ?_ | refine W_skip ?_ | refine W_ret ?_ | refine then_r ?_) | ((with_reducible refine s_reg ?_); intro K hK) | ((with_reducible refine k_nil ?_); (with_reducible apply s_nil hK); (· exact nmX); clear hK; clear K) | ((with_reducible refine k_cond ?_); (first | ((with_reducible apply s_condT); (· rfl); (· exact nmX)) | ((with_reducible apply s_condF); (· rfl); (· exact nmX)) | ((with_reducible apply s_condS); (· rfl); (· exact nmX); (· exact nmX)))) | ((with_reducible refine k_guard ?_); (first | (refine s_gt rfl ?_) | (refine s_gf1 rfl ?_) | (refine s_gfn rfl ?_) | (refine s_gx1 rfl ?_) | (refine s_gxn rfl ?_) | (refine s_gs rfl ?_))) | ((with_reducible refine k_mv ?_); (refine s_mv rfl ?_)) | ((with_reducible refine k_extract ?_); (refine s_extract rfl rfl ?_)) | ((with_reducible refine k_len ?_); (first | (refine s_len rfl rfl ?_) | ((with_reducible apply s_len); (· rfl); (· exact SlOwn.len (by assumption))))) | ((with_reducible refine k_pick ?_); (first | (refine s_pickT rfl rfl ?_) | (refine s_pickF rfl rfl ?_))) | ((with_reducible refine k_neq ?_); (first | (refine s_neq rfl rfl ?_) | (refine s_strNe rfl rfl ?_))) | ((with_reducible refine k_lss ?_); (refine s_lss rfl rfl ?_)) | ((with_reducible refine k_geq ?_); (refine s_geq rfl rfl ?_)) | ((with_reducible refine k_iaddr ?_); (first | ((with_reducible apply s_iaddrV); (· rfl); (· rfl); (· (first | omega | exact ⟨rfl, by omega⟩ | skip))) | ((with_reducible apply s_iaddrO); (· rfl); (· rfl); (· (first | omega | exact ⟨rfl, by omega⟩ | skip)); (· (exact hpX))) | ((with_reducible apply s_iaddrSO); (· rfl); (· assumption); (· rfl); (· (first | omega | exact ⟨rfl, by omega⟩ | skip)); (· (first | exact nuI | exact nuN)); intro ks hks))) | ((with_reducible refine k_loadA ?_); (first | ((with_reducible apply s_loadAV); (· rfl); (· (first | exact Nat.le_of_ble_eq_true rfl | decide | omega | (simp; done) | (simp; omega) | skip))) | ((with_reducible apply s_loadAP); (· rfl); (· (exact hpX)); (· (first | exact Nat.le_of_ble_eq_true rfl | decide | omega | (simp; done) | (simp; omega) | skip))))) | ((with_reducible refine k_callF ?_); (first | ((with_reducible apply s_call1); (· rfl)) | ((with_reducible apply s_calln); (· rfl)))) | ((with_reducible refine k_con ?_); (first | (refine ask_no hL hP hq ?_; intro hQ; (try dsimp only)))) | ((with_reducible refine k_br ?_); (first | (with_reducible first | refine Br_dec ?_ | refine Br_not ?_ | refine Br_eqF ?_ | refine Br_and ?_ | refine Br_or ?_ | refine Br_neg ?_ | refine Br_band ?_ | refine Br_bor ?_ | refine Br_beq ?_) | (refine Br_t (by first | omega | assumption | rfl) ?_) | (refine Br_f (by first | omega | assumption | decide) ?_) | (with_reducible apply Br_sb <;> intro hbr <;> (first | subst hbr | simp only [hbr] | skip)) | (with_reducible apply Br_s <;> intro hbr))) | (with_reducible refine WN_succ ?_) | ((first | (with_reducible apply q_eqI) | (with_reducible apply q_eqN)); (first | exact nuI | exact nuN)) | ((first | (with_reducible apply q_eqL) | (with_reducible apply q_eqO)); (first | exact liL | exact liO)))
    all_goals first | (exfalso; omega) | exact Fin_flat trivial rfl rfl
def cG (f : Pg → Int) (p : List Pg) : Nat → Int
  | 0 => 0
  | m + 1 => cG f p m + (if h : m < p.length then f p[m] else 0)
theorem cG_s {f : Pg → Int} {p : List Pg} {m : Nat} (h : m < p.length) : cG f p (m + 1) = cG f p m + f p[m] := by rw [cG, dif_pos h]
theorem cG_in {f : Pg → Int} (hf : ∀ q, 0 ≤ f q ∧ f q ≤ 1) (p : List Pg) : ∀ m, 0 ≤ cG f p m ∧ cG f p m ≤ m
  | 0 => by simp [cG]
  | m + 1 => by
    have := cG_in hf p m
    unfold cG
    split
    · have := hf p[m]; omega
    · omega
noncomputable def usB (l : List Acct) (v : List Int) (s : Int) (kn : Bool) (q : Pg) : Int := if q.leaving = true ∧ rsn l v s kn q = 8 then 1 else 0
theorem usB_in (l : List Acct) (v : List Int) (s : Int) (kn : Bool) (q : Pg) : 0 ≤ usB l v s kn q ∧ usB l v s kn q ≤ 1 := by unfold usB; split <;> omega
noncomputable def useF (p : List Pg) (l : List Acct) (s : Int) (kn : Bool) : Int := if quP p l s then cG (usB l (lvL l p) s kn) p p.length else 0
theorem QIn.two {h : Heap} {k j : Nat} {p : List Pg} {l : List Acct} {s : Int} {kn : Bool} {c : List D} (hq : QIn h k p l s kn l.length) (hj : h j = none) : Rd (AM.upd h j c) (.pt k 0) (qV p l s kn) := QIn.rd (hq.upd hj)
theorem Useful_c (p : List Pg) (l : List Acct) (hL : l.length ≤ 9223372036854775807) (hP : p.length ≤ 1000000) (s : Int) (kn : Bool) : PCon Try.prog 27 [pgs p, accs l, .int .i64 s, .bool kn] (.int .i64 (useF p l s kn)) := by
  refine A27p (by simp [A27]) ?_
  simp only [A27, argEnv]
  have hpl := pgs_len p
  unfold useF
  by_cases hq : quP p l s
  · rw [if_pos hq]
    repeat' (first | (with_reducible first | refine W_seq ?_ | refine then_n ?_ | refine W_block ?_ | refine blk_n ?_ | refine blk_r ?_ | refine blk_e ?_ | refine W_skip ?_ | refine W_ret ?_ | refine then_r ?_ | refine W_exit ?_ | refine then_e ?_) | (refine blk_j (by decide) ?_) | ((with_reducible refine s_reg ?_); intro K hK) | ((with_reducible refine k_nil ?_); (with_reducible apply s_nil hK); (· exact nmX); clear hK; clear K) | ((with_reducible refine k_cond ?_); (first | ((with_reducible apply s_condT); (· rfl); (· exact nmX)) | ((with_reducible apply s_condF); (· rfl); (· exact nmX)) | ((with_reducible apply s_condS); (· rfl); (· exact nmX); (· exact nmX)))) | ((with_reducible refine k_guard ?_); (first | (refine s_gt rfl ?_) | (refine s_gf1 rfl ?_) | (refine s_gfn rfl ?_) | (refine s_gx1 rfl ?_) | (refine s_gxn rfl ?_) | (refine s_gs rfl ?_))) | ((with_reducible refine k_mv ?_); (refine s_mv rfl ?_)) | ((with_reducible refine k_extract ?_); (refine s_extract rfl rfl ?_)) | ((with_reducible refine k_len ?_); (first | (refine s_len rfl rfl ?_) | ((with_reducible apply s_len); (· rfl); (· exact SlOwn.len (by assumption))))) | ((with_reducible refine k_neq ?_); (first | (refine s_neq rfl rfl ?_) | (refine s_strNe rfl rfl ?_))) | ((with_reducible refine k_callF ?_); (first | ((with_reducible apply s_call1); (· rfl)) | ((with_reducible apply s_calln); (· rfl)))) | ((with_reducible refine k_con ?_); (first | (refine ask_yes hL hP hq ?_; intro kq hQ hqi; (try dsimp only)))) | ((with_reducible refine k_br ?_); (first | (with_reducible first | refine Br_dec ?_ | refine Br_not ?_ | refine Br_eqF ?_ | refine Br_and ?_ | refine Br_or ?_ | refine Br_neg ?_ | refine Br_band ?_ | refine Br_bor ?_ | refine Br_beq ?_) | (refine Br_t (by first | omega | assumption | rfl) ?_) | (refine Br_f (by first | omega | assumption | decide) ?_) | (with_reducible apply Br_sb <;> intro hbr <;> (first | subst hbr | simp only [hbr] | skip)) | (with_reducible apply Br_s <;> intro hbr))) | (with_reducible refine WN_succ ?_) | ((first | (with_reducible apply q_eqI) | (with_reducible apply q_eqN)); (first | exact nuI | exact nuN)) | ((first | (with_reducible apply q_eqL) | (with_reducible apply q_eqO)); (first | exact liL | exact liO)))
    refine W_for p.length (fun i st => ∃ h', st = ⟨[(9, .pt kq 0), (11, .int .i64 (cG (usB l (lvL l p) s kn) p i)), (24, pgs p), (25, .int .i64 p.length), (26, .int .i64 i)], h'⟩ ∧ QIn h' kq p l s kn l.length) ⟨_, rfl, hqi⟩ ?_ ?_
    · clear hqi
      rintro i e' h' hi ⟨h1, he, hqi⟩
      cases he
      have hrow := pgr hi
      have c1 := qreason_c p[i] p l s kn (qu_in hq hi)
      have hb := cG_in (usB_in l (lvL l p) s kn) p i
      have hst := cG_s (f := usB l (lvL l p) s kn) hi
      have hu : usB l (lvL l p) s kn p[i] = if p[i].leaving = true ∧ rsn l (lvL l p) s kn p[i] = 8 then 1 else 0 := rfl
      rw [hu] at hst
      rw [hst]
      generalize cG (usB l (lvL l p) s kn) p i = T at *
      generalize rsn l (lvL l p) s kn p[i] = r at *
      clear hu hst
      generalize p[i] = q at *
      obtain ⟨fr, ac, ag, re, ow, nm, lv⟩ := q
      dsimp only [Pg.cells] at c1 hrow ⊢
      cases lv
      all_goals
        repeat' (first | (with_reducible first | refine W_seq ?_ | refine then_n ?_ | refine W_block ?_ | refine blk_n ?_ | refine blk_r ?_ | refine blk_e ?_ | refine W_skip ?_ | refine W_ret ?_ | refine then_r ?_ | refine W_exit ?_ | refine then_e ?_) | (refine blk_j (by decide) ?_) | ((with_reducible refine s_reg ?_); intro K hK) | ((with_reducible refine k_nil ?_); (with_reducible apply s_nil hK); (· exact nmX); clear hK; clear K) | ((with_reducible refine k_cond ?_); (first | ((with_reducible apply s_condT); (· rfl); (· exact nmX)) | ((with_reducible apply s_condF); (· rfl); (· exact nmX)) | ((with_reducible apply s_condS); (· rfl); (· exact nmX); (· exact nmX)))) | ((with_reducible refine k_guard ?_); (first | (refine s_gt rfl ?_) | (refine s_gf1 rfl ?_) | (refine s_gfn rfl ?_) | (refine s_gx1 rfl ?_) | (refine s_gxn rfl ?_) | (refine s_gs rfl ?_))) | ((with_reducible refine k_mv ?_); (refine s_mv rfl ?_)) | ((with_reducible refine k_pick ?_); (first | (refine s_pickT rfl rfl ?_) | (refine s_pickF rfl rfl ?_))) | ((with_reducible refine k_eql ?_); (first | (refine s_eql rfl rfl ?_) | (refine s_strEq rfl rfl ?_))) | ((with_reducible refine k_lss ?_); (refine s_lss rfl rfl ?_)) | ((with_reducible refine k_iaddr ?_); (first | ((with_reducible apply s_iaddrV); (· rfl); (· rfl); (· (first | omega | exact ⟨rfl, by omega⟩ | skip))) | ((with_reducible apply s_iaddrO); (· rfl); (· rfl); (· (first | omega | exact ⟨rfl, by omega⟩ | skip)); (· (exact hpX))) | ((with_reducible apply s_iaddrSO); (· rfl); (· assumption); (· rfl); (· (first | omega | exact ⟨rfl, by omega⟩ | skip)); (· (first | (simp (disch := omega) only [w64, wu8, wu16, wu32, wu64, tm_nn, td_nn, fd_nn, Int.reduceAdd, Int.reduceSub, Int.reduceMul, Int.reduceDiv, Int.reduceMod, Int.reduceNeg, Int.reduceToNat, Int.toNat_natCast, Int.toNat_zero, Int.zero_add, Int.add_zero, Int.one_mul, Int.reducePow, Nat.mul_one, Nat.zero_add, Nat.add_zero, Nat.zero_mul, Nat.reduceAdd, Nat.reduceMul, Nat.reduceSub, Nat.min_eq_left, IntKind.bits, Nat.sub_zero, hrow]; try rfl; done) | rfl)); intro ks hks))) | ((with_reducible refine k_load ?_); (first | ((with_reducible apply s_loadV); (· rfl)) | ((with_reducible apply s_loadP); (· rfl); (· (exact hpX))))) | ((with_reducible refine k_loadA ?_); (first | ((with_reducible apply s_loadAV); (· rfl); (· (first | exact Nat.le_of_ble_eq_true rfl | decide | omega | (simp; done) | (simp; omega) | skip))) | ((with_reducible apply s_loadAP); (· rfl); (· (exact hpX)); (· (first | exact Nat.le_of_ble_eq_true rfl | decide | omega | (simp; done) | (simp; omega) | skip))))) | ((with_reducible refine k_add ?_); ((with_reducible apply s_add); (· rfl); (· rfl))) | ((with_reducible refine k_store ?_); ((with_reducible apply s_store0); (· rfl); (· rfl); (· rfl); (· (exact hpX)); (· (exact ⟨rfl, by first | exact Nat.le_of_ble_eq_true rfl | omega | (simp [hrow]; omega)⟩)); (· ((first | (simp (disch := omega) only [upd_self, upd_ne, upd_upd, rep, splice, List.take_succ_cons, List.take_zero, List.drop_succ_cons, List.drop_zero, List.cons_append, List.nil_append, List.append_nil, List.length_cons, List.length_nil, List.reduceReplicate, List.flatten_cons, List.flatten_nil, Nat.reduceAdd, Nat.reduceMul, Nat.reduceSub, Nat.zero_add, Nat.add_zero, List.getElem?_cons_zero, List.getElem?_cons_succ, hrow]; try rfl; done) | rfl))); (· (first | exact upd_upd | rfl)))) | ((with_reducible refine k_faddr ?_); (first | ((with_reducible apply s_faddrV); (· rfl); (· rfl)) | ((with_reducible apply s_faddrP); (· rfl); (· rfl)))) | ((with_reducible refine k_alloc (dst := some 13) ?_); ((with_reducible apply s_alloc); intro k13 hk13; (try simp only [upd_none] at hk13))) | ((with_reducible refine k_callF ?_); (first | ((with_reducible apply s_call1); (· rfl)) | ((with_reducible apply s_calln); (· rfl)))) | ((with_reducible refine k_con ?_); (first | ((with_reducible apply con_val (c1)); (· (repeat (first | exact All2.nil | (apply All2.cons; (· first | exact QIn.two hqi hk13 | exact rdX))))); (· rfl); (· exact fun _ => rfl)))) | ((with_reducible refine k_br ?_); (first | (with_reducible first | refine Br_dec ?_ | refine Br_not ?_ | refine Br_eqF ?_ | refine Br_and ?_ | refine Br_or ?_ | refine Br_neg ?_ | refine Br_band ?_ | refine Br_bor ?_ | refine Br_beq ?_) | (refine Br_t (by first | omega | assumption | rfl) ?_) | (refine Br_f (by first | omega | assumption | decide) ?_) | (with_reducible apply Br_sb <;> intro hbr <;> (first | subst hbr | simp only [hbr] | skip)) | (with_reducible apply Br_s <;> intro hbr))) | (with_reducible refine WN_succ ?_) | ((first | (with_reducible apply q_eqI) | (with_reducible apply q_eqN)); (first | (simp (disch := omega) only [w64, wu8, wu16, wu32, wu64, tm_nn, td_nn, fd_nn, Int.reduceAdd, Int.reduceSub, Int.reduceMul, Int.reduceDiv, Int.reduceMod, Int.reduceNeg, Int.reduceToNat, Int.toNat_natCast, Int.toNat_zero, Int.zero_add, Int.add_zero, Int.one_mul, Int.reducePow, Nat.mul_one, Nat.zero_add, Nat.add_zero, Nat.zero_mul, Nat.reduceAdd, Nat.reduceMul, Nat.reduceSub, Nat.min_eq_left, IntKind.bits, Nat.sub_zero, hrow]; try rfl; done) | rfl)) | ((first | (with_reducible apply q_eqL) | (with_reducible apply q_eqO)); (first | (simp (disch := omega) only [upd_self, upd_ne, upd_upd, rep, splice, List.take_succ_cons, List.take_zero, List.drop_succ_cons, List.drop_zero, List.cons_append, List.nil_append, List.append_nil, List.length_cons, List.length_nil, List.reduceReplicate, List.flatten_cons, List.flatten_nil, Nat.reduceAdd, Nat.reduceMul, Nat.reduceSub, Nat.zero_add, Nat.add_zero, List.getElem?_cons_zero, List.getElem?_cons_succ, hrow]; try rfl; done) | rfl)))
      all_goals first
        | exact ⟨_, by rw [if_pos ⟨rfl, by assumption⟩]; rfl, hqi.upd hk13⟩
        | exact ⟨_, by rw [if_pos ⟨rfl, rfl⟩]; rfl, hqi.upd hk13⟩
        | exact ⟨_, by rw [if_neg (fun h => absurd h.2 (by assumption)), Int.add_zero]; rfl, hqi.upd hk13⟩
        | exact ⟨_, by rw [if_neg (by simp), Int.add_zero]; rfl, hqi.upd hk13⟩
    · rintro e' h' ⟨h1, he, hqi⟩
      cases he
      repeat' (first | (with_reducible first | refine W_seq ?_ | refine then_n ?_ | refine W_block ?_ | refine blk_n ?_ | refine blk_r ?_ | refine blk_e ?_ | refine W_skip ?_ | refine W_ret ?_ | refine then_r ?_ | refine W_exit ?_ | refine then_e ?_) | (refine blk_j (by decide) ?_) | ((with_reducible refine s_reg ?_); intro K hK) | ((with_reducible refine k_nil ?_); (with_reducible apply s_nil hK); (· exact nmX); clear hK; clear K) | ((with_reducible refine k_cond ?_); (first | ((with_reducible apply s_condT); (· rfl); (· exact nmX)) | ((with_reducible apply s_condF); (· rfl); (· exact nmX)) | ((with_reducible apply s_condS); (· rfl); (· exact nmX); (· exact nmX)))) | ((with_reducible refine k_guard ?_); (first | (refine s_gt rfl ?_) | (refine s_gf1 rfl ?_) | (refine s_gfn rfl ?_) | (refine s_gx1 rfl ?_) | (refine s_gxn rfl ?_) | (refine s_gs rfl ?_))) | ((with_reducible refine k_mv ?_); (refine s_mv rfl ?_)) | ((with_reducible refine k_lss ?_); (refine s_lss rfl rfl ?_)) | ((with_reducible refine k_br ?_); (first | (with_reducible first | refine Br_dec ?_ | refine Br_not ?_ | refine Br_eqF ?_ | refine Br_and ?_ | refine Br_or ?_ | refine Br_neg ?_ | refine Br_band ?_ | refine Br_bor ?_ | refine Br_beq ?_) | (refine Br_t (by first | omega | assumption | rfl) ?_) | (refine Br_f (by first | omega | assumption | decide) ?_) | (with_reducible apply Br_sb <;> intro hbr <;> (first | subst hbr | simp only [hbr] | skip)) | (with_reducible apply Br_s <;> intro hbr))) | (with_reducible refine WN_succ ?_) | ((first | (with_reducible apply q_eqI) | (with_reducible apply q_eqN)); (first | exact nuI | exact nuN)) | ((first | (with_reducible apply q_eqL) | (with_reducible apply q_eqO)); (first | exact liL | exact liO)))
      exact Fin_flat trivial rfl rfl
  · rw [if_neg hq]
    have he := qu_no hq
    repeat' (first | (with_reducible first | refine W_seq ?_ | refine then_n ?_ | refine W_block ?_ | refine blk_n ?_ | refine blk_r ?_ | refine blk_e ?_ | refine W_skip ?_ | refine W_ret ?_ | refine then_r ?_ | refine W_exit ?_ | refine then_e ?_) | (refine blk_j (by decide) ?_) | ((with_reducible refine s_reg ?_); intro K hK) | ((with_reducible refine k_nil ?_); (with_reducible apply s_nil hK); (· exact nmX); clear hK; clear K) | ((with_reducible refine k_cond ?_); (first | ((with_reducible apply s_condT); (· rfl); (· exact nmX)) | ((with_reducible apply s_condF); (· rfl); (· exact nmX)) | ((with_reducible apply s_condS); (· rfl); (· exact nmX); (· exact nmX)))) | ((with_reducible refine k_guard ?_); (first | (refine s_gt rfl ?_) | (refine s_gf1 rfl ?_) | (refine s_gfn rfl ?_) | (refine s_gx1 rfl ?_) | (refine s_gxn rfl ?_) | (refine s_gs rfl ?_))) | ((with_reducible refine k_mv ?_); (refine s_mv rfl ?_)) | ((with_reducible refine k_extract ?_); (refine s_extract rfl rfl ?_)) | ((with_reducible refine k_neq ?_); (first | (refine s_neq rfl rfl ?_) | (refine s_strNe rfl rfl ?_))) | ((with_reducible refine k_callF ?_); (first | ((with_reducible apply s_call1); (· rfl)) | ((with_reducible apply s_calln); (· rfl)))) | ((with_reducible refine k_con ?_); (first | (refine ask_no hL hP hq ?_; intro hQ; (try dsimp only)))) | ((with_reducible refine k_br ?_); (first | (with_reducible first | refine Br_dec ?_ | refine Br_not ?_ | refine Br_eqF ?_ | refine Br_and ?_ | refine Br_or ?_ | refine Br_neg ?_ | refine Br_band ?_ | refine Br_bor ?_ | refine Br_beq ?_) | (refine Br_t (by first | omega | assumption | rfl) ?_) | (refine Br_f (by first | omega | assumption | decide) ?_) | (with_reducible apply Br_sb <;> intro hbr <;> (first | subst hbr | simp only [hbr] | skip)) | (with_reducible apply Br_s <;> intro hbr))) | (with_reducible refine WN_succ ?_) | ((first | (with_reducible apply q_eqI) | (with_reducible apply q_eqN)); (first | exact nuI | exact nuN)) | ((first | (with_reducible apply q_eqL) | (with_reducible apply q_eqO)); (first | exact liL | exact liO)))
    all_goals first | (exfalso; omega) | exact Fin_flat trivial rfl rfl
theorem pidxf_c (p : List Pg) (hl : p.length ≤ 1000000) (g : Nat) (c : D) (hc : ∀ h, Rd h c c) (P : Pg → Bool) (hp : ∀ q ∈ p, PCon Try.prog g [c, .agg q.cells] (.bool (P q))) :
    PCon Try.prog 75 [pgs p, .fn g [c] []] (.int .i64 (firstI P p)) := by
  refine A75p (by simp [A75]) ?_
  simp only [A75, argEnv]
  have hal := pgs_len p
  repeat' (first | (with_reducible first | refine W_seq ?_ | refine then_n ?_ | refine W_block ?_ | refine blk_n ?_ | refine blk_r ?_ | refine blk_e ?_ | refine W_skip ?_ | refine W_ret ?_ | refine then_r ?_ | refine W_exit ?_ | refine then_e ?_) | (refine blk_j (by decide) ?_) | ((with_reducible refine s_reg ?_); intro K hK) | ((with_reducible refine k_nil ?_); (with_reducible apply s_nil hK); (· exact nmX); clear hK; clear K) | ((with_reducible refine k_cond ?_); (first | ((with_reducible apply s_condT); (· rfl); (· exact nmX)) | ((with_reducible apply s_condF); (· rfl); (· exact nmX)) | ((with_reducible apply s_condS); (· rfl); (· exact nmX); (· exact nmX)))) | ((with_reducible refine k_guard ?_); (first | (refine s_gt rfl ?_) | (refine s_gf1 rfl ?_) | (refine s_gfn rfl ?_) | (refine s_gx1 rfl ?_) | (refine s_gxn rfl ?_) | (refine s_gs rfl ?_))) | ((with_reducible refine k_mv ?_); (refine s_mv rfl ?_)) | ((with_reducible refine k_len ?_); (first | (refine s_len rfl rfl ?_) | ((with_reducible apply s_len); (· rfl); (· exact SlOwn.len (by assumption))))) | ((with_reducible refine k_br ?_); (first | (with_reducible first | refine Br_dec ?_ | refine Br_not ?_ | refine Br_eqF ?_ | refine Br_and ?_ | refine Br_or ?_ | refine Br_neg ?_ | refine Br_band ?_ | refine Br_bor ?_ | refine Br_beq ?_) | (refine Br_t (by first | omega | assumption | rfl) ?_) | (refine Br_f (by first | omega | assumption | decide) ?_) | (with_reducible apply Br_sb <;> intro hbr <;> (first | subst hbr | simp only [hbr] | skip)) | (with_reducible apply Br_s <;> intro hbr))) | (with_reducible refine WN_succ ?_) | ((first | (with_reducible apply q_eqI) | (with_reducible apply q_eqN)); (first | exact nuI | exact nuN)) | ((first | (with_reducible apply q_eqL) | (with_reducible apply q_eqO)); (first | exact liL | exact liO)))
  refine W_for p.length (fun i st => (∀ j (hj : j < i) (h : j < p.length), P p[j] = false) ∧ st = ⟨[(0, pgs p), (1, .fn g [c] []), (7, .int .i64 p.length), (8, .int .i64 i)], fun _ => none⟩) ⟨fun j hj => by omega, rfl⟩ ?_ ?_
  · rintro i e' h' hi ⟨ht, he⟩
    cases he
    have hpi := hp p[i] (List.getElem_mem hi)
    have hrow := pgr hi
    simp only [Pg.cells] at hpi
    cases hpb : P p[i] with
    | true =>
      rw [hpb] at hpi
      repeat' (first | (with_reducible first | refine W_seq ?_ | refine then_n ?_ | refine W_block ?_ | refine blk_n ?_ | refine blk_r ?_ | refine blk_e ?_ | refine W_skip ?_ | refine W_ret ?_ | refine then_r ?_ | refine W_exit ?_ | refine then_e ?_) | (refine blk_j (by decide) ?_) | ((with_reducible refine s_reg ?_); intro K hK) | ((with_reducible refine k_nil ?_); (with_reducible apply s_nil hK); (· exact nmX); clear hK; clear K) | ((with_reducible refine k_cond ?_); (first | ((with_reducible apply s_condT); (· rfl); (· exact nmX)) | ((with_reducible apply s_condF); (· rfl); (· exact nmX)) | ((with_reducible apply s_condS); (· rfl); (· exact nmX); (· exact nmX)))) | ((with_reducible refine k_guard ?_); (first | (refine s_gt rfl ?_) | (refine s_gf1 rfl ?_) | (refine s_gfn rfl ?_) | (refine s_gx1 rfl ?_) | (refine s_gxn rfl ?_) | (refine s_gs rfl ?_))) | ((with_reducible refine k_mv ?_); (refine s_mv rfl ?_)) | ((with_reducible refine k_lss ?_); (refine s_lss rfl rfl ?_)) | ((with_reducible refine k_iaddr ?_); (first | ((with_reducible apply s_iaddrV); (· rfl); (· rfl); (· (first | omega | exact ⟨rfl, by omega⟩ | skip))) | ((with_reducible apply s_iaddrO); (· rfl); (· rfl); (· (first | omega | exact ⟨rfl, by omega⟩ | skip)); (· (exact hpX))) | ((with_reducible apply s_iaddrSO); (· rfl); (· assumption); (· rfl); (· (first | omega | exact ⟨rfl, by omega⟩ | skip)); (· (first | (simp (disch := omega) only [w64, wu8, wu16, wu32, wu64, tm_nn, td_nn, fd_nn, Int.reduceAdd, Int.reduceSub, Int.reduceMul, Int.reduceDiv, Int.reduceMod, Int.reduceNeg, Int.reduceToNat, Int.toNat_natCast, Int.toNat_zero, Int.zero_add, Int.add_zero, Int.one_mul, Int.reducePow, Nat.mul_one, Nat.zero_add, Nat.add_zero, Nat.zero_mul, Nat.reduceAdd, Nat.reduceMul, Nat.reduceSub, Nat.min_eq_left, IntKind.bits, Nat.sub_zero, hrow]; try rfl; done) | rfl)); intro ks hks))) | ((with_reducible refine k_loadA ?_); (first | ((with_reducible apply s_loadAV); (· rfl); (· (first | exact Nat.le_of_ble_eq_true rfl | decide | omega | (simp; done) | (simp; omega) | skip))) | ((with_reducible apply s_loadAP); (· rfl); (· (exact hpX)); (· (first | exact Nat.le_of_ble_eq_true rfl | decide | omega | (simp; done) | (simp; omega) | skip))))) | ((with_reducible refine k_add ?_); ((with_reducible apply s_add); (· rfl); (· rfl))) | ((with_reducible refine k_callT ?_); ((with_reducible apply s_callt); (· rfl); (· rfl); (· rfl))) | ((with_reducible refine k_con ?_); (first | ((with_reducible apply con_val (hpi)); (· (repeat (first | exact All2.nil | (apply All2.cons; (· first | exact hc _ | exact rdX))))); (· rfl); (· exact fun _ => rfl)))) | ((with_reducible refine k_br ?_); (first | (with_reducible first | refine Br_dec ?_ | refine Br_not ?_ | refine Br_eqF ?_ | refine Br_and ?_ | refine Br_or ?_ | refine Br_neg ?_ | refine Br_band ?_ | refine Br_bor ?_ | refine Br_beq ?_) | (refine Br_t (by first | omega | assumption | rfl) ?_) | (refine Br_f (by first | omega | assumption | decide) ?_) | (with_reducible apply Br_sb <;> intro hbr <;> (first | subst hbr | simp only [hbr] | skip)) | (with_reducible apply Br_s <;> intro hbr))) | (with_reducible refine WN_succ ?_) | ((first | (with_reducible apply q_eqI) | (with_reducible apply q_eqN)); (first | (simp (disch := omega) only [w64, wu8, wu16, wu32, wu64, tm_nn, td_nn, fd_nn, Int.reduceAdd, Int.reduceSub, Int.reduceMul, Int.reduceDiv, Int.reduceMod, Int.reduceNeg, Int.reduceToNat, Int.toNat_natCast, Int.toNat_zero, Int.zero_add, Int.add_zero, Int.one_mul, Int.reducePow, Nat.mul_one, Nat.zero_add, Nat.add_zero, Nat.zero_mul, Nat.reduceAdd, Nat.reduceMul, Nat.reduceSub, Nat.min_eq_left, IntKind.bits, Nat.sub_zero, hrow]; try rfl; done) | rfl)) | ((first | (with_reducible apply q_eqL) | (with_reducible apply q_eqO)); (first | (simp (disch := omega) only [upd_self, upd_ne, upd_upd, rep, splice, List.take_succ_cons, List.take_zero, List.drop_succ_cons, List.drop_zero, List.cons_append, List.nil_append, List.append_nil, List.length_cons, List.length_nil, List.reduceReplicate, List.flatten_cons, List.flatten_nil, Nat.reduceAdd, Nat.reduceMul, Nat.reduceSub, Nat.zero_add, Nat.add_zero, List.getElem?_cons_zero, List.getElem?_cons_succ, hrow]; try rfl; done) | rfl)))
      rw [firstI_at hi hpb (fun j hj => ht j hj (by omega))]
      first | exact Fin_flat trivial rfl rfl | (refine Fin_tup trivial rfl ?_ (Nat.le_of_ble_eq_true rfl); (repeat (first | exact All2.nil | (apply All2.cons; (· first | exact exc_n | exact exc_e | exact exc_v rfl rfl | exact exc_o upd_self rfl rfl)))); done) | (refine Fin_own trivial rfl upd_self ?_ (Nat.le_of_ble_eq_true rfl); (repeat (first | exact All2.nil | (apply All2.cons; (· first | exact exc_n | exact exc_e | exact exc_v rfl rfl | exact exc_o upd_self rfl rfl)))); done) | exact Fin_nil trivial rfl | exact Fin_sl trivial rfl upd_self rfl rfl
    | false =>
      rw [hpb] at hpi
      repeat' (first | (with_reducible first | refine W_seq ?_ | refine then_n ?_ | refine W_block ?_ | refine blk_n ?_ | refine blk_r ?_ | refine blk_e ?_ | refine W_skip ?_ | refine W_ret ?_ | refine then_r ?_ | refine W_exit ?_ | refine then_e ?_) | (refine blk_j (by decide) ?_) | ((with_reducible refine s_reg ?_); intro K hK) | ((with_reducible refine k_nil ?_); (with_reducible apply s_nil hK); (· exact nmX); clear hK; clear K) | ((with_reducible refine k_cond ?_); (first | ((with_reducible apply s_condT); (· rfl); (· exact nmX)) | ((with_reducible apply s_condF); (· rfl); (· exact nmX)) | ((with_reducible apply s_condS); (· rfl); (· exact nmX); (· exact nmX)))) | ((with_reducible refine k_guard ?_); (first | (refine s_gt rfl ?_) | (refine s_gf1 rfl ?_) | (refine s_gfn rfl ?_) | (refine s_gx1 rfl ?_) | (refine s_gxn rfl ?_) | (refine s_gs rfl ?_))) | ((with_reducible refine k_mv ?_); (refine s_mv rfl ?_)) | ((with_reducible refine k_lss ?_); (refine s_lss rfl rfl ?_)) | ((with_reducible refine k_iaddr ?_); (first | ((with_reducible apply s_iaddrV); (· rfl); (· rfl); (· (first | omega | exact ⟨rfl, by omega⟩ | skip))) | ((with_reducible apply s_iaddrO); (· rfl); (· rfl); (· (first | omega | exact ⟨rfl, by omega⟩ | skip)); (· (exact hpX))) | ((with_reducible apply s_iaddrSO); (· rfl); (· assumption); (· rfl); (· (first | omega | exact ⟨rfl, by omega⟩ | skip)); (· (first | (simp (disch := omega) only [w64, wu8, wu16, wu32, wu64, tm_nn, td_nn, fd_nn, Int.reduceAdd, Int.reduceSub, Int.reduceMul, Int.reduceDiv, Int.reduceMod, Int.reduceNeg, Int.reduceToNat, Int.toNat_natCast, Int.toNat_zero, Int.zero_add, Int.add_zero, Int.one_mul, Int.reducePow, Nat.mul_one, Nat.zero_add, Nat.add_zero, Nat.zero_mul, Nat.reduceAdd, Nat.reduceMul, Nat.reduceSub, Nat.min_eq_left, IntKind.bits, Nat.sub_zero, hrow]; try rfl; done) | rfl)); intro ks hks))) | ((with_reducible refine k_loadA ?_); (first | ((with_reducible apply s_loadAV); (· rfl); (· (first | exact Nat.le_of_ble_eq_true rfl | decide | omega | (simp; done) | (simp; omega) | skip))) | ((with_reducible apply s_loadAP); (· rfl); (· (exact hpX)); (· (first | exact Nat.le_of_ble_eq_true rfl | decide | omega | (simp; done) | (simp; omega) | skip))))) | ((with_reducible refine k_add ?_); ((with_reducible apply s_add); (· rfl); (· rfl))) | ((with_reducible refine k_callT ?_); ((with_reducible apply s_callt); (· rfl); (· rfl); (· rfl))) | ((with_reducible refine k_con ?_); (first | ((with_reducible apply con_val (hpi)); (· (repeat (first | exact All2.nil | (apply All2.cons; (· first | exact hc _ | exact rdX))))); (· rfl); (· exact fun _ => rfl)))) | ((with_reducible refine k_br ?_); (first | (with_reducible first | refine Br_dec ?_ | refine Br_not ?_ | refine Br_eqF ?_ | refine Br_and ?_ | refine Br_or ?_ | refine Br_neg ?_ | refine Br_band ?_ | refine Br_bor ?_ | refine Br_beq ?_) | (refine Br_t (by first | omega | assumption | rfl) ?_) | (refine Br_f (by first | omega | assumption | decide) ?_) | (with_reducible apply Br_sb <;> intro hbr <;> (first | subst hbr | simp only [hbr] | skip)) | (with_reducible apply Br_s <;> intro hbr))) | (with_reducible refine WN_succ ?_) | ((first | (with_reducible apply q_eqI) | (with_reducible apply q_eqN)); (first | (simp (disch := omega) only [w64, wu8, wu16, wu32, wu64, tm_nn, td_nn, fd_nn, Int.reduceAdd, Int.reduceSub, Int.reduceMul, Int.reduceDiv, Int.reduceMod, Int.reduceNeg, Int.reduceToNat, Int.toNat_natCast, Int.toNat_zero, Int.zero_add, Int.add_zero, Int.one_mul, Int.reducePow, Nat.mul_one, Nat.zero_add, Nat.add_zero, Nat.zero_mul, Nat.reduceAdd, Nat.reduceMul, Nat.reduceSub, Nat.min_eq_left, IntKind.bits, Nat.sub_zero, hrow]; try rfl; done) | rfl)) | ((first | (with_reducible apply q_eqL) | (with_reducible apply q_eqO)); (first | (simp (disch := omega) only [upd_self, upd_ne, upd_upd, rep, splice, List.take_succ_cons, List.take_zero, List.drop_succ_cons, List.drop_zero, List.cons_append, List.nil_append, List.append_nil, List.length_cons, List.length_nil, List.reduceReplicate, List.flatten_cons, List.flatten_nil, Nat.reduceAdd, Nat.reduceMul, Nat.reduceSub, Nat.zero_add, Nat.add_zero, List.getElem?_cons_zero, List.getElem?_cons_succ, hrow]; try rfl; done) | rfl)))
      refine ⟨fun j hj h => ?_, rfl⟩
      rcases Nat.lt_succ_iff_lt_or_eq.1 hj with h1 | rfl
      · exact ht j h1 h
      · exact hpb
  · rintro e' h' ⟨ht, he⟩
    cases he
    repeat' (first | (with_reducible first | refine W_seq ?_ | refine then_n ?_ | refine W_block ?_ | refine blk_n ?_ | refine blk_r ?_ | refine blk_e ?_ | refine W_skip ?_ | refine W_ret ?_ | refine then_r ?_ | refine W_exit ?_ | refine then_e ?_) | (refine blk_j (by decide) ?_) | ((with_reducible refine s_reg ?_); intro K hK) | ((with_reducible refine k_nil ?_); (with_reducible apply s_nil hK); (· exact nmX); clear hK; clear K) | ((with_reducible refine k_cond ?_); (first | ((with_reducible apply s_condT); (· rfl); (· exact nmX)) | ((with_reducible apply s_condF); (· rfl); (· exact nmX)) | ((with_reducible apply s_condS); (· rfl); (· exact nmX); (· exact nmX)))) | ((with_reducible refine k_guard ?_); (first | (refine s_gt rfl ?_) | (refine s_gf1 rfl ?_) | (refine s_gfn rfl ?_) | (refine s_gx1 rfl ?_) | (refine s_gxn rfl ?_) | (refine s_gs rfl ?_))) | ((with_reducible refine k_mv ?_); (refine s_mv rfl ?_)) | ((with_reducible refine k_lss ?_); (refine s_lss rfl rfl ?_)) | ((with_reducible refine k_br ?_); (first | (with_reducible first | refine Br_dec ?_ | refine Br_not ?_ | refine Br_eqF ?_ | refine Br_and ?_ | refine Br_or ?_ | refine Br_neg ?_ | refine Br_band ?_ | refine Br_bor ?_ | refine Br_beq ?_) | (refine Br_t (by first | omega | assumption | rfl) ?_) | (refine Br_f (by first | omega | assumption | decide) ?_) | (with_reducible apply Br_sb <;> intro hbr <;> (first | subst hbr | simp only [hbr] | skip)) | (with_reducible apply Br_s <;> intro hbr))) | (with_reducible refine WN_succ ?_) | ((first | (with_reducible apply q_eqI) | (with_reducible apply q_eqN)); (first | exact nuI | exact nuN)) | ((first | (with_reducible apply q_eqL) | (with_reducible apply q_eqO)); (first | exact liL | exact liO)))
    rw [firstI_no (fun j hj => ht j hj hj)]
    first | exact Fin_flat trivial rfl rfl | (refine Fin_tup trivial rfl ?_ (Nat.le_of_ble_eq_true rfl); (repeat (first | exact All2.nil | (apply All2.cons; (· first | exact exc_n | exact exc_e | exact exc_v rfl rfl | exact exc_o upd_self rfl rfl)))); done) | (refine Fin_own trivial rfl upd_self ?_ (Nat.le_of_ble_eq_true rfl); (repeat (first | exact All2.nil | (apply All2.cons; (· first | exact exc_n | exact exc_e | exact exc_v rfl rfl | exact exc_o upd_self rfl rfl)))); done) | exact Fin_nil trivial rfl | exact Fin_sl trivial rfl upd_self rfl rfl
theorem pcontf_c (p : List Pg) (hl : p.length ≤ 1000000) (g : Nat) (c : D) (hc : ∀ h, Rd h c c) (P : Pg → Bool) (hp : ∀ q ∈ p, PCon Try.prog g [c, .agg q.cells] (.bool (P q))) :
    PCon Try.prog 50 [pgs p, .fn g [c] []] (.bool (decide (0 ≤ firstI P p))) := by
  refine A50p (by simp [A50]) ?_
  simp only [A50, argEnv]
  have c1 := pidxf_c p hl g c hc P hp
  repeat' (first | (with_reducible first | refine W_seq ?_ | refine then_n ?_ | refine W_skip ?_ | refine W_ret ?_ | refine then_r ?_) | ((with_reducible refine s_reg ?_); intro K hK) | ((with_reducible refine k_nil ?_); (with_reducible apply s_nil hK); (· exact nmX); clear hK; clear K) | ((with_reducible refine k_guard ?_); (first | (refine s_gt rfl ?_) | (refine s_gf1 rfl ?_) | (refine s_gfn rfl ?_) | (refine s_gx1 rfl ?_) | (refine s_gxn rfl ?_) | (refine s_gs rfl ?_))) | ((with_reducible refine k_mv ?_); (refine s_mv rfl ?_)) | ((with_reducible refine k_geq ?_); (refine s_geq rfl rfl ?_)) | ((with_reducible refine k_callF ?_); (first | ((with_reducible apply s_call1); (· rfl)) | ((with_reducible apply s_calln); (· rfl)))) | ((with_reducible refine k_con ?_); (first | ((with_reducible apply con_val (c1)); (· (repeat (first | exact All2.nil | (apply All2.cons; (· first | exact (Rd_fnR (All2.cons (hc _) All2.nil) All2.nil) | exact rdX))))); (· rfl); (· exact fun _ => rfl)))) | ((with_reducible refine k_br ?_); (first | (with_reducible first | refine Br_dec ?_ | refine Br_not ?_ | refine Br_eqF ?_ | refine Br_and ?_ | refine Br_or ?_ | refine Br_neg ?_ | refine Br_band ?_ | refine Br_bor ?_ | refine Br_beq ?_) | (refine Br_t (by first | omega | assumption | rfl) ?_) | (refine Br_f (by first | omega | assumption | decide) ?_) | (with_reducible apply Br_sb <;> intro hbr <;> (first | subst hbr | simp only [hbr] | skip)) | (with_reducible apply Br_s <;> intro hbr))) | (with_reducible refine WN_succ ?_) | ((first | (with_reducible apply q_eqI) | (with_reducible apply q_eqN)); (first | exact nuI | exact nuN)) | ((first | (with_reducible apply q_eqL) | (with_reducible apply q_eqO)); (first | exact liL | exact liO)))
  all_goals first | exact Fin_bt trivial rfl (by omega) | exact Fin_bf trivial rfl (by omega)
def trP (p : List Pg) (l : List Acct) (s : Int) (kn : Bool) : Prop := quP p l s ∧ ∃ q ∈ p, rsn l (lvL l p) s kn q = 8
theorem Transit_c (p : List Pg) (l : List Acct) (hL : l.length ≤ 9223372036854775807) (hP : p.length ≤ 1000000) (s : Int) (kn : Bool) : PCon Try.prog 29 [pgs p, accs l, .int .i64 s, .bool kn] (.bool (decide (trP p l s kn))) := by
  refine A29p (by simp [A29]) ?_
  simp only [A29, argEnv]
  by_cases hq : quP p l s
  · have c1 := pcontf_c p hP 51 (qV p l s kn) (fun h => Rd_vp) (fun q => decide (rsn l (lvL l p) s kn q = 8)) (fun q hqm => by
      obtain ⟨i, hi, rfl⟩ := List.getElem_of_mem hqm
      exact qtransit_c p[i] p l s kn (qu_in hq hi))
    have hz : trP p l s kn ↔ 0 ≤ firstI (fun q => decide (rsn l (lvL l p) s kn q = 8)) p := by
      rw [firstI_nn]
      exact ⟨fun h => by obtain ⟨_, q, h1, h2⟩ := h; exact ⟨q, h1, by simpa using h2⟩, fun ⟨q, h1, h2⟩ => ⟨hq, q, h1, by simpa using h2⟩⟩
    generalize trP p l s kn = Z at *
    generalize firstI (fun q => decide (rsn l (lvL l p) s kn q = 8)) p = f at *
    repeat' (first | (with_reducible first | refine W_seq ?_ | refine then_n ?_ | refine W_skip ?_ | refine W_ret ?_ | refine then_r ?_) | ((with_reducible refine s_reg ?_); intro K hK) | ((with_reducible refine k_nil ?_); (with_reducible apply s_nil hK); (· exact nmX); clear hK; clear K) | ((with_reducible refine k_guard ?_); (first | (refine s_gt rfl ?_) | (refine s_gf1 rfl ?_) | (refine s_gfn rfl ?_) | (refine s_gx1 rfl ?_) | (refine s_gxn rfl ?_) | (refine s_gs rfl ?_))) | ((with_reducible refine k_mv ?_); (refine s_mv rfl ?_)) | ((with_reducible refine k_extract ?_); (refine s_extract rfl rfl ?_)) | ((with_reducible refine k_pick ?_); (first | (refine s_pickT rfl rfl ?_) | (refine s_pickF rfl rfl ?_))) | ((with_reducible refine k_eql ?_); (first | (refine s_eql rfl rfl ?_) | (refine s_strEq rfl rfl ?_))) | ((with_reducible refine k_mkfn ?_); ((with_reducible apply s_mkfn); (· rfl); (· rfl))) | ((with_reducible refine k_callF ?_); (first | ((with_reducible apply s_call1); (· rfl)) | ((with_reducible apply s_calln); (· rfl)))) | ((with_reducible refine k_con ?_); (first | (refine ask_yes hL hP hq ?_; intro kq hQ hqi; (try dsimp only)) | ((with_reducible apply con_valB (c1)); (· (repeat (first | exact All2.nil | (apply All2.cons; (· first | exact (Rd_fnR (All2.cons (QIn.rd (by assumption)) All2.nil) All2.nil) | exact rdX)))))))) | ((with_reducible refine k_br ?_); (first | (with_reducible first | refine Br_dec ?_ | refine Br_not ?_ | refine Br_eqF ?_ | refine Br_and ?_ | refine Br_or ?_ | refine Br_neg ?_ | refine Br_band ?_ | refine Br_bor ?_ | refine Br_beq ?_) | (refine Br_t (by first | omega | assumption | rfl) ?_) | (refine Br_f (by first | omega | assumption | decide) ?_) | (with_reducible apply Br_sb <;> intro hbr <;> (first | subst hbr | simp only [hbr] | skip)) | (with_reducible apply Br_s <;> intro hbr))) | (with_reducible refine WN_succ ?_) | ((first | (with_reducible apply q_eqI) | (with_reducible apply q_eqN)); (first | exact nuI | exact nuN)) | ((first | (with_reducible apply q_eqL) | (with_reducible apply q_eqO)); (first | exact liL | exact liO)))
    all_goals first | (exfalso; omega) | exact Fin_bt trivial rfl (hz.2 (by assumption)) | exact Fin_bf trivial rfl (fun h => absurd (hz.1 h) (by assumption))
  · have hz : ¬ trP p l s kn := fun h => hq h.1
    have he := qu_no hq
    repeat' (first | (with_reducible first | refine W_seq ?_ | refine then_n ?_ | refine W_skip ?_ | refine W_ret ?_ | refine then_r ?_) | ((with_reducible refine s_reg ?_); intro K hK) | ((with_reducible refine k_nil ?_); (with_reducible apply s_nil hK); (· exact nmX); clear hK; clear K) | ((with_reducible refine k_guard ?_); (first | (refine s_gt rfl ?_) | (refine s_gf1 rfl ?_) | (refine s_gfn rfl ?_) | (refine s_gx1 rfl ?_) | (refine s_gxn rfl ?_) | (refine s_gs rfl ?_))) | ((with_reducible refine k_mv ?_); (refine s_mv rfl ?_)) | ((with_reducible refine k_extract ?_); (refine s_extract rfl rfl ?_)) | ((with_reducible refine k_pick ?_); (first | (refine s_pickT rfl rfl ?_) | (refine s_pickF rfl rfl ?_))) | ((with_reducible refine k_eql ?_); (first | (refine s_eql rfl rfl ?_) | (refine s_strEq rfl rfl ?_))) | ((with_reducible refine k_mkfn ?_); ((with_reducible apply s_mkfn); (· rfl); (· rfl))) | ((with_reducible refine k_callF ?_); (first | ((with_reducible apply s_call1); (· rfl)) | ((with_reducible apply s_calln); (· rfl)))) | ((with_reducible refine k_con ?_); (first | (refine ask_no hL hP hq ?_; intro hQ; (try dsimp only)))) | ((with_reducible refine k_br ?_); (first | (with_reducible first | refine Br_dec ?_ | refine Br_not ?_ | refine Br_eqF ?_ | refine Br_and ?_ | refine Br_or ?_ | refine Br_neg ?_ | refine Br_band ?_ | refine Br_bor ?_ | refine Br_beq ?_) | (refine Br_t (by first | omega | assumption | rfl) ?_) | (refine Br_f (by first | omega | assumption | decide) ?_) | (with_reducible apply Br_sb <;> intro hbr <;> (first | subst hbr | simp only [hbr] | skip)) | (with_reducible apply Br_s <;> intro hbr))) | (with_reducible refine WN_succ ?_) | ((first | (with_reducible apply q_eqI) | (with_reducible apply q_eqN)); (first | exact nuI | exact nuN)) | ((first | (with_reducible apply q_eqL) | (with_reducible apply q_eqO)); (first | exact liL | exact liO)))
    all_goals first | (exfalso; omega) | exact Fin_bf trivial rfl hz
end Go.Proofs.Ytfdfmbmhefckaaa
end
section
/- Reclaim plans: the program's answers, second part. -/
set_option linter.unusedSimpArgs false
set_option linter.unusedVariables false
namespace Go.Proofs.Ytfdfmbmhefckaaa
open Go.AM Classical
set_option maxRecDepth 100000
set_option maxHeartbeats 4000000
theorem upd_same {h : Heap} {k : Nat} {c : List D} (hk : h k = some c) : AM.upd h k c = h := by
  funext j
  by_cases hj : j = k
  · subst hj; rw [upd_self, hk]
  · rw [upd_ne hj]
theorem upd_com {h : Heap} {k j : Nat} {c d : List D} (hne : k ≠ j) : AM.upd (AM.upd h k c) j d = AM.upd (AM.upd h j d) k c := by
  funext i
  by_cases hi : i = k
  · subst hi; rw [upd_ne hne, upd_self, upd_self]
  · by_cases hi2 : i = j
    · subst hi2; rw [upd_self, upd_ne hi, upd_self]
    · rw [upd_ne hi2, upd_ne hi, upd_ne hi, upd_ne hi2]
theorem pclone_c (p : List Pg) (hl : p.length ≤ 1000000) : PCon Try.prog 47 [pgs p] (.ow 7 (p.flatMap Pg.cells) p.length) := by
  have hal := pgs_len p
  refine A47p (by simp [A47]) ?_
  simp only [A47, argEnv]
  rcases Nat.eq_zero_or_pos p.length with h0 | h0
  · have hp : p = [] := List.length_eq_zero_iff.1 h0
    subst hp
    simp only [pgs, List.flatMap_nil, List.length_nil]
    repeat' (first | (with_reducible first | refine W_seq ?_ | refine then_n ?_ | refine W_skip ?_ | refine W_ret ?_ | refine then_r ?_) | ((with_reducible refine s_reg ?_); intro K hK) | ((with_reducible refine k_nil ?_); (with_reducible apply s_nil hK); (· exact nmX); clear hK; clear K) | ((with_reducible refine k_cond ?_); (first | ((with_reducible apply s_condT); (· rfl); (· exact nmX)) | ((with_reducible apply s_condF); (· rfl); (· exact nmX)) | ((with_reducible apply s_condS); (· rfl); (· exact nmX); (· exact nmX)))) | ((with_reducible refine k_guard ?_); (first | (refine s_gt rfl ?_) | (refine s_gf1 rfl ?_) | (refine s_gfn rfl ?_) | (refine s_gx1 rfl ?_) | (refine s_gxn rfl ?_) | (refine s_gs rfl ?_))) | ((with_reducible refine k_mv ?_); (refine s_mv rfl ?_)) | ((with_reducible refine k_eqN ?_); (first | ((with_reducible apply s_eqN); (· rfl); (· (first | rfl | exact isNil_vs (by omega) | exact isNil_sl (by omega))); (· rfl)) | ((with_reducible apply s_eqN0); (· rfl); intro b; cases b))) | ((with_reducible refine k_buildS (dst := some 5) ?_); ((with_reducible apply s_buildS); (· rfl); (· (exact ⟨rfl, by decide⟩)); (· (first | (simp only [fillB, rep, splice, List.reduceReplicate, List.flatten_cons, List.flatten_nil, List.cons_append, List.nil_append, List.append_nil, List.length_cons, List.length_nil, Nat.reduceAdd, Nat.reduceMul, Nat.reduceLeDiff, Nat.reduceEqDiff, eq_self, Nat.le_refl, Nat.zero_add, and_self, and_true, true_and, if_true, List.take_zero, List.take_succ_cons, List.drop_zero, List.drop_succ_cons, List.drop_nil, List.take_nil]; rfl) | rfl)); intro k5 hk5; (try simp only [upd_none] at hk5))) | ((with_reducible refine k_append (dst := some 7) ?_); ((with_reducible apply s_app); (· rfl); (· rfl); (· first | assumption | exact SlOwn.nil | exact SlOwn.emp | exact SlOwn.sl upd_self rfl | ((repeat' (first | assumption | (with_reducible apply SlOwn.upd) | (simp only [upd_none]; assumption))); done) | ((apply SlOwn.sl); (· (exact hpX)); (· first | rfl | assumption))); (· rfl); (· first | exact srcD_sl upd_self rfl | (exact srcD_vs (by first | assumption | simp)) | ((apply srcD_sl); (· (exact hpX)); (· rfl))); (· exact ⟨by first | rfl | assumption | simp, by decide⟩); (· first | (rw [room_n]; omega) | skip); intro da7 ha7 hso7 hoth7)) | ((with_reducible refine k_br ?_); (first | (with_reducible first | refine Br_dec ?_ | refine Br_not ?_ | refine Br_eqF ?_ | refine Br_and ?_ | refine Br_or ?_ | refine Br_neg ?_ | refine Br_band ?_ | refine Br_bor ?_ | refine Br_beq ?_) | (refine Br_t (by first | omega | assumption | rfl) ?_) | (refine Br_f (by first | omega | assumption | decide) ?_) | (with_reducible apply Br_sb <;> intro hbr <;> (first | subst hbr | simp only [hbr] | skip)) | (with_reducible apply Br_s <;> intro hbr))) | (with_reducible refine WN_succ ?_) | ((first | (with_reducible apply q_eqI) | (with_reducible apply q_eqN)); (first | exact nuI | exact nuN)) | ((first | (with_reducible apply q_eqL) | (with_reducible apply q_eqO)); (first | exact liL | exact liO)))
    all_goals first | (first | exact Fin_flat trivial rfl rfl | (refine Fin_tup trivial rfl ?_ (Nat.le_of_ble_eq_true rfl); (repeat (first | exact All2.nil | (apply All2.cons; (· first | exact exc_n | exact exc_e | exact exc_v rfl rfl | exact exc_o upd_self rfl rfl)))); done) | (refine Fin_own trivial rfl upd_self ?_ (Nat.le_of_ble_eq_true rfl); (repeat (first | exact All2.nil | (apply All2.cons; (· first | exact exc_n | exact exc_e | exact exc_v rfl rfl | exact exc_o upd_self rfl rfl)))); done) | exact Fin_nil trivial rfl | exact Fin_sl trivial rfl upd_self rfl rfl) | exact Fin_so trivial rfl (by assumption) rfl
  · repeat' (first | (with_reducible first | refine W_seq ?_ | refine then_n ?_ | refine W_skip ?_ | refine W_ret ?_ | refine then_r ?_) | ((with_reducible refine s_reg ?_); intro K hK) | ((with_reducible refine k_nil ?_); (with_reducible apply s_nil hK); (· exact nmX); clear hK; clear K) | ((with_reducible refine k_cond ?_); (first | ((with_reducible apply s_condT); (· rfl); (· exact nmX)) | ((with_reducible apply s_condF); (· rfl); (· exact nmX)) | ((with_reducible apply s_condS); (· rfl); (· exact nmX); (· exact nmX)))) | ((with_reducible refine k_guard ?_); (first | (refine s_gt rfl ?_) | (refine s_gf1 rfl ?_) | (refine s_gfn rfl ?_) | (refine s_gx1 rfl ?_) | (refine s_gxn rfl ?_) | (refine s_gs rfl ?_))) | ((with_reducible refine k_mv ?_); (refine s_mv rfl ?_)) | ((with_reducible refine k_eqN ?_); (first | ((with_reducible apply s_eqN); (· rfl); (· (first | rfl | exact isNil_vs (by omega) | exact isNil_sl (by omega))); (· rfl)) | ((with_reducible apply s_eqN0); (· rfl); intro b; cases b))) | ((with_reducible refine k_buildS (dst := some 5) ?_); ((with_reducible apply s_buildS); (· rfl); (· (exact ⟨rfl, by decide⟩)); (· (first | (simp only [fillB, rep, splice, List.reduceReplicate, List.flatten_cons, List.flatten_nil, List.cons_append, List.nil_append, List.append_nil, List.length_cons, List.length_nil, Nat.reduceAdd, Nat.reduceMul, Nat.reduceLeDiff, Nat.reduceEqDiff, eq_self, Nat.le_refl, Nat.zero_add, and_self, and_true, true_and, if_true, List.take_zero, List.take_succ_cons, List.drop_zero, List.drop_succ_cons, List.drop_nil, List.take_nil]; rfl) | rfl)); intro k5 hk5; (try simp only [upd_none] at hk5))) | ((with_reducible refine k_append (dst := some 7) ?_); ((with_reducible apply s_app); (· rfl); (· rfl); (· first | assumption | exact SlOwn.nil | exact SlOwn.emp | exact SlOwn.sl upd_self rfl | ((repeat' (first | assumption | (with_reducible apply SlOwn.upd) | (simp only [upd_none]; assumption))); done) | ((apply SlOwn.sl); (· (exact hpX)); (· first | rfl | assumption))); (· rfl); (· first | exact srcD_sl upd_self rfl | (exact srcD_vs (by first | assumption | simp)) | ((apply srcD_sl); (· (exact hpX)); (· rfl))); (· exact ⟨by first | rfl | assumption | simp, by decide⟩); (· first | (rw [room_n]; omega) | skip); intro da7 ha7 hso7 hoth7)) | ((with_reducible refine k_br ?_); (first | (with_reducible first | refine Br_dec ?_ | refine Br_not ?_ | refine Br_eqF ?_ | refine Br_and ?_ | refine Br_or ?_ | refine Br_neg ?_ | refine Br_band ?_ | refine Br_bor ?_ | refine Br_beq ?_) | (refine Br_t (by first | omega | assumption | rfl) ?_) | (refine Br_f (by first | omega | assumption | decide) ?_) | (with_reducible apply Br_sb <;> intro hbr <;> (first | subst hbr | simp only [hbr] | skip)) | (with_reducible apply Br_s <;> intro hbr))) | (with_reducible refine WN_succ ?_) | ((first | (with_reducible apply q_eqI) | (with_reducible apply q_eqN)); (first | exact nuI | exact nuN)) | ((first | (with_reducible apply q_eqL) | (with_reducible apply q_eqO)); (first | exact liL | exact liO)))
    simp only [List.nil_append, Nat.zero_add] at hso7
    exact Fin_so trivial rfl hso7 (pgs_scal p)
def wrP (q : Pg) (r : Int) : Pg := ⟨q.frame, q.account, q.age, r, q.owner, q.normal, q.leaving⟩
noncomputable def wit (l : List Acct) (v : List Int) (s : Int) (kn : Bool) (q : Pg) : Pg := wrP q (rsn l v s kn q)
noncomputable def witF (p : List Pg) (l : List Acct) (s : Int) (kn : Bool) : List Pg := if quP p l s then p.map (wit l (lvL l p) s kn) else []
def mapT (f : Pg → Pg) (p : List Pg) (i : Nat) : List Pg := (p.take i).map f ++ p.drop i
theorem mapT_len (f : Pg → Pg) (p : List Pg) {i : Nat} (hi : i ≤ p.length) : (mapT f p i).length = p.length := by simp [mapT]; omega
theorem mapT_at {f : Pg → Pg} {p : List Pg} {i : Nat} (hi : i < p.length) : (mapT f p i)[i]'(by rw [mapT_len f p (by omega)]; exact hi) = p[i] := by
  unfold mapT
  rw [List.getElem_append_right (by simp; omega)]
  simp only [List.length_map, List.length_take]
  rw [List.getElem_drop]
  congr 1
  omega
theorem mapT_step {f : Pg → Pg} {p : List Pg} {i : Nat} (hi : i < p.length) : (mapT f p i).set i (f p[i]) = mapT f p (i + 1) := by
  unfold mapT
  rw [List.set_append_right _ _ (by simp; omega), List.take_succ_eq_append_getElem hi, List.map_append, List.append_assoc]
  congr 1
  simp only [List.length_map, List.length_take, Nat.min_eq_left (Nat.le_of_lt hi), Nat.sub_self, List.map_cons, List.map_nil]
  rw [List.drop_eq_getElem_cons hi]
  rfl
theorem mapT_end (f : Pg → Pg) (p : List Pg) : mapT f p p.length = p.map f := by simp [mapT]
theorem Witness_c (p : List Pg) (l : List Acct) (hL : l.length ≤ 9223372036854775807) (hP : p.length ≤ 1000000) (s : Int) (kn : Bool) : PCon Try.prog 23 [pgs p, accs l, .int .i64 s, .bool kn] (.ow 7 ((witF p l s kn).flatMap Pg.cells) (witF p l s kn).length) := by
  refine A23p (by simp [A23]) ?_
  simp only [A23, argEnv]
  have hpl := pgs_len p
  unfold witF
  by_cases hq : quP p l s
  · rw [if_pos hq, List.length_map]
    have c2 := pclone_c p hP
    repeat' (first | (with_reducible first | refine W_seq ?_ | refine then_n ?_ | refine W_block ?_ | refine blk_n ?_ | refine blk_r ?_ | refine blk_e ?_ | refine W_skip ?_ | refine W_ret ?_ | refine then_r ?_ | refine W_exit ?_ | refine then_e ?_) | (refine blk_j (by decide) ?_) | ((with_reducible refine s_reg ?_); intro K hK) | ((with_reducible refine k_nil ?_); (with_reducible apply s_nil hK); (· exact nmX); clear hK; clear K) | ((with_reducible refine k_cond ?_); (first | ((with_reducible apply s_condT); (· rfl); (· exact nmX)) | ((with_reducible apply s_condF); (· rfl); (· exact nmX)) | ((with_reducible apply s_condS); (· rfl); (· exact nmX); (· exact nmX)))) | ((with_reducible refine k_guard ?_); (first | (refine s_gt rfl ?_) | (refine s_gf1 rfl ?_) | (refine s_gfn rfl ?_) | (refine s_gx1 rfl ?_) | (refine s_gxn rfl ?_) | (refine s_gs rfl ?_))) | ((with_reducible refine k_mv ?_); (refine s_mv rfl ?_)) | ((with_reducible refine k_extract ?_); (refine s_extract rfl rfl ?_)) | ((with_reducible refine k_len ?_); (first | (refine s_len rfl rfl ?_) | ((with_reducible apply s_len); (· rfl); (· exact SlOwn.len (by assumption))))) | ((with_reducible refine k_neq ?_); (first | (refine s_neq rfl rfl ?_) | (refine s_strNe rfl rfl ?_))) | ((with_reducible refine k_callF ?_); (first | ((with_reducible apply s_call1); (· rfl)) | ((with_reducible apply s_calln); (· rfl)))) | ((with_reducible refine k_con ?_); (first | (refine ask_yes hL hP hq ?_; intro kq hQ hqi; (try dsimp only)) | ((with_reducible apply con_of_pcon (c2)); (· (exact agX)); intro kW hkW; (try simp only [upd_none] at hkW); simp only [thaw, thawC, List.map, thawH, owOf, owL]))) | ((with_reducible refine k_br ?_); (first | (with_reducible first | refine Br_dec ?_ | refine Br_not ?_ | refine Br_eqF ?_ | refine Br_and ?_ | refine Br_or ?_ | refine Br_neg ?_ | refine Br_band ?_ | refine Br_bor ?_ | refine Br_beq ?_) | (refine Br_t (by first | omega | assumption | rfl) ?_) | (refine Br_f (by first | omega | assumption | decide) ?_) | (with_reducible apply Br_sb <;> intro hbr <;> (first | subst hbr | simp only [hbr] | skip)) | (with_reducible apply Br_s <;> intro hbr))) | (with_reducible refine WN_succ ?_) | ((first | (with_reducible apply q_eqI) | (with_reducible apply q_eqN)); (first | exact nuI | exact nuN)) | ((first | (with_reducible apply q_eqL) | (with_reducible apply q_eqO)); (first | exact liL | exact liO)))
    refine W_for p.length (fun i st => ∃ h', st = ⟨[(9, .pt kq 0), (11, .sl kW 7 0 p.length), (26, pgs p), (27, .int .i64 p.length), (28, .int .i64 i)], h'⟩ ∧ h' kW = some ((mapT (wit l (lvL l p) s kn) p i).flatMap Pg.cells) ∧ ∀ c, QIn (AM.upd h' kW c) kq p l s kn l.length) ⟨_, rfl, by rw [upd_self]; rfl, fun c => by rw [upd_upd]; exact hqi.upd hkW⟩ ?_ ?_
    · clear hqi hkW
      rintro i e' h' hi ⟨h1, he, hk, hqc⟩
      cases he
      have hqi := hqc ((mapT (wit l (lvL l p) s kn) p i).flatMap Pg.cells)
      rw [upd_same hk] at hqi
      have hrow := pgr hi
      have c1 := qreason_c p[i] p l s kn (qu_in hq hi)
      have hml := mapT_len (wit l (lvL l p) s kn) p (Nat.le_of_lt hi)
      have hst := mapT_step (f := wit l (lvL l p) s kn) hi
      have hs := fm_st (f := Pg.cells) (l := mapT (wit l (lvL l p) s kn) p i) (i := i) (j := 3) (d := .int .i64 (rsn l (lvL l p) s kn p[i])) (b := wit l (lvL l p) s kn p[i]) Pg.cells_len (by rw [hml]; exact hi) (by omega) (by rw [mapT_at hi]; rfl)
      rw [hst] at hs
      have hcl : ((mapT (wit l (lvL l p) s kn) p i).flatMap Pg.cells).length = p.length * 7 := by rw [pgs_len, hml]
      generalize mapT (wit l (lvL l p) s kn) p (i + 1) = g1 at *
      generalize mapT (wit l (lvL l p) s kn) p i = g0 at *
      generalize rsn l (lvL l p) s kn p[i] = r at *
      clear hst
      generalize p[i] = q at *
      obtain ⟨fr, ac, ag, re, ow, nm, lv⟩ := q
      dsimp only [Pg.cells] at c1 hrow
      repeat' (first | (with_reducible first | refine W_seq ?_ | refine then_n ?_ | refine W_block ?_ | refine blk_n ?_ | refine blk_r ?_ | refine blk_e ?_ | refine W_skip ?_ | refine W_ret ?_ | refine then_r ?_ | refine W_exit ?_ | refine then_e ?_) | (refine blk_j (by decide) ?_) | ((with_reducible refine s_reg ?_); intro K hK) | ((with_reducible refine k_nil ?_); (with_reducible apply s_nil hK); (· exact nmX); clear hK; clear K) | ((with_reducible refine k_cond ?_); (first | ((with_reducible apply s_condT); (· rfl); (· exact nmX)) | ((with_reducible apply s_condF); (· rfl); (· exact nmX)) | ((with_reducible apply s_condS); (· rfl); (· exact nmX); (· exact nmX)))) | ((with_reducible refine k_guard ?_); (first | (refine s_gt rfl ?_) | (refine s_gf1 rfl ?_) | (refine s_gfn rfl ?_) | (refine s_gx1 rfl ?_) | (refine s_gxn rfl ?_) | (refine s_gs rfl ?_))) | ((with_reducible refine k_mv ?_); (refine s_mv rfl ?_)) | ((with_reducible refine k_lss ?_); (refine s_lss rfl rfl ?_)) | ((with_reducible refine k_iaddr ?_); (first | ((with_reducible apply s_iaddrV); (· rfl); (· rfl); (· (first | omega | exact ⟨rfl, by omega⟩ | skip))) | ((with_reducible apply s_iaddrO); (· rfl); (· rfl); (· (first | omega | exact ⟨rfl, by omega⟩ | skip)); (· (exact hpX))) | ((with_reducible apply s_iaddrSO); (· rfl); (· assumption); (· rfl); (· (first | omega | exact ⟨rfl, by omega⟩ | skip)); (· (first | (simp (disch := omega) only [w64, wu8, wu16, wu32, wu64, tm_nn, td_nn, fd_nn, Int.reduceAdd, Int.reduceSub, Int.reduceMul, Int.reduceDiv, Int.reduceMod, Int.reduceNeg, Int.reduceToNat, Int.toNat_natCast, Int.toNat_zero, Int.zero_add, Int.add_zero, Int.one_mul, Int.reducePow, Nat.mul_one, Nat.zero_add, Nat.add_zero, Nat.zero_mul, Nat.reduceAdd, Nat.reduceMul, Nat.reduceSub, Nat.min_eq_left, IntKind.bits, Nat.sub_zero, hrow, hs]; try rfl; done) | rfl)); intro ks hks))) | ((with_reducible refine k_loadA ?_); (first | ((with_reducible apply s_loadAV); (· rfl); (· (first | exact Nat.le_of_ble_eq_true rfl | decide | omega | (simp; done) | (simp; omega) | skip))) | ((with_reducible apply s_loadAP); (· rfl); (· (exact hpX)); (· (first | exact Nat.le_of_ble_eq_true rfl | decide | omega | (simp; done) | (simp; omega) | skip))))) | ((with_reducible refine k_add ?_); ((with_reducible apply s_add); (· rfl); (· rfl))) | ((with_reducible refine k_store ?_); ((with_reducible apply s_store0); (· rfl); (· rfl); (· rfl); (· (exact hpX)); (· (exact ⟨rfl, by first | exact Nat.le_of_ble_eq_true rfl | omega | (simp [hrow, hs]; omega)⟩)); (· ((first | (simp (disch := omega) only [upd_self, upd_ne, upd_upd, rep, splice, List.take_succ_cons, List.take_zero, List.drop_succ_cons, List.drop_zero, List.cons_append, List.nil_append, List.append_nil, List.length_cons, List.length_nil, List.reduceReplicate, List.flatten_cons, List.flatten_nil, Nat.reduceAdd, Nat.reduceMul, Nat.reduceSub, Nat.zero_add, Nat.add_zero, List.getElem?_cons_zero, List.getElem?_cons_succ, hrow, hs]; try rfl; done) | rfl))); (· (first | exact upd_upd | rfl)))) | ((with_reducible refine k_faddr ?_); (first | ((with_reducible apply s_faddrV); (· rfl); (· rfl)) | ((with_reducible apply s_faddrP); (· rfl); (· rfl)))) | ((with_reducible refine k_alloc (dst := some 13) ?_); ((with_reducible apply s_alloc); intro k13 hk13; (try simp only [upd_none] at hk13))) | ((with_reducible refine k_callF ?_); (first | ((with_reducible apply s_call1); (· rfl)) | ((with_reducible apply s_calln); (· rfl)))) | ((with_reducible refine k_con ?_); (first | ((with_reducible apply con_val (c1)); (· (repeat (first | exact All2.nil | (apply All2.cons; (· first | exact QIn.two hqi hk13 | exact rdX))))); (· rfl); (· exact fun _ => rfl)))) | ((with_reducible refine k_br ?_); (first | (with_reducible first | refine Br_dec ?_ | refine Br_not ?_ | refine Br_eqF ?_ | refine Br_and ?_ | refine Br_or ?_ | refine Br_neg ?_ | refine Br_band ?_ | refine Br_bor ?_ | refine Br_beq ?_) | (refine Br_t (by first | omega | assumption | rfl) ?_) | (refine Br_f (by first | omega | assumption | decide) ?_) | (with_reducible apply Br_sb <;> intro hbr <;> (first | subst hbr | simp only [hbr] | skip)) | (with_reducible apply Br_s <;> intro hbr))) | (with_reducible refine WN_succ ?_) | ((first | (with_reducible apply q_eqI) | (with_reducible apply q_eqN)); (first | (simp (disch := omega) only [w64, wu8, wu16, wu32, wu64, tm_nn, td_nn, fd_nn, Int.reduceAdd, Int.reduceSub, Int.reduceMul, Int.reduceDiv, Int.reduceMod, Int.reduceNeg, Int.reduceToNat, Int.toNat_natCast, Int.toNat_zero, Int.zero_add, Int.add_zero, Int.one_mul, Int.reducePow, Nat.mul_one, Nat.zero_add, Nat.add_zero, Nat.zero_mul, Nat.reduceAdd, Nat.reduceMul, Nat.reduceSub, Nat.min_eq_left, IntKind.bits, Nat.sub_zero, hrow, hs]; try rfl; done) | rfl)) | ((first | (with_reducible apply q_eqL) | (with_reducible apply q_eqO)); (first | (simp (disch := omega) only [upd_self, upd_ne, upd_upd, rep, splice, List.take_succ_cons, List.take_zero, List.drop_succ_cons, List.drop_zero, List.cons_append, List.nil_append, List.append_nil, List.length_cons, List.length_nil, List.reduceReplicate, List.flatten_cons, List.flatten_nil, Nat.reduceAdd, Nat.reduceMul, Nat.reduceSub, Nat.zero_add, Nat.add_zero, List.getElem?_cons_zero, List.getElem?_cons_succ, hrow, hs]; try rfl; done) | rfl)))
      all_goals first | (exfalso; omega) | skip
      have hne : k13 ≠ kW := fun h => by rw [h, hk] at hk13; cases hk13
      refine ⟨_, rfl, upd_self, fun c => ?_⟩
      rw [upd_upd, upd_com hne]
      exact (hqc c).upd (by rw [upd_ne hne]; exact hk13)
    · rintro e' h' ⟨h1, he, hk, hqc⟩
      cases he
      rw [mapT_end] at hk
      repeat' (first | (with_reducible first | refine W_seq ?_ | refine then_n ?_ | refine W_block ?_ | refine blk_n ?_ | refine blk_r ?_ | refine blk_e ?_ | refine W_skip ?_ | refine W_ret ?_ | refine then_r ?_ | refine W_exit ?_ | refine then_e ?_) | (refine blk_j (by decide) ?_) | ((with_reducible refine s_reg ?_); intro K hK) | ((with_reducible refine k_nil ?_); (with_reducible apply s_nil hK); (· exact nmX); clear hK; clear K) | ((with_reducible refine k_cond ?_); (first | ((with_reducible apply s_condT); (· rfl); (· exact nmX)) | ((with_reducible apply s_condF); (· rfl); (· exact nmX)) | ((with_reducible apply s_condS); (· rfl); (· exact nmX); (· exact nmX)))) | ((with_reducible refine k_guard ?_); (first | (refine s_gt rfl ?_) | (refine s_gf1 rfl ?_) | (refine s_gfn rfl ?_) | (refine s_gx1 rfl ?_) | (refine s_gxn rfl ?_) | (refine s_gs rfl ?_))) | ((with_reducible refine k_mv ?_); (refine s_mv rfl ?_)) | ((with_reducible refine k_lss ?_); (refine s_lss rfl rfl ?_)) | ((with_reducible refine k_br ?_); (first | (with_reducible first | refine Br_dec ?_ | refine Br_not ?_ | refine Br_eqF ?_ | refine Br_and ?_ | refine Br_or ?_ | refine Br_neg ?_ | refine Br_band ?_ | refine Br_bor ?_ | refine Br_beq ?_) | (refine Br_t (by first | omega | assumption | rfl) ?_) | (refine Br_f (by first | omega | assumption | decide) ?_) | (with_reducible apply Br_sb <;> intro hbr <;> (first | subst hbr | simp only [hbr] | skip)) | (with_reducible apply Br_s <;> intro hbr))) | (with_reducible refine WN_succ ?_) | ((first | (with_reducible apply q_eqI) | (with_reducible apply q_eqN)); (first | exact nuI | exact nuN)) | ((first | (with_reducible apply q_eqL) | (with_reducible apply q_eqO)); (first | exact liL | exact liO)))
      exact Fin_sl trivial rfl hk (by rw [pgs_len, List.length_map]) (pgs_scal _)
  · rw [if_neg hq]
    have he := qu_no hq
    repeat' (first | (with_reducible first | refine W_seq ?_ | refine then_n ?_ | refine W_block ?_ | refine blk_n ?_ | refine blk_r ?_ | refine blk_e ?_ | refine W_skip ?_ | refine W_ret ?_ | refine then_r ?_ | refine W_exit ?_ | refine then_e ?_) | (refine blk_j (by decide) ?_) | ((with_reducible refine s_reg ?_); intro K hK) | ((with_reducible refine k_nil ?_); (with_reducible apply s_nil hK); (· exact nmX); clear hK; clear K) | ((with_reducible refine k_cond ?_); (first | ((with_reducible apply s_condT); (· rfl); (· exact nmX)) | ((with_reducible apply s_condF); (· rfl); (· exact nmX)) | ((with_reducible apply s_condS); (· rfl); (· exact nmX); (· exact nmX)))) | ((with_reducible refine k_guard ?_); (first | (refine s_gt rfl ?_) | (refine s_gf1 rfl ?_) | (refine s_gfn rfl ?_) | (refine s_gx1 rfl ?_) | (refine s_gxn rfl ?_) | (refine s_gs rfl ?_))) | ((with_reducible refine k_mv ?_); (refine s_mv rfl ?_)) | ((with_reducible refine k_extract ?_); (refine s_extract rfl rfl ?_)) | ((with_reducible refine k_neq ?_); (first | (refine s_neq rfl rfl ?_) | (refine s_strNe rfl rfl ?_))) | ((with_reducible refine k_callF ?_); (first | ((with_reducible apply s_call1); (· rfl)) | ((with_reducible apply s_calln); (· rfl)))) | ((with_reducible refine k_con ?_); (first | (refine ask_no hL hP hq ?_; intro hQ; (try dsimp only)))) | ((with_reducible refine k_br ?_); (first | (with_reducible first | refine Br_dec ?_ | refine Br_not ?_ | refine Br_eqF ?_ | refine Br_and ?_ | refine Br_or ?_ | refine Br_neg ?_ | refine Br_band ?_ | refine Br_bor ?_ | refine Br_beq ?_) | (refine Br_t (by first | omega | assumption | rfl) ?_) | (refine Br_f (by first | omega | assumption | decide) ?_) | (with_reducible apply Br_sb <;> intro hbr <;> (first | subst hbr | simp only [hbr] | skip)) | (with_reducible apply Br_s <;> intro hbr))) | (with_reducible refine WN_succ ?_) | ((first | (with_reducible apply q_eqI) | (with_reducible apply q_eqN)); (first | exact nuI | exact nuN)) | ((first | (with_reducible apply q_eqL) | (with_reducible apply q_eqO)); (first | exact liL | exact liO)))
    all_goals first | (exfalso; omega) | (first | exact Fin_flat trivial rfl rfl | (refine Fin_tup trivial rfl ?_ (Nat.le_of_ble_eq_true rfl); (repeat (first | exact All2.nil | (apply All2.cons; (· first | exact exc_n | exact exc_e | exact exc_v rfl rfl | exact exc_o upd_self rfl rfl)))); done) | (refine Fin_own trivial rfl upd_self ?_ (Nat.le_of_ble_eq_true rfl); (repeat (first | exact All2.nil | (apply All2.cons; (· first | exact exc_n | exact exc_e | exact exc_v rfl rfl | exact exc_o upd_self rfl rfl)))); done) | exact Fin_nil trivial rfl | exact Fin_sl trivial rfl upd_self rfl rfl)
def agA (p : List Pg) (k : Int) : Int := if h : k.toNat < p.length then p[k.toNat].age else 0
noncomputable def nxS (l : List Acct) (v : List Int) (s : Int) (kn : Bool) (p : List Pg) : Nat → Int × Int
  | 0 => (-1, -1)
  | i + 1 => if h : i < p.length then
      (if rsn l v s kn p[i] = 0 then
        (if ¬ gdP l v s true p[i] ∧ ((nxS l v s kn p i).1 < 0 ∨ p[i].age < agA p (nxS l v s kn p i).1) then (i : Int) else (nxS l v s kn p i).1,
         if (nxS l v s kn p i).2 < 0 ∨ p[i].age < agA p (nxS l v s kn p i).2 then (i : Int) else (nxS l v s kn p i).2)
       else nxS l v s kn p i) else nxS l v s kn p i
theorem nxS_in (l : List Acct) (v : List Int) (s : Int) (kn : Bool) (p : List Pg) : ∀ i, (-1 ≤ (nxS l v s kn p i).1 ∧ (nxS l v s kn p i).1 < i) ∧ (-1 ≤ (nxS l v s kn p i).2 ∧ (nxS l v s kn p i).2 < i) ∧ (0 ≤ (nxS l v s kn p i).1 → 0 ≤ (nxS l v s kn p i).2)
  | 0 => by simp [nxS]
  | i + 1 => by
    have ih := nxS_in l v s kn p i
    unfold nxS
    generalize nxS l v s kn p i = b at *
    obtain ⟨b, c⟩ := b
    dsimp only at ih ⊢
    split
    · split
      · refine ⟨?_, ?_, ?_⟩
        · dsimp only; split <;> omega
        · dsimp only; split <;> omega
        · dsimp only
          split <;> split <;> omega
      · dsimp only; omega
    · dsimp only; omega
noncomputable def nxtV (b : Int × Int) : Int := if 0 ≤ b.1 then b.1 else b.2
noncomputable def nxtF (p : List Pg) (l : List Acct) (s : Int) (kn : Bool) : Int := if quP p l s then nxtV (nxS l (lvL l p) s kn p p.length) else -1
theorem agA_at {p : List Pg} {k : Int} (h : k.toNat < p.length) : (p.flatMap Pg.cells)[k.toNat * 7 + 2]? = some (.int .i64 (agA p k)) := by rw [pg2 h, agA, dif_pos h]
theorem Next_c (p : List Pg) (l : List Acct) (hL : l.length ≤ 9223372036854775807) (hP : p.length ≤ 1000000) (s : Int) (kn : Bool) : PCon Try.prog 25 [pgs p, accs l, .int .i64 s, .bool kn] (.int .i64 (nxtF p l s kn)) := by
  refine A25p (by simp [A25]) ?_
  simp only [A25, argEnv]
  have hpl := pgs_len p
  unfold nxtF
  by_cases hq : quP p l s
  · rw [if_pos hq]
    have hl := (chk_ok (errA_ok hq.1).1).1
    repeat' (first | (with_reducible first | refine W_seq ?_ | refine then_n ?_ | refine W_block ?_ | refine blk_n ?_ | refine blk_r ?_ | refine blk_e ?_ | refine W_skip ?_ | refine W_ret ?_ | refine then_r ?_ | refine W_exit ?_ | refine then_e ?_) | (refine blk_j (by decide) ?_) | ((with_reducible refine s_reg ?_); intro K hK) | ((with_reducible refine k_nil ?_); (with_reducible apply s_nil hK); (· exact nmX); clear hK; clear K) | ((with_reducible refine k_cond ?_); (first | ((with_reducible apply s_condT); (· rfl); (· exact nmX)) | ((with_reducible apply s_condF); (· rfl); (· exact nmX)) | ((with_reducible apply s_condS); (· rfl); (· exact nmX); (· exact nmX)))) | ((with_reducible refine k_guard ?_); (first | (refine s_gt rfl ?_) | (refine s_gf1 rfl ?_) | (refine s_gfn rfl ?_) | (refine s_gx1 rfl ?_) | (refine s_gxn rfl ?_) | (refine s_gs rfl ?_))) | ((with_reducible refine k_mv ?_); (refine s_mv rfl ?_)) | ((with_reducible refine k_extract ?_); (refine s_extract rfl rfl ?_)) | ((with_reducible refine k_len ?_); (first | (refine s_len rfl rfl ?_) | ((with_reducible apply s_len); (· rfl); (· exact SlOwn.len (by assumption))))) | ((with_reducible refine k_neq ?_); (first | (refine s_neq rfl rfl ?_) | (refine s_strNe rfl rfl ?_))) | ((with_reducible refine k_callF ?_); (first | ((with_reducible apply s_call1); (· rfl)) | ((with_reducible apply s_calln); (· rfl)))) | ((with_reducible refine k_con ?_); (first | (refine ask_yes hL hP hq ?_; intro kq hQ hqi; (try dsimp only)))) | ((with_reducible refine k_dreg ?_); refine s_dreg rfl rfl ?_; intro K hK) | (with_reducible refine d_nilS ?_) | ((with_reducible refine k_dnil ?_); (with_reducible apply d_nil hK); (· exact nmX); clear hK; clear K) | ((with_reducible refine k_dguard ?_); (first | (refine d_gt rfl ?_) | (refine d_gf rfl ?_) | (refine d_gx rfl ?_) | (refine d_gs rfl ?_))) | ((with_reducible refine k_dop ?_); refine d_step (by first | exact Or.inl rfl | exact Or.inr rfl) ?_) | (with_reducible refine d_back ?_) | ((with_reducible refine k_br ?_); (first | (with_reducible first | refine Br_dec ?_ | refine Br_not ?_ | refine Br_eqF ?_ | refine Br_and ?_ | refine Br_or ?_ | refine Br_neg ?_ | refine Br_band ?_ | refine Br_bor ?_ | refine Br_beq ?_) | (refine Br_t (by first | omega | assumption | rfl) ?_) | (refine Br_f (by first | omega | assumption | decide) ?_) | (with_reducible apply Br_sb <;> intro hbr <;> (first | subst hbr | simp only [hbr] | skip)) | (with_reducible apply Br_s <;> intro hbr))) | (with_reducible refine WN_succ ?_) | ((first | (with_reducible apply q_eqI) | (with_reducible apply q_eqN)); (first | exact nuI | exact nuN)) | ((first | (with_reducible apply q_eqL) | (with_reducible apply q_eqO)); (first | exact liL | exact liO)))
    refine W_for p.length (fun i st => ∃ h' b c, (b, c) = nxS l (lvL l p) s kn p i ∧ st = ⟨[(0, pgs p), (9, .pt kq 0), (11, .int .i64 (nxtV (b, c))), (12, .bool (decide (0 ≤ b))), (26, pgs p), (27, .int .i64 p.length), (28, .int .i64 i)], h'⟩ ∧ QIn h' kq p l s kn l.length) ⟨_, -1, -1, rfl, rfl, hqi⟩ ?_ ?_
    · clear hqi
      rintro i e' h' hi ⟨h1, b, c, hbc, he, hqi⟩
      cases he
      have hrow := pgr hi
      have hin := qu_in hq hi
      have c1 := qreason_c p[i] p l s kn hin
      have hni := nxS_in l (lvL l p) s kn p i
      have hga := agA_at (p := p) (k := b)
      have hgc := agA_at (p := p) (k := c)
      have hst : nxS l (lvL l p) s kn p (i + 1) = (if rsn l (lvL l p) s kn p[i] = 0 then
        (if ¬ gdP l (lvL l p) s true p[i] ∧ (b < 0 ∨ p[i].age < agA p b) then (i : Int) else b, if c < 0 ∨ p[i].age < agA p c then (i : Int) else c) else (b, c)) := by
        rw [nxS, dif_pos hi, ← hbc]
      rw [← hbc] at hni
      dsimp only at hni
      have hgd : gdP l (lvL l p) s true p[i] ↔ (0 ≤ p[i].account ∧ grdP l (lvL l p) p[i].account s true) := Iff.rfl
      obtain ⟨d1, d2, d3, hkq, s1, s2, s3, fq⟩ := id hqi
      obtain ⟨k3, rfl, hk3⟩ := s3.pos (by omega)
      have hg3 : 0 ≤ p[i].account → ((bl (gdB l (lvL l p) s true) l.length).map D.bool)[p[i].account.toNat]? = some (.bool (decide (grdP l (lvL l p) p[i].account s true))) := fun h0 => by
        rw [bl_g (by unfold inQ at hin; omega), gdB, Int.toNat_of_nonneg h0]
      have hb3 : ((bl (gdB l (lvL l p) s true) l.length).map D.bool).length = l.length := by rw [List.length_map, bl_len]
      unfold inQ at hin
      clear fq s1 s2 s3
      rw [hst]
      clear hst hbc
      generalize rsn l (lvL l p) s kn p[i] = r at *
      generalize gdP l (lvL l p) s true p[i] = G at *
      generalize bl (gdB l (lvL l p) s true) l.length = B at *
      generalize p[i] = q at *
      obtain ⟨fr, ac, ag, re, ow, nm, lv⟩ := q
      dsimp only [Pg.cells] at c1 hrow hin hgd hg3 ⊢
      by_cases hr : r = 0
      · subst hr
        rw [if_pos rfl]
        have hG3 : (G ∧ 0 ≤ ac ∧ (B.map D.bool)[ac.toNat]? = some (.bool true)) ∨ (¬ G ∧ 0 ≤ ac ∧ (B.map D.bool)[ac.toNat]? = some (.bool false)) ∨ (¬ G ∧ ac < 0 ∧ (B.map D.bool)[B.length]? = none) := by
          by_cases h0 : 0 ≤ ac
          · by_cases h2 : grdP l (lvL l p) ac s true
            · exact .inl ⟨hgd.2 ⟨h0, h2⟩, h0, by rw [hg3 h0, decide_eq_true h2]⟩
            · exact .inr (.inl ⟨fun h => h2 (hgd.1 h).2, h0, by rw [hg3 h0, decide_eq_false h2]⟩)
          · exact .inr (.inr ⟨fun h => h0 (hgd.1 h).1, by omega, by simp⟩)
        clear hgd hg3
        have hbc : (0 ≤ b ∧ nxtV (b, c) = b ∧ decide (0 ≤ b) = true ∧ (p.flatMap Pg.cells)[b.toNat * 7 + 2]? = some (.int .i64 (agA p b)) ∧ 0 ≤ c) ∨ (b < 0 ∧ nxtV (b, c) = c ∧ decide (0 ≤ b) = false ∧ (p.flatMap Pg.cells)[c.toNat * 7 + 2]? = some (.int .i64 (agA p c)) ∧ 0 ≤ c) ∨
            (b < 0 ∧ nxtV (b, c) = c ∧ decide (0 ≤ b) = false ∧ c + 0 = c ∧ c < 0) := by
          by_cases h0 : 0 ≤ b
          · exact .inl ⟨h0, if_pos h0, decide_eq_true h0, hga (by omega), by omega⟩
          · by_cases h2 : 0 ≤ c
            · exact .inr (.inl ⟨by omega, if_neg h0, decide_eq_false h0, hgc (by omega), h2⟩)
            · exact .inr (.inr ⟨by omega, if_neg h0, decide_eq_false h0, by omega, by omega⟩)
        clear hga hgc
        generalize agA p b = ab at *
        generalize agA p c = ac2 at *
        have fin : ∀ (h2 : Heap) (X : Int) (Y : Bool), QIn h2 kq p l s kn l.length → X = nxtV (if ¬ G ∧ (b < 0 ∨ ag < ab) then (i : Int) else b, if c < 0 ∨ ag < ac2 then (i : Int) else c) → Y = decide (0 ≤ if ¬ G ∧ (b < 0 ∨ ag < ab) then (i : Int) else b) →
            ∃ h' b1 c1, (b1, c1) = (if ¬ G ∧ (b < 0 ∨ ag < ab) then (i : Int) else b, if c < 0 ∨ ag < ac2 then (i : Int) else c) ∧
              (⟨[(0, pgs p), (9, .pt kq 0), (11, .int .i64 X), (12, .bool Y), (26, pgs p), (27, .int .i64 p.length), (28, .int .i64 (i + 1))], h2⟩ : St) = ⟨[(0, pgs p), (9, .pt kq 0), (11, .int .i64 (nxtV (b1, c1))), (12, .bool (decide (0 ≤ b1))), (26, pgs p), (27, .int .i64 p.length), (28, .int .i64 ((i + 1 : Nat) : Int))], h'⟩ ∧ QIn h' kq p l s kn l.length :=
          fun h2 X Y hq2 hX hY => by subst hX; subst hY; exact ⟨h2, _, _, rfl, rfl, hq2⟩
        rcases hG3 with ⟨hG, hac, hgB⟩ | ⟨hG, hac, hgB⟩ | ⟨hG, hac, hgB⟩ <;> rcases hbc with ⟨hb, e1, e2, ha, hc⟩ | ⟨hb, e1, e2, ha, hc⟩ | ⟨hb, e1, e2, ha, hc⟩
        all_goals rw [e1, e2]
        all_goals clear e1 e2
        all_goals
          repeat' (first | (with_reducible first | refine W_seq ?_ | refine then_n ?_ | refine W_block ?_ | refine blk_n ?_ | refine blk_r ?_ | refine blk_e ?_ | refine W_skip ?_ | refine W_ret ?_ | refine then_r ?_ | refine W_exit ?_ | refine then_e ?_) | (refine blk_j (by decide) ?_) | ((with_reducible refine s_reg ?_); intro K hK) | ((with_reducible refine k_nil ?_); (with_reducible apply s_nil hK); (· exact nmX); clear hK; clear K) | ((with_reducible refine k_cond ?_); (first | ((with_reducible apply s_condT); (· rfl); (· exact nmX)) | ((with_reducible apply s_condF); (· rfl); (· exact nmX)) | ((with_reducible apply s_condS); (· rfl); (· exact nmX); (· exact nmX)))) | ((with_reducible refine k_guard ?_); (first | (refine s_gt rfl ?_) | (refine s_gf1 rfl ?_) | (refine s_gfn rfl ?_) | (refine s_gx1 rfl ?_) | (refine s_gxn rfl ?_) | (refine s_gs rfl ?_))) | ((with_reducible refine k_mv ?_); (refine s_mv rfl ?_)) | ((with_reducible refine k_pick ?_); (first | (refine s_pickT rfl rfl ?_) | (refine s_pickF rfl rfl ?_))) | ((with_reducible refine k_not ?_); (refine s_not rfl (by first | exact Bool.not_true | exact Bool.not_false | rfl) ?_)) | ((with_reducible refine k_neq ?_); (first | (refine s_neq rfl rfl ?_) | (refine s_strNe rfl rfl ?_))) | ((with_reducible refine k_lss ?_); (refine s_lss rfl rfl ?_)) | ((with_reducible refine k_iaddr ?_); (first | ((with_reducible apply s_iaddrV); (· rfl); (· rfl); (· (first | omega | exact ⟨rfl, by omega⟩ | skip))) | ((with_reducible apply s_iaddrO); (· rfl); (· rfl); (· (first | omega | exact ⟨rfl, by omega⟩ | skip)); (· (exact hpX))) | ((with_reducible apply s_iaddrSO); (· rfl); (· assumption); (· rfl); (· (first | omega | exact ⟨rfl, by omega⟩ | skip)); (· (first | (simp (disch := omega) only [w64, wu8, wu16, wu32, wu64, tm_nn, td_nn, fd_nn, Int.reduceAdd, Int.reduceSub, Int.reduceMul, Int.reduceDiv, Int.reduceMod, Int.reduceNeg, Int.reduceToNat, Int.toNat_natCast, Int.toNat_zero, Int.zero_add, Int.add_zero, Int.one_mul, Int.reducePow, Nat.mul_one, Nat.zero_add, Nat.add_zero, Nat.zero_mul, Nat.reduceAdd, Nat.reduceMul, Nat.reduceSub, Nat.min_eq_left, IntKind.bits, Nat.sub_zero, hrow, hgB, ha]; try rfl; done) | rfl)); intro ks hks))) | ((with_reducible refine k_load ?_); (first | ((with_reducible apply s_loadV); (· rfl)) | ((with_reducible apply s_loadP); (· rfl); (· (exact hpX))))) | ((with_reducible refine k_loadA ?_); (first | ((with_reducible apply s_loadAV); (· rfl); (· (first | exact Nat.le_of_ble_eq_true rfl | decide | omega | (simp; done) | (simp; omega) | skip))) | ((with_reducible apply s_loadAP); (· rfl); (· (exact hpX)); (· (first | exact Nat.le_of_ble_eq_true rfl | decide | omega | (simp; done) | (simp; omega) | skip))))) | ((with_reducible refine k_add ?_); ((with_reducible apply s_add); (· rfl); (· rfl))) | ((with_reducible refine k_store ?_); ((with_reducible apply s_store0); (· rfl); (· rfl); (· rfl); (· (exact hpX)); (· (exact ⟨rfl, by first | exact Nat.le_of_ble_eq_true rfl | omega | (simp [hrow, hgB, ha]; omega)⟩)); (· ((first | (simp (disch := omega) only [upd_self, upd_ne, upd_upd, rep, splice, List.take_succ_cons, List.take_zero, List.drop_succ_cons, List.drop_zero, List.cons_append, List.nil_append, List.append_nil, List.length_cons, List.length_nil, List.reduceReplicate, List.flatten_cons, List.flatten_nil, Nat.reduceAdd, Nat.reduceMul, Nat.reduceSub, Nat.zero_add, Nat.add_zero, List.getElem?_cons_zero, List.getElem?_cons_succ, hrow, hgB, ha]; try rfl; done) | rfl))); (· (first | exact upd_upd | rfl)))) | ((with_reducible refine k_faddr ?_); (first | ((with_reducible apply s_faddrV); (· rfl); (· rfl)) | ((with_reducible apply s_faddrP); (· rfl); (· rfl)))) | ((with_reducible refine k_eqB ?_); (first | (refine s_eqBt rfl rfl ?_) | (refine s_eqBf rfl rfl ?_))) | ((with_reducible refine k_alloc (dst := some 14) ?_); ((with_reducible apply s_alloc); intro k14 hk14; (try simp only [upd_none] at hk14))) | ((with_reducible refine k_nilck ?_); (first | ((with_reducible apply s_nilckV); (· rfl)) | ((with_reducible apply s_nilckP); (· rfl)) | ((with_reducible apply s_nilckF); (· rfl)))) | ((with_reducible refine k_callF ?_); (first | ((with_reducible apply s_call1); (· rfl)) | ((with_reducible apply s_calln); (· rfl)))) | ((with_reducible refine k_con ?_); (first | ((with_reducible apply con_val (c1)); (· (repeat (first | exact All2.nil | (apply All2.cons; (· first | exact QIn.two hqi hk14 | exact rdX))))); (· rfl); (· exact fun _ => rfl)))) | ((with_reducible refine k_dreg ?_); refine s_dreg rfl rfl ?_; intro K hK) | (with_reducible refine d_nilS ?_) | ((with_reducible refine k_dnil ?_); (with_reducible apply d_nil hK); (· exact nmX); clear hK; clear K) | ((with_reducible refine k_dguard ?_); (first | (refine d_gt rfl ?_) | (refine d_gf rfl ?_) | (refine d_gx rfl ?_) | (refine d_gs rfl ?_))) | ((with_reducible refine k_dop ?_); refine d_step (by first | exact Or.inl rfl | exact Or.inr rfl) ?_) | (with_reducible refine d_back ?_) | ((with_reducible refine k_br ?_); (first | (with_reducible first | refine Br_dec ?_ | refine Br_not ?_ | refine Br_eqF ?_ | refine Br_and ?_ | refine Br_or ?_ | refine Br_neg ?_ | refine Br_band ?_ | refine Br_bor ?_ | refine Br_beq ?_) | (refine Br_t (by first | omega | assumption | rfl) ?_) | (refine Br_f (by first | omega | assumption | decide) ?_) | (with_reducible apply Br_sb <;> intro hbr <;> (first | subst hbr | simp only [hbr] | skip)) | (with_reducible apply Br_s <;> intro hbr))) | (with_reducible refine WN_succ ?_) | ((first | (with_reducible apply q_eqI) | (with_reducible apply q_eqN)); (first | (simp (disch := omega) only [w64, wu8, wu16, wu32, wu64, tm_nn, td_nn, fd_nn, Int.reduceAdd, Int.reduceSub, Int.reduceMul, Int.reduceDiv, Int.reduceMod, Int.reduceNeg, Int.reduceToNat, Int.toNat_natCast, Int.toNat_zero, Int.zero_add, Int.add_zero, Int.one_mul, Int.reducePow, Nat.mul_one, Nat.zero_add, Nat.add_zero, Nat.zero_mul, Nat.reduceAdd, Nat.reduceMul, Nat.reduceSub, Nat.min_eq_left, IntKind.bits, Nat.sub_zero, hrow, hgB, ha]; try rfl; done) | rfl)) | ((first | (with_reducible apply q_eqL) | (with_reducible apply q_eqO)); (first | (simp (disch := omega) only [upd_self, upd_ne, upd_upd, rep, splice, List.take_succ_cons, List.take_zero, List.drop_succ_cons, List.drop_zero, List.cons_append, List.nil_append, List.append_nil, List.length_cons, List.length_nil, List.reduceReplicate, List.flatten_cons, List.flatten_nil, Nat.reduceAdd, Nat.reduceMul, Nat.reduceSub, Nat.zero_add, Nat.add_zero, List.getElem?_cons_zero, List.getElem?_cons_succ, hrow, hgB, ha]; try rfl; done) | rfl)))
        all_goals first | (exfalso; omega) | skip
        all_goals refine fin _ _ _ (hqi.upd hk14) ?_ ?_
        all_goals clear fin c1 hrow hgB hkq hqi hk14 hk3
        all_goals simp only [hG, not_true_eq_false, false_and, if_false, not_false_eq_true, true_and]
        all_goals first
          | (symm; exact decide_eq_true (by (repeat' split) <;> omega))
          | (symm; exact decide_eq_false (by (repeat' split) <;> omega))
          | (unfold nxtV
             dsimp only
             (repeat' split) <;> first | rfl | omega)
      · rw [if_neg hr]
        repeat' (first | (with_reducible first | refine W_seq ?_ | refine then_n ?_ | refine W_block ?_ | refine blk_n ?_ | refine blk_r ?_ | refine blk_e ?_ | refine W_skip ?_ | refine W_ret ?_ | refine then_r ?_ | refine W_exit ?_ | refine then_e ?_) | (refine blk_j (by decide) ?_) | ((with_reducible refine s_reg ?_); intro K hK) | ((with_reducible refine k_nil ?_); (with_reducible apply s_nil hK); (· exact nmX); clear hK; clear K) | ((with_reducible refine k_cond ?_); (first | ((with_reducible apply s_condT); (· rfl); (· exact nmX)) | ((with_reducible apply s_condF); (· rfl); (· exact nmX)) | ((with_reducible apply s_condS); (· rfl); (· exact nmX); (· exact nmX)))) | ((with_reducible refine k_guard ?_); (first | (refine s_gt rfl ?_) | (refine s_gf1 rfl ?_) | (refine s_gfn rfl ?_) | (refine s_gx1 rfl ?_) | (refine s_gxn rfl ?_) | (refine s_gs rfl ?_))) | ((with_reducible refine k_mv ?_); (refine s_mv rfl ?_)) | ((with_reducible refine k_pick ?_); (first | (refine s_pickT rfl rfl ?_) | (refine s_pickF rfl rfl ?_))) | ((with_reducible refine k_not ?_); (refine s_not rfl (by first | exact Bool.not_true | exact Bool.not_false | rfl) ?_)) | ((with_reducible refine k_neq ?_); (first | (refine s_neq rfl rfl ?_) | (refine s_strNe rfl rfl ?_))) | ((with_reducible refine k_lss ?_); (refine s_lss rfl rfl ?_)) | ((with_reducible refine k_iaddr ?_); (first | ((with_reducible apply s_iaddrV); (· rfl); (· rfl); (· (first | omega | exact ⟨rfl, by omega⟩ | skip))) | ((with_reducible apply s_iaddrO); (· rfl); (· rfl); (· (first | omega | exact ⟨rfl, by omega⟩ | skip)); (· (exact hpX))) | ((with_reducible apply s_iaddrSO); (· rfl); (· assumption); (· rfl); (· (first | omega | exact ⟨rfl, by omega⟩ | skip)); (· (first | (simp (disch := omega) only [w64, wu8, wu16, wu32, wu64, tm_nn, td_nn, fd_nn, Int.reduceAdd, Int.reduceSub, Int.reduceMul, Int.reduceDiv, Int.reduceMod, Int.reduceNeg, Int.reduceToNat, Int.toNat_natCast, Int.toNat_zero, Int.zero_add, Int.add_zero, Int.one_mul, Int.reducePow, Nat.mul_one, Nat.zero_add, Nat.add_zero, Nat.zero_mul, Nat.reduceAdd, Nat.reduceMul, Nat.reduceSub, Nat.min_eq_left, IntKind.bits, Nat.sub_zero, hrow]; try rfl; done) | rfl)); intro ks hks))) | ((with_reducible refine k_load ?_); (first | ((with_reducible apply s_loadV); (· rfl)) | ((with_reducible apply s_loadP); (· rfl); (· (exact hpX))))) | ((with_reducible refine k_loadA ?_); (first | ((with_reducible apply s_loadAV); (· rfl); (· (first | exact Nat.le_of_ble_eq_true rfl | decide | omega | (simp; done) | (simp; omega) | skip))) | ((with_reducible apply s_loadAP); (· rfl); (· (exact hpX)); (· (first | exact Nat.le_of_ble_eq_true rfl | decide | omega | (simp; done) | (simp; omega) | skip))))) | ((with_reducible refine k_add ?_); ((with_reducible apply s_add); (· rfl); (· rfl))) | ((with_reducible refine k_store ?_); ((with_reducible apply s_store0); (· rfl); (· rfl); (· rfl); (· (exact hpX)); (· (exact ⟨rfl, by first | exact Nat.le_of_ble_eq_true rfl | omega | (simp [hrow]; omega)⟩)); (· ((first | (simp (disch := omega) only [upd_self, upd_ne, upd_upd, rep, splice, List.take_succ_cons, List.take_zero, List.drop_succ_cons, List.drop_zero, List.cons_append, List.nil_append, List.append_nil, List.length_cons, List.length_nil, List.reduceReplicate, List.flatten_cons, List.flatten_nil, Nat.reduceAdd, Nat.reduceMul, Nat.reduceSub, Nat.zero_add, Nat.add_zero, List.getElem?_cons_zero, List.getElem?_cons_succ, hrow]; try rfl; done) | rfl))); (· (first | exact upd_upd | rfl)))) | ((with_reducible refine k_faddr ?_); (first | ((with_reducible apply s_faddrV); (· rfl); (· rfl)) | ((with_reducible apply s_faddrP); (· rfl); (· rfl)))) | ((with_reducible refine k_eqB ?_); (first | (refine s_eqBt rfl rfl ?_) | (refine s_eqBf rfl rfl ?_))) | ((with_reducible refine k_alloc (dst := some 14) ?_); ((with_reducible apply s_alloc); intro k14 hk14; (try simp only [upd_none] at hk14))) | ((with_reducible refine k_nilck ?_); (first | ((with_reducible apply s_nilckV); (· rfl)) | ((with_reducible apply s_nilckP); (· rfl)) | ((with_reducible apply s_nilckF); (· rfl)))) | ((with_reducible refine k_callF ?_); (first | ((with_reducible apply s_call1); (· rfl)) | ((with_reducible apply s_calln); (· rfl)))) | ((with_reducible refine k_con ?_); (first | ((with_reducible apply con_val (c1)); (· (repeat (first | exact All2.nil | (apply All2.cons; (· first | exact QIn.two hqi hk14 | exact rdX))))); (· rfl); (· exact fun _ => rfl)))) | ((with_reducible refine k_dreg ?_); refine s_dreg rfl rfl ?_; intro K hK) | (with_reducible refine d_nilS ?_) | ((with_reducible refine k_dnil ?_); (with_reducible apply d_nil hK); (· exact nmX); clear hK; clear K) | ((with_reducible refine k_dguard ?_); (first | (refine d_gt rfl ?_) | (refine d_gf rfl ?_) | (refine d_gx rfl ?_) | (refine d_gs rfl ?_))) | ((with_reducible refine k_dop ?_); refine d_step (by first | exact Or.inl rfl | exact Or.inr rfl) ?_) | (with_reducible refine d_back ?_) | ((with_reducible refine k_br ?_); (first | (with_reducible first | refine Br_dec ?_ | refine Br_not ?_ | refine Br_eqF ?_ | refine Br_and ?_ | refine Br_or ?_ | refine Br_neg ?_ | refine Br_band ?_ | refine Br_bor ?_ | refine Br_beq ?_) | (refine Br_t (by first | omega | assumption | rfl) ?_) | (refine Br_f (by first | omega | assumption | decide) ?_) | (with_reducible apply Br_sb <;> intro hbr <;> (first | subst hbr | simp only [hbr] | skip)) | (with_reducible apply Br_s <;> intro hbr))) | (with_reducible refine WN_succ ?_) | ((first | (with_reducible apply q_eqI) | (with_reducible apply q_eqN)); (first | (simp (disch := omega) only [w64, wu8, wu16, wu32, wu64, tm_nn, td_nn, fd_nn, Int.reduceAdd, Int.reduceSub, Int.reduceMul, Int.reduceDiv, Int.reduceMod, Int.reduceNeg, Int.reduceToNat, Int.toNat_natCast, Int.toNat_zero, Int.zero_add, Int.add_zero, Int.one_mul, Int.reducePow, Nat.mul_one, Nat.zero_add, Nat.add_zero, Nat.zero_mul, Nat.reduceAdd, Nat.reduceMul, Nat.reduceSub, Nat.min_eq_left, IntKind.bits, Nat.sub_zero, hrow]; try rfl; done) | rfl)) | ((first | (with_reducible apply q_eqL) | (with_reducible apply q_eqO)); (first | (simp (disch := omega) only [upd_self, upd_ne, upd_upd, rep, splice, List.take_succ_cons, List.take_zero, List.drop_succ_cons, List.drop_zero, List.cons_append, List.nil_append, List.append_nil, List.length_cons, List.length_nil, List.reduceReplicate, List.flatten_cons, List.flatten_nil, Nat.reduceAdd, Nat.reduceMul, Nat.reduceSub, Nat.zero_add, Nat.add_zero, List.getElem?_cons_zero, List.getElem?_cons_succ, hrow]; try rfl; done) | rfl)))
        exact ⟨_, b, c, rfl, rfl, hqi.upd hk14⟩
    · rintro e' h' ⟨h1, b, c, hbc, he, hqi⟩
      cases he
      rw [← hbc]
      repeat' (first | (with_reducible first | refine W_seq ?_ | refine then_n ?_ | refine W_block ?_ | refine blk_n ?_ | refine blk_r ?_ | refine blk_e ?_ | refine W_skip ?_ | refine W_ret ?_ | refine then_r ?_ | refine W_exit ?_ | refine then_e ?_) | (refine blk_j (by decide) ?_) | ((with_reducible refine s_reg ?_); intro K hK) | ((with_reducible refine k_nil ?_); (with_reducible apply s_nil hK); (· exact nmX); clear hK; clear K) | ((with_reducible refine k_cond ?_); (first | ((with_reducible apply s_condT); (· rfl); (· exact nmX)) | ((with_reducible apply s_condF); (· rfl); (· exact nmX)) | ((with_reducible apply s_condS); (· rfl); (· exact nmX); (· exact nmX)))) | ((with_reducible refine k_guard ?_); (first | (refine s_gt rfl ?_) | (refine s_gf1 rfl ?_) | (refine s_gfn rfl ?_) | (refine s_gx1 rfl ?_) | (refine s_gxn rfl ?_) | (refine s_gs rfl ?_))) | ((with_reducible refine k_mv ?_); (refine s_mv rfl ?_)) | ((with_reducible refine k_lss ?_); (refine s_lss rfl rfl ?_)) | ((with_reducible refine k_dreg ?_); refine s_dreg rfl rfl ?_; intro K hK) | (with_reducible refine d_nilS ?_) | ((with_reducible refine k_dnil ?_); (with_reducible apply d_nil hK); (· exact nmX); clear hK; clear K) | ((with_reducible refine k_dguard ?_); (first | (refine d_gt rfl ?_) | (refine d_gf rfl ?_) | (refine d_gx rfl ?_) | (refine d_gs rfl ?_))) | ((with_reducible refine k_dop ?_); refine d_step (by first | exact Or.inl rfl | exact Or.inr rfl) ?_) | (with_reducible refine d_back ?_) | ((with_reducible refine k_br ?_); (first | (with_reducible first | refine Br_dec ?_ | refine Br_not ?_ | refine Br_eqF ?_ | refine Br_and ?_ | refine Br_or ?_ | refine Br_neg ?_ | refine Br_band ?_ | refine Br_bor ?_ | refine Br_beq ?_) | (refine Br_t (by first | omega | assumption | rfl) ?_) | (refine Br_f (by first | omega | assumption | decide) ?_) | (with_reducible apply Br_sb <;> intro hbr <;> (first | subst hbr | simp only [hbr] | skip)) | (with_reducible apply Br_s <;> intro hbr))) | (with_reducible refine WN_succ ?_) | ((first | (with_reducible apply q_eqI) | (with_reducible apply q_eqN)); (first | exact nuI | exact nuN)) | ((first | (with_reducible apply q_eqL) | (with_reducible apply q_eqO)); (first | exact liL | exact liO)))
      exact Fin_flat trivial rfl rfl
  · rw [if_neg hq]
    have he := qu_no hq
    repeat' (first | (with_reducible first | refine W_seq ?_ | refine then_n ?_ | refine W_block ?_ | refine blk_n ?_ | refine blk_r ?_ | refine blk_e ?_ | refine W_skip ?_ | refine W_ret ?_ | refine then_r ?_ | refine W_exit ?_ | refine then_e ?_) | (refine blk_j (by decide) ?_) | ((with_reducible refine s_reg ?_); intro K hK) | ((with_reducible refine k_nil ?_); (with_reducible apply s_nil hK); (· exact nmX); clear hK; clear K) | ((with_reducible refine k_cond ?_); (first | ((with_reducible apply s_condT); (· rfl); (· exact nmX)) | ((with_reducible apply s_condF); (· rfl); (· exact nmX)) | ((with_reducible apply s_condS); (· rfl); (· exact nmX); (· exact nmX)))) | ((with_reducible refine k_guard ?_); (first | (refine s_gt rfl ?_) | (refine s_gf1 rfl ?_) | (refine s_gfn rfl ?_) | (refine s_gx1 rfl ?_) | (refine s_gxn rfl ?_) | (refine s_gs rfl ?_))) | ((with_reducible refine k_mv ?_); (refine s_mv rfl ?_)) | ((with_reducible refine k_extract ?_); (refine s_extract rfl rfl ?_)) | ((with_reducible refine k_neq ?_); (first | (refine s_neq rfl rfl ?_) | (refine s_strNe rfl rfl ?_))) | ((with_reducible refine k_callF ?_); (first | ((with_reducible apply s_call1); (· rfl)) | ((with_reducible apply s_calln); (· rfl)))) | ((with_reducible refine k_con ?_); (first | (refine ask_no hL hP hq ?_; intro hQ; (try dsimp only)))) | ((with_reducible refine k_dreg ?_); refine s_dreg rfl rfl ?_; intro K hK) | (with_reducible refine d_nilS ?_) | ((with_reducible refine k_dnil ?_); (with_reducible apply d_nil hK); (· exact nmX); clear hK; clear K) | ((with_reducible refine k_dguard ?_); (first | (refine d_gt rfl ?_) | (refine d_gf rfl ?_) | (refine d_gx rfl ?_) | (refine d_gs rfl ?_))) | ((with_reducible refine k_dop ?_); refine d_step (by first | exact Or.inl rfl | exact Or.inr rfl) ?_) | (with_reducible refine d_back ?_) | ((with_reducible refine k_br ?_); (first | (with_reducible first | refine Br_dec ?_ | refine Br_not ?_ | refine Br_eqF ?_ | refine Br_and ?_ | refine Br_or ?_ | refine Br_neg ?_ | refine Br_band ?_ | refine Br_bor ?_ | refine Br_beq ?_) | (refine Br_t (by first | omega | assumption | rfl) ?_) | (refine Br_f (by first | omega | assumption | decide) ?_) | (with_reducible apply Br_sb <;> intro hbr <;> (first | subst hbr | simp only [hbr] | skip)) | (with_reducible apply Br_s <;> intro hbr))) | (with_reducible refine WN_succ ?_) | ((first | (with_reducible apply q_eqI) | (with_reducible apply q_eqN)); (first | exact nuI | exact nuN)) | ((first | (with_reducible apply q_eqL) | (with_reducible apply q_eqO)); (first | exact liL | exact liO)))
    all_goals first | (exfalso; omega) | exact Fin_flat trivial rfl rfl
end Go.Proofs.Ytfdfmbmhefckaaa
end
section
/- Reclaim plans: the program's check of a witness. -/
set_option linter.unusedSimpArgs false
set_option linter.unusedVariables false
namespace Go.Proofs.Ytfdfmbmhefckaaa
open Go.AM Classical
set_option maxRecDepth 100000
set_option maxHeartbeats 4000000
def smP (q w : Pg) : Prop := wrP w q.reason = q
noncomputable def verF (p : List Pg) (l : List Acct) (s : Int) (kn : Bool) (w : List Pg) : Int :=
  if askE p l s = 0 then (if w.length = p.length then (if ∀ i (h : i < p.length) (h' : i < w.length), smP p[i] w[i] then (if ∀ i (h : i < p.length) (h' : i < w.length), hldP l (lvL l p) s kn p[i] w[i].reason then 0 else 19) else 3) else 3) else askE p l s
theorem Verify_c (p : List Pg) (l : List Acct) (hL : l.length ≤ 9223372036854775807) (hP : p.length ≤ 1000000) (s : Int) (kn : Bool) (w : List Pg) : PCon Try.prog 31 [pgs p, accs l, .int .i64 s, .bool kn, pgs w] (.int .i64 (verF p l s kn w)) := by
  refine A31p (by simp [A31]) ?_
  simp only [A31, argEnv]
  have hpl := pgs_len p
  have hwl := pgs_len w
  unfold verF
  by_cases hq : quP p l s
  · rw [if_pos (askE_ok.2 hq)]
    by_cases hw : w.length = p.length
    · rw [if_pos hw]
      repeat' (first | (with_reducible first | refine W_seq ?_ | refine then_n ?_ | refine W_block ?_ | refine blk_n ?_ | refine blk_r ?_ | refine blk_e ?_ | refine W_skip ?_ | refine W_ret ?_ | refine then_r ?_ | refine W_exit ?_ | refine then_e ?_) | (refine blk_j (by decide) ?_) | ((with_reducible refine s_reg ?_); intro K hK) | ((with_reducible refine k_nil ?_); (with_reducible apply s_nil hK); (· exact nmX); clear hK; clear K) | ((with_reducible refine k_cond ?_); (first | ((with_reducible apply s_condT); (· rfl); (· exact nmX)) | ((with_reducible apply s_condF); (· rfl); (· exact nmX)) | ((with_reducible apply s_condS); (· rfl); (· exact nmX); (· exact nmX)))) | ((with_reducible refine k_guard ?_); (first | (refine s_gt rfl ?_) | (refine s_gf1 rfl ?_) | (refine s_gfn rfl ?_) | (refine s_gx1 rfl ?_) | (refine s_gxn rfl ?_) | (refine s_gs rfl ?_))) | ((with_reducible refine k_mv ?_); (refine s_mv rfl ?_)) | ((with_reducible refine k_extract ?_); (refine s_extract rfl rfl ?_)) | ((with_reducible refine k_len ?_); (first | (refine s_len rfl rfl ?_) | ((with_reducible apply s_len); (· rfl); (· exact SlOwn.len (by assumption))))) | ((with_reducible refine k_neq ?_); (first | (refine s_neq rfl rfl ?_) | (refine s_strNe rfl rfl ?_))) | ((with_reducible refine k_callF ?_); (first | ((with_reducible apply s_call1); (· rfl)) | ((with_reducible apply s_calln); (· rfl)))) | ((with_reducible refine k_con ?_); (first | (refine ask_yes hL hP hq ?_; intro kq hQ hqi; (try dsimp only)))) | ((with_reducible refine k_dreg ?_); refine s_dreg rfl rfl ?_; intro K hK) | (with_reducible refine d_nilS ?_) | ((with_reducible refine k_dnil ?_); (with_reducible apply d_nil hK); (· exact nmX); clear hK; clear K) | ((with_reducible refine k_dguard ?_); (first | (refine d_gt rfl ?_) | (refine d_gf rfl ?_) | (refine d_gx rfl ?_) | (refine d_gs rfl ?_))) | ((with_reducible refine k_dop ?_); refine d_step (by first | exact Or.inl rfl | exact Or.inr rfl) ?_) | (with_reducible refine d_back ?_) | ((with_reducible refine k_br ?_); (first | (with_reducible first | refine Br_dec ?_ | refine Br_not ?_ | refine Br_eqF ?_ | refine Br_and ?_ | refine Br_or ?_ | refine Br_neg ?_ | refine Br_band ?_ | refine Br_bor ?_ | refine Br_beq ?_) | (refine Br_t (by first | omega | assumption | rfl) ?_) | (refine Br_f (by first | omega | assumption | decide) ?_) | (with_reducible apply Br_sb <;> intro hbr <;> (first | subst hbr | simp only [hbr] | skip)) | (with_reducible apply Br_s <;> intro hbr))) | (with_reducible refine WN_succ ?_) | ((first | (with_reducible apply q_eqI) | (with_reducible apply q_eqN)); (first | exact nuI | exact nuN)) | ((first | (with_reducible apply q_eqL) | (with_reducible apply q_eqO)); (first | exact liL | exact liO)))
      all_goals first | (exfalso; omega) | skip
      refine W_for w.length (fun i st => ∃ h', (∀ j (h : j < p.length) (h' : j < w.length), j < i → smP p[j] w[j]) ∧ st = ⟨[(0, pgs p), (4, pgs w), (11, .pt kq 0), (33, pgs w), (34, .int .i64 w.length), (35, .int .i64 i)], h'⟩ ∧ QIn h' kq p l s kn l.length) ⟨_, fun j _ _ h => by omega, rfl, hqi⟩ ?_ ?_
      · clear hqi
        rintro i e' h' hi ⟨h1, hj, he, hqi⟩
        cases he
        have hip : i < p.length := by omega
        have hrow := pgr hip
        have hrow2 := pgr hi
        have g3 := pg3 hip
        have hno : ¬ smP p[i] w[i] → ¬ ∀ i (h : i < p.length) (h' : i < w.length), smP p[i] w[i] := fun h h2 => h (h2 i hip hi)
        have hnx : smP p[i] w[i] → ∀ j (h : j < p.length) (h' : j < w.length), j < i + 1 → smP p[j] w[j] := fun h j h2 h3 h4 => by
          rcases Nat.lt_succ_iff_lt_or_eq.1 h4 with h5 | rfl
          · exact hj j h2 h3 h5
          · exact h
        have hS : smP p[i] w[i] ↔ wrP w[i] p[i].reason = p[i] := Iff.rfl
        clear hj
        generalize smP p[i] w[i] = S at hno hnx hS
        generalize p[i] = q at *
        generalize w[i] = u at *
        obtain ⟨x1, x2, x3, x4, x5, x6, x7⟩ := q
        obtain ⟨y1, y2, y3, y4, y5, y6, y7⟩ := u
        simp only [wrP, Pg.mk.injEq, and_true, true_and] at hS
        dsimp only at hrow hrow2 g3
        repeat' (first | (with_reducible first | refine W_seq ?_ | refine then_n ?_ | refine W_block ?_ | refine blk_n ?_ | refine blk_r ?_ | refine blk_e ?_ | refine W_skip ?_ | refine W_ret ?_ | refine then_r ?_ | refine W_exit ?_ | refine then_e ?_) | (refine blk_j (by decide) ?_) | ((with_reducible refine s_reg ?_); intro K hK) | ((with_reducible refine k_nil ?_); (with_reducible apply s_nil hK); (· exact nmX); clear hK; clear K) | ((with_reducible refine k_cond ?_); (first | ((with_reducible apply s_condT); (· rfl); (· exact nmX)) | ((with_reducible apply s_condF); (· rfl); (· exact nmX)) | ((with_reducible apply s_condS); (· rfl); (· exact nmX); (· exact nmX)))) | ((with_reducible refine k_guard ?_); (first | (refine s_gt rfl ?_) | (refine s_gf1 rfl ?_) | (refine s_gfn rfl ?_) | (refine s_gx1 rfl ?_) | (refine s_gxn rfl ?_) | (refine s_gs rfl ?_))) | ((with_reducible refine k_mv ?_); (refine s_mv rfl ?_)) | ((with_reducible refine k_lss ?_); (refine s_lss rfl rfl ?_)) | ((with_reducible refine k_iaddr ?_); (first | ((with_reducible apply s_iaddrV); (· rfl); (· rfl); (· (first | omega | exact ⟨rfl, by omega⟩ | skip))) | ((with_reducible apply s_iaddrO); (· rfl); (· rfl); (· (first | omega | exact ⟨rfl, by omega⟩ | skip)); (· (exact hpX))) | ((with_reducible apply s_iaddrSO); (· rfl); (· assumption); (· rfl); (· (first | omega | exact ⟨rfl, by omega⟩ | skip)); (· (first | (simp (disch := omega) only [w64, wu8, wu16, wu32, wu64, tm_nn, td_nn, fd_nn, Int.reduceAdd, Int.reduceSub, Int.reduceMul, Int.reduceDiv, Int.reduceMod, Int.reduceNeg, Int.reduceToNat, Int.toNat_natCast, Int.toNat_zero, Int.zero_add, Int.add_zero, Int.one_mul, Int.reducePow, Nat.mul_one, Nat.zero_add, Nat.add_zero, Nat.zero_mul, Nat.reduceAdd, Nat.reduceMul, Nat.reduceSub, Nat.min_eq_left, IntKind.bits, Nat.sub_zero, hrow, hrow2, g3]; try rfl; done) | rfl)); intro ks hks))) | ((with_reducible refine k_load ?_); (first | ((with_reducible apply s_loadV); (· rfl)) | ((with_reducible apply s_loadP); (· rfl); (· (exact hpX))))) | ((with_reducible refine k_loadA ?_); (first | ((with_reducible apply s_loadAV); (· rfl); (· (first | exact Nat.le_of_ble_eq_true rfl | decide | omega | (simp; done) | (simp; omega) | skip))) | ((with_reducible apply s_loadAP); (· rfl); (· (exact hpX)); (· (first | exact Nat.le_of_ble_eq_true rfl | decide | omega | (simp; done) | (simp; omega) | skip))))) | ((with_reducible refine k_add ?_); ((with_reducible apply s_add); (· rfl); (· rfl))) | ((with_reducible refine k_store ?_); ((with_reducible apply s_store0); (· rfl); (· rfl); (· rfl); (· (exact hpX)); (· (exact ⟨rfl, by first | exact Nat.le_of_ble_eq_true rfl | omega | (simp [hrow, hrow2, g3]; omega)⟩)); (· ((first | (simp (disch := omega) only [upd_self, upd_ne, upd_upd, rep, splice, List.take_succ_cons, List.take_zero, List.drop_succ_cons, List.drop_zero, List.cons_append, List.nil_append, List.append_nil, List.length_cons, List.length_nil, List.reduceReplicate, List.flatten_cons, List.flatten_nil, Nat.reduceAdd, Nat.reduceMul, Nat.reduceSub, Nat.zero_add, Nat.add_zero, List.getElem?_cons_zero, List.getElem?_cons_succ, hrow, hrow2, g3]; try rfl; done) | rfl))); (· (first | exact upd_upd | rfl)))) | ((with_reducible refine k_faddr ?_); (first | ((with_reducible apply s_faddrV); (· rfl); (· rfl)) | ((with_reducible apply s_faddrP); (· rfl); (· rfl)))) | ((with_reducible refine k_eqA ?_); ((with_reducible apply s_eqA); (· rfl); (· rfl); (· (repeat (first | exact eqL_n | apply eqL_i | apply eqL_b))); (· rfl))) | ((with_reducible refine k_alloc (dst := some 14) ?_); ((with_reducible apply s_alloc); intro k14 hk14; (try simp only [upd_none] at hk14))) | ((with_reducible refine k_dreg ?_); refine s_dreg rfl rfl ?_; intro K hK) | (with_reducible refine d_nilS ?_) | ((with_reducible refine k_dnil ?_); (with_reducible apply d_nil hK); (· exact nmX); clear hK; clear K) | ((with_reducible refine k_dguard ?_); (first | (refine d_gt rfl ?_) | (refine d_gf rfl ?_) | (refine d_gx rfl ?_) | (refine d_gs rfl ?_))) | ((with_reducible refine k_dop ?_); refine d_step (by first | exact Or.inl rfl | exact Or.inr rfl) ?_) | (with_reducible refine d_back ?_) | ((with_reducible refine k_br ?_); (first | (with_reducible first | refine Br_dec ?_ | refine Br_not ?_ | refine Br_eqF ?_ | refine Br_and ?_ | refine Br_or ?_ | refine Br_neg ?_ | refine Br_band ?_ | refine Br_bor ?_ | refine Br_beq ?_) | (refine Br_t (by first | omega | assumption | rfl) ?_) | (refine Br_f (by first | omega | assumption | decide) ?_) | (with_reducible apply Br_sb <;> intro hbr <;> (first | subst hbr | simp only [hbr] | skip)) | (with_reducible apply Br_s <;> intro hbr))) | (with_reducible refine WN_succ ?_) | ((first | (with_reducible apply q_eqI) | (with_reducible apply q_eqN)); (first | (simp (disch := omega) only [w64, wu8, wu16, wu32, wu64, tm_nn, td_nn, fd_nn, Int.reduceAdd, Int.reduceSub, Int.reduceMul, Int.reduceDiv, Int.reduceMod, Int.reduceNeg, Int.reduceToNat, Int.toNat_natCast, Int.toNat_zero, Int.zero_add, Int.add_zero, Int.one_mul, Int.reducePow, Nat.mul_one, Nat.zero_add, Nat.add_zero, Nat.zero_mul, Nat.reduceAdd, Nat.reduceMul, Nat.reduceSub, Nat.min_eq_left, IntKind.bits, Nat.sub_zero, hrow, hrow2, g3]; try rfl; done) | rfl)) | ((first | (with_reducible apply q_eqL) | (with_reducible apply q_eqO)); (first | (simp (disch := omega) only [upd_self, upd_ne, upd_upd, rep, splice, List.take_succ_cons, List.take_zero, List.drop_succ_cons, List.drop_zero, List.cons_append, List.nil_append, List.append_nil, List.length_cons, List.length_nil, List.reduceReplicate, List.flatten_cons, List.flatten_nil, Nat.reduceAdd, Nat.reduceMul, Nat.reduceSub, Nat.zero_add, Nat.add_zero, List.getElem?_cons_zero, List.getElem?_cons_succ, hrow, hrow2, g3]; try rfl; done) | rfl)))
        all_goals first | (exfalso; omega) | skip
        all_goals first
          | (refine ⟨_, hnx (hS.2 ?_), rfl, hqi.upd hk14⟩
             clear hnx hno hrow hrow2 g3 hqi hpl hwl hq hS
             simp_all; done)
          | (rw [if_neg (hno fun h => ?_)]
             · exact Fin_flat trivial rfl rfl
             · replace h := hS.1 h
               clear hnx hno hrow hrow2 g3 hqi hpl hwl hq hS
               simp_all; done)
      · clear hqi
        rintro e' h' ⟨h1, hj, he, hqi⟩
        cases he
        rw [if_pos (fun i h1 h2 => hj i h1 h2 h2)]
        repeat' (first | (with_reducible first | refine W_seq ?_ | refine then_n ?_ | refine W_block ?_ | refine blk_n ?_ | refine blk_r ?_ | refine blk_e ?_ | refine W_skip ?_ | refine W_ret ?_ | refine then_r ?_ | refine W_exit ?_ | refine then_e ?_) | (refine blk_j (by decide) ?_) | ((with_reducible refine s_reg ?_); intro K hK) | ((with_reducible refine k_nil ?_); (with_reducible apply s_nil hK); (· exact nmX); clear hK; clear K) | ((with_reducible refine k_cond ?_); (first | ((with_reducible apply s_condT); (· rfl); (· exact nmX)) | ((with_reducible apply s_condF); (· rfl); (· exact nmX)) | ((with_reducible apply s_condS); (· rfl); (· exact nmX); (· exact nmX)))) | ((with_reducible refine k_guard ?_); (first | (refine s_gt rfl ?_) | (refine s_gf1 rfl ?_) | (refine s_gfn rfl ?_) | (refine s_gx1 rfl ?_) | (refine s_gxn rfl ?_) | (refine s_gs rfl ?_))) | ((with_reducible refine k_mv ?_); (refine s_mv rfl ?_)) | ((with_reducible refine k_len ?_); (first | (refine s_len rfl rfl ?_) | ((with_reducible apply s_len); (· rfl); (· exact SlOwn.len (by assumption))))) | ((with_reducible refine k_lss ?_); (refine s_lss rfl rfl ?_)) | ((with_reducible refine k_dreg ?_); refine s_dreg rfl rfl ?_; intro K hK) | (with_reducible refine d_nilS ?_) | ((with_reducible refine k_dnil ?_); (with_reducible apply d_nil hK); (· exact nmX); clear hK; clear K) | ((with_reducible refine k_dguard ?_); (first | (refine d_gt rfl ?_) | (refine d_gf rfl ?_) | (refine d_gx rfl ?_) | (refine d_gs rfl ?_))) | ((with_reducible refine k_dop ?_); refine d_step (by first | exact Or.inl rfl | exact Or.inr rfl) ?_) | (with_reducible refine d_back ?_) | ((with_reducible refine k_br ?_); (first | (with_reducible first | refine Br_dec ?_ | refine Br_not ?_ | refine Br_eqF ?_ | refine Br_and ?_ | refine Br_or ?_ | refine Br_neg ?_ | refine Br_band ?_ | refine Br_bor ?_ | refine Br_beq ?_) | (refine Br_t (by first | omega | assumption | rfl) ?_) | (refine Br_f (by first | omega | assumption | decide) ?_) | (with_reducible apply Br_sb <;> intro hbr <;> (first | subst hbr | simp only [hbr] | skip)) | (with_reducible apply Br_s <;> intro hbr))) | (with_reducible refine WN_succ ?_) | ((first | (with_reducible apply q_eqI) | (with_reducible apply q_eqN)); (first | exact nuI | exact nuN)) | ((first | (with_reducible apply q_eqL) | (with_reducible apply q_eqO)); (first | exact liL | exact liO)))
        refine W_for w.length (fun i st => ∃ h', (∀ j (h : j < p.length) (h' : j < w.length), j < i → hldP l (lvL l p) s kn p[j] w[j].reason) ∧ st = ⟨[(0, pgs p), (11, .pt kq 0), (53, pgs w), (54, .int .i64 w.length), (55, .int .i64 i)], h'⟩ ∧ QIn h' kq p l s kn l.length) ⟨_, fun j _ _ h => by omega, rfl, hqi⟩ ?_ ?_
        · clear hqi hj
          rintro i e' h' hi ⟨h1, hj, he, hqi⟩
          cases he
          have hip : i < p.length := by omega
          have hrow := pgr hip
          have hrow2 := pgr hi
          have c1 := qholds_c p[i] p l s kn (qu_in hq hip) w[i].reason
          have hno : ¬ hldP l (lvL l p) s kn p[i] w[i].reason → ¬ ∀ i (h : i < p.length) (h' : i < w.length), hldP l (lvL l p) s kn p[i] w[i].reason := fun h h2 => h (h2 i hip hi)
          have hnx : hldP l (lvL l p) s kn p[i] w[i].reason → ∀ j (h : j < p.length) (h' : j < w.length), j < i + 1 → hldP l (lvL l p) s kn p[j] w[j].reason := fun h j h2 h3 h4 => by
            rcases Nat.lt_succ_iff_lt_or_eq.1 h4 with h5 | rfl
            · exact hj j h2 h3 h5
            · exact h
          clear hj
          generalize hldP l (lvL l p) s kn p[i] w[i].reason = Z at *
          generalize p[i] = q at *
          generalize w[i] = u at *
          obtain ⟨x1, x2, x3, x4, x5, x6, x7⟩ := q
          obtain ⟨y1, y2, y3, y4, y5, y6, y7⟩ := u
          dsimp only [Pg.cells] at c1 hrow hrow2
          by_cases hz : Z
          · rw [decide_eq_true hz] at c1
            repeat' (first | (with_reducible first | refine W_seq ?_ | refine then_n ?_ | refine W_block ?_ | refine blk_n ?_ | refine blk_r ?_ | refine blk_e ?_ | refine W_skip ?_ | refine W_ret ?_ | refine then_r ?_ | refine W_exit ?_ | refine then_e ?_) | (refine blk_j (by decide) ?_) | ((with_reducible refine s_reg ?_); intro K hK) | ((with_reducible refine k_nil ?_); (with_reducible apply s_nil hK); (· exact nmX); clear hK; clear K) | ((with_reducible refine k_cond ?_); (first | ((with_reducible apply s_condT); (· rfl); (· exact nmX)) | ((with_reducible apply s_condF); (· rfl); (· exact nmX)) | ((with_reducible apply s_condS); (· rfl); (· exact nmX); (· exact nmX)))) | ((with_reducible refine k_guard ?_); (first | (refine s_gt rfl ?_) | (refine s_gf1 rfl ?_) | (refine s_gfn rfl ?_) | (refine s_gx1 rfl ?_) | (refine s_gxn rfl ?_) | (refine s_gs rfl ?_))) | ((with_reducible refine k_mv ?_); (refine s_mv rfl ?_)) | ((with_reducible refine k_not ?_); (refine s_not rfl (by first | exact Bool.not_true | exact Bool.not_false | rfl) ?_)) | ((with_reducible refine k_lss ?_); (refine s_lss rfl rfl ?_)) | ((with_reducible refine k_iaddr ?_); (first | ((with_reducible apply s_iaddrV); (· rfl); (· rfl); (· (first | omega | exact ⟨rfl, by omega⟩ | skip))) | ((with_reducible apply s_iaddrO); (· rfl); (· rfl); (· (first | omega | exact ⟨rfl, by omega⟩ | skip)); (· (exact hpX))) | ((with_reducible apply s_iaddrSO); (· rfl); (· assumption); (· rfl); (· (first | omega | exact ⟨rfl, by omega⟩ | skip)); (· (first | (simp (disch := omega) only [w64, wu8, wu16, wu32, wu64, tm_nn, td_nn, fd_nn, Int.reduceAdd, Int.reduceSub, Int.reduceMul, Int.reduceDiv, Int.reduceMod, Int.reduceNeg, Int.reduceToNat, Int.toNat_natCast, Int.toNat_zero, Int.zero_add, Int.add_zero, Int.one_mul, Int.reducePow, Nat.mul_one, Nat.zero_add, Nat.add_zero, Nat.zero_mul, Nat.reduceAdd, Nat.reduceMul, Nat.reduceSub, Nat.min_eq_left, IntKind.bits, Nat.sub_zero, hrow, hrow2]; try rfl; done) | rfl)); intro ks hks))) | ((with_reducible refine k_load ?_); (first | ((with_reducible apply s_loadV); (· rfl)) | ((with_reducible apply s_loadP); (· rfl); (· (exact hpX))))) | ((with_reducible refine k_loadA ?_); (first | ((with_reducible apply s_loadAV); (· rfl); (· (first | exact Nat.le_of_ble_eq_true rfl | decide | omega | (simp; done) | (simp; omega) | skip))) | ((with_reducible apply s_loadAP); (· rfl); (· (exact hpX)); (· (first | exact Nat.le_of_ble_eq_true rfl | decide | omega | (simp; done) | (simp; omega) | skip))))) | ((with_reducible refine k_add ?_); ((with_reducible apply s_add); (· rfl); (· rfl))) | ((with_reducible refine k_store ?_); ((with_reducible apply s_store0); (· rfl); (· rfl); (· rfl); (· (exact hpX)); (· (exact ⟨rfl, by first | exact Nat.le_of_ble_eq_true rfl | omega | (simp [hrow, hrow2]; omega)⟩)); (· ((first | (simp (disch := omega) only [upd_self, upd_ne, upd_upd, rep, splice, List.take_succ_cons, List.take_zero, List.drop_succ_cons, List.drop_zero, List.cons_append, List.nil_append, List.append_nil, List.length_cons, List.length_nil, List.reduceReplicate, List.flatten_cons, List.flatten_nil, Nat.reduceAdd, Nat.reduceMul, Nat.reduceSub, Nat.zero_add, Nat.add_zero, List.getElem?_cons_zero, List.getElem?_cons_succ, hrow, hrow2]; try rfl; done) | rfl))); (· (first | exact upd_upd | rfl)))) | ((with_reducible refine k_faddr ?_); (first | ((with_reducible apply s_faddrV); (· rfl); (· rfl)) | ((with_reducible apply s_faddrP); (· rfl); (· rfl)))) | ((with_reducible refine k_alloc (dst := some 16) ?_); ((with_reducible apply s_alloc); intro k16 hk16; (try simp only [upd_none] at hk16))) | ((with_reducible refine k_callF ?_); (first | ((with_reducible apply s_call1); (· rfl)) | ((with_reducible apply s_calln); (· rfl)))) | ((with_reducible refine k_dreg ?_); refine s_dreg rfl rfl ?_; intro K hK) | (with_reducible refine d_nilS ?_) | ((with_reducible refine k_dnil ?_); (with_reducible apply d_nil hK); (· exact nmX); clear hK; clear K) | ((with_reducible refine k_dguard ?_); (first | (refine d_gt rfl ?_) | (refine d_gf rfl ?_) | (refine d_gx rfl ?_) | (refine d_gs rfl ?_))) | ((with_reducible refine k_dcall ?_); (first | ((with_reducible apply d_call); (· rfl); (· exact c1); (· (repeat (first | exact All2.nil | (apply All2.cons; (· first | exact QIn.two hqi hk16 | exact rdX))))); simp only [unow, unowC, List.map]))) | ((with_reducible refine k_dop ?_); refine d_step (by first | exact Or.inl rfl | exact Or.inr rfl) ?_) | (with_reducible refine d_back ?_) | ((with_reducible refine k_br ?_); (first | (with_reducible first | refine Br_dec ?_ | refine Br_not ?_ | refine Br_eqF ?_ | refine Br_and ?_ | refine Br_or ?_ | refine Br_neg ?_ | refine Br_band ?_ | refine Br_bor ?_ | refine Br_beq ?_) | (refine Br_t (by first | omega | assumption | rfl) ?_) | (refine Br_f (by first | omega | assumption | decide) ?_) | (with_reducible apply Br_sb <;> intro hbr <;> (first | subst hbr | simp only [hbr] | skip)) | (with_reducible apply Br_s <;> intro hbr))) | (with_reducible refine WN_succ ?_) | ((first | (with_reducible apply q_eqI) | (with_reducible apply q_eqN)); (first | (simp (disch := omega) only [w64, wu8, wu16, wu32, wu64, tm_nn, td_nn, fd_nn, Int.reduceAdd, Int.reduceSub, Int.reduceMul, Int.reduceDiv, Int.reduceMod, Int.reduceNeg, Int.reduceToNat, Int.toNat_natCast, Int.toNat_zero, Int.zero_add, Int.add_zero, Int.one_mul, Int.reducePow, Nat.mul_one, Nat.zero_add, Nat.add_zero, Nat.zero_mul, Nat.reduceAdd, Nat.reduceMul, Nat.reduceSub, Nat.min_eq_left, IntKind.bits, Nat.sub_zero, hrow, hrow2]; try rfl; done) | rfl)) | ((first | (with_reducible apply q_eqL) | (with_reducible apply q_eqO)); (first | (simp (disch := omega) only [upd_self, upd_ne, upd_upd, rep, splice, List.take_succ_cons, List.take_zero, List.drop_succ_cons, List.drop_zero, List.cons_append, List.nil_append, List.append_nil, List.length_cons, List.length_nil, List.reduceReplicate, List.flatten_cons, List.flatten_nil, Nat.reduceAdd, Nat.reduceMul, Nat.reduceSub, Nat.zero_add, Nat.add_zero, List.getElem?_cons_zero, List.getElem?_cons_succ, hrow, hrow2]; try rfl; done) | rfl)))
            all_goals first | (exfalso; omega) | exact ⟨_, hnx hz, rfl, hqi.upd hk16⟩
          · rw [decide_eq_false hz] at c1
            repeat' (first | (with_reducible first | refine W_seq ?_ | refine then_n ?_ | refine W_block ?_ | refine blk_n ?_ | refine blk_r ?_ | refine blk_e ?_ | refine W_skip ?_ | refine W_ret ?_ | refine then_r ?_ | refine W_exit ?_ | refine then_e ?_) | (refine blk_j (by decide) ?_) | ((with_reducible refine s_reg ?_); intro K hK) | ((with_reducible refine k_nil ?_); (with_reducible apply s_nil hK); (· exact nmX); clear hK; clear K) | ((with_reducible refine k_cond ?_); (first | ((with_reducible apply s_condT); (· rfl); (· exact nmX)) | ((with_reducible apply s_condF); (· rfl); (· exact nmX)) | ((with_reducible apply s_condS); (· rfl); (· exact nmX); (· exact nmX)))) | ((with_reducible refine k_guard ?_); (first | (refine s_gt rfl ?_) | (refine s_gf1 rfl ?_) | (refine s_gfn rfl ?_) | (refine s_gx1 rfl ?_) | (refine s_gxn rfl ?_) | (refine s_gs rfl ?_))) | ((with_reducible refine k_mv ?_); (refine s_mv rfl ?_)) | ((with_reducible refine k_not ?_); (refine s_not rfl (by first | exact Bool.not_true | exact Bool.not_false | rfl) ?_)) | ((with_reducible refine k_lss ?_); (refine s_lss rfl rfl ?_)) | ((with_reducible refine k_iaddr ?_); (first | ((with_reducible apply s_iaddrV); (· rfl); (· rfl); (· (first | omega | exact ⟨rfl, by omega⟩ | skip))) | ((with_reducible apply s_iaddrO); (· rfl); (· rfl); (· (first | omega | exact ⟨rfl, by omega⟩ | skip)); (· (exact hpX))) | ((with_reducible apply s_iaddrSO); (· rfl); (· assumption); (· rfl); (· (first | omega | exact ⟨rfl, by omega⟩ | skip)); (· (first | (simp (disch := omega) only [w64, wu8, wu16, wu32, wu64, tm_nn, td_nn, fd_nn, Int.reduceAdd, Int.reduceSub, Int.reduceMul, Int.reduceDiv, Int.reduceMod, Int.reduceNeg, Int.reduceToNat, Int.toNat_natCast, Int.toNat_zero, Int.zero_add, Int.add_zero, Int.one_mul, Int.reducePow, Nat.mul_one, Nat.zero_add, Nat.add_zero, Nat.zero_mul, Nat.reduceAdd, Nat.reduceMul, Nat.reduceSub, Nat.min_eq_left, IntKind.bits, Nat.sub_zero, hrow, hrow2]; try rfl; done) | rfl)); intro ks hks))) | ((with_reducible refine k_load ?_); (first | ((with_reducible apply s_loadV); (· rfl)) | ((with_reducible apply s_loadP); (· rfl); (· (exact hpX))))) | ((with_reducible refine k_loadA ?_); (first | ((with_reducible apply s_loadAV); (· rfl); (· (first | exact Nat.le_of_ble_eq_true rfl | decide | omega | (simp; done) | (simp; omega) | skip))) | ((with_reducible apply s_loadAP); (· rfl); (· (exact hpX)); (· (first | exact Nat.le_of_ble_eq_true rfl | decide | omega | (simp; done) | (simp; omega) | skip))))) | ((with_reducible refine k_add ?_); ((with_reducible apply s_add); (· rfl); (· rfl))) | ((with_reducible refine k_store ?_); ((with_reducible apply s_store0); (· rfl); (· rfl); (· rfl); (· (exact hpX)); (· (exact ⟨rfl, by first | exact Nat.le_of_ble_eq_true rfl | omega | (simp [hrow, hrow2]; omega)⟩)); (· ((first | (simp (disch := omega) only [upd_self, upd_ne, upd_upd, rep, splice, List.take_succ_cons, List.take_zero, List.drop_succ_cons, List.drop_zero, List.cons_append, List.nil_append, List.append_nil, List.length_cons, List.length_nil, List.reduceReplicate, List.flatten_cons, List.flatten_nil, Nat.reduceAdd, Nat.reduceMul, Nat.reduceSub, Nat.zero_add, Nat.add_zero, List.getElem?_cons_zero, List.getElem?_cons_succ, hrow, hrow2]; try rfl; done) | rfl))); (· (first | exact upd_upd | rfl)))) | ((with_reducible refine k_faddr ?_); (first | ((with_reducible apply s_faddrV); (· rfl); (· rfl)) | ((with_reducible apply s_faddrP); (· rfl); (· rfl)))) | ((with_reducible refine k_alloc (dst := some 16) ?_); ((with_reducible apply s_alloc); intro k16 hk16; (try simp only [upd_none] at hk16))) | ((with_reducible refine k_callF ?_); (first | ((with_reducible apply s_call1); (· rfl)) | ((with_reducible apply s_calln); (· rfl)))) | ((with_reducible refine k_dreg ?_); refine s_dreg rfl rfl ?_; intro K hK) | (with_reducible refine d_nilS ?_) | ((with_reducible refine k_dnil ?_); (with_reducible apply d_nil hK); (· exact nmX); clear hK; clear K) | ((with_reducible refine k_dguard ?_); (first | (refine d_gt rfl ?_) | (refine d_gf rfl ?_) | (refine d_gx rfl ?_) | (refine d_gs rfl ?_))) | ((with_reducible refine k_dcall ?_); (first | ((with_reducible apply d_call); (· rfl); (· exact c1); (· (repeat (first | exact All2.nil | (apply All2.cons; (· first | exact QIn.two hqi hk16 | exact rdX))))); simp only [unow, unowC, List.map]))) | ((with_reducible refine k_dop ?_); refine d_step (by first | exact Or.inl rfl | exact Or.inr rfl) ?_) | (with_reducible refine d_back ?_) | ((with_reducible refine k_br ?_); (first | (with_reducible first | refine Br_dec ?_ | refine Br_not ?_ | refine Br_eqF ?_ | refine Br_and ?_ | refine Br_or ?_ | refine Br_neg ?_ | refine Br_band ?_ | refine Br_bor ?_ | refine Br_beq ?_) | (refine Br_t (by first | omega | assumption | rfl) ?_) | (refine Br_f (by first | omega | assumption | decide) ?_) | (with_reducible apply Br_sb <;> intro hbr <;> (first | subst hbr | simp only [hbr] | skip)) | (with_reducible apply Br_s <;> intro hbr))) | (with_reducible refine WN_succ ?_) | ((first | (with_reducible apply q_eqI) | (with_reducible apply q_eqN)); (first | (simp (disch := omega) only [w64, wu8, wu16, wu32, wu64, tm_nn, td_nn, fd_nn, Int.reduceAdd, Int.reduceSub, Int.reduceMul, Int.reduceDiv, Int.reduceMod, Int.reduceNeg, Int.reduceToNat, Int.toNat_natCast, Int.toNat_zero, Int.zero_add, Int.add_zero, Int.one_mul, Int.reducePow, Nat.mul_one, Nat.zero_add, Nat.add_zero, Nat.zero_mul, Nat.reduceAdd, Nat.reduceMul, Nat.reduceSub, Nat.min_eq_left, IntKind.bits, Nat.sub_zero, hrow, hrow2]; try rfl; done) | rfl)) | ((first | (with_reducible apply q_eqL) | (with_reducible apply q_eqO)); (first | (simp (disch := omega) only [upd_self, upd_ne, upd_upd, rep, splice, List.take_succ_cons, List.take_zero, List.drop_succ_cons, List.drop_zero, List.cons_append, List.nil_append, List.append_nil, List.length_cons, List.length_nil, List.reduceReplicate, List.flatten_cons, List.flatten_nil, Nat.reduceAdd, Nat.reduceMul, Nat.reduceSub, Nat.zero_add, Nat.add_zero, List.getElem?_cons_zero, List.getElem?_cons_succ, hrow, hrow2]; try rfl; done) | rfl)))
            all_goals first | (exfalso; omega) | (rw [if_neg (hno hz)]; exact Fin_flat trivial rfl rfl)
        · rintro e' h' ⟨h1, hj, he, hqi⟩
          cases he
          rw [if_pos (fun i h1 h2 => hj i h1 h2 h2)]
          repeat' (first | (with_reducible first | refine W_seq ?_ | refine then_n ?_ | refine W_block ?_ | refine blk_n ?_ | refine blk_r ?_ | refine blk_e ?_ | refine W_skip ?_ | refine W_ret ?_ | refine then_r ?_ | refine W_exit ?_ | refine then_e ?_) | (refine blk_j (by decide) ?_) | ((with_reducible refine s_reg ?_); intro K hK) | ((with_reducible refine k_nil ?_); (with_reducible apply s_nil hK); (· exact nmX); clear hK; clear K) | ((with_reducible refine k_cond ?_); (first | ((with_reducible apply s_condT); (· rfl); (· exact nmX)) | ((with_reducible apply s_condF); (· rfl); (· exact nmX)) | ((with_reducible apply s_condS); (· rfl); (· exact nmX); (· exact nmX)))) | ((with_reducible refine k_guard ?_); (first | (refine s_gt rfl ?_) | (refine s_gf1 rfl ?_) | (refine s_gfn rfl ?_) | (refine s_gx1 rfl ?_) | (refine s_gxn rfl ?_) | (refine s_gs rfl ?_))) | ((with_reducible refine k_mv ?_); (refine s_mv rfl ?_)) | ((with_reducible refine k_lss ?_); (refine s_lss rfl rfl ?_)) | ((with_reducible refine k_dreg ?_); refine s_dreg rfl rfl ?_; intro K hK) | (with_reducible refine d_nilS ?_) | ((with_reducible refine k_dnil ?_); (with_reducible apply d_nil hK); (· exact nmX); clear hK; clear K) | ((with_reducible refine k_dguard ?_); (first | (refine d_gt rfl ?_) | (refine d_gf rfl ?_) | (refine d_gx rfl ?_) | (refine d_gs rfl ?_))) | ((with_reducible refine k_dop ?_); refine d_step (by first | exact Or.inl rfl | exact Or.inr rfl) ?_) | (with_reducible refine d_back ?_) | ((with_reducible refine k_br ?_); (first | (with_reducible first | refine Br_dec ?_ | refine Br_not ?_ | refine Br_eqF ?_ | refine Br_and ?_ | refine Br_or ?_ | refine Br_neg ?_ | refine Br_band ?_ | refine Br_bor ?_ | refine Br_beq ?_) | (refine Br_t (by first | omega | assumption | rfl) ?_) | (refine Br_f (by first | omega | assumption | decide) ?_) | (with_reducible apply Br_sb <;> intro hbr <;> (first | subst hbr | simp only [hbr] | skip)) | (with_reducible apply Br_s <;> intro hbr))) | (with_reducible refine WN_succ ?_) | ((first | (with_reducible apply q_eqI) | (with_reducible apply q_eqN)); (first | exact nuI | exact nuN)) | ((first | (with_reducible apply q_eqL) | (with_reducible apply q_eqO)); (first | exact liL | exact liO)))
          exact Fin_flat trivial rfl rfl
    · rw [if_neg hw]
      repeat' (first | (with_reducible first | refine W_seq ?_ | refine then_n ?_ | refine W_block ?_ | refine blk_n ?_ | refine blk_r ?_ | refine blk_e ?_ | refine W_skip ?_ | refine W_ret ?_ | refine then_r ?_ | refine W_exit ?_ | refine then_e ?_) | (refine blk_j (by decide) ?_) | ((with_reducible refine s_reg ?_); intro K hK) | ((with_reducible refine k_nil ?_); (with_reducible apply s_nil hK); (· exact nmX); clear hK; clear K) | ((with_reducible refine k_cond ?_); (first | ((with_reducible apply s_condT); (· rfl); (· exact nmX)) | ((with_reducible apply s_condF); (· rfl); (· exact nmX)) | ((with_reducible apply s_condS); (· rfl); (· exact nmX); (· exact nmX)))) | ((with_reducible refine k_guard ?_); (first | (refine s_gt rfl ?_) | (refine s_gf1 rfl ?_) | (refine s_gfn rfl ?_) | (refine s_gx1 rfl ?_) | (refine s_gxn rfl ?_) | (refine s_gs rfl ?_))) | ((with_reducible refine k_mv ?_); (refine s_mv rfl ?_)) | ((with_reducible refine k_extract ?_); (refine s_extract rfl rfl ?_)) | ((with_reducible refine k_len ?_); (first | (refine s_len rfl rfl ?_) | ((with_reducible apply s_len); (· rfl); (· exact SlOwn.len (by assumption))))) | ((with_reducible refine k_neq ?_); (first | (refine s_neq rfl rfl ?_) | (refine s_strNe rfl rfl ?_))) | ((with_reducible refine k_callF ?_); (first | ((with_reducible apply s_call1); (· rfl)) | ((with_reducible apply s_calln); (· rfl)))) | ((with_reducible refine k_con ?_); (first | (refine ask_yes hL hP hq ?_; intro kq hQ hqi; (try dsimp only)))) | ((with_reducible refine k_dreg ?_); refine s_dreg rfl rfl ?_; intro K hK) | (with_reducible refine d_nilS ?_) | ((with_reducible refine k_dnil ?_); (with_reducible apply d_nil hK); (· exact nmX); clear hK; clear K) | ((with_reducible refine k_dguard ?_); (first | (refine d_gt rfl ?_) | (refine d_gf rfl ?_) | (refine d_gx rfl ?_) | (refine d_gs rfl ?_))) | ((with_reducible refine k_dop ?_); refine d_step (by first | exact Or.inl rfl | exact Or.inr rfl) ?_) | (with_reducible refine d_back ?_) | ((with_reducible refine k_br ?_); (first | (with_reducible first | refine Br_dec ?_ | refine Br_not ?_ | refine Br_eqF ?_ | refine Br_and ?_ | refine Br_or ?_ | refine Br_neg ?_ | refine Br_band ?_ | refine Br_bor ?_ | refine Br_beq ?_) | (refine Br_t (by first | omega | assumption | rfl) ?_) | (refine Br_f (by first | omega | assumption | decide) ?_) | (with_reducible apply Br_sb <;> intro hbr <;> (first | subst hbr | simp only [hbr] | skip)) | (with_reducible apply Br_s <;> intro hbr))) | (with_reducible refine WN_succ ?_) | ((first | (with_reducible apply q_eqI) | (with_reducible apply q_eqN)); (first | exact nuI | exact nuN)) | ((first | (with_reducible apply q_eqL) | (with_reducible apply q_eqO)); (first | exact liL | exact liO)))
      all_goals first | (exfalso; omega) | exact Fin_flat trivial rfl rfl
  · have he := qu_no hq
    rw [if_neg he]
    generalize hE : askE p l s = E at *
    repeat' (first | (with_reducible first | refine W_seq ?_ | refine then_n ?_ | refine W_block ?_ | refine blk_n ?_ | refine blk_r ?_ | refine blk_e ?_ | refine W_skip ?_ | refine W_ret ?_ | refine then_r ?_ | refine W_exit ?_ | refine then_e ?_) | (refine blk_j (by decide) ?_) | ((with_reducible refine s_reg ?_); intro K hK) | ((with_reducible refine k_nil ?_); (with_reducible apply s_nil hK); (· exact nmX); clear hK; clear K) | ((with_reducible refine k_cond ?_); (first | ((with_reducible apply s_condT); (· rfl); (· exact nmX)) | ((with_reducible apply s_condF); (· rfl); (· exact nmX)) | ((with_reducible apply s_condS); (· rfl); (· exact nmX); (· exact nmX)))) | ((with_reducible refine k_guard ?_); (first | (refine s_gt rfl ?_) | (refine s_gf1 rfl ?_) | (refine s_gfn rfl ?_) | (refine s_gx1 rfl ?_) | (refine s_gxn rfl ?_) | (refine s_gs rfl ?_))) | ((with_reducible refine k_mv ?_); (refine s_mv rfl ?_)) | ((with_reducible refine k_extract ?_); (refine s_extract rfl rfl ?_)) | ((with_reducible refine k_neq ?_); (first | (refine s_neq rfl rfl ?_) | (refine s_strNe rfl rfl ?_))) | ((with_reducible refine k_callF ?_); (first | ((with_reducible apply s_call1); (· rfl)) | ((with_reducible apply s_calln); (· rfl)))) | ((with_reducible refine k_con ?_); (first | (refine ask_no hL hP hq ?_; intro hQ; rw [hE]; (try dsimp only)))) | ((with_reducible refine k_dreg ?_); refine s_dreg rfl rfl ?_; intro K hK) | (with_reducible refine d_nilS ?_) | ((with_reducible refine k_dnil ?_); (with_reducible apply d_nil hK); (· exact nmX); clear hK; clear K) | ((with_reducible refine k_dguard ?_); (first | (refine d_gt rfl ?_) | (refine d_gf rfl ?_) | (refine d_gx rfl ?_) | (refine d_gs rfl ?_))) | ((with_reducible refine k_dop ?_); refine d_step (by first | exact Or.inl rfl | exact Or.inr rfl) ?_) | (with_reducible refine d_back ?_) | ((with_reducible refine k_br ?_); (first | (with_reducible first | refine Br_dec ?_ | refine Br_not ?_ | refine Br_eqF ?_ | refine Br_and ?_ | refine Br_or ?_ | refine Br_neg ?_ | refine Br_band ?_ | refine Br_bor ?_ | refine Br_beq ?_) | (refine Br_t (by first | omega | assumption | rfl) ?_) | (refine Br_f (by first | omega | assumption | decide) ?_) | (with_reducible apply Br_sb <;> intro hbr <;> (first | subst hbr | simp only [hbr] | skip)) | (with_reducible apply Br_s <;> intro hbr))) | (with_reducible refine WN_succ ?_) | ((first | (with_reducible apply q_eqI) | (with_reducible apply q_eqN)); (first | exact nuI | exact nuN)) | ((first | (with_reducible apply q_eqL) | (with_reducible apply q_eqO)); (first | exact liL | exact liO)))
    all_goals first | (exfalso; omega) | exact Fin_flat trivial rfl rfl
end Go.Proofs.Ytfdfmbmhefckaaa
end
section
/- Reclaim plans: the example. -/
set_option linter.unusedSimpArgs false
set_option linter.unusedVariables false
namespace Go.Proofs.Ytfdfmbmhefckaaa
open Go.AM Classical
set_option maxRecDepth 100000
set_option maxHeartbeats 4000000
instance (l : List Acct) (v : List Int) (a s : Int) (low : Bool) : Decidable (stuckP l v a s low) := inferInstanceAs (Decidable (∃ x ∈ pathG l 8 a, 0 < x ∧ s < x ∧ us l x.toNat - insF l (vF v) x ≤ flr l low x.toNat))
def outD (l : List Acct) (s : Int) (q : Pg) : Bool := decide (0 ≤ s) && (decide (q.account < 0) || !(decide (s ∈ pathG l 8 q.account)))
def gdD (l : List Acct) (v : List Int) (s : Int) (low : Bool) (q : Pg) : Bool := decide (0 ≤ q.account) && (!(decide (s = -1) || decide (s ∈ pathG l 8 q.account)) || decide (stuckP l v q.account s low))
def rsnD (l : List Acct) (v : List Int) (s : Int) (kn : Bool) (q : Pg) : Int :=
  if outD l s q = true then 13 else if kn = true ∧ q.normal = false then 12 else if q.leaving = true then 8 else if q.reason ≠ 0 ∧ q.reason ≠ 8 then q.reason else if gdD l v s false q = true then 11 else q.reason
theorem outD_ok {l : List Acct} {s : Int} {q : Pg} (hc : chkF l = 0) (hq : q.account < l.length) : outD l s q = true ↔ outP l s q := by
  unfold outD outP
  simp only [Bool.and_eq_true, decide_eq_true_eq, Bool.or_eq_true, Bool.not_eq_true', decide_eq_false_iff_not]
  refine and_congr_right fun h0 => ?_
  by_cases ha : q.account < 0
  · simp only [ha, true_or]
  · have hp : isP l q.account := ⟨hc, by omega, hq⟩
    unfold insP
    rw [pathF_is hp]
    exact or_congr Iff.rfl (not_congr ⟨fun h => ⟨hp, .inr h⟩, fun h => h.2.resolve_left (by omega)⟩)
theorem gdD_ok {l : List Acct} {v : List Int} {s : Int} {low : Bool} {q : Pg} (hv : valP l v) (hs : -1 ≤ s ∧ s < l.length) (hq : q.account < l.length) : gdD l v s low q = true ↔ gdP l v s low q := by
  unfold gdD gdP
  simp only [Bool.and_eq_true, decide_eq_true_eq, Bool.or_eq_true, Bool.not_eq_true', Bool.or_eq_false_iff, decide_eq_false_iff_not]
  refine and_congr_right fun h0 => ?_
  unfold grdP
  refine or_congr ?_ Iff.rfl
  constructor
  · rintro ⟨h1, h2⟩ ⟨_, h3 | h3⟩
    · exact h1 h3
    · exact h2 h3
  · intro h
    exact ⟨fun h1 => h ⟨⟨hv, ⟨h0, hq⟩, hs⟩, .inl h1⟩, fun h1 => h ⟨⟨hv, ⟨h0, hq⟩, hs⟩, .inr h1⟩⟩
theorem rsnD_ok {l : List Acct} {v : List Int} {s : Int} {kn : Bool} {q : Pg} (hv : valP l v) (hs : -1 ≤ s ∧ s < l.length) (hq : q.account < l.length) : rsn l v s kn q = rsnD l v s kn q := by
  unfold rsn rsnD
  simp only [outD_ok hv.1 hq, gdD_ok hv hs hq]
def nxD (l : List Acct) (v : List Int) (s : Int) (kn : Bool) (p : List Pg) : Nat → Int × Int
  | 0 => (-1, -1)
  | i + 1 => if h : i < p.length then
      (if rsnD l v s kn p[i] = 0 then
        (if gdD l v s true p[i] = false ∧ ((nxD l v s kn p i).1 < 0 ∨ p[i].age < agA p (nxD l v s kn p i).1) then (i : Int) else (nxD l v s kn p i).1,
         if (nxD l v s kn p i).2 < 0 ∨ p[i].age < agA p (nxD l v s kn p i).2 then (i : Int) else (nxD l v s kn p i).2)
       else nxD l v s kn p i) else nxD l v s kn p i
theorem nxD_ok {l : List Acct} {v : List Int} {s : Int} {kn : Bool} {p : List Pg} (hv : valP l v) (hs : -1 ≤ s ∧ s < l.length) (hq : ∀ i (h : i < p.length), p[i].account < l.length) : ∀ i, nxS l v s kn p i = nxD l v s kn p i
  | 0 => rfl
  | i + 1 => by
    unfold nxS nxD
    rw [nxD_ok hv hs hq i]
    by_cases h : i < p.length
    · rw [dif_pos h, dif_pos h]
      have h1 := gdD_ok (low := true) hv hs (hq i h)
      have h2 : ¬ gdP l v s true p[i] ↔ gdD l v s true p[i] = false := by
        rw [← h1]; simp
      simp only [rsnD_ok hv hs (hq i h), h2]
    · rw [dif_neg h, dif_neg h]
abbrev L4 : List Acct := [⟨-1, 10, 0, 0, 20⟩, ⟨0, 6, 4, 0, 20⟩, ⟨0, 4, 4, 0, 20⟩, ⟨1, 5, 3, 0, 20⟩]
abbrev P4 : List Pg := [⟨0, 3, 5, 0, -1, true, false⟩, ⟨1, 2, 0, 0, -1, true, false⟩, ⟨2, 1, 7, 0, -1, false, false⟩, ⟨3, -1, -1, 1, -1, true, false⟩]
abbrev P4b : List Pg := [⟨0, 3, 5, 7, -1, true, false⟩, ⟨1, 2, 0, 0, -1, true, false⟩, ⟨2, 1, 7, 0, -1, false, false⟩, ⟨3, -1, -1, 1, -1, true, false⟩]
abbrev P4c : List Pg := [⟨0, 3, 5, 7, -1, true, false⟩, ⟨1, 2, 0, 0, -1, true, false⟩, ⟨2, 1, 7, 0, -1, false, true⟩, ⟨3, -1, -1, 1, -1, true, false⟩]
theorem four_at {i : Nat} (h : i < L4.length) : i = 0 ∨ i = 1 ∨ i = 2 ∨ i = 3 := by
  simp at h; omega
theorem chk_four : chkF L4 = 0 := by
  refine chk_mk (by decide) ?_ ⟨?_, fun _ => ⟨rfl, rfl⟩⟩ ?_ ?_
  · intro i _ h; rcases four_at h with rfl | rfl | rfl | rfl <;> simp [okP]
  · intro i _ h; rcases four_at h with rfl | rfl | rfl | rfl <;> simp [okA, inR]
  · intro a h
    simp at h
    rcases h with rfl | rfl | rfl | rfl <;> decide
  · intro i h; rcases four_at h with rfl | rfl | rfl | rfl <;> decide
theorem qu_four {p : List Pg} {s : Int} (hp : fE (errA L4 p) p.length = 0) (hs : -1 ≤ s ∧ s < 4) : quP p L4 s := ⟨by rw [pchk, if_pos chk_four, hp], hs⟩
theorem nx_four {p : List Pg} {s : Int} {kn : Bool} {b : Int × Int} (hp : fE (errA L4 p) p.length = 0) (hl : p.length ≤ 1000) (hs : -1 ≤ s ∧ s < 4) (hb : nxD L4 (lvL L4 p) s kn p p.length = b) : nxtF p L4 s kn = nxtV b := by
  have hq := qu_four hp hs
  rw [nxtF, if_pos hq, nxD_ok (val_lv chk_four (by omega)) hs (fun i h => qu_in hq h), hb]
theorem rs_four {p : List Pg} {s : Int} {kn : Bool} (hp : fE (errA L4 p) p.length = 0) (hl : p.length ≤ 1000) (hs : -1 ≤ s ∧ s < 4) {i : Nat} (hi : i < p.length) {r : Int} (hr : rsnD L4 (lvL L4 p) s kn p[i] = r) : rsn L4 (lvL L4 p) s kn p[i] = r := by
  rw [rsnD_ok (val_lv chk_four (by omega)) hs (qu_in (qu_four hp hs) hi), hr]
theorem ex_c {Q : D → Heap → Prop} (h : ∀ kp ka h', ka ≠ kp → h' kp = some (P4.flatMap Pg.cells) → h' ka = some (L4.flatMap Acct.cells) → Q (.agg [.sl kp 7 0 4, .sl ka 5 0 4, .int .i64 (-1), .bool false]) h') : Con Try.prog 40 [] (fun _ => none) Q := by
  refine con_of_W mixed Try.func40 A40k A40c (by simp [A40]) ?_
  simp only [A40, argEnv]
  repeat' (first | (with_reducible first | refine W_seq ?_ | refine then_n ?_ | refine W_skip ?_ | refine W_ret ?_ | refine then_r ?_) | ((with_reducible refine s_reg ?_); intro K hK) | ((with_reducible refine k_nil ?_); (with_reducible apply s_nil hK); (· exact nmX); clear hK; clear K) | ((with_reducible refine k_guard ?_); (first | (refine s_gt rfl ?_) | (refine s_gf1 rfl ?_) | (refine s_gfn rfl ?_) | (refine s_gx1 rfl ?_) | (refine s_gxn rfl ?_) | (refine s_gs rfl ?_))) | ((with_reducible refine k_mv ?_); (refine s_mv rfl ?_)) | ((with_reducible refine k_store ?_); ((with_reducible apply s_store0); (· rfl); (· rfl); (· rfl); (· (exact hpX)); (· (exact ⟨rfl, by first | exact Nat.le_of_ble_eq_true rfl | omega | (simp; omega)⟩)); (· ((first | exact liL | exact liO))); (· (first | exact upd_upd | rfl)))) | ((with_reducible refine k_alloc (dst := some 0) ?_); ((with_reducible apply s_alloc); intro k0 hk0; (try simp only [upd_none] at hk0))) | ((with_reducible refine k_build ?_); ((with_reducible apply s_build); (· rfl); (· rfl))) | ((with_reducible refine k_buildS (dst := some 7) ?_); ((with_reducible apply s_buildS); (· rfl); (· (exact ⟨rfl, by decide⟩)); (· (first | (simp only [fillB, rep, splice, List.reduceReplicate, List.flatten_cons, List.flatten_nil, List.cons_append, List.nil_append, List.append_nil, List.length_cons, List.length_nil, Nat.reduceAdd, Nat.reduceMul, Nat.reduceLeDiff, Nat.reduceEqDiff, eq_self, Nat.le_refl, Nat.zero_add, and_self, and_true, true_and, if_true, List.take_zero, List.take_succ_cons, List.drop_zero, List.drop_succ_cons, List.drop_nil, List.take_nil]; rfl) | rfl)); intro k7 hk7; (try simp only [upd_none] at hk7))) | ((with_reducible refine k_buildS (dst := some 12) ?_); ((with_reducible apply s_buildS); (· rfl); (· (exact ⟨rfl, by decide⟩)); (· (first | (simp only [fillB, rep, splice, List.reduceReplicate, List.flatten_cons, List.flatten_nil, List.cons_append, List.nil_append, List.append_nil, List.length_cons, List.length_nil, Nat.reduceAdd, Nat.reduceMul, Nat.reduceLeDiff, Nat.reduceEqDiff, eq_self, Nat.le_refl, Nat.zero_add, and_self, and_true, true_and, if_true, List.take_zero, List.take_succ_cons, List.drop_zero, List.drop_succ_cons, List.drop_nil, List.take_nil]; rfl) | rfl)); intro k12 hk12; (try simp only [upd_none] at hk12))) | ((with_reducible refine k_br ?_); (first | (with_reducible first | refine Br_dec ?_ | refine Br_not ?_ | refine Br_eqF ?_ | refine Br_and ?_ | refine Br_or ?_ | refine Br_neg ?_ | refine Br_band ?_ | refine Br_bor ?_ | refine Br_beq ?_) | (refine Br_t (by first | omega | assumption | rfl) ?_) | (refine Br_f (by first | omega | assumption | decide) ?_) | (with_reducible apply Br_sb <;> intro hbr <;> (first | subst hbr | simp only [hbr] | skip)) | (with_reducible apply Br_s <;> intro hbr))) | (with_reducible refine WN_succ ?_) | ((first | (with_reducible apply q_eqI) | (with_reducible apply q_eqN)); (first | exact nuI | exact nuN)) | ((first | (with_reducible apply q_eqL) | (with_reducible apply q_eqO)); (first | exact liL | exact liO)))
  refine ⟨trivial, _, ?_, h k12 k7 _ (fun h => hk12.1 h.symm) ?_ ?_⟩
  · simp [resD, resL, AM.get, upd_self, memAt, ldD]
  · dsimp only; rw [upd_ne hk12.2.1, upd_self]; rfl
  · dsimp only; rw [upd_ne hk7.1, upd_ne (fun h => hk12.1 h.symm), upd_self]; rfl
theorem awake_c : PCon Try.prog 15 [] (.bool true) := by
  have n1 : PCon Try.prog 25 [.vs 7 (P4.flatMap Pg.cells) 4, .vs 5 (L4.flatMap Acct.cells) 4, .int .i64 (-1), .bool false] (.int .i64 0) := by
    have := Next_c P4 L4 (by decide) (by decide) (-1) false
    rwa [nx_four (b := (0, 0)) (by decide) (by decide) (by decide) (by decide)] at this
  have n2 : PCon Try.prog 25 [.vs 7 (P4.flatMap Pg.cells) 4, .vs 5 (L4.flatMap Acct.cells) 4, .int .i64 2, .bool true] (.int .i64 1) := by
    have := Next_c P4 L4 (by decide) (by decide) 2 true
    rwa [nx_four (b := (1, 1)) (by decide) (by decide) (by decide) (by decide)] at this
  have n3 : PCon Try.prog 25 [.vs 7 (P4b.flatMap Pg.cells) 4, .vs 5 (L4.flatMap Acct.cells) 4, .int .i64 1, .bool true] (.int .i64 (-1)) := by
    have := Next_c P4b L4 (by decide) (by decide) 1 true
    rwa [nx_four (b := (-1, -1)) (by decide) (by decide) (by decide) (by decide)] at this
  have n4 : PCon Try.prog 20 [.vs 7 (P4.flatMap Pg.cells) 4, .vs 5 (L4.flatMap Acct.cells) 4, .int .i64 (-1), .int .i64 1, .bool false] (.int .i64 11) := by
    have := Reason_c P4 L4 (by decide) (by decide) (-1) 1 false
    rw [reaF, if_pos (qu_four (by decide) (by decide)), dif_pos (by decide)] at this
    have e := rs_four (p := P4) (s := -1) (kn := false) (r := 11) (by decide) (by decide) (by decide) (i := 1) (by decide) (by decide)
    change PCon _ _ _ (.int .i64 (rsn L4 (lvL L4 P4) (-1) false (P4[1]'(by decide)))) at this
    rwa [e] at this
  have w1 : PCon Try.prog 23 [.vs 7 (P4b.flatMap Pg.cells) 4, .vs 5 (L4.flatMap Acct.cells) 4, .int .i64 1, .bool true] (.ow 7 [.int .i64 0, .int .i64 3, .int .i64 5, .int .i64 7, .int .i64 (-1), .bool true, .bool false, .int .i64 1, .int .i64 2, .int .i64 0, .int .i64 13, .int .i64 (-1), .bool true, .bool false, .int .i64 2, .int .i64 1, .int .i64 7, .int .i64 12, .int .i64 (-1), .bool false, .bool false, .int .i64 3, .int .i64 (-1), .int .i64 (-1), .int .i64 13, .int .i64 (-1), .bool true, .bool false] 4) := by
    have := Witness_c P4b L4 (by decide) (by decide) 1 true
    have e0 := rs_four (p := P4b) (s := 1) (kn := true) (r := 7) (by decide) (by decide) (by decide) (i := 0) (by decide) (by decide)
    have e1 := rs_four (p := P4b) (s := 1) (kn := true) (r := 13) (by decide) (by decide) (by decide) (i := 1) (by decide) (by decide)
    have e2 := rs_four (p := P4b) (s := 1) (kn := true) (r := 12) (by decide) (by decide) (by decide) (i := 2) (by decide) (by decide)
    have e3 := rs_four (p := P4b) (s := 1) (kn := true) (r := 13) (by decide) (by decide) (by decide) (i := 3) (by decide) (by decide)
    simp only [List.getElem_cons_zero, List.getElem_cons_succ] at e0 e1 e2 e3
    rw [witF, if_pos (qu_four (by decide) (by decide))] at this
    simp only [List.map_cons, List.map_nil, wit, wrP, e0, e1, e2, e3] at this
    exact this
  have v1 : PCon Try.prog 31 [.vs 7 (P4c.flatMap Pg.cells) 4, .vs 5 (L4.flatMap Acct.cells) 4, .int .i64 1, .bool true, .vs 7 [] 0] (.int .i64 3) := by
    have := Verify_c P4c L4 (by decide) (by decide) 1 true []
    rwa [verF, if_pos (askE_ok.2 (qu_four (by decide) (by decide))), if_neg (by decide)] at this
  have u1 : PCon Try.prog 27 [.vs 7 (P4c.flatMap Pg.cells) 4, .vs 5 (L4.flatMap Acct.cells) 4, .int .i64 1, .bool false] (.int .i64 1) := by
    have := Useful_c P4c L4 (by decide) (by decide) 1 false
    have e2 := rs_four (p := P4c) (s := 1) (kn := false) (r := 8) (by decide) (by decide) (by decide) (i := 2) (by decide) (by decide)
    simp only [List.getElem_cons_zero, List.getElem_cons_succ] at e2
    rw [useF, if_pos (qu_four (by decide) (by decide))] at this
    simp [cG, usB, e2] at this
    exact this
  have t1 : PCon Try.prog 29 [.vs 7 (P4c.flatMap Pg.cells) 4, .vs 5 (L4.flatMap Acct.cells) 4, .int .i64 (-1), .bool false] (.bool true) := by
    have := Transit_c P4c L4 (by decide) (by decide) (-1) false
    have e2 := rs_four (p := P4c) (s := -1) (kn := false) (r := 8) (by decide) (by decide) (by decide) (i := 2) (by decide) (by decide)
    simp only [List.getElem_cons_zero, List.getElem_cons_succ] at e2
    rwa [decide_eq_true (show trP P4c L4 (-1) false from ⟨qu_four (by decide) (by decide), _, by simp, e2⟩)] at this
  have kc : PCon Try.prog 17 [.vs 7 [] 0, .vs 5 [] 0] (.int .i64 9) := by
    have h9 : chkF [] = 9 := by unfold chkF; rw [if_pos (by decide)]
    have := pcheck_c [] [] (by decide) (by decide)
    rwa [pchk, if_neg (by rw [h9]; decide), h9] at this
  refine A15p (by simp [A15]) ?_
  simp only [A15, argEnv]
  have s1 : List.take 3 (P4.flatMap Pg.cells) ++ [.int .i64 7] ++ List.drop 4 (P4.flatMap Pg.cells) = P4b.flatMap Pg.cells := rfl
  have s2 : List.take 20 (P4b.flatMap Pg.cells) ++ [.bool true] ++ List.drop 21 (P4b.flatMap Pg.cells) = P4c.flatMap Pg.cells := rfl
  repeat' (first | (with_reducible first | refine W_seq ?_ | refine then_n ?_ | refine W_skip ?_ | refine W_ret ?_ | refine then_r ?_) | ((with_reducible refine s_reg ?_); intro K hK) | ((with_reducible refine k_nil ?_); (with_reducible apply s_nil hK); (· exact nmX); clear hK; clear K) | ((with_reducible refine k_cond ?_); (first | ((with_reducible apply s_condT); (· rfl); (· exact nmX)) | ((with_reducible apply s_condF); (· rfl); (· exact nmX)) | ((with_reducible apply s_condS); (· rfl); (· exact nmX); (· exact nmX)))) | ((with_reducible refine k_guard ?_); (first | (refine s_gt rfl ?_) | (refine s_gf1 rfl ?_) | (refine s_gfn rfl ?_) | (refine s_gx1 rfl ?_) | (refine s_gxn rfl ?_) | (refine s_gs rfl ?_))) | ((with_reducible refine k_mv ?_); (refine s_mv rfl ?_)) | ((with_reducible refine k_len ?_); (first | (refine s_len rfl rfl ?_) | ((with_reducible apply s_len); (· rfl); (· exact SlOwn.len (by assumption))))) | ((with_reducible refine k_pick ?_); (first | (refine s_pickT rfl rfl ?_) | (refine s_pickF rfl rfl ?_))) | ((with_reducible refine k_eql ?_); (first | (refine s_eql rfl rfl ?_) | (refine s_strEq rfl rfl ?_))) | ((with_reducible refine k_neq ?_); (first | (refine s_neq rfl rfl ?_) | (refine s_strNe rfl rfl ?_))) | ((with_reducible refine k_iaddr ?_); (first | ((with_reducible apply s_iaddrV); (· rfl); (· rfl); (· (first | omega | exact ⟨rfl, by omega⟩ | skip))) | ((with_reducible apply s_iaddrO); (· rfl); (· rfl); (· (first | omega | exact ⟨rfl, by omega⟩ | skip)); (· (exact hpX))) | ((with_reducible apply s_iaddrSO); (· rfl); (· assumption); (· rfl); (· (first | omega | exact ⟨rfl, by omega⟩ | skip)); (· (first | (simp (disch := omega) only [w64, wu8, wu16, wu32, wu64, tm_nn, td_nn, fd_nn, Int.reduceAdd, Int.reduceSub, Int.reduceMul, Int.reduceDiv, Int.reduceMod, Int.reduceNeg, Int.reduceToNat, Int.toNat_natCast, Int.toNat_zero, Int.zero_add, Int.add_zero, Int.one_mul, Int.reducePow, Nat.mul_one, Nat.zero_add, Nat.add_zero, Nat.zero_mul, Nat.reduceAdd, Nat.reduceMul, Nat.reduceSub, Nat.min_eq_left, IntKind.bits, Nat.sub_zero, s1, s2]; try rfl; done) | rfl)); intro ks hks))) | ((with_reducible refine k_load ?_); (first | ((with_reducible apply s_loadV); (· rfl)) | ((with_reducible apply s_loadP); (· rfl); (· (exact hpX))))) | ((with_reducible refine k_store ?_); ((with_reducible apply s_store0); (· rfl); (· rfl); (· rfl); (· (exact hpX)); (· (exact ⟨rfl, by first | exact Nat.le_of_ble_eq_true rfl | omega | (simp [s1, s2]; omega)⟩)); (· ((first | (simp (disch := omega) only [upd_self, upd_ne, upd_upd, rep, splice, List.take_succ_cons, List.take_zero, List.drop_succ_cons, List.drop_zero, List.cons_append, List.nil_append, List.append_nil, List.length_cons, List.length_nil, List.reduceReplicate, List.flatten_cons, List.flatten_nil, Nat.reduceAdd, Nat.reduceMul, Nat.reduceSub, Nat.zero_add, Nat.add_zero, List.getElem?_cons_zero, List.getElem?_cons_succ, s1, s2]; try rfl; done) | rfl))); (· (first | exact upd_upd | rfl)))) | ((with_reducible refine k_faddr ?_); (first | ((with_reducible apply s_faddrV); (· rfl); (· rfl)) | ((with_reducible apply s_faddrP); (· rfl); (· rfl)))) | ((with_reducible refine k_alloc (dst := some 1) ?_); ((with_reducible apply s_alloc); intro k1 hk1; (try simp only [upd_none] at hk1))) | ((with_reducible refine k_callF ?_); (first | ((with_reducible apply s_call1); (· rfl)) | ((with_reducible apply s_calln); (· rfl)))) | ((with_reducible refine k_con ?_); (first | (refine ex_c ?_; intro kp ka hE hne hP hA; (try dsimp only)) | ((with_reducible apply con_val (n1)); (· (repeat (first | exact All2.nil | (apply All2.cons; (· first | ((apply Rd_sl0); (· exact hpX); (· first | rfl | exact scal_i | exact scal_b | assumption); (· first | rfl | assumption | (simp [s1, s2]; done) | (simp [s1, s2]; omega))) | exact rdX))))); (· rfl); (· exact fun _ => rfl)) | ((with_reducible apply con_val (n2)); (· (repeat (first | exact All2.nil | (apply All2.cons; (· first | ((apply Rd_sl0); (· exact hpX); (· first | rfl | exact scal_i | exact scal_b | assumption); (· first | rfl | assumption | (simp [s1, s2]; done) | (simp [s1, s2]; omega))) | exact rdX))))); (· rfl); (· exact fun _ => rfl)) | ((with_reducible apply con_val (n3)); (· (repeat (first | exact All2.nil | (apply All2.cons; (· first | ((apply Rd_sl0); (· exact hpX); (· first | rfl | exact scal_i | exact scal_b | assumption); (· first | rfl | assumption | (simp [s1, s2]; done) | (simp [s1, s2]; omega))) | exact rdX))))); (· rfl); (· exact fun _ => rfl)) | ((with_reducible apply con_val (n4)); (· (repeat (first | exact All2.nil | (apply All2.cons; (· first | ((apply Rd_sl0); (· exact hpX); (· first | rfl | exact scal_i | exact scal_b | assumption); (· first | rfl | assumption | (simp [s1, s2]; done) | (simp [s1, s2]; omega))) | exact rdX))))); (· rfl); (· exact fun _ => rfl)) | ((with_reducible apply con_of_pcon (w1)); (· (repeat (first | exact All2.nil | (apply All2.cons; (· first | ((apply Rd_sl0); (· exact hpX); (· first | rfl | exact scal_i | exact scal_b | assumption); (· first | rfl | assumption | (simp [s1, s2]; done) | (simp [s1, s2]; omega))) | exact rdX))))); intro kW hkW; (try simp only [upd_none] at hkW); simp only [thaw, thawC, List.map, thawH, owOf, owL]) | ((with_reducible apply con_val (v1)); (· (repeat (first | exact All2.nil | (apply All2.cons; (· first | ((apply Rd_sl0); (· exact hpX); (· first | rfl | exact scal_i | exact scal_b | assumption); (· first | rfl | assumption | (simp [s1, s2]; done) | (simp [s1, s2]; omega))) | exact rdX))))); (· rfl); (· exact fun _ => rfl)) | ((with_reducible apply con_val (u1)); (· (repeat (first | exact All2.nil | (apply All2.cons; (· first | ((apply Rd_sl0); (· exact hpX); (· first | rfl | exact scal_i | exact scal_b | assumption); (· first | rfl | assumption | (simp [s1, s2]; done) | (simp [s1, s2]; omega))) | exact rdX))))); (· rfl); (· exact fun _ => rfl)) | ((with_reducible apply con_val (t1)); (· (repeat (first | exact All2.nil | (apply All2.cons; (· first | ((apply Rd_sl0); (· exact hpX); (· first | rfl | exact scal_i | exact scal_b | assumption); (· first | rfl | assumption | (simp [s1, s2]; done) | (simp [s1, s2]; omega))) | exact rdX))))); (· rfl); (· exact fun _ => rfl)) | ((with_reducible apply con_val (kc)); (· (repeat (first | exact All2.nil | (apply All2.cons; (· first | ((apply Rd_sl0); (· exact hpX); (· first | rfl | exact scal_i | exact scal_b | assumption); (· first | rfl | assumption | (simp [s1, s2]; done) | (simp [s1, s2]; omega))) | exact rdX))))); (· rfl); (· exact fun _ => rfl)))) | ((with_reducible refine k_br ?_); (first | (with_reducible first | refine Br_dec ?_ | refine Br_not ?_ | refine Br_eqF ?_ | refine Br_and ?_ | refine Br_or ?_ | refine Br_neg ?_ | refine Br_band ?_ | refine Br_bor ?_ | refine Br_beq ?_) | (refine Br_t (by first | omega | assumption | rfl) ?_) | (refine Br_f (by first | omega | assumption | decide) ?_) | (with_reducible apply Br_sb <;> intro hbr <;> (first | subst hbr | simp only [hbr] | skip)) | (with_reducible apply Br_s <;> intro hbr))) | (with_reducible refine WN_succ ?_) | ((first | (with_reducible apply q_eqI) | (with_reducible apply q_eqN)); (first | (simp (disch := omega) only [w64, wu8, wu16, wu32, wu64, tm_nn, td_nn, fd_nn, Int.reduceAdd, Int.reduceSub, Int.reduceMul, Int.reduceDiv, Int.reduceMod, Int.reduceNeg, Int.reduceToNat, Int.toNat_natCast, Int.toNat_zero, Int.zero_add, Int.add_zero, Int.one_mul, Int.reducePow, Nat.mul_one, Nat.zero_add, Nat.add_zero, Nat.zero_mul, Nat.reduceAdd, Nat.reduceMul, Nat.reduceSub, Nat.min_eq_left, IntKind.bits, Nat.sub_zero, s1, s2]; try rfl; done) | rfl)) | ((first | (with_reducible apply q_eqL) | (with_reducible apply q_eqO)); (first | (simp (disch := omega) only [upd_self, upd_ne, upd_upd, rep, splice, List.take_succ_cons, List.take_zero, List.drop_succ_cons, List.drop_zero, List.cons_append, List.nil_append, List.append_nil, List.length_cons, List.length_nil, List.reduceReplicate, List.flatten_cons, List.flatten_nil, Nat.reduceAdd, Nat.reduceMul, Nat.reduceSub, Nat.zero_add, Nat.add_zero, List.getElem?_cons_zero, List.getElem?_cons_succ, s1, s2]; try rfl; done) | rfl)))
  all_goals first | exact Fin_flat trivial rfl rfl | (refine Fin_tup trivial rfl ?_ (Nat.le_of_ble_eq_true rfl); (repeat (first | exact All2.nil | (apply All2.cons; (· first | exact exc_n | exact exc_e | exact exc_v rfl rfl | exact exc_o upd_self rfl rfl)))); done) | (refine Fin_own trivial rfl upd_self ?_ (Nat.le_of_ble_eq_true rfl); (repeat (first | exact All2.nil | (apply All2.cons; (· first | exact exc_n | exact exc_e | exact exc_v rfl rfl | exact exc_o upd_self rfl rfl)))); done) | exact Fin_nil trivial rfl | exact Fin_sl trivial rfl upd_self rfl rfl
end Go.Proofs.Ytfdfmbmhefckaaa
end
section
/- Reclaim plans: the reference's answers; the laws that compare. -/
set_option linter.unusedSimpArgs false
set_option linter.unusedVariables false
namespace Go.Proofs.Ytfdfmbmhefckaaa
open Go.AM Classical
set_option maxRecDepth 100000
set_option maxHeartbeats 4000000
theorem usB_is (l : List Acct) (v : List Int) (s : Int) (kn : Bool) (q : Pg) : usB l v s kn q = if q.leaving = true ∧ ¬ outP l s q ∧ ¬ (kn = true ∧ q.normal = false) then 1 else 0 := by
  unfold usB
  congr 1
  refine propext (and_congr_right fun hl => ?_)
  unfold rsn
  constructor
  · intro h
    split at h
    · omega
    · split at h
      · omega
      · exact ⟨by assumption, by assumption⟩
  · rintro ⟨h1, h2⟩
    rw [if_neg h1, if_neg h2, if_pos hl]
end Go.Proofs.Ytfdfmbmhefckaaa
end
section
/- Reclaim plans: the reference's check of a witness; the laws that compare. -/
set_option linter.unusedSimpArgs false
set_option linter.unusedVariables false
namespace Go.Proofs.Ytfdfmbmhefckaaa
open Go.AM Classical
set_option maxRecDepth 100000
set_option maxHeartbeats 4000000
theorem Rd_aggR {h : Heap} {c c' : List D} (hr : All2 (Rd h) c c') : Rd h (.agg c) (.agg c') := by
  intro s v H hv
  obtain ⟨cs, rfl, hall⟩ := hv.inv_agg
  refine .agg cs c' (hall.1.trans hr.1) (fun u hu => ?_) (fun i u d hu hd => ?_)
  · obtain ⟨i, hi⟩ := List.mem_iff_getElem?.1 hu
    have hlt : i < c.length := by
      rcases Nat.lt_or_ge i c.length with h' | h'
      · exact h'
      · rw [← hall.1] at h'; rw [List.getElem?_eq_none h'] at hi; cases hi
    exact (hall.2 i u _ hi (List.getElem?_eq_getElem hlt)).2
  · have hlt : i < c.length := by
      rcases Nat.lt_or_ge i c.length with h' | h'
      · exact h'
      · rw [List.getElem?_eq_none (by rw [← hr.1]; exact h')] at hd; cases hd
    have hci := List.getElem?_eq_getElem hlt
    exact hr.2 i _ _ hci hd s u H (hall.2 i u _ hu hci).1
theorem Rd_cs {h : Heap} {p : List Pg} {l : List Acct} {s : Int} {kn : Bool} : Rd h (.agg [pgs p, accs l, .int .i64 s, .bool kn]) (csD p l s kn) := Rd_aggR (All2.cons Rd_vs (All2.cons Rd_vs (All2.cons Rd_int (All2.cons Rd_bool All2.nil))))
theorem typed_pg {n : Nat} {d : List D} (h : Typed Try.prog (n + 2) 40 d) : ∃ q : Pg, d = q.cells ∧ True := by
  obtain ⟨ps, rfl, h1⟩ := typed_struct' Try.underlying40 h
  match ps, h1.1 with
  | [a, b, c, e, f, g, i], _ =>
    obtain ⟨x1, rfl, _⟩ := typed_int' Try.underlying3 (h1.2 0 _ a rfl rfl)
    obtain ⟨x2, rfl, _⟩ := typed_int' Try.underlying3 (h1.2 1 _ b rfl rfl)
    obtain ⟨x3, rfl, _⟩ := typed_int' Try.underlying3 (h1.2 2 _ c rfl rfl)
    obtain ⟨x4, rfl, _⟩ := typed_int' Try.underlying3 (h1.2 3 _ e rfl rfl)
    obtain ⟨x5, rfl, _⟩ := typed_int' Try.underlying3 (h1.2 4 _ f rfl rfl)
    obtain ⟨x6, rfl⟩ := typed_bool' Try.underlying4 (h1.2 5 _ g rfl rfl)
    obtain ⟨x7, rfl⟩ := typed_bool' Try.underlying4 (h1.2 6 _ i rfl rfl)
    exact ⟨⟨x1, x2, x3, x4, x5, x6, x7⟩, rfl, trivial⟩
theorem typed_pgs' {n : Nat} {d : List D} (h : Typed Try.prog (n + 3) 22 d) : ∃ p : List Pg, d = [pgs p] := by
  obtain ⟨ps, rfl, h1, h2⟩ := typed_slice' Try.underlying22 h
  obtain ⟨p, rfl, _⟩ := all_map (f := Pg.cells) (q := fun _ => True) (fun d hd => typed_pg (h2 d hd))
  exact ⟨p, by rw [List.length_map, ← List.flatMap_def, show Try.prog.cellsOf 40 = 7 by kernel_rfl]⟩
theorem typed_accs' {n : Nat} {d : List D} (h : Typed Try.prog (n + 3) 23 d) : ∃ l : List Acct, d = [accs l] ∧ l.length ≤ maxLen := by
  obtain ⟨ps, rfl, h1, h2⟩ := typed_slice' Try.underlying23 h
  obtain ⟨l, rfl, _⟩ := all_map (f := Acct.cells) (q := AIn) (fun d hd => typed_acct (h2 d hd))
  exact ⟨l, by rw [List.length_map, ← List.flatMap_def, show Try.prog.cellsOf 44 = 5 by kernel_rfl], by simpa using h1⟩
theorem typed_case {d : D} (h : TypedA Try.prog 28 d) : ∃ p l s kn, d = csD p l s kn ∧ l.length ≤ 9223372036854775807 := by
  obtain ⟨ds, rfl, h1⟩ := typed_agg (agg_yes Try.underlying28 rfl) h
  obtain ⟨ps, rfl, h2⟩ := typed_struct' Try.underlying28 h1
  match ps, h2.1 with
  | [a, b, c, e], _ =>
    obtain ⟨p, rfl⟩ := typed_pgs' (h2.2 0 _ a rfl rfl)
    obtain ⟨l, rfl, hl⟩ := typed_accs' (h2.2 1 _ b rfl rfl)
    obtain ⟨s, rfl, _⟩ := typed_int' Try.underlying3 (h2.2 2 _ c rfl rfl)
    obtain ⟨kn, rfl⟩ := typed_bool' Try.underlying4 (h2.2 3 _ e rfl rfl)
    exact ⟨p, l, s, kn, rfl, maxLen_le hl⟩
end Go.Proofs.Ytfdfmbmhefckaaa
end
section
/- Reclaim plans: the law ReclaimplanSound. -/
set_option linter.unusedSimpArgs false
set_option linter.unusedVariables false
namespace Go.Proofs.Ytfdfmbmhefckaaa
open Go.AM Classical
set_option maxRecDepth 100000
set_option maxHeartbeats 4000000
end Go.Proofs.Ytfdfmbmhefckaaa
end
section
/- Reclaim plans: the law ReclaimplanOldest. -/
set_option linter.unusedSimpArgs false
set_option linter.unusedVariables false
namespace Go.Proofs.Ytfdfmbmhefckaaa
open Go.AM Classical
set_option maxRecDepth 100000
set_option maxHeartbeats 4000000
theorem rsn_zero {l : List Acct} {v : List Int} {s : Int} {kn : Bool} {q : Pg} (h : rsn l v s kn q = 0) : ¬ outP l s q ∧ ¬ (kn = true ∧ q.normal = false) ∧ ¬ q.leaving = true ∧ ¬ (q.reason ≠ 0 ∧ q.reason ≠ 8) ∧ ¬ gdP l v s false q ∧ q.reason = 0 := by
  unfold rsn at h
  split at h
  · omega
  · split at h
    · omega
    · split at h
      · omega
      · split at h
        · omega
        · split at h
          · omega
          · exact ⟨by assumption, by assumption, by assumption, by assumption, by assumption, h⟩
theorem nxS_spec {l : List Acct} {v : List Int} {s : Int} {kn : Bool} {p : List Pg} : ∀ i, i ≤ p.length →
    (((nxS l v s kn p i).1 = -1 ∧ ∀ j (h : j < p.length), j < i → rsn l v s kn p[j] = 0 → gdP l v s true p[j]) ∨
      (0 ≤ (nxS l v s kn p i).1 ∧ (∀ h : (nxS l v s kn p i).1.toNat < p.length, rsn l v s kn p[(nxS l v s kn p i).1.toNat] = 0 ∧ ¬ gdP l v s true p[(nxS l v s kn p i).1.toNat]) ∧ ∀ j (h : j < p.length), j < i → rsn l v s kn p[j] = 0 → ¬ gdP l v s true p[j] → agA p (nxS l v s kn p i).1 ≤ p[j].age)) ∧
    (((nxS l v s kn p i).2 = -1 ∧ ∀ j (h : j < p.length), j < i → rsn l v s kn p[j] ≠ 0) ∨
      (0 ≤ (nxS l v s kn p i).2 ∧ (∀ h : (nxS l v s kn p i).2.toNat < p.length, rsn l v s kn p[(nxS l v s kn p i).2.toNat] = 0) ∧ ∀ j (h : j < p.length), j < i → rsn l v s kn p[j] = 0 → agA p (nxS l v s kn p i).2 ≤ p[j].age))
  | 0, _ => ⟨.inl ⟨rfl, fun j _ h => by omega⟩, .inl ⟨rfl, fun j _ h => by omega⟩⟩
  | i + 1, hi => by
    obtain ⟨h1, h2⟩ := nxS_spec (l := l) (v := v) (s := s) (kn := kn) (p := p) i (by omega)
    have hil : i < p.length := by omega
    have hst : nxS l v s kn p (i + 1) = (if rsn l v s kn p[i] = 0 then
        (if ¬ gdP l v s true p[i] ∧ ((nxS l v s kn p i).1 < 0 ∨ p[i].age < agA p (nxS l v s kn p i).1) then (i : Int) else (nxS l v s kn p i).1,
         if (nxS l v s kn p i).2 < 0 ∨ p[i].age < agA p (nxS l v s kn p i).2 then (i : Int) else (nxS l v s kn p i).2)
       else nxS l v s kn p i) := by rw [nxS, dif_pos hil]
    generalize nxS l v s kn p (i + 1) = B at hst ⊢
    generalize nxS l v s kn p i = b at *
    obtain ⟨b, c⟩ := b
    obtain ⟨B1, B2⟩ := B
    dsimp only at h1 h2 hst ⊢
    have hag : agA p (i : Int) = p[i].age := by unfold agA; rw [dif_pos (by simpa using hil)]; simp
    by_cases hr : rsn l v s kn p[i] = 0
    · rw [if_pos hr] at hst
      injection hst with hB1 hB2
      refine ⟨?_, ?_⟩
      · by_cases hc : ¬ gdP l v s true p[i] ∧ (b < 0 ∨ p[i].age < agA p b)
        · rw [if_pos hc] at hB1
          subst hB1
          refine .inr ⟨by omega, fun h => by simpa using ⟨hr, hc.1⟩, fun j hj hji hrj hgj => ?_⟩
          rw [hag]
          rcases Nat.lt_succ_iff_lt_or_eq.1 hji with h4 | rfl
          · rcases h1 with ⟨h5, h6⟩ | ⟨h5, _, h6⟩
            · exact absurd (h6 j hj h4 hrj) hgj
            · have := h6 j hj h4 hrj hgj
              rcases hc.2 with h7 | h7 <;> omega
          · exact Int.le_refl _
        · rw [if_neg hc] at hB1
          replace hB1 := hB1.symm
          subst hB1
          rcases h1 with ⟨h5, h6⟩ | ⟨h5, h6, h7⟩
          · refine .inl ⟨h5, fun j hj hji hrj => ?_⟩
            rcases Nat.lt_succ_iff_lt_or_eq.1 hji with h4 | rfl
            · exact h6 j hj h4 hrj
            · exact Classical.byContradiction fun hg => hc ⟨hg, .inl (by omega)⟩
          · refine .inr ⟨h5, h6, fun j hj hji hrj hgj => ?_⟩
            rcases Nat.lt_succ_iff_lt_or_eq.1 hji with h4 | rfl
            · exact h7 j hj h4 hrj hgj
            · have : ¬ p[j].age < agA p b := fun h => hc ⟨hgj, .inr h⟩
              omega
      · by_cases hc : c < 0 ∨ p[i].age < agA p c
        · rw [if_pos hc] at hB2
          subst hB2
          refine .inr ⟨by omega, fun h => by simpa using hr, fun j hj hji hrj => ?_⟩
          rw [hag]
          rcases Nat.lt_succ_iff_lt_or_eq.1 hji with h4 | rfl
          · rcases h2 with ⟨h5, h6⟩ | ⟨h5, _, h6⟩
            · exact absurd hrj (h6 j hj h4)
            · have := h6 j hj h4 hrj
              rcases hc with h7 | h7 <;> omega
          · exact Int.le_refl _
        · rw [if_neg hc] at hB2
          replace hB2 := hB2.symm
          subst hB2
          rcases h2 with ⟨h5, h6⟩ | ⟨h5, h6, h7⟩
          · omega
          · refine .inr ⟨h5, h6, fun j hj hji hrj => ?_⟩
            rcases Nat.lt_succ_iff_lt_or_eq.1 hji with h4 | rfl
            · exact h7 j hj h4 hrj
            · omega
    · rw [if_neg hr] at hst
      injection hst with hB1 hB2
      replace hB1 := hB1.symm
      replace hB2 := hB2.symm
      subst hB1 hB2
      refine ⟨?_, ?_⟩
      · rcases h1 with ⟨h5, h6⟩ | ⟨h5, h6, h7⟩
        · refine .inl ⟨h5, fun j hj hji hrj => ?_⟩
          rcases Nat.lt_succ_iff_lt_or_eq.1 hji with h4 | rfl
          · exact h6 j hj h4 hrj
          · exact absurd hrj hr
        · refine .inr ⟨h5, h6, fun j hj hji hrj hgj => ?_⟩
          rcases Nat.lt_succ_iff_lt_or_eq.1 hji with h4 | rfl
          · exact h7 j hj h4 hrj hgj
          · exact absurd hrj hr
      · rcases h2 with ⟨h5, h6⟩ | ⟨h5, h6, h7⟩
        · refine .inl ⟨h5, fun j hj hji => ?_⟩
          rcases Nat.lt_succ_iff_lt_or_eq.1 hji with h4 | rfl
          · exact h6 j hj h4
          · exact hr
        · refine .inr ⟨h5, h6, fun j hj hji hrj => ?_⟩
          rcases Nat.lt_succ_iff_lt_or_eq.1 hji with h4 | rfl
          · exact h7 j hj h4 hrj
          · exact absurd hrj hr
end Go.Proofs.Ytfdfmbmhefckaaa
end
section
/- Reclaim plans: the laws ReclaimplanReasons and ReclaimplanEither. -/
set_option linter.unusedSimpArgs false
set_option linter.unusedVariables false
namespace Go.Proofs.Ytfdfmbmhefckaaa
open Go.AM Classical
set_option maxRecDepth 100000
set_option maxHeartbeats 4000000
end Go.Proofs.Ytfdfmbmhefckaaa
end
section
/- Reclaim plans: the law ReclaimplanFloors. -/
set_option linter.unusedSimpArgs false
set_option linter.unusedVariables false
namespace Go.Proofs.Ytfdfmbmhefckaaa
open Go.AM Classical
set_option maxRecDepth 100000
set_option maxHeartbeats 4000000
def lvg (q : Pg) : Pg := ⟨q.frame, q.account, q.age, q.reason, q.owner, q.normal, true⟩
def takeP (g : List Pg) (k : Nat) : List Pg := if h : k < g.length then g.set k (lvg g[k]) else g
theorem takeP_len (g : List Pg) (k : Nat) : (takeP g k).length = g.length := by unfold takeP; split <;> simp
theorem takeP_at {g : List Pg} {k i : Nat} (hi : i < g.length) : (takeP g k)[i]'(by rw [takeP_len]; exact hi) = if k = i then lvg g[i] else g[i] := by
  unfold takeP
  by_cases h : k < g.length
  · simp only [dif_pos h, List.getElem_set]
    split
    · rename_i h2; subst h2; rfl
    · rfl
  · rw [if_neg (by omega)]
    simp only [dif_neg h]
theorem cG_take {f : Pg → Int} {g : List Pg} {k : Nat} (hk : k < g.length) : ∀ m, m ≤ g.length → cG f (takeP g k) m = cG f g m + if k < m then f (lvg g[k]) - f g[k] else 0
  | 0, _ => by simp [cG]
  | m + 1, hm => by
    rw [cG_s (by rw [takeP_len]; omega), cG_s (show m < g.length by omega), cG_take hk m (by omega), takeP_at (show m < g.length by omega)]
    by_cases h1 : k = m
    · subst h1
      rw [if_pos rfl, if_neg (by omega), if_pos (by omega)]; omega
    · rw [if_neg h1]
      by_cases h2 : k < m
      · rw [if_pos h2, if_pos (by omega)]; omega
      · rw [if_neg h2, if_neg (by omega)]; omega
theorem prev_take {g : List Pg} {k : Nat} (i : Nat) : prevF (takeP g k) i = prevF g i := by
  unfold prevF
  by_cases h0 : i = 0
  · rw [if_pos h0, if_pos h0]
  · rw [if_neg h0, if_neg h0]
    by_cases h : i - 1 < g.length
    · rw [dif_pos (by rwa [takeP_len]), dif_pos h, takeP_at h]
      split <;> rfl
    · rw [dif_neg (by rwa [takeP_len]), dif_neg h]
theorem pgE_lv {n prev : Int} {q : Pg} (h2 : pgE n prev q = 0) : pgE n prev (lvg q) = 0 := by
  unfold pgE at h2 ⊢
  by_cases e1 : q.frame < 0 ∨ 256 ≤ q.frame ∨ q.account < -1 ∨ n ≤ q.account
  · rw [if_pos e1] at h2; omega
  · rw [if_neg e1] at h2
    rw [if_neg (show ¬ ((lvg q).frame < 0 ∨ 256 ≤ (lvg q).frame ∨ (lvg q).account < -1 ∨ n ≤ (lvg q).account) from e1)]
    by_cases e2 : q.frame ≤ prev
    · rw [if_pos e2] at h2; omega
    · rw [if_neg e2] at h2
      rw [if_neg (show ¬ ((lvg q).frame ≤ prev) from e2)]
      by_cases e3 : q.reason < 0 ∨ 10 < q.reason ∨ q.age < -1 ∨ q.owner < -1
      · rw [if_pos e3] at h2; omega
      · rw [if_neg (show ¬ ((lvg q).reason < 0 ∨ 10 < (lvg q).reason ∨ (lvg q).age < -1 ∨ (lvg q).owner < -1) from e3), if_neg (fun h => by simp [lvg] at h)]
theorem qu_take {g : List Pg} {l : List Acct} {s : Int} {k : Nat} (h : quP g l s) : quP (takeP g k) l s := by
  obtain ⟨hc, ho⟩ := errA_ok h.1
  refine ⟨?_, h.2⟩
  have h1 := h.1
  unfold pchk at h1 ⊢
  rw [if_pos hc] at h1 ⊢
  rw [fE_zero] at h1 ⊢
  intro i hi
  rw [takeP_len] at hi
  have h2 := h1 i hi
  unfold errA at h2 ⊢
  rw [dif_pos hi] at h2
  rw [dif_pos (by rwa [takeP_len]), takeP_at hi, prev_take]
  by_cases hk : k = i
  · rw [if_pos hk]; exact pgE_lv h2
  · rw [if_neg hk]; exact h2
noncomputable def lvIn (l : List Acct) (x : Int) (q : Pg) : Int := if q.leaving = true ∧ insP l q.account x then 1 else 0
theorem lvIn_in (l : List Acct) (x : Int) (q : Pg) : 0 ≤ lvIn l x q ∧ lvIn l x q ≤ 1 := by unfold lvIn; split <;> omega
theorem insN_congr {l : List Acct} {v w : Nat → Int} {x : Int} : ∀ n : Nat, (∀ c, c < n → v c = w c) → insN l v x n = insN l w x n
  | 0, _ => rfl
  | n + 1, h => by rw [insN_s, insN_s, insN_congr n (fun c hc => h c (by omega)), h n (by omega)]
theorem insN_add {l : List Acct} {v w : Nat → Int} {x : Int} : ∀ n : Nat, insN l (fun c => v c + w c) x n = insN l v x n + insN l w x n
  | 0 => rfl
  | n + 1 => by
    rw [insN_s, insN_s, insN_s, insN_add n]
    split <;> omega
theorem insN_none {l : List Acct} {v : Nat → Int} {x : Int} : ∀ n : Nat, (∀ c, c < n → v c = 0) → insN l v x n = 0
  | 0, _ => rfl
  | n + 1, h => by
    rw [insN_s, insN_none n (fun c hc => h c (by omega)), h n (by omega)]
    split <;> rfl
theorem insN_one {l : List Acct} {q : Pg} {x : Int} : ∀ n : Nat, insN l (fun c => isLv q c) x n = if q.leaving = true ∧ 0 ≤ q.account ∧ q.account < n ∧ x ∈ pathG l 8 q.account then 1 else 0
  | 0 => by rw [if_neg (by omega)]; rfl
  | n + 1 => by
    rw [insN_s, insN_one n]
    unfold isLv
    by_cases hq : q.leaving = true ∧ q.account = (n : Int)
    · obtain ⟨h1, h2⟩ := hq
      rw [if_neg (show ¬ (q.leaving = true ∧ 0 ≤ q.account ∧ q.account < (n : Int) ∧ x ∈ pathG l 8 q.account) from fun h => by omega), if_pos (show q.leaving = true ∧ q.account = (n : Int) from ⟨h1, h2⟩), h2]
      by_cases hx : x ∈ pathG l 8 (n : Int)
      · rw [if_pos hx, if_pos ⟨h1, by omega, by omega, hx⟩]; rfl
      · rw [if_neg hx, if_neg (fun h => hx h.2.2.2)]; rfl
    · rw [if_neg hq]
      rw [show (if x ∈ pathG l 8 (n : Int) then (0 : Int) else 0) = 0 by split <;> rfl, Int.add_zero]
      by_cases hz : q.leaving = true ∧ 0 ≤ q.account ∧ q.account < n ∧ x ∈ pathG l 8 q.account
      · rw [if_pos hz, if_pos ⟨hz.1, hz.2.1, by omega, hz.2.2.2⟩]
      · rw [if_neg hz, if_neg (fun h => hz ⟨h.1, h.2.1, by have h1 := h.1; have : q.account ≠ n := fun h2 => hq ⟨h1, h2⟩; omega, h.2.2.2⟩)]
theorem ins_one {l : List Acct} {q : Pg} {x : Int} (hc : chkF l = 0) (hx : 0 ≤ x) : insN l (fun c => isLv q c) x l.length = lvIn l x q := by
  rw [insN_one]
  unfold lvIn
  congr 1
  refine propext (and_congr_right fun _ => ?_)
  unfold insP
  constructor
  · rintro ⟨h1, h2, h3⟩
    have hp : isP l q.account := ⟨hc, h1, h2⟩
    exact ⟨hp, .inr (by rw [pathF_is hp]; exact h3)⟩
  · rintro ⟨hp, h⟩
    rw [pathF_is hp] at h
    exact ⟨hp.2.1, hp.2.2, h.resolve_left (by omega)⟩
theorem ins_pages {l : List Acct} {g : List Pg} {x : Int} (hc : chkF l = 0) (hx : 0 ≤ x) : ∀ m, m ≤ g.length → insN l (fun c => cntA g c m) x l.length = cG (lvIn l x) g m
  | 0, _ => insN_none _ fun c _ => rfl
  | m + 1, h => by
    have hm : m < g.length := by omega
    have e : (fun (c : Nat) => cntA g c (m + 1)) = fun (c : Nat) => cntA g c m + isLv g[m] c := by funext c; exact cntA_s hm
    rw [e, insN_add, ins_pages hc hx m (by omega), ins_one hc hx, cG_s hm]
theorem ins_lv {l : List Acct} {g : List Pg} {x : Int} (hc : chkF l = 0) (hx : 0 ≤ x) : insF l (vF (lvL l g)) x = cG (lvIn l x) g g.length := by
  unfold insF
  rw [← ins_pages hc hx g.length (Nat.le_refl _)]
  refine insN_congr _ fun c h => ?_
  unfold vF
  rw [List.getD_eq_getElem?_getD, List.getElem?_eq_getElem (by rw [lvL_len]; exact h)]
  exact lvT_at (n := l.length) (by rw [lvT_len]; exact h)
theorem nxt_zero {g : List Pg} {l : List Acct} {s : Int} {kn : Bool} {k : Int} (hk : nxtF g l s kn = k) (h0 : 0 ≤ k) : quP g l s ∧ k.toNat < g.length ∧ ∀ h : k.toNat < g.length, rsn l (lvL l g) s kn g[k.toNat] = 0 := by
  unfold nxtF at hk
  split at hk
  · rename_i hq
    have hin := nxS_in l (lvL l g) s kn g g.length
    have hsp := nxS_spec (l := l) (v := lvL l g) (s := s) (kn := kn) (p := g) g.length (Nat.le_refl _)
    generalize nxS l (lvL l g) s kn g g.length = b at *
    obtain ⟨b, c⟩ := b
    unfold nxtV at hk
    dsimp only at hk hin hsp
    refine ⟨hq, by split at hk <;> omega, fun h => ?_⟩
    split at hk
    · subst hk
      rcases hsp.1 with ⟨h5, _⟩ | ⟨_, h6, _⟩
      · omega
      · exact (h6 h).1
    · subst hk
      rcases hsp.2 with ⟨h5, _⟩ | ⟨_, h6, _⟩
      · omega
      · exact h6 h
  · omega
theorem nxt_neg {g : List Pg} {l : List Acct} {s : Int} {kn : Bool} (h : ¬ 0 ≤ nxtF g l s kn) : nxtF g l s kn = -1 := by
  unfold nxtF at h ⊢
  split at h
  · rename_i hq
    rw [if_pos hq]
    have := nxS_in l (lvL l g) s kn g g.length
    unfold nxtV at h ⊢
    split at h
    · omega
    · rename_i h2; rw [if_neg h2]; omega
  · rename_i hq; rw [if_neg hq]
def lv1 (q : Pg) : Int := if q.leaving = true then 1 else 0
theorem lv1_in (q : Pg) : 0 ≤ lv1 q ∧ lv1 q ≤ 1 := by unfold lv1; split <;> omega
def onP (l : List Acct) (s a x : Int) : Prop := x ≤ 0 ∨ (x < l.length ∧ x ∈ pathG l 8 a ∧ s ≤ x)
theorem take_law {g : List Pg} {l : List Acct} {s : Int} {kn : Bool} {k : Int} (hP : g.length ≤ 1000000) (hk : nxtF g l s kn = k) (h0 : 0 ≤ k) (hl : k.toNat < g.length) :
    g[k.toNat].leaving = false ∧ g[k.toNat].reason = 0 ∧ useF (takeP g k.toNat) l s kn = useF g l s kn + 1 ∧ cG lv1 (takeP g k.toNat) g.length = cG lv1 g g.length + 1 ∧
    onP l s g[k.toNat].account g[k.toNat].account ∧
    (∀ x, onP l s g[k.toNat].account x → 0 < x → x ≠ s → onP l s g[k.toNat].account (pa l x.toNat) ∧ pa l x.toNat < x ∧ mn l x.toNat ≤ us l x.toNat - cG (lvIn l x) (takeP g k.toNat) g.length) := by
  obtain ⟨hq, _, hz⟩ := nxt_zero hk h0
  have hz := hz hl
  obtain ⟨r1, r2, r3, r4, r5, r6⟩ := rsn_zero hz
  have hc := (errA_ok hq.1).1
  have hv := val_lv (p := g) hc hP
  obtain ⟨h8, ht, _⟩ := chk_ok hc
  have hlv : g[k.toNat].leaving = false := by simpa using r3
  have hacc := ((errA_ok hq.1).2 k.toNat hl).2.1
  refine ⟨hlv, r6, ?_, ?_, ?_, ?_⟩
  · have hq2 := qu_take (k := k.toNat) hq
    rw [useF, if_pos hq2, useF, if_pos hq, takeP_len]
    have e : usB l (lvL l (takeP g k.toNat)) s kn = usB l (lvL l g) s kn := by funext q; rw [usB_is, usB_is]
    rw [e, cG_take hl _ (Nat.le_refl _), if_pos hl, usB_is, usB_is, if_pos ⟨rfl, r1, r2⟩, if_neg (fun h => r3 h.1)]
    omega
  · rw [cG_take hl _ (Nat.le_refl _), if_pos hl]
    unfold lv1
    rw [if_pos (show (lvg g[k.toNat]).leaving = true from rfl), if_neg r3]
    omega
  · unfold onP
    by_cases ha : g[k.toNat].account ≤ 0
    · exact .inl ha
    · have hp : isP l g[k.toNat].account := ⟨hc, by omega, hacc.2⟩
      refine .inr ⟨hacc.2, path_self hp, ?_⟩
      by_cases hs : 0 ≤ s
      · have hi : insP l g[k.toNat].account s := Classical.byContradiction fun h => r1 ⟨hs, .inr h⟩
        have := hi.2.resolve_left (by omega)
        rw [pathF_is hp] at this
        exact (path_range hp this).2.2
      · omega
  · intro x hx hx0 hxs
    obtain ⟨hxl, hxm, hsx⟩ := hx.resolve_left (by omega)
    have ha0 : 0 ≤ g[k.toNat].account := Classical.byContradiction fun h => by
      have : pathG l 8 g[k.toNat].account = [] := by rw [show pathG l 8 g[k.toNat].account = pathG l (7 + 1) g[k.toNat].account from rfl, pathG, if_neg h]
      rw [this] at hxm; simp at hxm
    have hp : isP l g[k.toNat].account := ⟨hc, ha0, hacc.2⟩
    have hpl := pa_lt ht (a := x) (by omega)
    have hscope : s = -1 ∨ s ∈ pathG l 8 g[k.toNat].account := by
      by_cases hs : 0 ≤ s
      · have hi : insP l g[k.toNat].account s := Classical.byContradiction fun h => r1 ⟨hs, .inr h⟩
        have := hi.2.resolve_left (by omega)
        rw [pathF_is hp] at this
        exact .inr this
      · have := hq.2; exact .inl (by omega)
    refine ⟨?_, hpl.2, ?_⟩
    · by_cases hpos : pa l x.toNat ≤ 0
      · exact .inl hpos
      · have hm := pathF_up hp (by rw [pathF_is hp]; exact hxm) (by omega)
        rw [pathF_is hp] at hm
        refine .inr ⟨by omega, hm, ?_⟩
        rcases hscope with h | h
        · omega
        · exact pathG_gap ht 8 _ hacc.2 x hxm s h (by omega)
    · have hng : ¬ stuckP l (lvL l g) g[k.toNat].account s false := fun h => r5 ⟨ha0, .inr h⟩
      have hgt : ¬ us l x.toNat - insF l (vF (lvL l g)) x ≤ flr l false x.toNat := fun h => hng ⟨x, hxm, hx0, by omega, h⟩
      rw [ins_lv hc (by omega)] at hgt
      simp only [flr, Bool.false_eq_true, if_false] at hgt
      rw [cG_take hl _ (Nat.le_refl _), if_pos hl]
      have h1 := lvIn_in l x (lvg g[k.toNat])
      have h2 := lvIn_in l x g[k.toNat]
      omega
end Go.Proofs.Ytfdfmbmhefckaaa
end
section
/- Reclaim plans: the law ReclaimplanFloors, its walk. -/
set_option linter.unusedSimpArgs false
set_option linter.unusedVariables false
namespace Go.Proofs.Ytfdfmbmhefckaaa
open Go.AM Classical
set_option maxRecDepth 100000
set_option maxHeartbeats 4000000
theorem useF_in (g : List Pg) (l : List Acct) (s : Int) (kn : Bool) : 0 ≤ useF g l s kn ∧ useF g l s kn ≤ g.length := by
  unfold useF
  split
  · exact cG_in (usB_in l (lvL l g) s kn) g g.length
  · omega
theorem take_cells {g : List Pg} {k : Nat} (hk : k < g.length) : List.take (k * 7 + 6) (g.flatMap Pg.cells) ++ [.bool true] ++ List.drop (k * 7 + 6 + 1) (g.flatMap Pg.cells) = (takeP g k).flatMap Pg.cells := by
  have h1 : takeP g k = g.set k (lvg g[k]) := by unfold takeP; rw [dif_pos hk]
  rw [h1]
  exact fm_st (f := Pg.cells) (l := g) (i := k) (j := 6) (d := .bool true) (b := lvg g[k]) Pg.cells_len hk (by omega) rfl
theorem floors_l (p : List Pg) (l : List Acct) (hL : l.length ≤ 9223372036854775807) (s : Int) (kn : Bool) : PCon Try.prog 10 [csD p l s kn] (.bool true) := by
  refine A10p (by simp [A10]) ?_
  simp only [A10, argEnv]
  have c0 := lfew_c p l s kn
  have e0 : csD p l s kn = .agg [pgs p, accs l, .int .i64 s, .bool kn] := rfl
  rw [e0]
  have ck := rcheck_c l hL
  by_cases hf : p.length ≤ 300 ∧ l.length ≤ 40
  · rw [decide_eq_true hf] at c0
    by_cases hch : chkF l = 0
    · rw [hch] at ck
      have cU := Useful_c p l hL (by omega) s kn
      have hpl := pgs_len p
      have hsp := pgs_scal p
      have hal := accs_len l
      obtain ⟨h8, ht, ha, _⟩ := chk_ok hch
      repeat' (first | (with_reducible first | refine W_seq ?_ | refine then_n ?_ | refine W_block ?_ | refine blk_n ?_ | refine blk_r ?_ | refine blk_e ?_ | refine W_skip ?_ | refine W_ret ?_ | refine then_r ?_ | refine W_exit ?_ | refine then_e ?_) | (refine blk_j (by decide) ?_) | ((with_reducible refine s_reg ?_); intro K hK) | ((with_reducible refine k_nil ?_); (with_reducible apply s_nil hK); (· exact nmX); clear hK; clear K) | ((with_reducible refine k_cond ?_); (first | ((with_reducible apply s_condT); (· rfl); (· exact nmX)) | ((with_reducible apply s_condF); (· rfl); (· exact nmX)) | ((with_reducible apply s_condS); (· rfl); (· exact nmX); (· exact nmX)))) | ((with_reducible refine k_guard ?_); (first | (refine s_gt rfl ?_) | (refine s_gf1 rfl ?_) | (refine s_gfn rfl ?_) | (refine s_gx1 rfl ?_) | (refine s_gxn rfl ?_) | (refine s_gs rfl ?_))) | ((with_reducible refine k_mv ?_); (refine s_mv rfl ?_)) | ((with_reducible refine k_pick ?_); (first | (refine s_pickT rfl rfl ?_) | (refine s_pickF rfl rfl ?_))) | ((with_reducible refine k_not ?_); (refine s_not rfl (by first | exact Bool.not_true | exact Bool.not_false | rfl) ?_)) | ((with_reducible refine k_neq ?_); (first | (refine s_neq rfl rfl ?_) | (refine s_strNe rfl rfl ?_))) | ((with_reducible refine k_load ?_); (first | ((with_reducible apply s_loadV); (· rfl)) | ((with_reducible apply s_loadP); (· rfl); (· (exact hpX))))) | ((with_reducible refine k_loadA ?_); (first | ((with_reducible apply s_loadAV); (· rfl); (· (first | exact Nat.le_of_ble_eq_true rfl | decide | omega | (simp; done) | (simp; omega) | skip))) | ((with_reducible apply s_loadAP); (· rfl); (· (exact hpX)); (· (first | exact Nat.le_of_ble_eq_true rfl | decide | omega | (simp; done) | (simp; omega) | skip))))) | ((with_reducible refine k_faddr ?_); (first | ((with_reducible apply s_faddrV); (· rfl); (· rfl)) | ((with_reducible apply s_faddrP); (· rfl); (· rfl)))) | ((with_reducible refine k_box (dst := some 1) ?_); ((with_reducible apply s_box); (· rfl); (· rfl); intro k1 hk1; (try simp only [upd_none] at hk1))) | ((with_reducible refine k_buildS (dst := some 24) ?_); ((with_reducible apply s_buildS); (· rfl); (· (exact ⟨rfl, by decide⟩)); (· (first | (simp only [fillB, rep, splice, List.reduceReplicate, List.flatten_cons, List.flatten_nil, List.cons_append, List.nil_append, List.append_nil, List.length_cons, List.length_nil, Nat.reduceAdd, Nat.reduceMul, Nat.reduceLeDiff, Nat.reduceEqDiff, eq_self, Nat.le_refl, Nat.zero_add, and_self, and_true, true_and, if_true, List.take_zero, List.take_succ_cons, List.drop_zero, List.drop_succ_cons, List.drop_nil, List.take_nil]; rfl) | rfl)); intro k24 hk24; (try simp only [upd_none] at hk24))) | ((with_reducible refine k_append (dst := some 27) ?_); ((with_reducible apply s_app); (· rfl); (· rfl); (· first | assumption | exact SlOwn.nil | exact SlOwn.emp | exact SlOwn.sl upd_self rfl | ((repeat' (first | assumption | (with_reducible apply SlOwn.upd) | (simp only [upd_none]; assumption))); done) | ((apply SlOwn.sl); (· (exact hpX)); (· first | rfl | assumption))); (· rfl); (· first | exact srcD_sl upd_self rfl | (exact srcD_vs (by first | assumption | simp)) | ((apply srcD_sl); (· (exact hpX)); (· rfl))); (· exact ⟨by first | rfl | assumption | simp, by decide⟩); (· first | (rw [room_n]; omega) | skip); intro da27 ha27 hso27 hoth27)) | ((with_reducible refine k_callF ?_); (first | ((with_reducible apply s_call1); (· rfl)) | ((with_reducible apply s_calln); (· rfl)))) | ((with_reducible refine k_con ?_); (first | ((with_reducible apply con_val (awake_c)); (· (repeat (first | exact All2.nil | (apply All2.cons; (· first | exact Rd_cs | exact rdX))))); (· rfl); (· exact fun _ => rfl)) | ((with_reducible apply con_val (c0)); (· (repeat (first | exact All2.nil | (apply All2.cons; (· first | exact Rd_cs | exact rdX))))); (· rfl); (· exact fun _ => rfl)) | ((with_reducible apply con_val (ck)); (· (repeat (first | exact All2.nil | (apply All2.cons; (· first | exact Rd_cs | exact rdX))))); (· rfl); (· exact fun _ => rfl)))) | ((with_reducible refine k_br ?_); (first | (with_reducible first | refine Br_dec ?_ | refine Br_not ?_ | refine Br_eqF ?_ | refine Br_and ?_ | refine Br_or ?_ | refine Br_neg ?_ | refine Br_band ?_ | refine Br_bor ?_ | refine Br_beq ?_) | (refine Br_t (by first | omega | assumption | rfl) ?_) | (refine Br_f (by first | omega | assumption | decide) ?_) | (with_reducible apply Br_sb <;> intro hbr <;> (first | subst hbr | simp only [hbr] | skip)) | (with_reducible apply Br_s <;> intro hbr))) | (with_reducible refine WN_succ ?_) | ((first | (with_reducible apply q_eqI) | (with_reducible apply q_eqN)); (first | exact nuI | exact nuN)) | ((first | (with_reducible apply q_eqL) | (with_reducible apply q_eqO)); (first | exact liL | exact liO)))
      all_goals first | (exfalso; omega) | skip
      rw [List.nil_append, Nat.zero_add] at hso27
      have hk1' : ha27 k1 = some [pgs p, accs l, .int .i64 s, .bool kn] := hoth27 k1 _ (by rw [upd_ne (fun h => hk24.1 h.symm), upd_self]) (fun sz off n h => by injection h with h; exact hk24.1 h)
      repeat' (first | (with_reducible first | refine W_seq ?_ | refine then_n ?_ | refine W_block ?_ | refine blk_n ?_ | refine blk_r ?_ | refine blk_e ?_ | refine W_skip ?_ | refine W_ret ?_ | refine then_r ?_ | refine W_exit ?_ | refine then_e ?_) | (refine blk_j (by decide) ?_) | ((with_reducible refine s_reg ?_); intro K hK) | ((with_reducible refine k_nil ?_); (with_reducible apply s_nil hK); (· exact nmX); clear hK; clear K) | ((with_reducible refine k_cond ?_); (first | ((with_reducible apply s_condT); (· rfl); (· exact nmX)) | ((with_reducible apply s_condF); (· rfl); (· exact nmX)) | ((with_reducible apply s_condS); (· rfl); (· exact nmX); (· exact nmX)))) | ((with_reducible refine k_guard ?_); (first | (refine s_gt rfl ?_) | (refine s_gf1 rfl ?_) | (refine s_gfn rfl ?_) | (refine s_gx1 rfl ?_) | (refine s_gxn rfl ?_) | (refine s_gs rfl ?_))) | ((with_reducible refine k_mv ?_); (refine s_mv rfl ?_)) | ((with_reducible refine k_len ?_); (first | (refine s_len rfl rfl ?_) | ((with_reducible apply s_len); (· rfl); (· exact SlOwn.len (by assumption))))) | ((with_reducible refine k_load ?_); (first | ((with_reducible apply s_loadV); (· rfl)) | ((with_reducible apply s_loadP); (· rfl); (· (exact hpX))))) | ((with_reducible refine k_add ?_); ((with_reducible apply s_add); (· rfl); (· rfl))) | ((with_reducible refine k_faddr ?_); (first | ((with_reducible apply s_faddrV); (· rfl); (· rfl)) | ((with_reducible apply s_faddrP); (· rfl); (· rfl)))) | ((with_reducible refine k_callF ?_); (first | ((with_reducible apply s_call1); (· rfl)) | ((with_reducible apply s_calln); (· rfl)))) | ((with_reducible refine k_con ?_); (first | ((with_reducible apply con_val (cU)); (· (exact agX)); (· rfl); (· exact fun _ => rfl)))) | ((with_reducible refine k_br ?_); (first | (with_reducible first | refine Br_dec ?_ | refine Br_not ?_ | refine Br_eqF ?_ | refine Br_and ?_ | refine Br_or ?_ | refine Br_neg ?_ | refine Br_band ?_ | refine Br_bor ?_ | refine Br_beq ?_) | (refine Br_t (by first | omega | assumption | rfl) ?_) | (refine Br_f (by first | omega | assumption | decide) ?_) | (with_reducible apply Br_sb <;> intro hbr <;> (first | subst hbr | simp only [hbr] | skip)) | (with_reducible apply Br_s <;> intro hbr))) | (with_reducible refine WN_succ ?_) | ((first | (with_reducible apply q_eqI) | (with_reducible apply q_eqN)); (first | exact nuI | exact nuN)) | ((first | (with_reducible apply q_eqL) | (with_reducible apply q_eqO)); (first | exact liL | exact liO)))
      refine W_for (p.length + 1) (fun t st => ∃ h' g d, st = ⟨[(1, .pt k1 0), (3, d), (4, .int .i64 (useF g l s kn)), (38, .int .i64 (p.length + 1)), (39, .int .i64 t)], h'⟩ ∧ h' k1 = some [pgs p, accs l, .int .i64 s, .bool kn] ∧ SlOwn h' d 7 (g.flatMap Pg.cells) p.length ∧ g.length = p.length ∧ (t : Int) ≤ cG lv1 g p.length) ⟨_, p, _, rfl, hk1', hso27, rfl, (cG_in lv1_in p p.length).1⟩ ?_ ?_
      · clear hso27 hoth27 hk1' cU
        rintro t e' h' hi ⟨h1, g, d, he, hk, ho, hg, hlv⟩
        cases he
        have cN := Next_c g l hL (by omega) s kn
        have sg := pgs_scal g
        have hgl := pgs_len g
        simp only [pgs, hg] at cN hgl
        by_cases hn : 0 ≤ nxtF g l s kn
        · obtain ⟨hq, hkl, _⟩ := nxt_zero rfl hn
          obtain ⟨w1, w2, w3, w4, w5, w6⟩ := take_law (k := nxtF g l s kn) (by omega) rfl hn hkl
          have g3 := pg3 hkl
          have g1 : ((takeP g (nxtF g l s kn).toNat).flatMap Pg.cells)[(nxtF g l s kn).toNat * 7 + 1]? = some (.int .i64 g[(nxtF g l s kn).toNat].account) := by
            rw [pg1 (by rw [takeP_len]; exact hkl), takeP_at hkl, if_pos rfl]; rfl
          have g6 := pg6 hkl
          have hst := take_cells hkl
          have cV := Useful_c (takeP g (nxtF g l s kn).toNat) l hL (by rw [takeP_len]; omega) s kn
          have hui := useF_in g l s kn
          have hgl2 := takeP_len g (nxtF g l s kn).toNat
          rw [w3] at cV
          rw [w1] at g6
          rw [w2] at g3
          have hgl3 := pgs_len (takeP g (nxtF g l s kn).toNat)
          have sg2 := pgs_scal (takeP g (nxtF g l s kn).toNat)
          simp only [pgs] at cV
          rw [hgl2, hg] at cV hgl3
          rw [hg] at w4 w6
          obtain ⟨kg, rfl, hkg⟩ := ho.pos (by omega)
          have hne : k1 ≠ kg := fun h => by
            rw [h, hkg] at hk
            injection hk with hk
            have := congrArg List.length hk
            rw [hgl] at this
            simp at this
            omega
          generalize hk0 : nxtF g l s kn = k at *
          generalize hG : takeP g k.toNat = G at *
          generalize g[k.toNat].account = a at *
          rw [hg] at hkl
          have hw3 := w3
          generalize useF g l s kn = u at *
          repeat' (first | (with_reducible first | refine W_seq ?_ | refine then_n ?_ | refine W_block ?_ | refine blk_n ?_ | refine blk_r ?_ | refine blk_e ?_ | refine W_skip ?_ | refine W_ret ?_ | refine then_r ?_ | refine W_exit ?_ | refine then_e ?_) | (refine blk_j (by decide) ?_) | ((with_reducible refine s_reg ?_); intro K hK) | ((with_reducible refine k_nil ?_); (with_reducible apply s_nil hK); (· exact nmX); clear hK; clear K) | ((with_reducible refine k_cond ?_); (first | ((with_reducible apply s_condT); (· rfl); (· exact nmX)) | ((with_reducible apply s_condF); (· rfl); (· exact nmX)) | ((with_reducible apply s_condS); (· rfl); (· exact nmX); (· exact nmX)))) | ((with_reducible refine k_guard ?_); (first | (refine s_gt rfl ?_) | (refine s_gf1 rfl ?_) | (refine s_gfn rfl ?_) | (refine s_gx1 rfl ?_) | (refine s_gxn rfl ?_) | (refine s_gs rfl ?_))) | ((with_reducible refine k_mv ?_); (refine s_mv rfl ?_)) | ((with_reducible refine k_len ?_); (first | (refine s_len rfl rfl ?_) | ((with_reducible apply s_len); (· rfl); (· exact SlOwn.len (by assumption))))) | ((with_reducible refine k_pick ?_); (first | (refine s_pickT rfl rfl ?_) | (refine s_pickF rfl rfl ?_))) | ((with_reducible refine k_eql ?_); (first | (refine s_eql rfl rfl ?_) | (refine s_strEq rfl rfl ?_))) | ((with_reducible refine k_neq ?_); (first | (refine s_neq rfl rfl ?_) | (refine s_strNe rfl rfl ?_))) | ((with_reducible refine k_lss ?_); (refine s_lss rfl rfl ?_)) | ((with_reducible refine k_geq ?_); (refine s_geq rfl rfl ?_)) | ((with_reducible refine k_iaddr ?_); (first | ((with_reducible apply s_iaddrV); (· rfl); (· rfl); (· (first | omega | exact ⟨rfl, by omega⟩ | skip))) | ((with_reducible apply s_iaddrO); (· rfl); (· rfl); (· (first | omega | exact ⟨rfl, by omega⟩ | skip)); (· (exact hpX))) | ((with_reducible apply s_iaddrSO); (· rfl); (· assumption); (· rfl); (· (first | omega | exact ⟨rfl, by omega⟩ | skip)); (· (first | (simp (disch := omega) only [w64, wu8, wu16, wu32, wu64, tm_nn, td_nn, fd_nn, Int.reduceAdd, Int.reduceSub, Int.reduceMul, Int.reduceDiv, Int.reduceMod, Int.reduceNeg, Int.reduceToNat, Int.toNat_natCast, Int.toNat_zero, Int.zero_add, Int.add_zero, Int.one_mul, Int.reducePow, Nat.mul_one, Nat.zero_add, Nat.add_zero, Nat.zero_mul, Nat.reduceAdd, Nat.reduceMul, Nat.reduceSub, Nat.min_eq_left, IntKind.bits, Nat.sub_zero, g3, g6, hst, g1]; try rfl; done) | rfl)); intro ks hks))) | ((with_reducible refine k_load ?_); (first | ((with_reducible apply s_loadV); (· rfl)) | ((with_reducible apply s_loadP); (· rfl); (· (exact hpX))))) | ((with_reducible refine k_add ?_); ((with_reducible apply s_add); (· rfl); (· rfl))) | ((with_reducible refine k_store ?_); ((with_reducible apply s_store0); (· rfl); (· rfl); (· rfl); (· (exact hpX)); (· (exact ⟨rfl, by first | exact Nat.le_of_ble_eq_true rfl | omega | (simp [g3, g6, hst, g1]; omega)⟩)); (· ((first | (simp (disch := omega) only [upd_self, upd_ne, upd_upd, rep, splice, List.take_succ_cons, List.take_zero, List.drop_succ_cons, List.drop_zero, List.cons_append, List.nil_append, List.append_nil, List.length_cons, List.length_nil, List.reduceReplicate, List.flatten_cons, List.flatten_nil, Nat.reduceAdd, Nat.reduceMul, Nat.reduceSub, Nat.zero_add, Nat.add_zero, List.getElem?_cons_zero, List.getElem?_cons_succ, g3, g6, hst, g1]; try rfl; done) | rfl))); (· (first | exact upd_upd | rfl)))) | ((with_reducible refine k_faddr ?_); (first | ((with_reducible apply s_faddrV); (· rfl); (· rfl)) | ((with_reducible apply s_faddrP); (· rfl); (· rfl)))) | ((with_reducible refine k_callF ?_); (first | ((with_reducible apply s_call1); (· rfl)) | ((with_reducible apply s_calln); (· rfl)))) | ((with_reducible refine k_con ?_); (first | ((with_reducible apply con_val (cN)); (· (repeat (first | exact All2.nil | (apply All2.cons; (· first | exact Rd_int | exact Rd_bool | exact Rd_vs | exact Rd_nil | exact Rd_emp | exact Rd_vp | exact Rd_sl0 upd_self rfl rfl | exact Rd_fn0 | exact Rd_flat rfl | ((apply Rd_sl0); (· (exact hpX)); (· first | rfl | exact scal_i | exact scal_b | assumption); (· first | rfl | assumption | (simp [g3, g6, hst, g1]; done) | (simp [g3, g6, hst, g1]; omega))) | ((apply Rd_so); (· first | assumption | ((repeat' (first | assumption | (with_reducible apply SlOwn.upd) | (simp only [upd_none]; assumption))); done)); (· first | rfl | exact scal_i | exact scal_b | assumption))))))); (· rfl); (· exact fun _ => rfl)) | ((with_reducible apply con_val (cV)); (· (repeat (first | exact All2.nil | (apply All2.cons; (· first | exact Rd_int | exact Rd_bool | exact Rd_vs | exact Rd_nil | exact Rd_emp | exact Rd_vp | exact Rd_sl0 upd_self rfl rfl | exact Rd_fn0 | exact Rd_flat rfl | ((apply Rd_sl0); (· (exact hpX)); (· first | rfl | exact scal_i | exact scal_b | assumption); (· first | rfl | assumption | (simp [g3, g6, hst, g1]; done) | (simp [g3, g6, hst, g1]; omega))) | ((apply Rd_so); (· first | assumption | ((repeat' (first | assumption | (with_reducible apply SlOwn.upd) | (simp only [upd_none]; assumption))); done)); (· first | rfl | exact scal_i | exact scal_b | assumption))))))); (· rfl); (· exact fun _ => rfl)))) | ((with_reducible refine k_br ?_); (first | (with_reducible first | refine Br_dec ?_ | refine Br_not ?_ | refine Br_eqF ?_ | refine Br_and ?_ | refine Br_or ?_ | refine Br_neg ?_ | refine Br_band ?_ | refine Br_bor ?_ | refine Br_beq ?_) | (refine Br_t (by first | omega | assumption | rfl) ?_) | (refine Br_f (by first | omega | assumption | decide) ?_) | (with_reducible apply Br_sb <;> intro hbr <;> (first | subst hbr | simp only [hbr] | skip)) | (with_reducible apply Br_s <;> intro hbr))) | (with_reducible refine WN_succ ?_) | ((first | (with_reducible apply q_eqI) | (with_reducible apply q_eqN)); (first | (simp (disch := omega) only [w64, wu8, wu16, wu32, wu64, tm_nn, td_nn, fd_nn, Int.reduceAdd, Int.reduceSub, Int.reduceMul, Int.reduceDiv, Int.reduceMod, Int.reduceNeg, Int.reduceToNat, Int.toNat_natCast, Int.toNat_zero, Int.zero_add, Int.add_zero, Int.one_mul, Int.reducePow, Nat.mul_one, Nat.zero_add, Nat.add_zero, Nat.zero_mul, Nat.reduceAdd, Nat.reduceMul, Nat.reduceSub, Nat.min_eq_left, IntKind.bits, Nat.sub_zero, g3, g6, hst, g1]; try rfl; done) | rfl)) | ((first | (with_reducible apply q_eqL) | (with_reducible apply q_eqO)); (first | (simp (disch := omega) only [upd_self, upd_ne, upd_upd, rep, splice, List.take_succ_cons, List.take_zero, List.drop_succ_cons, List.drop_zero, List.cons_append, List.nil_append, List.append_nil, List.length_cons, List.length_nil, List.reduceReplicate, List.flatten_cons, List.flatten_nil, Nat.reduceAdd, Nat.reduceMul, Nat.reduceSub, Nat.zero_add, Nat.add_zero, List.getElem?_cons_zero, List.getElem?_cons_succ, g3, g6, hst, g1]; try rfl; done) | rfl)))
          all_goals first | (exfalso; omega) | skip
          clear g1 g3 g6 hst
          refine W_down a.toNat (fun m st => ∃ x h', st = ⟨[(1, .pt k1 0), (3, .sl kg 7 0 p.length), (4, .int .i64 (u + 1)), (6, .int .i64 x), (38, .int .i64 (p.length + 1)), (39, .int .i64 t)], h'⟩ ∧ h' k1 = some [pgs p, accs l, .int .i64 s, .bool kn] ∧ h' kg = some (G.flatMap Pg.cells) ∧ onP l s a x ∧ m = x.toNat) ⟨a, _, rfl, by rw [upd_ne hne]; exact hk, upd_self, w5, rfl⟩ ?_
          clear hk hkg ho cN cV
          rintro m e' h' ⟨x, h1, he, hk, hkg, hon, rfl⟩
          cases he
          by_cases hx : 0 < x ∧ x ≠ s
          · have hxl : x < l.length := (hon.resolve_left (by omega)).1
            obtain ⟨y1, y2, y3⟩ := w6 x hon hx.1 hx.2
            have hxn : x.toNat < l.length := by omega
            have hu := us_in ha.1 x.toNat
            have g1 := ac1 hxn
            have g0 := ac0 hxn
            have g2 := ac2 hxn
            rw [← us_at hxn] at g1
            rw [← pa_at hxn] at g0
            rw [← mn_at hxn] at g2
            clear w6
            generalize pa l x.toNat = y at *
            generalize us l x.toNat = U at *
            generalize mn l x.toNat = M at *
            obtain ⟨hx0, hxs⟩ := hx
            repeat' (first | (with_reducible first | refine W_seq ?_ | refine then_n ?_ | refine W_block ?_ | refine blk_n ?_ | refine blk_r ?_ | refine blk_e ?_ | refine W_skip ?_ | refine W_ret ?_ | refine then_r ?_ | refine W_exit ?_ | refine then_e ?_) | (refine blk_j (by decide) ?_) | ((with_reducible refine s_reg ?_); intro K hK) | ((with_reducible refine k_nil ?_); (with_reducible apply s_nil hK); (· exact nmX); clear hK; clear K) | ((with_reducible refine k_cond ?_); (first | ((with_reducible apply s_condT); (· rfl); (· exact nmX)) | ((with_reducible apply s_condF); (· rfl); (· exact nmX)) | ((with_reducible apply s_condS); (· rfl); (· exact nmX); (· exact nmX)))) | ((with_reducible refine k_guard ?_); (first | (refine s_gt rfl ?_) | (refine s_gf1 rfl ?_) | (refine s_gfn rfl ?_) | (refine s_gx1 rfl ?_) | (refine s_gxn rfl ?_) | (refine s_gs rfl ?_))) | ((with_reducible refine k_mv ?_); (refine s_mv rfl ?_)) | ((with_reducible refine k_len ?_); (first | (refine s_len rfl rfl ?_) | ((with_reducible apply s_len); (· rfl); (· exact SlOwn.len (by assumption))))) | ((with_reducible refine k_pick ?_); (first | (refine s_pickT rfl rfl ?_) | (refine s_pickF rfl rfl ?_))) | ((with_reducible refine k_neq ?_); (first | (refine s_neq rfl rfl ?_) | (refine s_strNe rfl rfl ?_))) | ((with_reducible refine k_lss ?_); (refine s_lss rfl rfl ?_)) | ((with_reducible refine k_gtr ?_); (refine s_gtr rfl rfl ?_)) | ((with_reducible refine k_iaddr ?_); (first | ((with_reducible apply s_iaddrV); (· rfl); (· rfl); (· (first | omega | exact ⟨rfl, by omega⟩ | skip))) | ((with_reducible apply s_iaddrO); (· rfl); (· rfl); (· (first | omega | exact ⟨rfl, by omega⟩ | skip)); (· (exact hpX))) | ((with_reducible apply s_iaddrSO); (· rfl); (· assumption); (· rfl); (· (first | omega | exact ⟨rfl, by omega⟩ | skip)); (· (first | (simp (disch := omega) only [w64, wu8, wu16, wu32, wu64, tm_nn, td_nn, fd_nn, Int.reduceAdd, Int.reduceSub, Int.reduceMul, Int.reduceDiv, Int.reduceMod, Int.reduceNeg, Int.reduceToNat, Int.toNat_natCast, Int.toNat_zero, Int.zero_add, Int.add_zero, Int.one_mul, Int.reducePow, Nat.mul_one, Nat.zero_add, Nat.add_zero, Nat.zero_mul, Nat.reduceAdd, Nat.reduceMul, Nat.reduceSub, Nat.min_eq_left, IntKind.bits, Nat.sub_zero, g0, g1, g2]; try rfl; done) | rfl)); intro ks hks))) | ((with_reducible refine k_load ?_); (first | ((with_reducible apply s_loadV); (· rfl)) | ((with_reducible apply s_loadP); (· rfl); (· (exact hpX))))) | ((with_reducible refine k_faddr ?_); (first | ((with_reducible apply s_faddrV); (· rfl); (· rfl)) | ((with_reducible apply s_faddrP); (· rfl); (· rfl)))) | ((with_reducible refine k_br ?_); (first | (with_reducible first | refine Br_dec ?_ | refine Br_not ?_ | refine Br_eqF ?_ | refine Br_and ?_ | refine Br_or ?_ | refine Br_neg ?_ | refine Br_band ?_ | refine Br_bor ?_ | refine Br_beq ?_) | (refine Br_t (by first | omega | assumption | rfl) ?_) | (refine Br_f (by first | omega | assumption | decide) ?_) | (with_reducible apply Br_sb <;> intro hbr <;> (first | subst hbr | simp only [hbr] | skip)) | (with_reducible apply Br_s <;> intro hbr))) | (with_reducible refine WN_succ ?_) | ((first | (with_reducible apply q_eqI) | (with_reducible apply q_eqN)); (first | (simp (disch := omega) only [w64, wu8, wu16, wu32, wu64, tm_nn, td_nn, fd_nn, Int.reduceAdd, Int.reduceSub, Int.reduceMul, Int.reduceDiv, Int.reduceMod, Int.reduceNeg, Int.reduceToNat, Int.toNat_natCast, Int.toNat_zero, Int.zero_add, Int.add_zero, Int.one_mul, Int.reducePow, Nat.mul_one, Nat.zero_add, Nat.add_zero, Nat.zero_mul, Nat.reduceAdd, Nat.reduceMul, Nat.reduceSub, Nat.min_eq_left, IntKind.bits, Nat.sub_zero, g0, g1, g2]; try rfl; done) | rfl)) | ((first | (with_reducible apply q_eqL) | (with_reducible apply q_eqO)); (first | (simp (disch := omega) only [upd_self, upd_ne, upd_upd, rep, splice, List.take_succ_cons, List.take_zero, List.drop_succ_cons, List.drop_zero, List.cons_append, List.nil_append, List.append_nil, List.length_cons, List.length_nil, List.reduceReplicate, List.flatten_cons, List.flatten_nil, Nat.reduceAdd, Nat.reduceMul, Nat.reduceSub, Nat.zero_add, Nat.add_zero, List.getElem?_cons_zero, List.getElem?_cons_succ, g0, g1, g2]; try rfl; done) | rfl)))
            all_goals first | (exfalso; omega) | skip
            refine W_for p.length (fun i st => ∃ h', st = ⟨[(1, .pt k1 0), (3, .sl kg 7 0 p.length), (4, .int .i64 (u + 1)), (6, .int .i64 x), (7, .int .i64 (U - cG (lvIn l x) G i)), (38, .int .i64 (p.length + 1)), (39, .int .i64 t), (120, .sl kg 7 0 p.length), (121, .int .i64 p.length), (122, .int .i64 i)], h'⟩ ∧ h' k1 = some [pgs p, accs l, .int .i64 s, .bool kn] ∧ h' kg = some (G.flatMap Pg.cells)) ⟨_, by rw [cG, Int.sub_zero]; rfl, hk, hkg⟩ ?_ ?_
            · clear hk hkg g0 g1 g2 y1 y2 y3
              rintro i e' h' hi2 ⟨h1, he, hk, hkg⟩
              cases he
              have hiG : i < G.length := by omega
              have hrow := pgr hiG
              have ci := rinside_c l hL G[i].account x
              have hb := cG_in (lvIn_in l x) G i
              have hst := cG_s (f := lvIn l x) hiG
              rw [hst]
              generalize cG (lvIn l x) G i = T at *
              unfold lvIn
              generalize insP l G[i].account x = Z at *
              clear hst
              generalize G[i] = q at *
              obtain ⟨fr, ac, ag, re, ow, nm, lv⟩ := q
              dsimp only at ci hrow ⊢
              cases lv
              all_goals
                repeat' (first | (with_reducible first | refine W_seq ?_ | refine then_n ?_ | refine W_block ?_ | refine blk_n ?_ | refine blk_r ?_ | refine blk_e ?_ | refine W_skip ?_ | refine W_ret ?_ | refine then_r ?_ | refine W_exit ?_ | refine then_e ?_) | (refine blk_j (by decide) ?_) | ((with_reducible refine s_reg ?_); intro K hK) | ((with_reducible refine k_nil ?_); (with_reducible apply s_nil hK); (· exact nmX); clear hK; clear K) | ((with_reducible refine k_cond ?_); (first | ((with_reducible apply s_condT); (· rfl); (· exact nmX)) | ((with_reducible apply s_condF); (· rfl); (· exact nmX)) | ((with_reducible apply s_condS); (· rfl); (· exact nmX); (· exact nmX)))) | ((with_reducible refine k_guard ?_); (first | (refine s_gt rfl ?_) | (refine s_gf1 rfl ?_) | (refine s_gfn rfl ?_) | (refine s_gx1 rfl ?_) | (refine s_gxn rfl ?_) | (refine s_gs rfl ?_))) | ((with_reducible refine k_mv ?_); (refine s_mv rfl ?_)) | ((with_reducible refine k_pick ?_); (first | (refine s_pickT rfl rfl ?_) | (refine s_pickF rfl rfl ?_))) | ((with_reducible refine k_lss ?_); (refine s_lss rfl rfl ?_)) | ((with_reducible refine k_iaddr ?_); (first | ((with_reducible apply s_iaddrV); (· rfl); (· rfl); (· (first | omega | exact ⟨rfl, by omega⟩ | skip))) | ((with_reducible apply s_iaddrO); (· rfl); (· rfl); (· (first | omega | exact ⟨rfl, by omega⟩ | skip)); (· (exact hpX))) | ((with_reducible apply s_iaddrSO); (· rfl); (· assumption); (· rfl); (· (first | omega | exact ⟨rfl, by omega⟩ | skip)); (· (first | (simp (disch := omega) only [w64, wu8, wu16, wu32, wu64, tm_nn, td_nn, fd_nn, Int.reduceAdd, Int.reduceSub, Int.reduceMul, Int.reduceDiv, Int.reduceMod, Int.reduceNeg, Int.reduceToNat, Int.toNat_natCast, Int.toNat_zero, Int.zero_add, Int.add_zero, Int.one_mul, Int.reducePow, Nat.mul_one, Nat.zero_add, Nat.add_zero, Nat.zero_mul, Nat.reduceAdd, Nat.reduceMul, Nat.reduceSub, Nat.min_eq_left, IntKind.bits, Nat.sub_zero, hrow]; try rfl; done) | rfl)); intro ks hks))) | ((with_reducible refine k_load ?_); (first | ((with_reducible apply s_loadV); (· rfl)) | ((with_reducible apply s_loadP); (· rfl); (· (exact hpX))))) | ((with_reducible refine k_loadA ?_); (first | ((with_reducible apply s_loadAV); (· rfl); (· (first | exact Nat.le_of_ble_eq_true rfl | decide | omega | (simp; done) | (simp; omega) | skip))) | ((with_reducible apply s_loadAP); (· rfl); (· (exact hpX)); (· (first | exact Nat.le_of_ble_eq_true rfl | decide | omega | (simp; done) | (simp; omega) | skip))))) | ((with_reducible refine k_add ?_); ((with_reducible apply s_add); (· rfl); (· rfl))) | ((with_reducible refine k_sub ?_); ((with_reducible apply s_sub); (· rfl); (· rfl))) | ((with_reducible refine k_store ?_); ((with_reducible apply s_store0); (· rfl); (· rfl); (· rfl); (· (exact hpX)); (· (exact ⟨rfl, by first | exact Nat.le_of_ble_eq_true rfl | omega | (simp [hrow]; omega)⟩)); (· ((first | (simp (disch := omega) only [upd_self, upd_ne, upd_upd, rep, splice, List.take_succ_cons, List.take_zero, List.drop_succ_cons, List.drop_zero, List.cons_append, List.nil_append, List.append_nil, List.length_cons, List.length_nil, List.reduceReplicate, List.flatten_cons, List.flatten_nil, Nat.reduceAdd, Nat.reduceMul, Nat.reduceSub, Nat.zero_add, Nat.add_zero, List.getElem?_cons_zero, List.getElem?_cons_succ, hrow]; try rfl; done) | rfl))); (· (first | exact upd_upd | rfl)))) | ((with_reducible refine k_faddr ?_); (first | ((with_reducible apply s_faddrV); (· rfl); (· rfl)) | ((with_reducible apply s_faddrP); (· rfl); (· rfl)))) | ((with_reducible refine k_alloc (dst := some 9) ?_); ((with_reducible apply s_alloc); intro k9 hk9; (try simp only [upd_none] at hk9))) | ((with_reducible refine k_callF ?_); (first | ((with_reducible apply s_call1); (· rfl)) | ((with_reducible apply s_calln); (· rfl)))) | ((with_reducible refine k_con ?_); (first | ((with_reducible apply con_valB (ci)); (· (repeat (first | exact All2.nil | (apply All2.cons; (· first | ((apply Rd_sl0); (· exact hpX); (· first | rfl | exact scal_i | exact scal_b | assumption); (· first | rfl | assumption | (simp [hrow]; done) | (simp [hrow]; omega))) | exact rdX)))))))) | ((with_reducible refine k_br ?_); (first | (with_reducible first | refine Br_dec ?_ | refine Br_not ?_ | refine Br_eqF ?_ | refine Br_and ?_ | refine Br_or ?_ | refine Br_neg ?_ | refine Br_band ?_ | refine Br_bor ?_ | refine Br_beq ?_) | (refine Br_t (by first | omega | assumption | rfl) ?_) | (refine Br_f (by first | omega | assumption | decide) ?_) | (with_reducible apply Br_sb <;> intro hbr <;> (first | subst hbr | simp only [hbr] | skip)) | (with_reducible apply Br_s <;> intro hbr))) | (with_reducible refine WN_succ ?_) | ((first | (with_reducible apply q_eqI) | (with_reducible apply q_eqN)); (first | (simp (disch := omega) only [w64, wu8, wu16, wu32, wu64, tm_nn, td_nn, fd_nn, Int.reduceAdd, Int.reduceSub, Int.reduceMul, Int.reduceDiv, Int.reduceMod, Int.reduceNeg, Int.reduceToNat, Int.toNat_natCast, Int.toNat_zero, Int.zero_add, Int.add_zero, Int.one_mul, Int.reducePow, Nat.mul_one, Nat.zero_add, Nat.add_zero, Nat.zero_mul, Nat.reduceAdd, Nat.reduceMul, Nat.reduceSub, Nat.min_eq_left, IntKind.bits, Nat.sub_zero, hrow]; try rfl; done) | rfl)) | ((first | (with_reducible apply q_eqL) | (with_reducible apply q_eqO)); (first | (simp (disch := omega) only [upd_self, upd_ne, upd_upd, rep, splice, List.take_succ_cons, List.take_zero, List.drop_succ_cons, List.drop_zero, List.cons_append, List.nil_append, List.append_nil, List.length_cons, List.length_nil, List.reduceReplicate, List.flatten_cons, List.flatten_nil, Nat.reduceAdd, Nat.reduceMul, Nat.reduceSub, Nat.zero_add, Nat.add_zero, List.getElem?_cons_zero, List.getElem?_cons_succ, hrow]; try rfl; done) | rfl)))
              all_goals first | (exfalso; omega) | skip
              all_goals first
                | refine ⟨_, by rw [if_neg (fun h => absurd h.1 (by decide)), Int.add_zero]; rfl, ?_, ?_⟩
                | refine ⟨_, by rw [if_pos ⟨rfl, by assumption⟩, ← Int.sub_sub]; rfl, ?_, ?_⟩
                | refine ⟨_, by rw [if_neg (fun h => absurd h.2 (by assumption)), Int.add_zero]; rfl, ?_, ?_⟩
              all_goals first
                | (rw [upd_ne (ne_key hk9 hk)]; exact hk)
                | (rw [upd_ne (ne_key hk9 hkg)]; exact hkg)
            · rintro e' h' ⟨h1, he, hk, hkg⟩
              cases he
              rw [hg] at hgl2
              repeat' (first | (with_reducible first | refine W_seq ?_ | refine then_n ?_ | refine W_block ?_ | refine blk_n ?_ | refine blk_r ?_ | refine blk_e ?_ | refine W_skip ?_ | refine W_ret ?_ | refine then_r ?_ | refine W_exit ?_ | refine then_e ?_) | (refine blk_j (by decide) ?_) | ((with_reducible refine s_reg ?_); intro K hK) | ((with_reducible refine k_nil ?_); (with_reducible apply s_nil hK); (· exact nmX); clear hK; clear K) | ((with_reducible refine k_cond ?_); (first | ((with_reducible apply s_condT); (· rfl); (· exact nmX)) | ((with_reducible apply s_condF); (· rfl); (· exact nmX)) | ((with_reducible apply s_condS); (· rfl); (· exact nmX); (· exact nmX)))) | ((with_reducible refine k_guard ?_); (first | (refine s_gt rfl ?_) | (refine s_gf1 rfl ?_) | (refine s_gfn rfl ?_) | (refine s_gx1 rfl ?_) | (refine s_gxn rfl ?_) | (refine s_gs rfl ?_))) | ((with_reducible refine k_mv ?_); (refine s_mv rfl ?_)) | ((with_reducible refine k_lss ?_); (refine s_lss rfl rfl ?_)) | ((with_reducible refine k_iaddr ?_); (first | ((with_reducible apply s_iaddrV); (· rfl); (· rfl); (· (first | omega | exact ⟨rfl, by omega⟩ | skip))) | ((with_reducible apply s_iaddrO); (· rfl); (· rfl); (· (first | omega | exact ⟨rfl, by omega⟩ | skip)); (· (exact hpX))) | ((with_reducible apply s_iaddrSO); (· rfl); (· assumption); (· rfl); (· (first | omega | exact ⟨rfl, by omega⟩ | skip)); (· (first | (simp (disch := omega) only [w64, wu8, wu16, wu32, wu64, tm_nn, td_nn, fd_nn, Int.reduceAdd, Int.reduceSub, Int.reduceMul, Int.reduceDiv, Int.reduceMod, Int.reduceNeg, Int.reduceToNat, Int.toNat_natCast, Int.toNat_zero, Int.zero_add, Int.add_zero, Int.one_mul, Int.reducePow, Nat.mul_one, Nat.zero_add, Nat.add_zero, Nat.zero_mul, Nat.reduceAdd, Nat.reduceMul, Nat.reduceSub, Nat.min_eq_left, IntKind.bits, Nat.sub_zero, g0, g1, g2]; try rfl; done) | rfl)); intro ks hks))) | ((with_reducible refine k_load ?_); (first | ((with_reducible apply s_loadV); (· rfl)) | ((with_reducible apply s_loadP); (· rfl); (· (exact hpX))))) | ((with_reducible refine k_faddr ?_); (first | ((with_reducible apply s_faddrV); (· rfl); (· rfl)) | ((with_reducible apply s_faddrP); (· rfl); (· rfl)))) | ((with_reducible refine k_br ?_); (first | (with_reducible first | refine Br_dec ?_ | refine Br_not ?_ | refine Br_eqF ?_ | refine Br_and ?_ | refine Br_or ?_ | refine Br_neg ?_ | refine Br_band ?_ | refine Br_bor ?_ | refine Br_beq ?_) | (refine Br_t (by first | omega | assumption | rfl) ?_) | (refine Br_f (by first | omega | assumption | decide) ?_) | (with_reducible apply Br_sb <;> intro hbr <;> (first | subst hbr | simp only [hbr] | skip)) | (with_reducible apply Br_s <;> intro hbr))) | (with_reducible refine WN_succ ?_) | ((first | (with_reducible apply q_eqI) | (with_reducible apply q_eqN)); (first | (simp (disch := omega) only [w64, wu8, wu16, wu32, wu64, tm_nn, td_nn, fd_nn, Int.reduceAdd, Int.reduceSub, Int.reduceMul, Int.reduceDiv, Int.reduceMod, Int.reduceNeg, Int.reduceToNat, Int.toNat_natCast, Int.toNat_zero, Int.zero_add, Int.add_zero, Int.one_mul, Int.reducePow, Nat.mul_one, Nat.zero_add, Nat.add_zero, Nat.zero_mul, Nat.reduceAdd, Nat.reduceMul, Nat.reduceSub, Nat.min_eq_left, IntKind.bits, Nat.sub_zero, g0, g1, g2]; try rfl; done) | rfl)) | ((first | (with_reducible apply q_eqL) | (with_reducible apply q_eqO)); (first | (simp (disch := omega) only [upd_self, upd_ne, upd_upd, rep, splice, List.take_succ_cons, List.take_zero, List.drop_succ_cons, List.drop_zero, List.cons_append, List.nil_append, List.append_nil, List.length_cons, List.length_nil, List.reduceReplicate, List.flatten_cons, List.flatten_nil, Nat.reduceAdd, Nat.reduceMul, Nat.reduceSub, Nat.zero_add, Nat.add_zero, List.getElem?_cons_zero, List.getElem?_cons_succ, g0, g1, g2]; try rfl; done) | rfl)))
              all_goals first | (exfalso; omega) | skip
              all_goals exact ⟨y.toNat, by omega, y, _, rfl, hk, hkg, y1, rfl⟩
          · repeat' (first | (with_reducible first | refine W_seq ?_ | refine then_n ?_ | refine W_block ?_ | refine blk_n ?_ | refine blk_r ?_ | refine blk_e ?_ | refine W_skip ?_ | refine W_ret ?_ | refine then_r ?_ | refine W_exit ?_ | refine then_e ?_) | (refine blk_j (by decide) ?_) | ((with_reducible refine s_reg ?_); intro K hK) | ((with_reducible refine k_nil ?_); (with_reducible apply s_nil hK); (· exact nmX); clear hK; clear K) | ((with_reducible refine k_cond ?_); (first | ((with_reducible apply s_condT); (· rfl); (· exact nmX)) | ((with_reducible apply s_condF); (· rfl); (· exact nmX)) | ((with_reducible apply s_condS); (· rfl); (· exact nmX); (· exact nmX)))) | ((with_reducible refine k_guard ?_); (first | (refine s_gt rfl ?_) | (refine s_gf1 rfl ?_) | (refine s_gfn rfl ?_) | (refine s_gx1 rfl ?_) | (refine s_gxn rfl ?_) | (refine s_gs rfl ?_))) | ((with_reducible refine k_mv ?_); (refine s_mv rfl ?_)) | ((with_reducible refine k_len ?_); (first | (refine s_len rfl rfl ?_) | ((with_reducible apply s_len); (· rfl); (· exact SlOwn.len (by assumption))))) | ((with_reducible refine k_pick ?_); (first | (refine s_pickT rfl rfl ?_) | (refine s_pickF rfl rfl ?_))) | ((with_reducible refine k_neq ?_); (first | (refine s_neq rfl rfl ?_) | (refine s_strNe rfl rfl ?_))) | ((with_reducible refine k_lss ?_); (refine s_lss rfl rfl ?_)) | ((with_reducible refine k_gtr ?_); (refine s_gtr rfl rfl ?_)) | ((with_reducible refine k_load ?_); (first | ((with_reducible apply s_loadV); (· rfl)) | ((with_reducible apply s_loadP); (· rfl); (· (exact hpX))))) | ((with_reducible refine k_add ?_); ((with_reducible apply s_add); (· rfl); (· rfl))) | ((with_reducible refine k_faddr ?_); (first | ((with_reducible apply s_faddrV); (· rfl); (· rfl)) | ((with_reducible apply s_faddrP); (· rfl); (· rfl)))) | ((with_reducible refine k_br ?_); (first | (with_reducible first | refine Br_dec ?_ | refine Br_not ?_ | refine Br_eqF ?_ | refine Br_and ?_ | refine Br_or ?_ | refine Br_neg ?_ | refine Br_band ?_ | refine Br_bor ?_ | refine Br_beq ?_) | (refine Br_t (by first | omega | assumption | rfl) ?_) | (refine Br_f (by first | omega | assumption | decide) ?_) | (with_reducible apply Br_sb <;> intro hbr <;> (first | subst hbr | simp only [hbr] | skip)) | (with_reducible apply Br_s <;> intro hbr))) | (with_reducible refine WN_succ ?_) | ((first | (with_reducible apply q_eqI) | (with_reducible apply q_eqN)); (first | exact nuI | exact nuN)) | ((first | (with_reducible apply q_eqL) | (with_reducible apply q_eqO)); (first | exact liL | exact liO)))
            all_goals first | (exfalso; omega) | skip
            all_goals exact ⟨_, G, _, by rw [hw3]; rfl, hk, SlOwn.sl hkg hgl3, by omega, by omega⟩
        · have hn1 := nxt_neg hn
          rw [hn1] at cN
          repeat' (first | (with_reducible first | refine W_seq ?_ | refine then_n ?_ | refine W_block ?_ | refine blk_n ?_ | refine blk_r ?_ | refine blk_e ?_ | refine W_skip ?_ | refine W_ret ?_ | refine then_r ?_ | refine W_exit ?_ | refine then_e ?_) | (refine blk_j (by decide) ?_) | ((with_reducible refine s_reg ?_); intro K hK) | ((with_reducible refine k_nil ?_); (with_reducible apply s_nil hK); (· exact nmX); clear hK; clear K) | ((with_reducible refine k_cond ?_); (first | ((with_reducible apply s_condT); (· rfl); (· exact nmX)) | ((with_reducible apply s_condF); (· rfl); (· exact nmX)) | ((with_reducible apply s_condS); (· rfl); (· exact nmX); (· exact nmX)))) | ((with_reducible refine k_guard ?_); (first | (refine s_gt rfl ?_) | (refine s_gf1 rfl ?_) | (refine s_gfn rfl ?_) | (refine s_gx1 rfl ?_) | (refine s_gxn rfl ?_) | (refine s_gs rfl ?_))) | ((with_reducible refine k_mv ?_); (refine s_mv rfl ?_)) | ((with_reducible refine k_eql ?_); (first | (refine s_eql rfl rfl ?_) | (refine s_strEq rfl rfl ?_))) | ((with_reducible refine k_lss ?_); (refine s_lss rfl rfl ?_)) | ((with_reducible refine k_load ?_); (first | ((with_reducible apply s_loadV); (· rfl)) | ((with_reducible apply s_loadP); (· rfl); (· (exact hpX))))) | ((with_reducible refine k_faddr ?_); (first | ((with_reducible apply s_faddrV); (· rfl); (· rfl)) | ((with_reducible apply s_faddrP); (· rfl); (· rfl)))) | ((with_reducible refine k_callF ?_); (first | ((with_reducible apply s_call1); (· rfl)) | ((with_reducible apply s_calln); (· rfl)))) | ((with_reducible refine k_con ?_); (first | ((with_reducible apply con_val (cN)); (· (exact agX)); (· rfl); (· exact fun _ => rfl)))) | ((with_reducible refine k_br ?_); (first | (with_reducible first | refine Br_dec ?_ | refine Br_not ?_ | refine Br_eqF ?_ | refine Br_and ?_ | refine Br_or ?_ | refine Br_neg ?_ | refine Br_band ?_ | refine Br_bor ?_ | refine Br_beq ?_) | (refine Br_t (by first | omega | assumption | rfl) ?_) | (refine Br_f (by first | omega | assumption | decide) ?_) | (with_reducible apply Br_sb <;> intro hbr <;> (first | subst hbr | simp only [hbr] | skip)) | (with_reducible apply Br_s <;> intro hbr))) | (with_reducible refine WN_succ ?_) | ((first | (with_reducible apply q_eqI) | (with_reducible apply q_eqN)); (first | exact nuI | exact nuN)) | ((first | (with_reducible apply q_eqL) | (with_reducible apply q_eqO)); (first | exact liL | exact liO)))
          all_goals first | (exfalso; omega) | (first | exact Fin_flat trivial rfl rfl | (refine Fin_tup trivial rfl ?_ (Nat.le_of_ble_eq_true rfl); (repeat (first | exact All2.nil | (apply All2.cons; (· first | exact exc_n | exact exc_e | exact exc_v rfl rfl | exact exc_o upd_self rfl rfl)))); done) | (refine Fin_own trivial rfl upd_self ?_ (Nat.le_of_ble_eq_true rfl); (repeat (first | exact All2.nil | (apply All2.cons; (· first | exact exc_n | exact exc_e | exact exc_v rfl rfl | exact exc_o upd_self rfl rfl)))); done) | exact Fin_nil trivial rfl | exact Fin_sl trivial rfl upd_self rfl rfl)
      · clear hso27 hoth27 hk1' cU
        rintro e' h' ⟨h1, g, d, he, hk, ho, hg, hlv⟩
        have := cG_in lv1_in g p.length
        exfalso; omega
    · generalize chkF l = e at *
      repeat' (first | (with_reducible first | refine W_seq ?_ | refine then_n ?_ | refine W_block ?_ | refine blk_n ?_ | refine blk_r ?_ | refine blk_e ?_ | refine W_skip ?_ | refine W_ret ?_ | refine then_r ?_ | refine W_exit ?_ | refine then_e ?_) | (refine blk_j (by decide) ?_) | ((with_reducible refine s_reg ?_); intro K hK) | ((with_reducible refine k_nil ?_); (with_reducible apply s_nil hK); (· exact nmX); clear hK; clear K) | ((with_reducible refine k_cond ?_); (first | ((with_reducible apply s_condT); (· rfl); (· exact nmX)) | ((with_reducible apply s_condF); (· rfl); (· exact nmX)) | ((with_reducible apply s_condS); (· rfl); (· exact nmX); (· exact nmX)))) | ((with_reducible refine k_guard ?_); (first | (refine s_gt rfl ?_) | (refine s_gf1 rfl ?_) | (refine s_gfn rfl ?_) | (refine s_gx1 rfl ?_) | (refine s_gxn rfl ?_) | (refine s_gs rfl ?_))) | ((with_reducible refine k_mv ?_); (refine s_mv rfl ?_)) | ((with_reducible refine k_pick ?_); (first | (refine s_pickT rfl rfl ?_) | (refine s_pickF rfl rfl ?_))) | ((with_reducible refine k_not ?_); (refine s_not rfl (by first | exact Bool.not_true | exact Bool.not_false | rfl) ?_)) | ((with_reducible refine k_neq ?_); (first | (refine s_neq rfl rfl ?_) | (refine s_strNe rfl rfl ?_))) | ((with_reducible refine k_load ?_); (first | ((with_reducible apply s_loadV); (· rfl)) | ((with_reducible apply s_loadP); (· rfl); (· (exact hpX))))) | ((with_reducible refine k_loadA ?_); (first | ((with_reducible apply s_loadAV); (· rfl); (· (first | exact Nat.le_of_ble_eq_true rfl | decide | omega | (simp; done) | (simp; omega) | skip))) | ((with_reducible apply s_loadAP); (· rfl); (· (exact hpX)); (· (first | exact Nat.le_of_ble_eq_true rfl | decide | omega | (simp; done) | (simp; omega) | skip))))) | ((with_reducible refine k_faddr ?_); (first | ((with_reducible apply s_faddrV); (· rfl); (· rfl)) | ((with_reducible apply s_faddrP); (· rfl); (· rfl)))) | ((with_reducible refine k_box (dst := some 1) ?_); ((with_reducible apply s_box); (· rfl); (· rfl); intro k1 hk1; (try simp only [upd_none] at hk1))) | ((with_reducible refine k_callF ?_); (first | ((with_reducible apply s_call1); (· rfl)) | ((with_reducible apply s_calln); (· rfl)))) | ((with_reducible refine k_con ?_); (first | ((with_reducible apply con_val (awake_c)); (· (repeat (first | exact All2.nil | (apply All2.cons; (· first | exact Rd_cs | exact rdX))))); (· rfl); (· exact fun _ => rfl)) | ((with_reducible apply con_val (c0)); (· (repeat (first | exact All2.nil | (apply All2.cons; (· first | exact Rd_cs | exact rdX))))); (· rfl); (· exact fun _ => rfl)) | ((with_reducible apply con_val (ck)); (· (repeat (first | exact All2.nil | (apply All2.cons; (· first | exact Rd_cs | exact rdX))))); (· rfl); (· exact fun _ => rfl)))) | ((with_reducible refine k_br ?_); (first | (with_reducible first | refine Br_dec ?_ | refine Br_not ?_ | refine Br_eqF ?_ | refine Br_and ?_ | refine Br_or ?_ | refine Br_neg ?_ | refine Br_band ?_ | refine Br_bor ?_ | refine Br_beq ?_) | (refine Br_t (by first | omega | assumption | rfl) ?_) | (refine Br_f (by first | omega | assumption | decide) ?_) | (with_reducible apply Br_sb <;> intro hbr <;> (first | subst hbr | simp only [hbr] | skip)) | (with_reducible apply Br_s <;> intro hbr))) | (with_reducible refine WN_succ ?_) | ((first | (with_reducible apply q_eqI) | (with_reducible apply q_eqN)); (first | exact nuI | exact nuN)) | ((first | (with_reducible apply q_eqL) | (with_reducible apply q_eqO)); (first | exact liL | exact liO)))
      all_goals first | (exfalso; omega) | (first | exact Fin_flat trivial rfl rfl | (refine Fin_tup trivial rfl ?_ (Nat.le_of_ble_eq_true rfl); (repeat (first | exact All2.nil | (apply All2.cons; (· first | exact exc_n | exact exc_e | exact exc_v rfl rfl | exact exc_o upd_self rfl rfl)))); done) | (refine Fin_own trivial rfl upd_self ?_ (Nat.le_of_ble_eq_true rfl); (repeat (first | exact All2.nil | (apply All2.cons; (· first | exact exc_n | exact exc_e | exact exc_v rfl rfl | exact exc_o upd_self rfl rfl)))); done) | exact Fin_nil trivial rfl | exact Fin_sl trivial rfl upd_self rfl rfl)
  · rw [decide_eq_false hf] at c0
    repeat' (first | (with_reducible first | refine W_seq ?_ | refine then_n ?_ | refine W_block ?_ | refine blk_n ?_ | refine blk_r ?_ | refine blk_e ?_ | refine W_skip ?_ | refine W_ret ?_ | refine then_r ?_ | refine W_exit ?_ | refine then_e ?_) | (refine blk_j (by decide) ?_) | ((with_reducible refine s_reg ?_); intro K hK) | ((with_reducible refine k_nil ?_); (with_reducible apply s_nil hK); (· exact nmX); clear hK; clear K) | ((with_reducible refine k_cond ?_); (first | ((with_reducible apply s_condT); (· rfl); (· exact nmX)) | ((with_reducible apply s_condF); (· rfl); (· exact nmX)) | ((with_reducible apply s_condS); (· rfl); (· exact nmX); (· exact nmX)))) | ((with_reducible refine k_guard ?_); (first | (refine s_gt rfl ?_) | (refine s_gf1 rfl ?_) | (refine s_gfn rfl ?_) | (refine s_gx1 rfl ?_) | (refine s_gxn rfl ?_) | (refine s_gs rfl ?_))) | ((with_reducible refine k_mv ?_); (refine s_mv rfl ?_)) | ((with_reducible refine k_pick ?_); (first | (refine s_pickT rfl rfl ?_) | (refine s_pickF rfl rfl ?_))) | ((with_reducible refine k_not ?_); (refine s_not rfl (by first | exact Bool.not_true | exact Bool.not_false | rfl) ?_)) | ((with_reducible refine k_neq ?_); (first | (refine s_neq rfl rfl ?_) | (refine s_strNe rfl rfl ?_))) | ((with_reducible refine k_load ?_); (first | ((with_reducible apply s_loadV); (· rfl)) | ((with_reducible apply s_loadP); (· rfl); (· (exact hpX))))) | ((with_reducible refine k_loadA ?_); (first | ((with_reducible apply s_loadAV); (· rfl); (· (first | exact Nat.le_of_ble_eq_true rfl | decide | omega | (simp; done) | (simp; omega) | skip))) | ((with_reducible apply s_loadAP); (· rfl); (· (exact hpX)); (· (first | exact Nat.le_of_ble_eq_true rfl | decide | omega | (simp; done) | (simp; omega) | skip))))) | ((with_reducible refine k_faddr ?_); (first | ((with_reducible apply s_faddrV); (· rfl); (· rfl)) | ((with_reducible apply s_faddrP); (· rfl); (· rfl)))) | ((with_reducible refine k_box (dst := some 1) ?_); ((with_reducible apply s_box); (· rfl); (· rfl); intro k1 hk1; (try simp only [upd_none] at hk1))) | ((with_reducible refine k_callF ?_); (first | ((with_reducible apply s_call1); (· rfl)) | ((with_reducible apply s_calln); (· rfl)))) | ((with_reducible refine k_con ?_); (first | ((with_reducible apply con_val (awake_c)); (· (repeat (first | exact All2.nil | (apply All2.cons; (· first | exact Rd_cs | exact rdX))))); (· rfl); (· exact fun _ => rfl)) | ((with_reducible apply con_val (c0)); (· (repeat (first | exact All2.nil | (apply All2.cons; (· first | exact Rd_cs | exact rdX))))); (· rfl); (· exact fun _ => rfl)))) | ((with_reducible refine k_br ?_); (first | (with_reducible first | refine Br_dec ?_ | refine Br_not ?_ | refine Br_eqF ?_ | refine Br_and ?_ | refine Br_or ?_ | refine Br_neg ?_ | refine Br_band ?_ | refine Br_bor ?_ | refine Br_beq ?_) | (refine Br_t (by first | omega | assumption | rfl) ?_) | (refine Br_f (by first | omega | assumption | decide) ?_) | (with_reducible apply Br_sb <;> intro hbr <;> (first | subst hbr | simp only [hbr] | skip)) | (with_reducible apply Br_s <;> intro hbr))) | (with_reducible refine WN_succ ?_) | ((first | (with_reducible apply q_eqI) | (with_reducible apply q_eqN)); (first | exact nuI | exact nuN)) | ((first | (with_reducible apply q_eqL) | (with_reducible apply q_eqO)); (first | exact liL | exact liO)))
    all_goals first | (exfalso; omega) | (first | exact Fin_flat trivial rfl rfl | (refine Fin_tup trivial rfl ?_ (Nat.le_of_ble_eq_true rfl); (repeat (first | exact All2.nil | (apply All2.cons; (· first | exact exc_n | exact exc_e | exact exc_v rfl rfl | exact exc_o upd_self rfl rfl)))); done) | (refine Fin_own trivial rfl upd_self ?_ (Nat.le_of_ble_eq_true rfl); (repeat (first | exact All2.nil | (apply All2.cons; (· first | exact exc_n | exact exc_e | exact exc_v rfl rfl | exact exc_o upd_self rfl rfl)))); done) | exact Fin_nil trivial rfl | exact Fin_sl trivial rfl upd_self rfl rfl)
theorem floors_t : ∀ dts, All2 (TypedA Try.prog) Try.f10.params.toList dts → PCon Try.prog 10 dts (.bool true) := by
  intro dts h
  rw [Try.params10] at h
  obtain ⟨a, rfl, ha⟩ := one_arg h
  obtain ⟨p, l, s, kn, rfl, hl⟩ := typed_case ha
  exact floors_l p l hl s kn
end Go.Proofs.Ytfdfmbmhefckaaa
end
