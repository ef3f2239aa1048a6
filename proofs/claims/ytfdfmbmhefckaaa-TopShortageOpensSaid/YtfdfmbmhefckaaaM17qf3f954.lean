import Derived.Test.YtfdfmbmhefckaaaR3q44a343
import Derived.Test.YtfdfmbmhefckaaaAmZ3q6691b6
import Derived.Test.YtfdfmbmhefckaaaA1qfde1b0
section
/- Reclaim plans: asking. -/
set_option linter.unusedSimpArgs false
set_option linter.unusedVariables false
namespace Go.Proofs.Ytfdfmbmhefckaaa
open Go.AM Classical
set_option maxRecDepth 100000
set_option maxHeartbeats 4000000
noncomputable def askE (p : List Pg) (l : List Acct) (s : Int) : Int := if pchk p l = 0 then (if -1 ≤ s ∧ s < l.length then 0 else 2) else pchk p l
theorem askE_ok {p : List Pg} {l : List Acct} {s : Int} : askE p l s = 0 ↔ quP p l s := by
  unfold askE quP
  by_cases h : pchk p l = 0
  · rw [if_pos h]
    by_cases h2 : -1 ≤ s ∧ s < l.length
    · rw [if_pos h2]; exact ⟨fun _ => ⟨h, h2⟩, fun _ => rfl⟩
    · rw [if_neg h2]; exact ⟨fun h => by omega, fun h => absurd h.2 h2⟩
  · rw [if_neg h]; exact ⟨fun h1 => absurd h1 h, fun h1 => absurd h1.1 h⟩
def QIn (h : Heap) (k : Nat) (p : List Pg) (l : List Acct) (s : Int) (kn : Bool) (i : Nat) : Prop :=
  ∃ d1 d2 d3, h k = some [pgs p, .int .i64 s, .bool kn, d1, d2, d3] ∧ SlOwn h d1 1 ((bl (inB l s) i).map .bool) i ∧ SlOwn h d2 1 ((bl (gdB l (lvL l p) s false) i).map .bool) i ∧ SlOwn h d3 1 ((bl (gdB l (lvL l p) s true) i).map .bool) i ∧
    Fr d1 k ∧ Fr d2 k ∧ Fr d3 k ∧ Dis d1 d2 ∧ Dis d1 d3 ∧ Dis d2 d3
theorem QIn.rd {h : Heap} {k : Nat} {p : List Pg} {l : List Acct} {s : Int} {kn : Bool} (hq : QIn h k p l s kn l.length) : Rd h (.pt k 0) (qV p l s kn) := by
  obtain ⟨d1, d2, d3, hk, h1, h2, h3, _⟩ := hq
  refine Rd_ptR hk ?_ (by simp [qC])
  exact All2.cons Rd_vs (All2.cons Rd_int (All2.cons Rd_bool (All2.cons (Rd_so h1 scal_b) (All2.cons (Rd_so h2 scal_b) (All2.cons (Rd_so h3 scal_b) All2.nil)))))
theorem QIn.upd {h : Heap} {k j : Nat} {p : List Pg} {l : List Acct} {s : Int} {kn : Bool} {i : Nat} {c : List D} (hq : QIn h k p l s kn i) (hj : h j = none) : QIn (upd h j c) k p l s kn i := by
  obtain ⟨d1, d2, d3, hk, h1, h2, h3, r⟩ := hq
  exact ⟨d1, d2, d3, by rw [upd_ne (ne_key hj hk)]; exact hk, h1.upd hj, h2.upd hj, h3.upd hj, r⟩
theorem own_keep {h ha : Heap} {kb kq n : Nat} {c0 cq cells : List D} {d d0 : D} (ho : SlOwn h d 1 cells n) (hb : h kb = none) (hdis : Dis d0 d) (hoth : ∀ j c, upd h kb c0 j = some c → (∀ sz off n, d0 ≠ .sl j sz off n) → ha j = some c) (hf : Fr d kq) : SlOwn (upd ha kq cq) d 1 cells n :=
  ((ho.upd hb).oth hdis hoth).upd' hf
theorem key_keep {h ha : Heap} {kb kq k : Nat} {c0 cq c : List D} {d0 : D} (hk : h k = some c) (hb : h kb = none) (hoth : ∀ j c, upd h kb c0 j = some c → (∀ sz off n, d0 ≠ .sl j sz off n) → ha j = some c) (hf : Fr d0 k) (hne : k ≠ kq) : upd ha kq cq k = some c := by
  rw [upd_ne hne]
  exact hoth k c (by rw [upd_ne (ne_key hb hk)]; exact hk) hf
theorem own_new {f : Nat → Bool} {ha : Heap} {ka kq n : Nat} {cq : List D} (hk : ha ka = some ((bl f n).map .bool ++ [.bool (f n)])) (hne : ka ≠ kq) : SlOwn (upd ha kq cq) (.sl ka 1 0 (n + 1)) 1 ((bl f (n + 1)).map .bool) (n + 1) := by
  refine SlOwn.sl ?_ (by rw [List.length_map, bl_len, Nat.mul_one])
  rw [upd_ne hne, hk, bl_s, List.map_append]; rfl
theorem ask_c (p : List Pg) (l : List Acct) (hL : l.length ≤ 9223372036854775807) (hP : p.length ≤ 1000000) (s : Int) (kn : Bool) {Q : D → Heap → Prop}
    (h0 : askE p l s ≠ 0 → ∀ h', Q (.tup [.nilp, .int .i64 (askE p l s)]) h') (h1 : quP p l s → ∀ k h', QIn h' k p l s kn l.length → Q (.tup [.pt k 0, .int .i64 0]) h') :
    Con Try.prog 42 [pgs p, accs l, .int .i64 s, .bool kn] (fun _ => none) Q := by
  have c1 := pcheck_c p l hL hP
  refine con_of_W mixed Try.func42 A42k A42c (by simp [A42]) ?_
  simp only [A42, argEnv]
  by_cases h : pchk p l = 0
  · by_cases hs : -1 ≤ s ∧ s < l.length
    · have hqu : quP p l s := ⟨h, hs⟩
      have hQ := h1 hqu
      clear h0 h1
      rw [h] at c1
      obtain ⟨hch, hok⟩ := errA_ok h
      have hl := (chk_ok hch).1
      have hpl := pgs_len p
      repeat' (first | (with_reducible first | refine W_seq ?_ | refine then_n ?_ | refine W_block ?_ | refine blk_n ?_ | refine blk_r ?_ | refine blk_e ?_ | refine W_skip ?_ | refine W_ret ?_ | refine then_r ?_ | refine W_exit ?_ | refine then_e ?_) | (refine blk_j (by decide) ?_) | ((with_reducible refine s_reg ?_); intro K hK) | ((with_reducible refine k_nil ?_); (with_reducible apply s_nil hK); (· exact nmX); clear hK; clear K) | ((with_reducible refine k_cond ?_); (first | ((with_reducible apply s_condT); (· rfl); (· exact nmX)) | ((with_reducible apply s_condF); (· rfl); (· exact nmX)) | ((with_reducible apply s_condS); (· rfl); (· exact nmX); (· exact nmX)))) | ((with_reducible refine k_guard ?_); (first | (refine s_gt rfl ?_) | (refine s_gf1 rfl ?_) | (refine s_gfn rfl ?_) | (refine s_gx1 rfl ?_) | (refine s_gxn rfl ?_) | (refine s_gs rfl ?_))) | ((with_reducible refine k_mv ?_); (refine s_mv rfl ?_)) | ((with_reducible refine k_len ?_); (first | (refine s_len rfl rfl ?_) | ((with_reducible apply s_len); (· rfl); (· exact SlOwn.len (by assumption))))) | ((with_reducible refine k_pick ?_); (first | (refine s_pickT rfl rfl ?_) | (refine s_pickF rfl rfl ?_))) | ((with_reducible refine k_neq ?_); (first | (refine s_neq rfl rfl ?_) | (refine s_strNe rfl rfl ?_))) | ((with_reducible refine k_lss ?_); (refine s_lss rfl rfl ?_)) | ((with_reducible refine k_geq ?_); (refine s_geq rfl rfl ?_)) | ((with_reducible refine k_mkslice (dst := some 32) ?_); ((with_reducible apply s_mkslice); (· rfl); (· rfl); (· (exact ⟨rfl, by decide, by omega, by omega, by (rw [room_i]; omega), by omega⟩)); (· ((first | exact nuI | exact nuN))); intro k32 hk32; (try simp only [upd_none] at hk32))) | ((with_reducible refine k_callF ?_); (first | ((with_reducible apply s_call1); (· rfl)) | ((with_reducible apply s_calln); (· rfl)))) | ((with_reducible refine k_con ?_); (first | ((with_reducible apply con_val (c1)); (· (exact agX)); (· rfl); (· exact fun _ => rfl)))) | ((with_reducible refine k_dreg ?_); refine W_dregM (pre := A42d21a) (suf := A42d21b) rfl rfl rfl rfl ?_; intro K hK) | ((with_reducible refine k_dreg ?_); refine W_dregM (pre := A42d22a) (suf := A42d22b) rfl rfl rfl rfl ?_; intro K hK) | ((with_reducible refine k_dreg ?_); refine W_dregM (pre := A42d23a) (suf := A42d23b) rfl rfl rfl rfl ?_; intro K hK) | ((with_reducible refine k_dreg ?_); refine s_dreg rfl rfl ?_; intro K hK) | (with_reducible refine d_nilS ?_) | ((with_reducible refine k_dnil ?_); (with_reducible apply d_nil hK); (· exact nmX); clear hK; clear K) | ((with_reducible refine k_dguard ?_); (first | (refine d_gt rfl ?_) | (refine d_gf rfl ?_) | (refine d_gx rfl ?_) | (refine d_gs rfl ?_))) | ((with_reducible refine k_dop ?_); refine d_step (by first | exact Or.inl rfl | exact Or.inr rfl) ?_) | (with_reducible refine d_back ?_) | ((with_reducible refine k_br ?_); (first | (with_reducible first | refine Br_dec ?_ | refine Br_not ?_ | refine Br_eqF ?_ | refine Br_and ?_ | refine Br_or ?_ | refine Br_neg ?_ | refine Br_band ?_ | refine Br_bor ?_ | refine Br_beq ?_) | (refine Br_t (by first | with_reducible rfl | omega | assumption | rfl) ?_) | (refine Br_f (by first | omega | assumption | decide) ?_) | (with_reducible apply Br_sb <;> intro hbr <;> (first | subst hbr | simp only [hbr] | skip)) | (with_reducible apply Br_s <;> intro hbr))) | (with_reducible refine WN_succ ?_) | ((first | (with_reducible apply q_eqI) | (with_reducible apply q_eqN)); (first | exact nuI | exact nuN)) | ((first | (with_reducible apply q_eqL) | (with_reducible apply q_eqO)); (first | exact liL | exact liO)))
      all_goals first | (exfalso; omega) | skip
      refine W_for p.length (fun i st => ∃ h', st = ⟨[(0, pgs p), (1, accs l), (2, .int .i64 s), (3, .bool kn), (11, .sl k32 1 0 l.length), (33, pgs p), (34, .int .i64 p.length), (35, .int .i64 i)], h'⟩ ∧ h' k32 = some ((lvT l.length p i).map (.int .i64))) ⟨_, rfl, by rw [upd_self, rep_zero (lvT_len _ _ _) (lvT_zero _ _)]⟩ ?_ ?_
      · rintro i e' h' hi ⟨h2, he, hk⟩
        cases he
        have ho := hok i hi
        have hrow := pgr hi
        have hy := lvT_yes (n := l.length) hi
        have hn := lvT_no (n := l.length) hi
        have hlen : ((lvT l.length p i).map (D.int .i64)).length = l.length := by rw [List.length_map, lvT_len]
        have hg : 0 ≤ p[i].account → ((lvT l.length p i).map (D.int .i64))[p[i].account.toNat]? = some (.int .i64 (cntA p p[i].account i)) := fun h0 => by
          rw [lvT_g (n := l.length) (by omega), Int.toNat_of_nonneg h0]
        have hs : p[i].leaving = true → 0 ≤ p[i].account → List.take p[i].account.toNat ((lvT l.length p i).map (D.int .i64)) ++ [D.int .i64 (cntA p p[i].account i + 1)] ++ List.drop (p[i].account.toNat + 1) ((lvT l.length p i).map (D.int .i64)) = (lvT l.length p (i + 1)).map (.int .i64) := fun h1 h2 => map_st (by rw [lvT_len]; omega) (hy h1 h2)
        have hb := cntA_in p p[i].account i
        clear hy hok
        generalize p[i] = q at *
        obtain ⟨fr, ac, ag, re, ow, nm, lv⟩ := q
        dsimp only at ho hrow hn hg hs hb
        cases lv
        · have hst := hn (by simp)
          rw [hst] at hk
          repeat' (first | (with_reducible first | refine W_seq ?_ | refine then_n ?_ | refine W_block ?_ | refine blk_n ?_ | refine blk_r ?_ | refine blk_e ?_ | refine W_skip ?_ | refine W_ret ?_ | refine then_r ?_ | refine W_exit ?_ | refine then_e ?_) | (refine blk_j (by decide) ?_) | ((with_reducible refine s_reg ?_); intro K hK) | ((with_reducible refine k_nil ?_); (with_reducible apply s_nil hK); (· exact nmX); clear hK; clear K) | ((with_reducible refine k_cond ?_); (first | ((with_reducible apply s_condT); (· rfl); (· exact nmX)) | ((with_reducible apply s_condF); (· rfl); (· exact nmX)) | ((with_reducible apply s_condS); (· rfl); (· exact nmX); (· exact nmX)))) | ((with_reducible refine k_guard ?_); (first | (refine s_gt rfl ?_) | (refine s_gf1 rfl ?_) | (refine s_gfn rfl ?_) | (refine s_gx1 rfl ?_) | (refine s_gxn rfl ?_) | (refine s_gs rfl ?_))) | ((with_reducible refine k_mv ?_); (refine s_mv rfl ?_)) | ((with_reducible refine k_pick ?_); (first | (refine s_pickT rfl rfl ?_) | (refine s_pickF rfl rfl ?_))) | ((with_reducible refine k_lss ?_); (refine s_lss rfl rfl ?_)) | ((with_reducible refine k_geq ?_); (refine s_geq rfl rfl ?_)) | ((with_reducible refine k_iaddr ?_); (first | ((with_reducible apply s_iaddrV); (· rfl); (· rfl); (· (first | omega | exact ⟨rfl, by omega⟩ | skip))) | ((with_reducible apply s_iaddrO); (· rfl); (· rfl); (· (first | omega | exact ⟨rfl, by omega⟩ | skip)); (· (exact hpX))) | ((with_reducible apply s_iaddrSO); (· rfl); (· assumption); (· rfl); (· (first | omega | exact ⟨rfl, by omega⟩ | skip)); (· (first | (simp (disch := omega) only [w64, wu8, wu16, wu32, wu64, tm_nn, td_nn, fd_nn, Int.reduceAdd, Int.reduceSub, Int.reduceMul, Int.reduceDiv, Int.reduceMod, Int.reduceNeg, Int.reduceToNat, Int.toNat_natCast, Int.toNat_zero, Int.zero_add, Int.add_zero, Int.one_mul, Int.reducePow, Nat.mul_one, Nat.zero_add, Nat.add_zero, Nat.zero_mul, Nat.reduceAdd, Nat.reduceMul, Nat.reduceSub, Nat.min_eq_left, IntKind.bits, Nat.sub_zero, hrow]; try rfl; done) | rfl)); intro ks hks))) | ((with_reducible refine k_load ?_); (first | ((with_reducible apply s_loadV); (· rfl)) | ((with_reducible apply s_loadP); (· rfl); (· (exact hpX))))) | ((with_reducible refine k_loadA ?_); (first | ((with_reducible apply s_loadAV); (· rfl); (· (first | exact Nat.le_of_ble_eq_true rfl | decide | omega | (simp; done) | (simp; omega) | skip))) | ((with_reducible apply s_loadAP); (· rfl); (· (exact hpX)); (· (first | exact Nat.le_of_ble_eq_true rfl | decide | omega | (simp; done) | (simp; omega) | skip))))) | ((with_reducible refine k_add ?_); ((with_reducible apply s_add); (· rfl); (· rfl))) | ((with_reducible refine k_store ?_); ((with_reducible apply s_store0); (· rfl); (· rfl); (· rfl); (· (exact hpX)); (· (exact ⟨rfl, by first | exact Nat.le_of_ble_eq_true rfl | omega | (simp [hrow]; omega)⟩)); (· ((first | (simp (disch := omega) only [upd_self, upd_ne, upd_upd, rep, splice, List.take_succ_cons, List.take_zero, List.drop_succ_cons, List.drop_zero, List.cons_append, List.nil_append, List.append_nil, List.length_cons, List.length_nil, List.reduceReplicate, List.flatten_cons, List.flatten_nil, Nat.reduceAdd, Nat.reduceMul, Nat.reduceSub, Nat.zero_add, Nat.add_zero, List.getElem?_cons_zero, List.getElem?_cons_succ, hrow]; try rfl; done) | rfl))); (· (first | exact upd_upd | rfl)))) | ((with_reducible refine k_faddr ?_); (first | ((with_reducible apply s_faddrV); (· rfl); (· rfl)) | ((with_reducible apply s_faddrP); (· rfl); (· rfl)))) | ((with_reducible refine k_alloc (dst := some 13) ?_); ((with_reducible apply s_alloc); intro k13 hk13; (try simp only [upd_none] at hk13))) | ((with_reducible refine k_dreg ?_); refine W_dregM (pre := A42d21a) (suf := A42d21b) rfl rfl rfl rfl ?_; intro K hK) | ((with_reducible refine k_dreg ?_); refine W_dregM (pre := A42d22a) (suf := A42d22b) rfl rfl rfl rfl ?_; intro K hK) | ((with_reducible refine k_dreg ?_); refine W_dregM (pre := A42d23a) (suf := A42d23b) rfl rfl rfl rfl ?_; intro K hK) | ((with_reducible refine k_dreg ?_); refine s_dreg rfl rfl ?_; intro K hK) | (with_reducible refine d_nilS ?_) | ((with_reducible refine k_dnil ?_); (with_reducible apply d_nil hK); (· exact nmX); clear hK; clear K) | ((with_reducible refine k_dguard ?_); (first | (refine d_gt rfl ?_) | (refine d_gf rfl ?_) | (refine d_gx rfl ?_) | (refine d_gs rfl ?_))) | ((with_reducible refine k_dop ?_); refine d_step (by first | exact Or.inl rfl | exact Or.inr rfl) ?_) | (with_reducible refine d_back ?_) | ((with_reducible refine k_br ?_); (first | (with_reducible first | refine Br_dec ?_ | refine Br_not ?_ | refine Br_eqF ?_ | refine Br_and ?_ | refine Br_or ?_ | refine Br_neg ?_ | refine Br_band ?_ | refine Br_bor ?_ | refine Br_beq ?_) | (refine Br_t (by first | with_reducible rfl | omega | assumption | rfl) ?_) | (refine Br_f (by first | omega | assumption | decide) ?_) | (with_reducible apply Br_sb <;> intro hbr <;> (first | subst hbr | simp only [hbr] | skip)) | (with_reducible apply Br_s <;> intro hbr))) | (with_reducible refine WN_succ ?_) | ((first | (with_reducible apply q_eqI) | (with_reducible apply q_eqN)); (first | (simp (disch := omega) only [w64, wu8, wu16, wu32, wu64, tm_nn, td_nn, fd_nn, Int.reduceAdd, Int.reduceSub, Int.reduceMul, Int.reduceDiv, Int.reduceMod, Int.reduceNeg, Int.reduceToNat, Int.toNat_natCast, Int.toNat_zero, Int.zero_add, Int.add_zero, Int.one_mul, Int.reducePow, Nat.mul_one, Nat.zero_add, Nat.add_zero, Nat.zero_mul, Nat.reduceAdd, Nat.reduceMul, Nat.reduceSub, Nat.min_eq_left, IntKind.bits, Nat.sub_zero, hrow]; try rfl; done) | rfl)) | ((first | (with_reducible apply q_eqL) | (with_reducible apply q_eqO)); (first | (simp (disch := omega) only [upd_self, upd_ne, upd_upd, rep, splice, List.take_succ_cons, List.take_zero, List.drop_succ_cons, List.drop_zero, List.cons_append, List.nil_append, List.append_nil, List.length_cons, List.length_nil, List.reduceReplicate, List.flatten_cons, List.flatten_nil, Nat.reduceAdd, Nat.reduceMul, Nat.reduceSub, Nat.zero_add, Nat.add_zero, List.getElem?_cons_zero, List.getElem?_cons_succ, hrow]; try rfl; done) | rfl)))
          exact ⟨_, rfl, by rw [upd_ne (ne_key hk13 hk)]; exact hk⟩
        · by_cases h0 : 0 ≤ ac
          · have hg := hg h0
            have hs := hs rfl h0
            generalize cntA p ac i = T at *
            repeat' (first | (with_reducible first | refine W_seq ?_ | refine then_n ?_ | refine W_block ?_ | refine blk_n ?_ | refine blk_r ?_ | refine blk_e ?_ | refine W_skip ?_ | refine W_ret ?_ | refine then_r ?_ | refine W_exit ?_ | refine then_e ?_) | (refine blk_j (by decide) ?_) | ((with_reducible refine s_reg ?_); intro K hK) | ((with_reducible refine k_nil ?_); (with_reducible apply s_nil hK); (· exact nmX); clear hK; clear K) | ((with_reducible refine k_cond ?_); (first | ((with_reducible apply s_condT); (· rfl); (· exact nmX)) | ((with_reducible apply s_condF); (· rfl); (· exact nmX)) | ((with_reducible apply s_condS); (· rfl); (· exact nmX); (· exact nmX)))) | ((with_reducible refine k_guard ?_); (first | (refine s_gt rfl ?_) | (refine s_gf1 rfl ?_) | (refine s_gfn rfl ?_) | (refine s_gx1 rfl ?_) | (refine s_gxn rfl ?_) | (refine s_gs rfl ?_))) | ((with_reducible refine k_mv ?_); (refine s_mv rfl ?_)) | ((with_reducible refine k_pick ?_); (first | (refine s_pickT rfl rfl ?_) | (refine s_pickF rfl rfl ?_))) | ((with_reducible refine k_lss ?_); (refine s_lss rfl rfl ?_)) | ((with_reducible refine k_geq ?_); (refine s_geq rfl rfl ?_)) | ((with_reducible refine k_iaddr ?_); (first | ((with_reducible apply s_iaddrV); (· rfl); (· rfl); (· (first | omega | exact ⟨rfl, by omega⟩ | skip))) | ((with_reducible apply s_iaddrO); (· rfl); (· rfl); (· (first | omega | exact ⟨rfl, by omega⟩ | skip)); (· (exact hpX))) | ((with_reducible apply s_iaddrSO); (· rfl); (· assumption); (· rfl); (· (first | omega | exact ⟨rfl, by omega⟩ | skip)); (· (first | (simp (disch := omega) only [w64, wu8, wu16, wu32, wu64, tm_nn, td_nn, fd_nn, Int.reduceAdd, Int.reduceSub, Int.reduceMul, Int.reduceDiv, Int.reduceMod, Int.reduceNeg, Int.reduceToNat, Int.toNat_natCast, Int.toNat_zero, Int.zero_add, Int.add_zero, Int.one_mul, Int.reducePow, Nat.mul_one, Nat.zero_add, Nat.add_zero, Nat.zero_mul, Nat.reduceAdd, Nat.reduceMul, Nat.reduceSub, Nat.min_eq_left, IntKind.bits, Nat.sub_zero, hrow, hg, hs]; try rfl; done) | rfl)); intro ks hks))) | ((with_reducible refine k_load ?_); (first | ((with_reducible apply s_loadV); (· rfl)) | ((with_reducible apply s_loadP); (· rfl); (· (exact hpX))))) | ((with_reducible refine k_loadA ?_); (first | ((with_reducible apply s_loadAV); (· rfl); (· (first | exact Nat.le_of_ble_eq_true rfl | decide | omega | (simp; done) | (simp; omega) | skip))) | ((with_reducible apply s_loadAP); (· rfl); (· (exact hpX)); (· (first | exact Nat.le_of_ble_eq_true rfl | decide | omega | (simp; done) | (simp; omega) | skip))))) | ((with_reducible refine k_add ?_); ((with_reducible apply s_add); (· rfl); (· rfl))) | ((with_reducible refine k_store ?_); ((with_reducible apply s_store0); (· rfl); (· rfl); (· rfl); (· (exact hpX)); (· (exact ⟨rfl, by first | exact Nat.le_of_ble_eq_true rfl | omega | (simp [hrow, hg, hs]; omega)⟩)); (· ((first | (simp (disch := omega) only [upd_self, upd_ne, upd_upd, rep, splice, List.take_succ_cons, List.take_zero, List.drop_succ_cons, List.drop_zero, List.cons_append, List.nil_append, List.append_nil, List.length_cons, List.length_nil, List.reduceReplicate, List.flatten_cons, List.flatten_nil, Nat.reduceAdd, Nat.reduceMul, Nat.reduceSub, Nat.zero_add, Nat.add_zero, List.getElem?_cons_zero, List.getElem?_cons_succ, hrow, hg, hs]; try rfl; done) | rfl))); (· (first | exact upd_upd | rfl)))) | ((with_reducible refine k_faddr ?_); (first | ((with_reducible apply s_faddrV); (· rfl); (· rfl)) | ((with_reducible apply s_faddrP); (· rfl); (· rfl)))) | ((with_reducible refine k_alloc (dst := some 13) ?_); ((with_reducible apply s_alloc); intro k13 hk13; (try simp only [upd_none] at hk13))) | ((with_reducible refine k_dreg ?_); refine W_dregM (pre := A42d21a) (suf := A42d21b) rfl rfl rfl rfl ?_; intro K hK) | ((with_reducible refine k_dreg ?_); refine W_dregM (pre := A42d22a) (suf := A42d22b) rfl rfl rfl rfl ?_; intro K hK) | ((with_reducible refine k_dreg ?_); refine W_dregM (pre := A42d23a) (suf := A42d23b) rfl rfl rfl rfl ?_; intro K hK) | ((with_reducible refine k_dreg ?_); refine s_dreg rfl rfl ?_; intro K hK) | (with_reducible refine d_nilS ?_) | ((with_reducible refine k_dnil ?_); (with_reducible apply d_nil hK); (· exact nmX); clear hK; clear K) | ((with_reducible refine k_dguard ?_); (first | (refine d_gt rfl ?_) | (refine d_gf rfl ?_) | (refine d_gx rfl ?_) | (refine d_gs rfl ?_))) | ((with_reducible refine k_dop ?_); refine d_step (by first | exact Or.inl rfl | exact Or.inr rfl) ?_) | (with_reducible refine d_back ?_) | ((with_reducible refine k_br ?_); (first | (with_reducible first | refine Br_dec ?_ | refine Br_not ?_ | refine Br_eqF ?_ | refine Br_and ?_ | refine Br_or ?_ | refine Br_neg ?_ | refine Br_band ?_ | refine Br_bor ?_ | refine Br_beq ?_) | (refine Br_t (by first | with_reducible rfl | omega | assumption | rfl) ?_) | (refine Br_f (by first | omega | assumption | decide) ?_) | (with_reducible apply Br_sb <;> intro hbr <;> (first | subst hbr | simp only [hbr] | skip)) | (with_reducible apply Br_s <;> intro hbr))) | (with_reducible refine WN_succ ?_) | ((first | (with_reducible apply q_eqI) | (with_reducible apply q_eqN)); (first | (simp (disch := omega) only [w64, wu8, wu16, wu32, wu64, tm_nn, td_nn, fd_nn, Int.reduceAdd, Int.reduceSub, Int.reduceMul, Int.reduceDiv, Int.reduceMod, Int.reduceNeg, Int.reduceToNat, Int.toNat_natCast, Int.toNat_zero, Int.zero_add, Int.add_zero, Int.one_mul, Int.reducePow, Nat.mul_one, Nat.zero_add, Nat.add_zero, Nat.zero_mul, Nat.reduceAdd, Nat.reduceMul, Nat.reduceSub, Nat.min_eq_left, IntKind.bits, Nat.sub_zero, hrow, hg, hs]; try rfl; done) | rfl)) | ((first | (with_reducible apply q_eqL) | (with_reducible apply q_eqO)); (first | (simp (disch := omega) only [upd_self, upd_ne, upd_upd, rep, splice, List.take_succ_cons, List.take_zero, List.drop_succ_cons, List.drop_zero, List.cons_append, List.nil_append, List.append_nil, List.length_cons, List.length_nil, List.reduceReplicate, List.flatten_cons, List.flatten_nil, Nat.reduceAdd, Nat.reduceMul, Nat.reduceSub, Nat.zero_add, Nat.add_zero, List.getElem?_cons_zero, List.getElem?_cons_succ, hrow, hg, hs]; try rfl; done) | rfl)))
            all_goals first | (exfalso; omega) | skip
            exact ⟨_, rfl, upd_self⟩
          · have hst := hn (by simpa using h0)
            rw [hst] at hk
            repeat' (first | (with_reducible first | refine W_seq ?_ | refine then_n ?_ | refine W_block ?_ | refine blk_n ?_ | refine blk_r ?_ | refine blk_e ?_ | refine W_skip ?_ | refine W_ret ?_ | refine then_r ?_ | refine W_exit ?_ | refine then_e ?_) | (refine blk_j (by decide) ?_) | ((with_reducible refine s_reg ?_); intro K hK) | ((with_reducible refine k_nil ?_); (with_reducible apply s_nil hK); (· exact nmX); clear hK; clear K) | ((with_reducible refine k_cond ?_); (first | ((with_reducible apply s_condT); (· rfl); (· exact nmX)) | ((with_reducible apply s_condF); (· rfl); (· exact nmX)) | ((with_reducible apply s_condS); (· rfl); (· exact nmX); (· exact nmX)))) | ((with_reducible refine k_guard ?_); (first | (refine s_gt rfl ?_) | (refine s_gf1 rfl ?_) | (refine s_gfn rfl ?_) | (refine s_gx1 rfl ?_) | (refine s_gxn rfl ?_) | (refine s_gs rfl ?_))) | ((with_reducible refine k_mv ?_); (refine s_mv rfl ?_)) | ((with_reducible refine k_pick ?_); (first | (refine s_pickT rfl rfl ?_) | (refine s_pickF rfl rfl ?_))) | ((with_reducible refine k_lss ?_); (refine s_lss rfl rfl ?_)) | ((with_reducible refine k_geq ?_); (refine s_geq rfl rfl ?_)) | ((with_reducible refine k_iaddr ?_); (first | ((with_reducible apply s_iaddrV); (· rfl); (· rfl); (· (first | omega | exact ⟨rfl, by omega⟩ | skip))) | ((with_reducible apply s_iaddrO); (· rfl); (· rfl); (· (first | omega | exact ⟨rfl, by omega⟩ | skip)); (· (exact hpX))) | ((with_reducible apply s_iaddrSO); (· rfl); (· assumption); (· rfl); (· (first | omega | exact ⟨rfl, by omega⟩ | skip)); (· (first | (simp (disch := omega) only [w64, wu8, wu16, wu32, wu64, tm_nn, td_nn, fd_nn, Int.reduceAdd, Int.reduceSub, Int.reduceMul, Int.reduceDiv, Int.reduceMod, Int.reduceNeg, Int.reduceToNat, Int.toNat_natCast, Int.toNat_zero, Int.zero_add, Int.add_zero, Int.one_mul, Int.reducePow, Nat.mul_one, Nat.zero_add, Nat.add_zero, Nat.zero_mul, Nat.reduceAdd, Nat.reduceMul, Nat.reduceSub, Nat.min_eq_left, IntKind.bits, Nat.sub_zero, hrow]; try rfl; done) | rfl)); intro ks hks))) | ((with_reducible refine k_load ?_); (first | ((with_reducible apply s_loadV); (· rfl)) | ((with_reducible apply s_loadP); (· rfl); (· (exact hpX))))) | ((with_reducible refine k_loadA ?_); (first | ((with_reducible apply s_loadAV); (· rfl); (· (first | exact Nat.le_of_ble_eq_true rfl | decide | omega | (simp; done) | (simp; omega) | skip))) | ((with_reducible apply s_loadAP); (· rfl); (· (exact hpX)); (· (first | exact Nat.le_of_ble_eq_true rfl | decide | omega | (simp; done) | (simp; omega) | skip))))) | ((with_reducible refine k_add ?_); ((with_reducible apply s_add); (· rfl); (· rfl))) | ((with_reducible refine k_store ?_); ((with_reducible apply s_store0); (· rfl); (· rfl); (· rfl); (· (exact hpX)); (· (exact ⟨rfl, by first | exact Nat.le_of_ble_eq_true rfl | omega | (simp [hrow]; omega)⟩)); (· ((first | (simp (disch := omega) only [upd_self, upd_ne, upd_upd, rep, splice, List.take_succ_cons, List.take_zero, List.drop_succ_cons, List.drop_zero, List.cons_append, List.nil_append, List.append_nil, List.length_cons, List.length_nil, List.reduceReplicate, List.flatten_cons, List.flatten_nil, Nat.reduceAdd, Nat.reduceMul, Nat.reduceSub, Nat.zero_add, Nat.add_zero, List.getElem?_cons_zero, List.getElem?_cons_succ, hrow]; try rfl; done) | rfl))); (· (first | exact upd_upd | rfl)))) | ((with_reducible refine k_faddr ?_); (first | ((with_reducible apply s_faddrV); (· rfl); (· rfl)) | ((with_reducible apply s_faddrP); (· rfl); (· rfl)))) | ((with_reducible refine k_alloc (dst := some 13) ?_); ((with_reducible apply s_alloc); intro k13 hk13; (try simp only [upd_none] at hk13))) | ((with_reducible refine k_dreg ?_); refine W_dregM (pre := A42d21a) (suf := A42d21b) rfl rfl rfl rfl ?_; intro K hK) | ((with_reducible refine k_dreg ?_); refine W_dregM (pre := A42d22a) (suf := A42d22b) rfl rfl rfl rfl ?_; intro K hK) | ((with_reducible refine k_dreg ?_); refine W_dregM (pre := A42d23a) (suf := A42d23b) rfl rfl rfl rfl ?_; intro K hK) | ((with_reducible refine k_dreg ?_); refine s_dreg rfl rfl ?_; intro K hK) | (with_reducible refine d_nilS ?_) | ((with_reducible refine k_dnil ?_); (with_reducible apply d_nil hK); (· exact nmX); clear hK; clear K) | ((with_reducible refine k_dguard ?_); (first | (refine d_gt rfl ?_) | (refine d_gf rfl ?_) | (refine d_gx rfl ?_) | (refine d_gs rfl ?_))) | ((with_reducible refine k_dop ?_); refine d_step (by first | exact Or.inl rfl | exact Or.inr rfl) ?_) | (with_reducible refine d_back ?_) | ((with_reducible refine k_br ?_); (first | (with_reducible first | refine Br_dec ?_ | refine Br_not ?_ | refine Br_eqF ?_ | refine Br_and ?_ | refine Br_or ?_ | refine Br_neg ?_ | refine Br_band ?_ | refine Br_bor ?_ | refine Br_beq ?_) | (refine Br_t (by first | with_reducible rfl | omega | assumption | rfl) ?_) | (refine Br_f (by first | omega | assumption | decide) ?_) | (with_reducible apply Br_sb <;> intro hbr <;> (first | subst hbr | simp only [hbr] | skip)) | (with_reducible apply Br_s <;> intro hbr))) | (with_reducible refine WN_succ ?_) | ((first | (with_reducible apply q_eqI) | (with_reducible apply q_eqN)); (first | (simp (disch := omega) only [w64, wu8, wu16, wu32, wu64, tm_nn, td_nn, fd_nn, Int.reduceAdd, Int.reduceSub, Int.reduceMul, Int.reduceDiv, Int.reduceMod, Int.reduceNeg, Int.reduceToNat, Int.toNat_natCast, Int.toNat_zero, Int.zero_add, Int.add_zero, Int.one_mul, Int.reducePow, Nat.mul_one, Nat.zero_add, Nat.add_zero, Nat.zero_mul, Nat.reduceAdd, Nat.reduceMul, Nat.reduceSub, Nat.min_eq_left, IntKind.bits, Nat.sub_zero, hrow]; try rfl; done) | rfl)) | ((first | (with_reducible apply q_eqL) | (with_reducible apply q_eqO)); (first | (simp (disch := omega) only [upd_self, upd_ne, upd_upd, rep, splice, List.take_succ_cons, List.take_zero, List.drop_succ_cons, List.drop_zero, List.cons_append, List.nil_append, List.append_nil, List.length_cons, List.length_nil, List.reduceReplicate, List.flatten_cons, List.flatten_nil, Nat.reduceAdd, Nat.reduceMul, Nat.reduceSub, Nat.zero_add, Nat.add_zero, List.getElem?_cons_zero, List.getElem?_cons_succ, hrow]; try rfl; done) | rfl)))
            all_goals first | (exfalso; omega) | skip
            exact ⟨_, rfl, by rw [upd_ne (ne_key hk13 hk)]; exact hk⟩
      · rintro e' h' ⟨h2, he, hk⟩
        cases he
        have hlv : lvT l.length p p.length = lvL l p := rfl
        rw [hlv] at hk
        have hlen : ((lvL l p).map (D.int .i64)).length = l.length * 1 := by rw [List.length_map, lvL_len, Nat.mul_one]
        repeat' (first | (with_reducible first | refine W_seq ?_ | refine then_n ?_ | refine W_block ?_ | refine blk_n ?_ | refine blk_r ?_ | refine blk_e ?_ | refine W_skip ?_ | refine W_ret ?_ | refine then_r ?_ | refine W_exit ?_ | refine then_e ?_) | (refine blk_j (by decide) ?_) | ((with_reducible refine s_reg ?_); intro K hK) | ((with_reducible refine k_nil ?_); (with_reducible apply s_nil hK); (· exact nmX); clear hK; clear K) | ((with_reducible refine k_cond ?_); (first | ((with_reducible apply s_condT); (· rfl); (· exact nmX)) | ((with_reducible apply s_condF); (· rfl); (· exact nmX)) | ((with_reducible apply s_condS); (· rfl); (· exact nmX); (· exact nmX)))) | ((with_reducible refine k_guard ?_); (first | (refine s_gt rfl ?_) | (refine s_gf1 rfl ?_) | (refine s_gfn rfl ?_) | (refine s_gx1 rfl ?_) | (refine s_gxn rfl ?_) | (refine s_gs rfl ?_))) | ((with_reducible refine k_mv ?_); (refine s_mv rfl ?_)) | ((with_reducible refine k_len ?_); (first | (refine s_len rfl rfl ?_) | ((with_reducible apply s_len); (· rfl); (· exact SlOwn.len (by assumption))))) | ((with_reducible refine k_lss ?_); (refine s_lss rfl rfl ?_)) | ((with_reducible refine k_box (dst := some 58) ?_); ((with_reducible apply s_box); (· rfl); (· rfl); intro k58 hk58; (try simp only [upd_none] at hk58))) | ((with_reducible refine k_build ?_); ((with_reducible apply s_build); (· rfl); (· rfl))) | ((with_reducible refine k_dreg ?_); refine W_dregM (pre := A42d21a) (suf := A42d21b) rfl rfl rfl rfl ?_; intro K hK) | ((with_reducible refine k_dreg ?_); refine W_dregM (pre := A42d22a) (suf := A42d22b) rfl rfl rfl rfl ?_; intro K hK) | ((with_reducible refine k_dreg ?_); refine W_dregM (pre := A42d23a) (suf := A42d23b) rfl rfl rfl rfl ?_; intro K hK) | ((with_reducible refine k_dreg ?_); refine s_dreg rfl rfl ?_; intro K hK) | (with_reducible refine d_nilS ?_) | ((with_reducible refine k_dnil ?_); (with_reducible apply d_nil hK); (· exact nmX); clear hK; clear K) | ((with_reducible refine k_dguard ?_); (first | (refine d_gt rfl ?_) | (refine d_gf rfl ?_) | (refine d_gx rfl ?_) | (refine d_gs rfl ?_))) | ((with_reducible refine k_dop ?_); refine d_step (by first | exact Or.inl rfl | exact Or.inr rfl) ?_) | (with_reducible refine d_back ?_) | ((with_reducible refine k_br ?_); (first | (with_reducible first | refine Br_dec ?_ | refine Br_not ?_ | refine Br_eqF ?_ | refine Br_and ?_ | refine Br_or ?_ | refine Br_neg ?_ | refine Br_band ?_ | refine Br_bor ?_ | refine Br_beq ?_) | (refine Br_t (by first | with_reducible rfl | omega | assumption | rfl) ?_) | (refine Br_f (by first | omega | assumption | decide) ?_) | (with_reducible apply Br_sb <;> intro hbr <;> (first | subst hbr | simp only [hbr] | skip)) | (with_reducible apply Br_s <;> intro hbr))) | (with_reducible refine WN_succ ?_) | ((first | (with_reducible apply q_eqI) | (with_reducible apply q_eqN)); (first | exact nuI | exact nuN)) | ((first | (with_reducible apply q_eqL) | (with_reducible apply q_eqO)); (first | exact liL | exact liO)))
        refine W_for l.length (fun i st => ∃ h' d1 d2 d3, st = ⟨[(1, accs l), (2, .int .i64 s), (11, .sl k32 1 0 l.length), (14, .pt k58 0), (60, .int .i64 l.length), (61, .int .i64 i)], h'⟩ ∧ h' k32 = some ((lvL l p).map (.int .i64)) ∧
            h' k58 = some [pgs p, .int .i64 s, .bool kn, d1, d2, d3] ∧ SlOwn h' d1 1 ((bl (inB l s) i).map .bool) i ∧ SlOwn h' d2 1 ((bl (gdB l (lvL l p) s false) i).map .bool) i ∧ SlOwn h' d3 1 ((bl (gdB l (lvL l p) s true) i).map .bool) i ∧
            (Fr d1 k58 ∧ Fr d2 k58 ∧ Fr d3 k58) ∧ (Dis d1 d2 ∧ Dis d1 d3 ∧ Dis d2 d3) ∧ (Fr d1 k32 ∧ Fr d2 k32 ∧ Fr d3 k32)) ⟨_, .nil, .nil, .nil, rfl, by rw [upd_ne (ne_key hk58 hk)]; exact hk, by rw [upd_self]; rfl, SlOwn.nil, SlOwn.nil, SlOwn.nil, ⟨Fr.nil, Fr.nil, Fr.nil⟩, ⟨fun _ => .inl Fr.nil, fun _ => .inl Fr.nil, fun _ => .inl Fr.nil⟩, ⟨Fr.nil, Fr.nil, Fr.nil⟩⟩ ?_ ?_
        · have hne : k32 ≠ k58 := ne_key hk58 hk
          clear hk hk58
          rintro i e' h' hi ⟨h2, d1, d2, d3, he, hk, hq, s1, s2, s3, ⟨f1, f2, f3⟩, ⟨x12, x13, x23⟩, ⟨g1, g2, g3⟩⟩
          cases he
          have ci := inside_c l hL i s
          have cg := guarded_c l hL (lvL l p) i s false
          have cl := guarded_c l hL (lvL l p) i s true
          simp only [ints, lvL_len] at cg cl
          have hi64 : i < 8 := by omega
          repeat' (first | (with_reducible first | refine W_seq ?_ | refine then_n ?_ | refine W_block ?_ | refine blk_n ?_ | refine blk_r ?_ | refine blk_e ?_ | refine W_skip ?_ | refine W_ret ?_ | refine then_r ?_ | refine W_exit ?_ | refine then_e ?_) | (refine blk_j (by decide) ?_) | ((with_reducible refine s_reg ?_); intro K hK) | ((with_reducible refine k_nil ?_); (with_reducible apply s_nil hK); (· exact nmX); clear hK; clear K) | ((with_reducible refine k_cond ?_); (first | ((with_reducible apply s_condT); (· rfl); (· exact nmX)) | ((with_reducible apply s_condF); (· rfl); (· exact nmX)) | ((with_reducible apply s_condS); (· rfl); (· exact nmX); (· exact nmX)))) | ((with_reducible refine k_guard ?_); (first | (refine s_gt rfl ?_) | (refine s_gf1 rfl ?_) | (refine s_gfn rfl ?_) | (refine s_gx1 rfl ?_) | (refine s_gxn rfl ?_) | (refine s_gs rfl ?_))) | ((with_reducible refine k_mv ?_); (refine s_mv rfl ?_)) | ((with_reducible refine k_lss ?_); (refine s_lss rfl rfl ?_)) | ((with_reducible refine k_load ?_); (first | ((with_reducible apply s_loadV); (· rfl)) | ((with_reducible apply s_loadP); (· rfl); (· (exact hpX))))) | ((with_reducible refine k_store ?_); ((with_reducible apply s_store0); (· rfl); (· rfl); (· rfl); (· (exact hpX)); (· (exact ⟨rfl, by first | exact Nat.le_of_ble_eq_true rfl | omega | (simp; omega)⟩)); (· ((first | exact liL | exact liO))); (· (first | exact upd_upd | rfl)))) | ((with_reducible refine k_faddr ?_); (first | ((with_reducible apply s_faddrV); (· rfl); (· rfl)) | ((with_reducible apply s_faddrP); (· rfl); (· rfl)))) | ((with_reducible refine k_buildS (dst := some 73) ?_); ((with_reducible apply s_buildS); (· rfl); (· (exact ⟨rfl, by decide⟩)); (· (first | (simp only [fillB, rep, splice, List.reduceReplicate, List.flatten_cons, List.flatten_nil, List.cons_append, List.nil_append, List.append_nil, List.length_cons, List.length_nil, Nat.reduceAdd, Nat.reduceMul, Nat.reduceLeDiff, Nat.reduceEqDiff, eq_self, Nat.le_refl, Nat.zero_add, and_self, and_true, true_and, if_true, List.take_zero, List.take_succ_cons, List.drop_zero, List.drop_succ_cons, List.drop_nil, List.take_nil]; rfl) | rfl)); intro k73 hk73; (try simp only [upd_none] at hk73))) | ((with_reducible refine k_buildS (dst := some 73) ?_); ((with_reducible apply s_buildS); (· rfl); (· (exact ⟨rfl, by decide⟩)); (· (first | (simp only [fillB, rep, splice, List.reduceReplicate, List.flatten_cons, List.flatten_nil, List.cons_append, List.nil_append, List.append_nil, List.length_cons, List.length_nil, Nat.reduceAdd, Nat.reduceMul, Nat.reduceLeDiff, Nat.reduceEqDiff, eq_self, Nat.le_refl, Nat.zero_add, and_self, and_true, true_and, if_true, List.take_zero, List.take_succ_cons, List.drop_zero, List.drop_succ_cons, List.drop_nil, List.take_nil]; rfl) | rfl)); intro k73 hk73; (try simp only [upd_none] at hk73))) | ((with_reducible refine k_buildS (dst := some 73) ?_); ((with_reducible apply s_buildS); (· rfl); (· (exact ⟨rfl, by decide⟩)); (· (first | (simp only [fillB, rep, splice, List.reduceReplicate, List.flatten_cons, List.flatten_nil, List.cons_append, List.nil_append, List.append_nil, List.length_cons, List.length_nil, Nat.reduceAdd, Nat.reduceMul, Nat.reduceLeDiff, Nat.reduceEqDiff, eq_self, Nat.le_refl, Nat.zero_add, and_self, and_true, true_and, if_true, List.take_zero, List.take_succ_cons, List.drop_zero, List.drop_succ_cons, List.drop_nil, List.take_nil]; rfl) | rfl)); intro k73 hk73; (try simp only [upd_none] at hk73))) | ((with_reducible refine k_nilck ?_); (first | ((with_reducible apply s_nilckV); (· rfl)) | ((with_reducible apply s_nilckP); (· rfl)) | ((with_reducible apply s_nilckF); (· rfl)))) | ((with_reducible refine k_append (dst := some 74) ?_); ((with_reducible apply s_app2); (· rfl); (· rfl); (· first | assumption | exact SlOwn.nil | exact SlOwn.emp | ((repeat' (first | assumption | (with_reducible apply SlOwn.upd) | (simp only [upd_none]; assumption))); done)); (· rfl); (· first | exact srcD_sl upd_self rfl | (exact srcD_vs (by first | assumption | simp)) | ((apply srcD_sl); (· (exact hpX)); (· rfl))); (· exact ⟨by first | rfl | assumption | simp, by decide, by decide⟩); (· first | (rw [room_n]; omega) | skip); intro ka74 ha74 hn74 hk74 hoth74)) | ((with_reducible refine k_append (dst := some 74) ?_); ((with_reducible apply s_app2); (· rfl); (· rfl); (· first | assumption | exact SlOwn.nil | exact SlOwn.emp | ((repeat' (first | assumption | (with_reducible apply SlOwn.upd) | (simp only [upd_none]; assumption))); done)); (· rfl); (· first | exact srcD_sl upd_self rfl | (exact srcD_vs (by first | assumption | simp)) | ((apply srcD_sl); (· (exact hpX)); (· rfl))); (· exact ⟨by first | rfl | assumption | simp, by decide, by decide⟩); (· first | (rw [room_n]; omega) | skip); intro ka74 ha74 hn74 hk74 hoth74)) | ((with_reducible refine k_append (dst := some 74) ?_); ((with_reducible apply s_app2); (· rfl); (· rfl); (· first | assumption | exact SlOwn.nil | exact SlOwn.emp | ((repeat' (first | assumption | (with_reducible apply SlOwn.upd) | (simp only [upd_none]; assumption))); done)); (· rfl); (· first | exact srcD_sl upd_self rfl | (exact srcD_vs (by first | assumption | simp)) | ((apply srcD_sl); (· (exact hpX)); (· rfl))); (· exact ⟨by first | rfl | assumption | simp, by decide, by decide⟩); (· first | (rw [room_n]; omega) | skip); intro ka74 ha74 hn74 hk74 hoth74)) | ((with_reducible refine k_callF ?_); (first | ((with_reducible apply s_call1); (· rfl)) | ((with_reducible apply s_calln); (· rfl)))) | ((with_reducible refine k_dreg ?_); refine W_dregM (pre := A42d21a) (suf := A42d21b) rfl rfl rfl rfl ?_; intro K hK) | ((with_reducible refine k_dreg ?_); refine W_dregM (pre := A42d22a) (suf := A42d22b) rfl rfl rfl rfl ?_; intro K hK) | ((with_reducible refine k_dreg ?_); refine W_dregM (pre := A42d23a) (suf := A42d23b) rfl rfl rfl rfl ?_; intro K hK) | ((with_reducible refine k_dreg ?_); refine s_dreg rfl rfl ?_; intro K hK) | (with_reducible refine d_nilS ?_) | ((with_reducible refine k_dnil ?_); (with_reducible apply d_nil hK); (· exact nmX); clear hK; clear K) | ((with_reducible refine k_dguard ?_); (first | (refine d_gt rfl ?_) | (refine d_gf rfl ?_) | (refine d_gx rfl ?_) | (refine d_gs rfl ?_))) | ((with_reducible refine k_dcall ?_); (first | ((with_reducible apply d_call); (· rfl); (· exact ci); (· (exact agX)); simp only [unow, unowC, List.map]))) | ((with_reducible refine k_dop ?_); refine d_step (by first | exact Or.inl rfl | exact Or.inr rfl) ?_) | (with_reducible refine d_back ?_) | ((with_reducible refine k_br ?_); (first | (with_reducible first | refine Br_dec ?_ | refine Br_not ?_ | refine Br_eqF ?_ | refine Br_and ?_ | refine Br_or ?_ | refine Br_neg ?_ | refine Br_band ?_ | refine Br_bor ?_ | refine Br_beq ?_) | (refine Br_t (by first | with_reducible rfl | omega | assumption | rfl) ?_) | (refine Br_f (by first | omega | assumption | decide) ?_) | (with_reducible apply Br_sb <;> intro hbr <;> (first | subst hbr | simp only [hbr] | skip)) | (with_reducible apply Br_s <;> intro hbr))) | (with_reducible refine WN_succ ?_) | ((first | (with_reducible apply q_eqI) | (with_reducible apply q_eqN)); (first | exact nuI | exact nuN)) | ((first | (with_reducible apply q_eqL) | (with_reducible apply q_eqO)); (first | exact liL | exact liO)))
          have hq58 : upd h' k73 [D.bool (decide (insP l (i : Int) s))] k58 = some [pgs p, .int .i64 s, .bool kn, d1, d2, d3] := by rw [upd_ne (ne_key hk73 hq)]; exact hq
          have n74 : ka74 ≠ k58 := fun h => by rw [h, hq58] at hn74; cases hn74
          have n74b : ka74 ≠ k32 := fun h => by rw [h, upd_ne (ne_key hk73 hk), hk] at hn74; cases hn74
          have hq74 := hoth74 k58 _ hq58 f1
          have hk' := key_keep (cq := [pgs p, .int .i64 s, .bool kn, .sl ka74 1 0 (i + 1), d2, d3]) hk hk73 hoth74 g1 hne
          have s1' := own_new (f := inB l s) (cq := [pgs p, .int .i64 s, .bool kn, .sl ka74 1 0 (i + 1), d2, d3]) hk74 n74
          have s2' := own_keep (cq := [pgs p, .int .i64 s, .bool kn, .sl ka74 1 0 (i + 1), d2, d3]) s2 hk73 x12 hoth74 f2
          have s3' := own_keep (cq := [pgs p, .int .i64 s, .bool kn, .sl ka74 1 0 (i + 1), d2, d3]) s3 hk73 x13 hoth74 f3
          have x12' : Dis d2 (.sl ka74 1 0 (i + 1)) := (s2.upd hk73).dis hn74
          have x13' : Dis d3 (.sl ka74 1 0 (i + 1)) := (s3.upd hk73).dis hn74
          have hq' : upd ha74 k58 [pgs p, .int .i64 s, .bool kn, .sl ka74 1 0 (i + 1), d2, d3] k58 = some [pgs p, .int .i64 s, .bool kn, .sl ka74 1 0 (i + 1), d2, d3] := upd_self
          have fa : Fr (.sl ka74 1 0 (i + 1)) k58 := Fr.sl n74
          have ga : Fr (.sl ka74 1 0 (i + 1)) k32 := Fr.sl n74b
          clear hk s1 s2 s3 hq hq58 hk74 hk73 x12 x13 f1 g1 ci
          repeat' (first | (with_reducible first | refine W_seq ?_ | refine then_n ?_ | refine W_block ?_ | refine blk_n ?_ | refine blk_r ?_ | refine blk_e ?_ | refine W_skip ?_ | refine W_ret ?_ | refine then_r ?_ | refine W_exit ?_ | refine then_e ?_) | (refine blk_j (by decide) ?_) | ((with_reducible refine s_reg ?_); intro K hK) | ((with_reducible refine k_nil ?_); (with_reducible apply s_nil hK); (· exact nmX); clear hK; clear K) | ((with_reducible refine k_cond ?_); (first | ((with_reducible apply s_condT); (· rfl); (· exact nmX)) | ((with_reducible apply s_condF); (· rfl); (· exact nmX)) | ((with_reducible apply s_condS); (· rfl); (· exact nmX); (· exact nmX)))) | ((with_reducible refine k_guard ?_); (first | (refine s_gt rfl ?_) | (refine s_gf1 rfl ?_) | (refine s_gfn rfl ?_) | (refine s_gx1 rfl ?_) | (refine s_gxn rfl ?_) | (refine s_gs rfl ?_))) | ((with_reducible refine k_mv ?_); (refine s_mv rfl ?_)) | ((with_reducible refine k_load ?_); (first | ((with_reducible apply s_loadV); (· rfl)) | ((with_reducible apply s_loadP); (· rfl); (· (exact hpX))))) | ((with_reducible refine k_store ?_); ((with_reducible apply s_store0); (· rfl); (· rfl); (· rfl); (· (exact hpX)); (· (exact ⟨rfl, by first | exact Nat.le_of_ble_eq_true rfl | omega | (simp; omega)⟩)); (· ((first | exact liL | exact liO))); (· (first | exact upd_upd | rfl)))) | ((with_reducible refine k_faddr ?_); (first | ((with_reducible apply s_faddrV); (· rfl); (· rfl)) | ((with_reducible apply s_faddrP); (· rfl); (· rfl)))) | ((with_reducible refine k_buildS (dst := some 73) ?_); ((with_reducible apply s_buildS); (· rfl); (· (exact ⟨rfl, by decide⟩)); (· (first | (simp only [fillB, rep, splice, List.reduceReplicate, List.flatten_cons, List.flatten_nil, List.cons_append, List.nil_append, List.append_nil, List.length_cons, List.length_nil, Nat.reduceAdd, Nat.reduceMul, Nat.reduceLeDiff, Nat.reduceEqDiff, eq_self, Nat.le_refl, Nat.zero_add, and_self, and_true, true_and, if_true, List.take_zero, List.take_succ_cons, List.drop_zero, List.drop_succ_cons, List.drop_nil, List.take_nil]; rfl) | rfl)); intro k73 hk73; (try simp only [upd_none] at hk73))) | ((with_reducible refine k_buildS (dst := some 73) ?_); ((with_reducible apply s_buildS); (· rfl); (· (exact ⟨rfl, by decide⟩)); (· (first | (simp only [fillB, rep, splice, List.reduceReplicate, List.flatten_cons, List.flatten_nil, List.cons_append, List.nil_append, List.append_nil, List.length_cons, List.length_nil, Nat.reduceAdd, Nat.reduceMul, Nat.reduceLeDiff, Nat.reduceEqDiff, eq_self, Nat.le_refl, Nat.zero_add, and_self, and_true, true_and, if_true, List.take_zero, List.take_succ_cons, List.drop_zero, List.drop_succ_cons, List.drop_nil, List.take_nil]; rfl) | rfl)); intro k73 hk73; (try simp only [upd_none] at hk73))) | ((with_reducible refine k_buildS (dst := some 73) ?_); ((with_reducible apply s_buildS); (· rfl); (· (exact ⟨rfl, by decide⟩)); (· (first | (simp only [fillB, rep, splice, List.reduceReplicate, List.flatten_cons, List.flatten_nil, List.cons_append, List.nil_append, List.append_nil, List.length_cons, List.length_nil, Nat.reduceAdd, Nat.reduceMul, Nat.reduceLeDiff, Nat.reduceEqDiff, eq_self, Nat.le_refl, Nat.zero_add, and_self, and_true, true_and, if_true, List.take_zero, List.take_succ_cons, List.drop_zero, List.drop_succ_cons, List.drop_nil, List.take_nil]; rfl) | rfl)); intro k73 hk73; (try simp only [upd_none] at hk73))) | ((with_reducible refine k_nilck ?_); (first | ((with_reducible apply s_nilckV); (· rfl)) | ((with_reducible apply s_nilckP); (· rfl)) | ((with_reducible apply s_nilckF); (· rfl)))) | ((with_reducible refine k_append (dst := some 74) ?_); ((with_reducible apply s_app); (· rfl); (· rfl); (· first | assumption | exact SlOwn.nil | exact SlOwn.emp | exact SlOwn.sl upd_self rfl | ((repeat' (first | assumption | (with_reducible apply SlOwn.upd) | (simp only [upd_none]; assumption))); done) | ((apply SlOwn.sl); (· (exact hpX)); (· first | rfl | assumption))); (· rfl); (· first | exact srcD_sl upd_self rfl | (exact srcD_vs (by first | assumption | simp)) | ((apply srcD_sl); (· (exact hpX)); (· rfl))); (· exact ⟨by first | rfl | assumption | simp, by decide⟩); (· first | (rw [room_n]; omega) | skip); intro da74 ha74 hso74 hoth74)) | ((with_reducible refine k_append (dst := some 74) ?_); ((with_reducible apply s_app); (· rfl); (· rfl); (· first | assumption | exact SlOwn.nil | exact SlOwn.emp | exact SlOwn.sl upd_self rfl | ((repeat' (first | assumption | (with_reducible apply SlOwn.upd) | (simp only [upd_none]; assumption))); done) | ((apply SlOwn.sl); (· (exact hpX)); (· first | rfl | assumption))); (· rfl); (· first | exact srcD_sl upd_self rfl | (exact srcD_vs (by first | assumption | simp)) | ((apply srcD_sl); (· (exact hpX)); (· rfl))); (· exact ⟨by first | rfl | assumption | simp, by decide⟩); (· first | (rw [room_n]; omega) | skip); intro da74 ha74 hso74 hoth74)) | ((with_reducible refine k_append (dst := some 74) ?_); ((with_reducible apply s_app); (· rfl); (· rfl); (· first | assumption | exact SlOwn.nil | exact SlOwn.emp | exact SlOwn.sl upd_self rfl | ((repeat' (first | assumption | (with_reducible apply SlOwn.upd) | (simp only [upd_none]; assumption))); done) | ((apply SlOwn.sl); (· (exact hpX)); (· first | rfl | assumption))); (· rfl); (· first | exact srcD_sl upd_self rfl | (exact srcD_vs (by first | assumption | simp)) | ((apply srcD_sl); (· (exact hpX)); (· rfl))); (· exact ⟨by first | rfl | assumption | simp, by decide⟩); (· first | (rw [room_n]; omega) | skip); intro da74 ha74 hso74 hoth74)) | ((with_reducible refine k_callF ?_); (first | ((with_reducible apply s_call1); (· rfl)) | ((with_reducible apply s_calln); (· rfl)))) | ((with_reducible refine k_dreg ?_); refine W_dregM (pre := A42d21a) (suf := A42d21b) rfl rfl rfl rfl ?_; intro K hK) | ((with_reducible refine k_dreg ?_); refine W_dregM (pre := A42d22a) (suf := A42d22b) rfl rfl rfl rfl ?_; intro K hK) | ((with_reducible refine k_dreg ?_); refine W_dregM (pre := A42d23a) (suf := A42d23b) rfl rfl rfl rfl ?_; intro K hK) | ((with_reducible refine k_dreg ?_); refine s_dreg rfl rfl ?_; intro K hK) | (with_reducible refine d_nilS ?_) | ((with_reducible refine k_dnil ?_); (with_reducible apply d_nil hK); (· exact nmX); clear hK; clear K) | ((with_reducible refine k_dguard ?_); (first | (refine d_gt rfl ?_) | (refine d_gf rfl ?_) | (refine d_gx rfl ?_) | (refine d_gs rfl ?_))) | ((with_reducible refine k_dop ?_); refine d_step (by first | exact Or.inl rfl | exact Or.inr rfl) ?_) | (with_reducible refine d_back ?_) | ((with_reducible refine k_br ?_); (first | (with_reducible first | refine Br_dec ?_ | refine Br_not ?_ | refine Br_eqF ?_ | refine Br_and ?_ | refine Br_or ?_ | refine Br_neg ?_ | refine Br_band ?_ | refine Br_bor ?_ | refine Br_beq ?_) | (refine Br_t (by first | with_reducible rfl | omega | assumption | rfl) ?_) | (refine Br_f (by first | omega | assumption | decide) ?_) | (with_reducible apply Br_sb <;> intro hbr <;> (first | subst hbr | simp only [hbr] | skip)) | (with_reducible apply Br_s <;> intro hbr))) | (with_reducible refine WN_succ ?_) | ((first | (with_reducible apply q_eqI) | (with_reducible apply q_eqN)); (first | exact nuI | exact nuN)) | ((first | (with_reducible apply q_eqL) | (with_reducible apply q_eqO)); (first | exact liL | exact liO)))
          clear hoth74 hn74 hq74
          generalize upd ha74 k58 [pgs p, .int .i64 s, .bool kn, .sl ka74 1 0 (i + 1), d2, d3] = H1 at *
          clear n74 n74b
          generalize D.sl ka74 1 0 (i + 1) = e1 at *
          repeat' (first | (with_reducible first | refine W_seq ?_ | refine then_n ?_ | refine W_block ?_ | refine blk_n ?_ | refine blk_r ?_ | refine blk_e ?_ | refine W_skip ?_ | refine W_ret ?_ | refine then_r ?_ | refine W_exit ?_ | refine then_e ?_) | (refine blk_j (by decide) ?_) | ((with_reducible refine s_reg ?_); intro K hK) | ((with_reducible refine k_nil ?_); (with_reducible apply s_nil hK); (· exact nmX); clear hK; clear K) | ((with_reducible refine k_cond ?_); (first | ((with_reducible apply s_condT); (· rfl); (· exact nmX)) | ((with_reducible apply s_condF); (· rfl); (· exact nmX)) | ((with_reducible apply s_condS); (· rfl); (· exact nmX); (· exact nmX)))) | ((with_reducible refine k_guard ?_); (first | (refine s_gt rfl ?_) | (refine s_gf1 rfl ?_) | (refine s_gfn rfl ?_) | (refine s_gx1 rfl ?_) | (refine s_gxn rfl ?_) | (refine s_gs rfl ?_))) | ((with_reducible refine k_mv ?_); (refine s_mv rfl ?_)) | ((with_reducible refine k_load ?_); (first | ((with_reducible apply s_loadV); (· rfl)) | ((with_reducible apply s_loadP); (· rfl); (· (exact hpX))))) | ((with_reducible refine k_store ?_); ((with_reducible apply s_store0); (· rfl); (· rfl); (· rfl); (· (exact hpX)); (· (exact ⟨rfl, by first | exact Nat.le_of_ble_eq_true rfl | omega | (simp; omega)⟩)); (· ((first | exact liL | exact liO))); (· (first | exact upd_upd | rfl)))) | ((with_reducible refine k_faddr ?_); (first | ((with_reducible apply s_faddrV); (· rfl); (· rfl)) | ((with_reducible apply s_faddrP); (· rfl); (· rfl)))) | ((with_reducible refine k_buildS (dst := some 87) ?_); ((with_reducible apply s_buildS); (· rfl); (· (exact ⟨rfl, by decide⟩)); (· (first | (simp only [fillB, rep, splice, List.reduceReplicate, List.flatten_cons, List.flatten_nil, List.cons_append, List.nil_append, List.append_nil, List.length_cons, List.length_nil, Nat.reduceAdd, Nat.reduceMul, Nat.reduceLeDiff, Nat.reduceEqDiff, eq_self, Nat.le_refl, Nat.zero_add, and_self, and_true, true_and, if_true, List.take_zero, List.take_succ_cons, List.drop_zero, List.drop_succ_cons, List.drop_nil, List.take_nil]; rfl) | rfl)); intro k87 hk87; (try simp only [upd_none] at hk87))) | ((with_reducible refine k_buildS (dst := some 87) ?_); ((with_reducible apply s_buildS); (· rfl); (· (exact ⟨rfl, by decide⟩)); (· (first | (simp only [fillB, rep, splice, List.reduceReplicate, List.flatten_cons, List.flatten_nil, List.cons_append, List.nil_append, List.append_nil, List.length_cons, List.length_nil, Nat.reduceAdd, Nat.reduceMul, Nat.reduceLeDiff, Nat.reduceEqDiff, eq_self, Nat.le_refl, Nat.zero_add, and_self, and_true, true_and, if_true, List.take_zero, List.take_succ_cons, List.drop_zero, List.drop_succ_cons, List.drop_nil, List.take_nil]; rfl) | rfl)); intro k87 hk87; (try simp only [upd_none] at hk87))) | ((with_reducible refine k_buildS (dst := some 87) ?_); ((with_reducible apply s_buildS); (· rfl); (· (exact ⟨rfl, by decide⟩)); (· (first | (simp only [fillB, rep, splice, List.reduceReplicate, List.flatten_cons, List.flatten_nil, List.cons_append, List.nil_append, List.append_nil, List.length_cons, List.length_nil, Nat.reduceAdd, Nat.reduceMul, Nat.reduceLeDiff, Nat.reduceEqDiff, eq_self, Nat.le_refl, Nat.zero_add, and_self, and_true, true_and, if_true, List.take_zero, List.take_succ_cons, List.drop_zero, List.drop_succ_cons, List.drop_nil, List.take_nil]; rfl) | rfl)); intro k87 hk87; (try simp only [upd_none] at hk87))) | ((with_reducible refine k_nilck ?_); (first | ((with_reducible apply s_nilckV); (· rfl)) | ((with_reducible apply s_nilckP); (· rfl)) | ((with_reducible apply s_nilckF); (· rfl)))) | ((with_reducible refine k_append (dst := some 88) ?_); ((with_reducible apply s_app2); (· rfl); (· rfl); (· first | assumption | exact SlOwn.nil | exact SlOwn.emp | ((repeat' (first | assumption | (with_reducible apply SlOwn.upd) | (simp only [upd_none]; assumption))); done)); (· rfl); (· first | exact srcD_sl upd_self rfl | (exact srcD_vs (by first | assumption | simp)) | ((apply srcD_sl); (· (exact hpX)); (· rfl))); (· exact ⟨by first | rfl | assumption | simp, by decide, by decide⟩); (· first | (rw [room_n]; omega) | skip); intro ka88 ha88 hn88 hk88 hoth88)) | ((with_reducible refine k_append (dst := some 88) ?_); ((with_reducible apply s_app2); (· rfl); (· rfl); (· first | assumption | exact SlOwn.nil | exact SlOwn.emp | ((repeat' (first | assumption | (with_reducible apply SlOwn.upd) | (simp only [upd_none]; assumption))); done)); (· rfl); (· first | exact srcD_sl upd_self rfl | (exact srcD_vs (by first | assumption | simp)) | ((apply srcD_sl); (· (exact hpX)); (· rfl))); (· exact ⟨by first | rfl | assumption | simp, by decide, by decide⟩); (· first | (rw [room_n]; omega) | skip); intro ka88 ha88 hn88 hk88 hoth88)) | ((with_reducible refine k_append (dst := some 88) ?_); ((with_reducible apply s_app2); (· rfl); (· rfl); (· first | assumption | exact SlOwn.nil | exact SlOwn.emp | ((repeat' (first | assumption | (with_reducible apply SlOwn.upd) | (simp only [upd_none]; assumption))); done)); (· rfl); (· first | exact srcD_sl upd_self rfl | (exact srcD_vs (by first | assumption | simp)) | ((apply srcD_sl); (· (exact hpX)); (· rfl))); (· exact ⟨by first | rfl | assumption | simp, by decide, by decide⟩); (· first | (rw [room_n]; omega) | skip); intro ka88 ha88 hn88 hk88 hoth88)) | ((with_reducible refine k_callF ?_); (first | ((with_reducible apply s_call1); (· rfl)) | ((with_reducible apply s_calln); (· rfl)))) | ((with_reducible refine k_dreg ?_); refine W_dregM (pre := A42d21a) (suf := A42d21b) rfl rfl rfl rfl ?_; intro K hK) | ((with_reducible refine k_dreg ?_); refine W_dregM (pre := A42d22a) (suf := A42d22b) rfl rfl rfl rfl ?_; intro K hK) | ((with_reducible refine k_dreg ?_); refine W_dregM (pre := A42d23a) (suf := A42d23b) rfl rfl rfl rfl ?_; intro K hK) | ((with_reducible refine k_dreg ?_); refine s_dreg rfl rfl ?_; intro K hK) | (with_reducible refine d_nilS ?_) | ((with_reducible refine k_dnil ?_); (with_reducible apply d_nil hK); (· exact nmX); clear hK; clear K) | ((with_reducible refine k_dguard ?_); (first | (refine d_gt rfl ?_) | (refine d_gf rfl ?_) | (refine d_gx rfl ?_) | (refine d_gs rfl ?_))) | ((with_reducible refine k_dcall ?_); (first | ((with_reducible apply d_call); (· rfl); (· exact cg); (· (exact agX)); simp only [unow, unowC, List.map]))) | ((with_reducible refine k_dop ?_); refine d_step (by first | exact Or.inl rfl | exact Or.inr rfl) ?_) | (with_reducible refine d_back ?_) | ((with_reducible refine k_br ?_); (first | (with_reducible first | refine Br_dec ?_ | refine Br_not ?_ | refine Br_eqF ?_ | refine Br_and ?_ | refine Br_or ?_ | refine Br_neg ?_ | refine Br_band ?_ | refine Br_bor ?_ | refine Br_beq ?_) | (refine Br_t (by first | with_reducible rfl | omega | assumption | rfl) ?_) | (refine Br_f (by first | omega | assumption | decide) ?_) | (with_reducible apply Br_sb <;> intro hbr <;> (first | subst hbr | simp only [hbr] | skip)) | (with_reducible apply Br_s <;> intro hbr))) | (with_reducible refine WN_succ ?_) | ((first | (with_reducible apply q_eqI) | (with_reducible apply q_eqN)); (first | exact nuI | exact nuN)) | ((first | (with_reducible apply q_eqL) | (with_reducible apply q_eqO)); (first | exact liL | exact liO)))
          have hq58 : upd H1 k87 [D.bool (decide (grdP l (lvL l p) (i : Int) s false))] k58 = some [pgs p, .int .i64 s, .bool kn, e1, d2, d3] := by rw [upd_ne (ne_key hk87 hq')]; exact hq'
          have n88 : ka88 ≠ k58 := fun h => by rw [h, hq58] at hn88; cases hn88
          have n88b : ka88 ≠ k32 := fun h => by rw [h, upd_ne (ne_key hk87 hk'), hk'] at hn88; cases hn88
          have hq88 := hoth88 k58 _ hq58 f2
          have hk2 := key_keep (cq := [pgs p, .int .i64 s, .bool kn, e1, .sl ka88 1 0 (i + 1), d3]) hk' hk87 hoth88 g2 hne
          have t1 := own_keep (cq := [pgs p, .int .i64 s, .bool kn, e1, .sl ka88 1 0 (i + 1), d3]) s1' hk87 x12' hoth88 fa
          have t2 := own_new (f := gdB l (lvL l p) s false) (cq := [pgs p, .int .i64 s, .bool kn, e1, .sl ka88 1 0 (i + 1), d3]) hk88 n88
          have t3 := own_keep (cq := [pgs p, .int .i64 s, .bool kn, e1, .sl ka88 1 0 (i + 1), d3]) s3' hk87 x23 hoth88 f3
          have y12 : Dis e1 (.sl ka88 1 0 (i + 1)) := (s1'.upd hk87).dis hn88
          have y23 : Dis d3 (.sl ka88 1 0 (i + 1)) := (s3'.upd hk87).dis hn88
          have hq2 : upd ha88 k58 [pgs p, .int .i64 s, .bool kn, e1, .sl ka88 1 0 (i + 1), d3] k58 = some [pgs p, .int .i64 s, .bool kn, e1, .sl ka88 1 0 (i + 1), d3] := upd_self
          have fb : Fr (.sl ka88 1 0 (i + 1)) k58 := Fr.sl n88
          have gb : Fr (.sl ka88 1 0 (i + 1)) k32 := Fr.sl n88b
          clear hk' s1' s2' s3' hq' hq58 hk88 hk87 x12' x23 f2 g2 cg
          repeat' (first | (with_reducible first | refine W_seq ?_ | refine then_n ?_ | refine W_block ?_ | refine blk_n ?_ | refine blk_r ?_ | refine blk_e ?_ | refine W_skip ?_ | refine W_ret ?_ | refine then_r ?_ | refine W_exit ?_ | refine then_e ?_) | (refine blk_j (by decide) ?_) | ((with_reducible refine s_reg ?_); intro K hK) | ((with_reducible refine k_nil ?_); (with_reducible apply s_nil hK); (· exact nmX); clear hK; clear K) | ((with_reducible refine k_cond ?_); (first | ((with_reducible apply s_condT); (· rfl); (· exact nmX)) | ((with_reducible apply s_condF); (· rfl); (· exact nmX)) | ((with_reducible apply s_condS); (· rfl); (· exact nmX); (· exact nmX)))) | ((with_reducible refine k_guard ?_); (first | (refine s_gt rfl ?_) | (refine s_gf1 rfl ?_) | (refine s_gfn rfl ?_) | (refine s_gx1 rfl ?_) | (refine s_gxn rfl ?_) | (refine s_gs rfl ?_))) | ((with_reducible refine k_mv ?_); (refine s_mv rfl ?_)) | ((with_reducible refine k_load ?_); (first | ((with_reducible apply s_loadV); (· rfl)) | ((with_reducible apply s_loadP); (· rfl); (· (exact hpX))))) | ((with_reducible refine k_store ?_); ((with_reducible apply s_store0); (· rfl); (· rfl); (· rfl); (· (exact hpX)); (· (exact ⟨rfl, by first | exact Nat.le_of_ble_eq_true rfl | omega | (simp; omega)⟩)); (· ((first | exact liL | exact liO))); (· (first | exact upd_upd | rfl)))) | ((with_reducible refine k_faddr ?_); (first | ((with_reducible apply s_faddrV); (· rfl); (· rfl)) | ((with_reducible apply s_faddrP); (· rfl); (· rfl)))) | ((with_reducible refine k_buildS (dst := some 87) ?_); ((with_reducible apply s_buildS); (· rfl); (· (exact ⟨rfl, by decide⟩)); (· (first | (simp only [fillB, rep, splice, List.reduceReplicate, List.flatten_cons, List.flatten_nil, List.cons_append, List.nil_append, List.append_nil, List.length_cons, List.length_nil, Nat.reduceAdd, Nat.reduceMul, Nat.reduceLeDiff, Nat.reduceEqDiff, eq_self, Nat.le_refl, Nat.zero_add, and_self, and_true, true_and, if_true, List.take_zero, List.take_succ_cons, List.drop_zero, List.drop_succ_cons, List.drop_nil, List.take_nil]; rfl) | rfl)); intro k87 hk87; (try simp only [upd_none] at hk87))) | ((with_reducible refine k_buildS (dst := some 87) ?_); ((with_reducible apply s_buildS); (· rfl); (· (exact ⟨rfl, by decide⟩)); (· (first | (simp only [fillB, rep, splice, List.reduceReplicate, List.flatten_cons, List.flatten_nil, List.cons_append, List.nil_append, List.append_nil, List.length_cons, List.length_nil, Nat.reduceAdd, Nat.reduceMul, Nat.reduceLeDiff, Nat.reduceEqDiff, eq_self, Nat.le_refl, Nat.zero_add, and_self, and_true, true_and, if_true, List.take_zero, List.take_succ_cons, List.drop_zero, List.drop_succ_cons, List.drop_nil, List.take_nil]; rfl) | rfl)); intro k87 hk87; (try simp only [upd_none] at hk87))) | ((with_reducible refine k_buildS (dst := some 87) ?_); ((with_reducible apply s_buildS); (· rfl); (· (exact ⟨rfl, by decide⟩)); (· (first | (simp only [fillB, rep, splice, List.reduceReplicate, List.flatten_cons, List.flatten_nil, List.cons_append, List.nil_append, List.append_nil, List.length_cons, List.length_nil, Nat.reduceAdd, Nat.reduceMul, Nat.reduceLeDiff, Nat.reduceEqDiff, eq_self, Nat.le_refl, Nat.zero_add, and_self, and_true, true_and, if_true, List.take_zero, List.take_succ_cons, List.drop_zero, List.drop_succ_cons, List.drop_nil, List.take_nil]; rfl) | rfl)); intro k87 hk87; (try simp only [upd_none] at hk87))) | ((with_reducible refine k_nilck ?_); (first | ((with_reducible apply s_nilckV); (· rfl)) | ((with_reducible apply s_nilckP); (· rfl)) | ((with_reducible apply s_nilckF); (· rfl)))) | ((with_reducible refine k_append (dst := some 88) ?_); ((with_reducible apply s_app); (· rfl); (· rfl); (· first | assumption | exact SlOwn.nil | exact SlOwn.emp | exact SlOwn.sl upd_self rfl | ((repeat' (first | assumption | (with_reducible apply SlOwn.upd) | (simp only [upd_none]; assumption))); done) | ((apply SlOwn.sl); (· (exact hpX)); (· first | rfl | assumption))); (· rfl); (· first | exact srcD_sl upd_self rfl | (exact srcD_vs (by first | assumption | simp)) | ((apply srcD_sl); (· (exact hpX)); (· rfl))); (· exact ⟨by first | rfl | assumption | simp, by decide⟩); (· first | (rw [room_n]; omega) | skip); intro da88 ha88 hso88 hoth88)) | ((with_reducible refine k_append (dst := some 88) ?_); ((with_reducible apply s_app); (· rfl); (· rfl); (· first | assumption | exact SlOwn.nil | exact SlOwn.emp | exact SlOwn.sl upd_self rfl | ((repeat' (first | assumption | (with_reducible apply SlOwn.upd) | (simp only [upd_none]; assumption))); done) | ((apply SlOwn.sl); (· (exact hpX)); (· first | rfl | assumption))); (· rfl); (· first | exact srcD_sl upd_self rfl | (exact srcD_vs (by first | assumption | simp)) | ((apply srcD_sl); (· (exact hpX)); (· rfl))); (· exact ⟨by first | rfl | assumption | simp, by decide⟩); (· first | (rw [room_n]; omega) | skip); intro da88 ha88 hso88 hoth88)) | ((with_reducible refine k_append (dst := some 88) ?_); ((with_reducible apply s_app); (· rfl); (· rfl); (· first | assumption | exact SlOwn.nil | exact SlOwn.emp | exact SlOwn.sl upd_self rfl | ((repeat' (first | assumption | (with_reducible apply SlOwn.upd) | (simp only [upd_none]; assumption))); done) | ((apply SlOwn.sl); (· (exact hpX)); (· first | rfl | assumption))); (· rfl); (· first | exact srcD_sl upd_self rfl | (exact srcD_vs (by first | assumption | simp)) | ((apply srcD_sl); (· (exact hpX)); (· rfl))); (· exact ⟨by first | rfl | assumption | simp, by decide⟩); (· first | (rw [room_n]; omega) | skip); intro da88 ha88 hso88 hoth88)) | ((with_reducible refine k_callF ?_); (first | ((with_reducible apply s_call1); (· rfl)) | ((with_reducible apply s_calln); (· rfl)))) | ((with_reducible refine k_dreg ?_); refine W_dregM (pre := A42d21a) (suf := A42d21b) rfl rfl rfl rfl ?_; intro K hK) | ((with_reducible refine k_dreg ?_); refine W_dregM (pre := A42d22a) (suf := A42d22b) rfl rfl rfl rfl ?_; intro K hK) | ((with_reducible refine k_dreg ?_); refine W_dregM (pre := A42d23a) (suf := A42d23b) rfl rfl rfl rfl ?_; intro K hK) | ((with_reducible refine k_dreg ?_); refine s_dreg rfl rfl ?_; intro K hK) | (with_reducible refine d_nilS ?_) | ((with_reducible refine k_dnil ?_); (with_reducible apply d_nil hK); (· exact nmX); clear hK; clear K) | ((with_reducible refine k_dguard ?_); (first | (refine d_gt rfl ?_) | (refine d_gf rfl ?_) | (refine d_gx rfl ?_) | (refine d_gs rfl ?_))) | ((with_reducible refine k_dop ?_); refine d_step (by first | exact Or.inl rfl | exact Or.inr rfl) ?_) | (with_reducible refine d_back ?_) | ((with_reducible refine k_br ?_); (first | (with_reducible first | refine Br_dec ?_ | refine Br_not ?_ | refine Br_eqF ?_ | refine Br_and ?_ | refine Br_or ?_ | refine Br_neg ?_ | refine Br_band ?_ | refine Br_bor ?_ | refine Br_beq ?_) | (refine Br_t (by first | with_reducible rfl | omega | assumption | rfl) ?_) | (refine Br_f (by first | omega | assumption | decide) ?_) | (with_reducible apply Br_sb <;> intro hbr <;> (first | subst hbr | simp only [hbr] | skip)) | (with_reducible apply Br_s <;> intro hbr))) | (with_reducible refine WN_succ ?_) | ((first | (with_reducible apply q_eqI) | (with_reducible apply q_eqN)); (first | exact nuI | exact nuN)) | ((first | (with_reducible apply q_eqL) | (with_reducible apply q_eqO)); (first | exact liL | exact liO)))
          clear hoth88 hn88 hq88
          generalize upd ha88 k58 [pgs p, .int .i64 s, .bool kn, e1, .sl ka88 1 0 (i + 1), d3] = H2 at *
          clear n88 n88b
          generalize D.sl ka88 1 0 (i + 1) = e2 at *
          repeat' (first | (with_reducible first | refine W_seq ?_ | refine then_n ?_ | refine W_block ?_ | refine blk_n ?_ | refine blk_r ?_ | refine blk_e ?_ | refine W_skip ?_ | refine W_ret ?_ | refine then_r ?_ | refine W_exit ?_ | refine then_e ?_) | (refine blk_j (by decide) ?_) | ((with_reducible refine s_reg ?_); intro K hK) | ((with_reducible refine k_nil ?_); (with_reducible apply s_nil hK); (· exact nmX); clear hK; clear K) | ((with_reducible refine k_cond ?_); (first | ((with_reducible apply s_condT); (· rfl); (· exact nmX)) | ((with_reducible apply s_condF); (· rfl); (· exact nmX)) | ((with_reducible apply s_condS); (· rfl); (· exact nmX); (· exact nmX)))) | ((with_reducible refine k_guard ?_); (first | (refine s_gt rfl ?_) | (refine s_gf1 rfl ?_) | (refine s_gfn rfl ?_) | (refine s_gx1 rfl ?_) | (refine s_gxn rfl ?_) | (refine s_gs rfl ?_))) | ((with_reducible refine k_mv ?_); (refine s_mv rfl ?_)) | ((with_reducible refine k_load ?_); (first | ((with_reducible apply s_loadV); (· rfl)) | ((with_reducible apply s_loadP); (· rfl); (· (exact hpX))))) | ((with_reducible refine k_store ?_); ((with_reducible apply s_store0); (· rfl); (· rfl); (· rfl); (· (exact hpX)); (· (exact ⟨rfl, by first | exact Nat.le_of_ble_eq_true rfl | omega | (simp; omega)⟩)); (· ((first | exact liL | exact liO))); (· (first | exact upd_upd | rfl)))) | ((with_reducible refine k_faddr ?_); (first | ((with_reducible apply s_faddrV); (· rfl); (· rfl)) | ((with_reducible apply s_faddrP); (· rfl); (· rfl)))) | ((with_reducible refine k_buildS (dst := some 101) ?_); ((with_reducible apply s_buildS); (· rfl); (· (exact ⟨rfl, by decide⟩)); (· (first | (simp only [fillB, rep, splice, List.reduceReplicate, List.flatten_cons, List.flatten_nil, List.cons_append, List.nil_append, List.append_nil, List.length_cons, List.length_nil, Nat.reduceAdd, Nat.reduceMul, Nat.reduceLeDiff, Nat.reduceEqDiff, eq_self, Nat.le_refl, Nat.zero_add, and_self, and_true, true_and, if_true, List.take_zero, List.take_succ_cons, List.drop_zero, List.drop_succ_cons, List.drop_nil, List.take_nil]; rfl) | rfl)); intro k101 hk101; (try simp only [upd_none] at hk101))) | ((with_reducible refine k_buildS (dst := some 101) ?_); ((with_reducible apply s_buildS); (· rfl); (· (exact ⟨rfl, by decide⟩)); (· (first | (simp only [fillB, rep, splice, List.reduceReplicate, List.flatten_cons, List.flatten_nil, List.cons_append, List.nil_append, List.append_nil, List.length_cons, List.length_nil, Nat.reduceAdd, Nat.reduceMul, Nat.reduceLeDiff, Nat.reduceEqDiff, eq_self, Nat.le_refl, Nat.zero_add, and_self, and_true, true_and, if_true, List.take_zero, List.take_succ_cons, List.drop_zero, List.drop_succ_cons, List.drop_nil, List.take_nil]; rfl) | rfl)); intro k101 hk101; (try simp only [upd_none] at hk101))) | ((with_reducible refine k_buildS (dst := some 101) ?_); ((with_reducible apply s_buildS); (· rfl); (· (exact ⟨rfl, by decide⟩)); (· (first | (simp only [fillB, rep, splice, List.reduceReplicate, List.flatten_cons, List.flatten_nil, List.cons_append, List.nil_append, List.append_nil, List.length_cons, List.length_nil, Nat.reduceAdd, Nat.reduceMul, Nat.reduceLeDiff, Nat.reduceEqDiff, eq_self, Nat.le_refl, Nat.zero_add, and_self, and_true, true_and, if_true, List.take_zero, List.take_succ_cons, List.drop_zero, List.drop_succ_cons, List.drop_nil, List.take_nil]; rfl) | rfl)); intro k101 hk101; (try simp only [upd_none] at hk101))) | ((with_reducible refine k_nilck ?_); (first | ((with_reducible apply s_nilckV); (· rfl)) | ((with_reducible apply s_nilckP); (· rfl)) | ((with_reducible apply s_nilckF); (· rfl)))) | ((with_reducible refine k_append (dst := some 102) ?_); ((with_reducible apply s_app2); (· rfl); (· rfl); (· first | assumption | exact SlOwn.nil | exact SlOwn.emp | ((repeat' (first | assumption | (with_reducible apply SlOwn.upd) | (simp only [upd_none]; assumption))); done)); (· rfl); (· first | exact srcD_sl upd_self rfl | (exact srcD_vs (by first | assumption | simp)) | ((apply srcD_sl); (· (exact hpX)); (· rfl))); (· exact ⟨by first | rfl | assumption | simp, by decide, by decide⟩); (· first | (rw [room_n]; omega) | skip); intro ka102 ha102 hn102 hk102 hoth102)) | ((with_reducible refine k_append (dst := some 102) ?_); ((with_reducible apply s_app2); (· rfl); (· rfl); (· first | assumption | exact SlOwn.nil | exact SlOwn.emp | ((repeat' (first | assumption | (with_reducible apply SlOwn.upd) | (simp only [upd_none]; assumption))); done)); (· rfl); (· first | exact srcD_sl upd_self rfl | (exact srcD_vs (by first | assumption | simp)) | ((apply srcD_sl); (· (exact hpX)); (· rfl))); (· exact ⟨by first | rfl | assumption | simp, by decide, by decide⟩); (· first | (rw [room_n]; omega) | skip); intro ka102 ha102 hn102 hk102 hoth102)) | ((with_reducible refine k_append (dst := some 102) ?_); ((with_reducible apply s_app2); (· rfl); (· rfl); (· first | assumption | exact SlOwn.nil | exact SlOwn.emp | ((repeat' (first | assumption | (with_reducible apply SlOwn.upd) | (simp only [upd_none]; assumption))); done)); (· rfl); (· first | exact srcD_sl upd_self rfl | (exact srcD_vs (by first | assumption | simp)) | ((apply srcD_sl); (· (exact hpX)); (· rfl))); (· exact ⟨by first | rfl | assumption | simp, by decide, by decide⟩); (· first | (rw [room_n]; omega) | skip); intro ka102 ha102 hn102 hk102 hoth102)) | ((with_reducible refine k_callF ?_); (first | ((with_reducible apply s_call1); (· rfl)) | ((with_reducible apply s_calln); (· rfl)))) | ((with_reducible refine k_dreg ?_); refine W_dregM (pre := A42d21a) (suf := A42d21b) rfl rfl rfl rfl ?_; intro K hK) | ((with_reducible refine k_dreg ?_); refine W_dregM (pre := A42d22a) (suf := A42d22b) rfl rfl rfl rfl ?_; intro K hK) | ((with_reducible refine k_dreg ?_); refine W_dregM (pre := A42d23a) (suf := A42d23b) rfl rfl rfl rfl ?_; intro K hK) | ((with_reducible refine k_dreg ?_); refine s_dreg rfl rfl ?_; intro K hK) | (with_reducible refine d_nilS ?_) | ((with_reducible refine k_dnil ?_); (with_reducible apply d_nil hK); (· exact nmX); clear hK; clear K) | ((with_reducible refine k_dguard ?_); (first | (refine d_gt rfl ?_) | (refine d_gf rfl ?_) | (refine d_gx rfl ?_) | (refine d_gs rfl ?_))) | ((with_reducible refine k_dcall ?_); (first | ((with_reducible apply d_call); (· rfl); (· exact cl); (· (exact agX)); simp only [unow, unowC, List.map]))) | ((with_reducible refine k_dop ?_); refine d_step (by first | exact Or.inl rfl | exact Or.inr rfl) ?_) | (with_reducible refine d_back ?_) | ((with_reducible refine k_br ?_); (first | (with_reducible first | refine Br_dec ?_ | refine Br_not ?_ | refine Br_eqF ?_ | refine Br_and ?_ | refine Br_or ?_ | refine Br_neg ?_ | refine Br_band ?_ | refine Br_bor ?_ | refine Br_beq ?_) | (refine Br_t (by first | with_reducible rfl | omega | assumption | rfl) ?_) | (refine Br_f (by first | omega | assumption | decide) ?_) | (with_reducible apply Br_sb <;> intro hbr <;> (first | subst hbr | simp only [hbr] | skip)) | (with_reducible apply Br_s <;> intro hbr))) | (with_reducible refine WN_succ ?_) | ((first | (with_reducible apply q_eqI) | (with_reducible apply q_eqN)); (first | exact nuI | exact nuN)) | ((first | (with_reducible apply q_eqL) | (with_reducible apply q_eqO)); (first | exact liL | exact liO)))
          have hq58 : upd H2 k101 [D.bool (decide (grdP l (lvL l p) (i : Int) s true))] k58 = some [pgs p, .int .i64 s, .bool kn, e1, e2, d3] := by rw [upd_ne (ne_key hk101 hq2)]; exact hq2
          have n102 : ka102 ≠ k58 := fun h => by rw [h, hq58] at hn102; cases hn102
          have n102b : ka102 ≠ k32 := fun h => by rw [h, upd_ne (ne_key hk101 hk2), hk2] at hn102; cases hn102
          have hq102 := hoth102 k58 _ hq58 f3
          have hk3 := key_keep (cq := [pgs p, .int .i64 s, .bool kn, e1, e2, .sl ka102 1 0 (i + 1)]) hk2 hk101 hoth102 g3 hne
          have u1 := own_keep (cq := [pgs p, .int .i64 s, .bool kn, e1, e2, .sl ka102 1 0 (i + 1)]) t1 hk101 x13' hoth102 fa
          have u2 := own_keep (cq := [pgs p, .int .i64 s, .bool kn, e1, e2, .sl ka102 1 0 (i + 1)]) t2 hk101 y23 hoth102 fb
          have u3 := own_new (f := gdB l (lvL l p) s true) (cq := [pgs p, .int .i64 s, .bool kn, e1, e2, .sl ka102 1 0 (i + 1)]) hk102 n102
          have z13 : Dis e1 (.sl ka102 1 0 (i + 1)) := (t1.upd hk101).dis hn102
          have z23 : Dis e2 (.sl ka102 1 0 (i + 1)) := (t2.upd hk101).dis hn102
          have hq3 : upd ha102 k58 [pgs p, .int .i64 s, .bool kn, e1, e2, .sl ka102 1 0 (i + 1)] k58 = some [pgs p, .int .i64 s, .bool kn, e1, e2, .sl ka102 1 0 (i + 1)] := upd_self
          clear hk2 t1 t2 t3 hq2 hq58 hk102 hk101
          repeat' (first | (with_reducible first | refine W_seq ?_ | refine then_n ?_ | refine W_block ?_ | refine blk_n ?_ | refine blk_r ?_ | refine blk_e ?_ | refine W_skip ?_ | refine W_ret ?_ | refine then_r ?_ | refine W_exit ?_ | refine then_e ?_) | (refine blk_j (by decide) ?_) | ((with_reducible refine s_reg ?_); intro K hK) | ((with_reducible refine k_nil ?_); (with_reducible apply s_nil hK); (· exact nmX); clear hK; clear K) | ((with_reducible refine k_cond ?_); (first | ((with_reducible apply s_condT); (· rfl); (· exact nmX)) | ((with_reducible apply s_condF); (· rfl); (· exact nmX)) | ((with_reducible apply s_condS); (· rfl); (· exact nmX); (· exact nmX)))) | ((with_reducible refine k_guard ?_); (first | (refine s_gt rfl ?_) | (refine s_gf1 rfl ?_) | (refine s_gfn rfl ?_) | (refine s_gx1 rfl ?_) | (refine s_gxn rfl ?_) | (refine s_gs rfl ?_))) | ((with_reducible refine k_mv ?_); (refine s_mv rfl ?_)) | ((with_reducible refine k_load ?_); (first | ((with_reducible apply s_loadV); (· rfl)) | ((with_reducible apply s_loadP); (· rfl); (· (exact hpX))))) | ((with_reducible refine k_add ?_); ((with_reducible apply s_add); (· rfl); (· rfl))) | ((with_reducible refine k_store ?_); ((with_reducible apply s_store0); (· rfl); (· rfl); (· rfl); (· (exact hpX)); (· (exact ⟨rfl, by first | exact Nat.le_of_ble_eq_true rfl | omega | (simp; omega)⟩)); (· ((first | exact liL | exact liO))); (· (first | exact upd_upd | rfl)))) | ((with_reducible refine k_faddr ?_); (first | ((with_reducible apply s_faddrV); (· rfl); (· rfl)) | ((with_reducible apply s_faddrP); (· rfl); (· rfl)))) | ((with_reducible refine k_buildS (dst := some 101) ?_); ((with_reducible apply s_buildS); (· rfl); (· (exact ⟨rfl, by decide⟩)); (· (first | (simp only [fillB, rep, splice, List.reduceReplicate, List.flatten_cons, List.flatten_nil, List.cons_append, List.nil_append, List.append_nil, List.length_cons, List.length_nil, Nat.reduceAdd, Nat.reduceMul, Nat.reduceLeDiff, Nat.reduceEqDiff, eq_self, Nat.le_refl, Nat.zero_add, and_self, and_true, true_and, if_true, List.take_zero, List.take_succ_cons, List.drop_zero, List.drop_succ_cons, List.drop_nil, List.take_nil]; rfl) | rfl)); intro k101 hk101; (try simp only [upd_none] at hk101))) | ((with_reducible refine k_buildS (dst := some 101) ?_); ((with_reducible apply s_buildS); (· rfl); (· (exact ⟨rfl, by decide⟩)); (· (first | (simp only [fillB, rep, splice, List.reduceReplicate, List.flatten_cons, List.flatten_nil, List.cons_append, List.nil_append, List.append_nil, List.length_cons, List.length_nil, Nat.reduceAdd, Nat.reduceMul, Nat.reduceLeDiff, Nat.reduceEqDiff, eq_self, Nat.le_refl, Nat.zero_add, and_self, and_true, true_and, if_true, List.take_zero, List.take_succ_cons, List.drop_zero, List.drop_succ_cons, List.drop_nil, List.take_nil]; rfl) | rfl)); intro k101 hk101; (try simp only [upd_none] at hk101))) | ((with_reducible refine k_buildS (dst := some 101) ?_); ((with_reducible apply s_buildS); (· rfl); (· (exact ⟨rfl, by decide⟩)); (· (first | (simp only [fillB, rep, splice, List.reduceReplicate, List.flatten_cons, List.flatten_nil, List.cons_append, List.nil_append, List.append_nil, List.length_cons, List.length_nil, Nat.reduceAdd, Nat.reduceMul, Nat.reduceLeDiff, Nat.reduceEqDiff, eq_self, Nat.le_refl, Nat.zero_add, and_self, and_true, true_and, if_true, List.take_zero, List.take_succ_cons, List.drop_zero, List.drop_succ_cons, List.drop_nil, List.take_nil]; rfl) | rfl)); intro k101 hk101; (try simp only [upd_none] at hk101))) | ((with_reducible refine k_nilck ?_); (first | ((with_reducible apply s_nilckV); (· rfl)) | ((with_reducible apply s_nilckP); (· rfl)) | ((with_reducible apply s_nilckF); (· rfl)))) | ((with_reducible refine k_append (dst := some 102) ?_); ((with_reducible apply s_app); (· rfl); (· rfl); (· first | assumption | exact SlOwn.nil | exact SlOwn.emp | exact SlOwn.sl upd_self rfl | ((repeat' (first | assumption | (with_reducible apply SlOwn.upd) | (simp only [upd_none]; assumption))); done) | ((apply SlOwn.sl); (· (exact hpX)); (· first | rfl | assumption))); (· rfl); (· first | exact srcD_sl upd_self rfl | (exact srcD_vs (by first | assumption | simp)) | ((apply srcD_sl); (· (exact hpX)); (· rfl))); (· exact ⟨by first | rfl | assumption | simp, by decide⟩); (· first | (rw [room_n]; omega) | skip); intro da102 ha102 hso102 hoth102)) | ((with_reducible refine k_append (dst := some 102) ?_); ((with_reducible apply s_app); (· rfl); (· rfl); (· first | assumption | exact SlOwn.nil | exact SlOwn.emp | exact SlOwn.sl upd_self rfl | ((repeat' (first | assumption | (with_reducible apply SlOwn.upd) | (simp only [upd_none]; assumption))); done) | ((apply SlOwn.sl); (· (exact hpX)); (· first | rfl | assumption))); (· rfl); (· first | exact srcD_sl upd_self rfl | (exact srcD_vs (by first | assumption | simp)) | ((apply srcD_sl); (· (exact hpX)); (· rfl))); (· exact ⟨by first | rfl | assumption | simp, by decide⟩); (· first | (rw [room_n]; omega) | skip); intro da102 ha102 hso102 hoth102)) | ((with_reducible refine k_append (dst := some 102) ?_); ((with_reducible apply s_app); (· rfl); (· rfl); (· first | assumption | exact SlOwn.nil | exact SlOwn.emp | exact SlOwn.sl upd_self rfl | ((repeat' (first | assumption | (with_reducible apply SlOwn.upd) | (simp only [upd_none]; assumption))); done) | ((apply SlOwn.sl); (· (exact hpX)); (· first | rfl | assumption))); (· rfl); (· first | exact srcD_sl upd_self rfl | (exact srcD_vs (by first | assumption | simp)) | ((apply srcD_sl); (· (exact hpX)); (· rfl))); (· exact ⟨by first | rfl | assumption | simp, by decide⟩); (· first | (rw [room_n]; omega) | skip); intro da102 ha102 hso102 hoth102)) | ((with_reducible refine k_callF ?_); (first | ((with_reducible apply s_call1); (· rfl)) | ((with_reducible apply s_calln); (· rfl)))) | ((with_reducible refine k_dreg ?_); refine W_dregM (pre := A42d21a) (suf := A42d21b) rfl rfl rfl rfl ?_; intro K hK) | ((with_reducible refine k_dreg ?_); refine W_dregM (pre := A42d22a) (suf := A42d22b) rfl rfl rfl rfl ?_; intro K hK) | ((with_reducible refine k_dreg ?_); refine W_dregM (pre := A42d23a) (suf := A42d23b) rfl rfl rfl rfl ?_; intro K hK) | ((with_reducible refine k_dreg ?_); refine s_dreg rfl rfl ?_; intro K hK) | (with_reducible refine d_nilS ?_) | ((with_reducible refine k_dnil ?_); (with_reducible apply d_nil hK); (· exact nmX); clear hK; clear K) | ((with_reducible refine k_dguard ?_); (first | (refine d_gt rfl ?_) | (refine d_gf rfl ?_) | (refine d_gx rfl ?_) | (refine d_gs rfl ?_))) | ((with_reducible refine k_dop ?_); refine d_step (by first | exact Or.inl rfl | exact Or.inr rfl) ?_) | (with_reducible refine d_back ?_) | ((with_reducible refine k_br ?_); (first | (with_reducible first | refine Br_dec ?_ | refine Br_not ?_ | refine Br_eqF ?_ | refine Br_and ?_ | refine Br_or ?_ | refine Br_neg ?_ | refine Br_band ?_ | refine Br_bor ?_ | refine Br_beq ?_) | (refine Br_t (by first | with_reducible rfl | omega | assumption | rfl) ?_) | (refine Br_f (by first | omega | assumption | decide) ?_) | (with_reducible apply Br_sb <;> intro hbr <;> (first | subst hbr | simp only [hbr] | skip)) | (with_reducible apply Br_s <;> intro hbr))) | (with_reducible refine WN_succ ?_) | ((first | (with_reducible apply q_eqI) | (with_reducible apply q_eqN)); (first | exact nuI | exact nuN)) | ((first | (with_reducible apply q_eqL) | (with_reducible apply q_eqO)); (first | exact liL | exact liO)))
          exact ⟨_, e1, e2, .sl ka102 1 0 (i + 1), rfl, hk3, hq3, u1, u2, u3, ⟨fa, fb, Fr.sl n102⟩, ⟨y12, z13, z23⟩, ⟨ga, gb, Fr.sl n102b⟩⟩
        · rintro e' h' ⟨h2, d1, d2, d3, he, hk, hq, s1, s2, s3, ⟨f1, f2, f3⟩, ⟨x12, x13, x23⟩, ⟨g1, g2, g3⟩⟩
          cases he
          repeat' (first | (with_reducible first | refine W_seq ?_ | refine then_n ?_ | refine W_block ?_ | refine blk_n ?_ | refine blk_r ?_ | refine blk_e ?_ | refine W_skip ?_ | refine W_ret ?_ | refine then_r ?_ | refine W_exit ?_ | refine then_e ?_) | (refine blk_j (by decide) ?_) | ((with_reducible refine s_reg ?_); intro K hK) | ((with_reducible refine k_nil ?_); (with_reducible apply s_nil hK); (· exact nmX); clear hK; clear K) | ((with_reducible refine k_cond ?_); (first | ((with_reducible apply s_condT); (· rfl); (· exact nmX)) | ((with_reducible apply s_condF); (· rfl); (· exact nmX)) | ((with_reducible apply s_condS); (· rfl); (· exact nmX); (· exact nmX)))) | ((with_reducible refine k_guard ?_); (first | (refine s_gt rfl ?_) | (refine s_gf1 rfl ?_) | (refine s_gfn rfl ?_) | (refine s_gx1 rfl ?_) | (refine s_gxn rfl ?_) | (refine s_gs rfl ?_))) | ((with_reducible refine k_mv ?_); (refine s_mv rfl ?_)) | ((with_reducible refine k_lss ?_); (refine s_lss rfl rfl ?_)) | ((with_reducible refine k_dreg ?_); refine W_dregM (pre := A42d21a) (suf := A42d21b) rfl rfl rfl rfl ?_; intro K hK) | ((with_reducible refine k_dreg ?_); refine W_dregM (pre := A42d22a) (suf := A42d22b) rfl rfl rfl rfl ?_; intro K hK) | ((with_reducible refine k_dreg ?_); refine W_dregM (pre := A42d23a) (suf := A42d23b) rfl rfl rfl rfl ?_; intro K hK) | ((with_reducible refine k_dreg ?_); refine s_dreg rfl rfl ?_; intro K hK) | (with_reducible refine d_nilS ?_) | ((with_reducible refine k_dnil ?_); (with_reducible apply d_nil hK); (· exact nmX); clear hK; clear K) | ((with_reducible refine k_dguard ?_); (first | (refine d_gt rfl ?_) | (refine d_gf rfl ?_) | (refine d_gx rfl ?_) | (refine d_gs rfl ?_))) | ((with_reducible refine k_dop ?_); refine d_step (by first | exact Or.inl rfl | exact Or.inr rfl) ?_) | (with_reducible refine d_back ?_) | ((with_reducible refine k_br ?_); (first | (with_reducible first | refine Br_dec ?_ | refine Br_not ?_ | refine Br_eqF ?_ | refine Br_and ?_ | refine Br_or ?_ | refine Br_neg ?_ | refine Br_band ?_ | refine Br_bor ?_ | refine Br_beq ?_) | (refine Br_t (by first | with_reducible rfl | omega | assumption | rfl) ?_) | (refine Br_f (by first | omega | assumption | decide) ?_) | (with_reducible apply Br_sb <;> intro hbr <;> (first | subst hbr | simp only [hbr] | skip)) | (with_reducible apply Br_s <;> intro hbr))) | (with_reducible refine WN_succ ?_) | ((first | (with_reducible apply q_eqI) | (with_reducible apply q_eqN)); (first | exact nuI | exact nuN)) | ((first | (with_reducible apply q_eqL) | (with_reducible apply q_eqO)); (first | exact liL | exact liO)))
          exact ⟨trivial, _, rfl, hQ _ _ ⟨d1, d2, d3, hq, s1, s2, s3, f1, f2, f3, x12, x13, x23⟩⟩
    · have hE : askE p l s = 2 := by unfold askE; rw [if_pos h, if_neg hs]
      have h0 := h0 (by omega)
      rw [hE] at h0
      rw [h] at c1
      repeat' (first | (with_reducible first | refine W_seq ?_ | refine then_n ?_ | refine W_block ?_ | refine blk_n ?_ | refine blk_r ?_ | refine blk_e ?_ | refine W_skip ?_ | refine W_ret ?_ | refine then_r ?_ | refine W_exit ?_ | refine then_e ?_) | (refine blk_j (by decide) ?_) | ((with_reducible refine s_reg ?_); intro K hK) | ((with_reducible refine k_nil ?_); (with_reducible apply s_nil hK); (· exact nmX); clear hK; clear K) | ((with_reducible refine k_cond ?_); (first | ((with_reducible apply s_condT); (· rfl); (· exact nmX)) | ((with_reducible apply s_condF); (· rfl); (· exact nmX)) | ((with_reducible apply s_condS); (· rfl); (· exact nmX); (· exact nmX)))) | ((with_reducible refine k_guard ?_); (first | (refine s_gt rfl ?_) | (refine s_gf1 rfl ?_) | (refine s_gfn rfl ?_) | (refine s_gx1 rfl ?_) | (refine s_gxn rfl ?_) | (refine s_gs rfl ?_))) | ((with_reducible refine k_mv ?_); (refine s_mv rfl ?_)) | ((with_reducible refine k_len ?_); (first | (refine s_len rfl rfl ?_) | ((with_reducible apply s_len); (· rfl); (· exact SlOwn.len (by assumption))))) | ((with_reducible refine k_pick ?_); (first | (refine s_pickT rfl rfl ?_) | (refine s_pickF rfl rfl ?_))) | ((with_reducible refine k_neq ?_); (first | (refine s_neq rfl rfl ?_) | (refine s_strNe rfl rfl ?_))) | ((with_reducible refine k_lss ?_); (refine s_lss rfl rfl ?_)) | ((with_reducible refine k_geq ?_); (refine s_geq rfl rfl ?_)) | ((with_reducible refine k_callF ?_); (first | ((with_reducible apply s_call1); (· rfl)) | ((with_reducible apply s_calln); (· rfl)))) | ((with_reducible refine k_con ?_); (first | ((with_reducible apply con_val (c1)); (· (exact agX)); (· rfl); (· exact fun _ => rfl)))) | ((with_reducible refine k_dreg ?_); refine W_dregM (pre := A42d21a) (suf := A42d21b) rfl rfl rfl rfl ?_; intro K hK) | ((with_reducible refine k_dreg ?_); refine W_dregM (pre := A42d22a) (suf := A42d22b) rfl rfl rfl rfl ?_; intro K hK) | ((with_reducible refine k_dreg ?_); refine W_dregM (pre := A42d23a) (suf := A42d23b) rfl rfl rfl rfl ?_; intro K hK) | ((with_reducible refine k_dreg ?_); refine s_dreg rfl rfl ?_; intro K hK) | (with_reducible refine d_nilS ?_) | ((with_reducible refine k_dnil ?_); (with_reducible apply d_nil hK); (· exact nmX); clear hK; clear K) | ((with_reducible refine k_dguard ?_); (first | (refine d_gt rfl ?_) | (refine d_gf rfl ?_) | (refine d_gx rfl ?_) | (refine d_gs rfl ?_))) | ((with_reducible refine k_dop ?_); refine d_step (by first | exact Or.inl rfl | exact Or.inr rfl) ?_) | (with_reducible refine d_back ?_) | ((with_reducible refine k_br ?_); (first | (with_reducible first | refine Br_dec ?_ | refine Br_not ?_ | refine Br_eqF ?_ | refine Br_and ?_ | refine Br_or ?_ | refine Br_neg ?_ | refine Br_band ?_ | refine Br_bor ?_ | refine Br_beq ?_) | (refine Br_t (by first | with_reducible rfl | omega | assumption | rfl) ?_) | (refine Br_f (by first | omega | assumption | decide) ?_) | (with_reducible apply Br_sb <;> intro hbr <;> (first | subst hbr | simp only [hbr] | skip)) | (with_reducible apply Br_s <;> intro hbr))) | (with_reducible refine WN_succ ?_) | ((first | (with_reducible apply q_eqI) | (with_reducible apply q_eqN)); (first | exact nuI | exact nuN)) | ((first | (with_reducible apply q_eqL) | (with_reducible apply q_eqO)); (first | exact liL | exact liO)))
      all_goals first | (exfalso; omega) | exact ⟨trivial, _, rfl, h0 _⟩
  · have hE : askE p l s = pchk p l := by unfold askE; rw [if_neg h]
    have h0 := h0 (by omega)
    rw [hE] at h0
    clear h1
    generalize pchk p l = e at *
    repeat' (first | (with_reducible first | refine W_seq ?_ | refine then_n ?_ | refine W_block ?_ | refine blk_n ?_ | refine blk_r ?_ | refine blk_e ?_ | refine W_skip ?_ | refine W_ret ?_ | refine then_r ?_ | refine W_exit ?_ | refine then_e ?_) | (refine blk_j (by decide) ?_) | ((with_reducible refine s_reg ?_); intro K hK) | ((with_reducible refine k_nil ?_); (with_reducible apply s_nil hK); (· exact nmX); clear hK; clear K) | ((with_reducible refine k_cond ?_); (first | ((with_reducible apply s_condT); (· rfl); (· exact nmX)) | ((with_reducible apply s_condF); (· rfl); (· exact nmX)) | ((with_reducible apply s_condS); (· rfl); (· exact nmX); (· exact nmX)))) | ((with_reducible refine k_guard ?_); (first | (refine s_gt rfl ?_) | (refine s_gf1 rfl ?_) | (refine s_gfn rfl ?_) | (refine s_gx1 rfl ?_) | (refine s_gxn rfl ?_) | (refine s_gs rfl ?_))) | ((with_reducible refine k_mv ?_); (refine s_mv rfl ?_)) | ((with_reducible refine k_neq ?_); (first | (refine s_neq rfl rfl ?_) | (refine s_strNe rfl rfl ?_))) | ((with_reducible refine k_callF ?_); (first | ((with_reducible apply s_call1); (· rfl)) | ((with_reducible apply s_calln); (· rfl)))) | ((with_reducible refine k_con ?_); (first | ((with_reducible apply con_val (c1)); (· (exact agX)); (· rfl); (· exact fun _ => rfl)))) | ((with_reducible refine k_dreg ?_); refine W_dregM (pre := A42d21a) (suf := A42d21b) rfl rfl rfl rfl ?_; intro K hK) | ((with_reducible refine k_dreg ?_); refine W_dregM (pre := A42d22a) (suf := A42d22b) rfl rfl rfl rfl ?_; intro K hK) | ((with_reducible refine k_dreg ?_); refine W_dregM (pre := A42d23a) (suf := A42d23b) rfl rfl rfl rfl ?_; intro K hK) | ((with_reducible refine k_dreg ?_); refine s_dreg rfl rfl ?_; intro K hK) | (with_reducible refine d_nilS ?_) | ((with_reducible refine k_dnil ?_); (with_reducible apply d_nil hK); (· exact nmX); clear hK; clear K) | ((with_reducible refine k_dguard ?_); (first | (refine d_gt rfl ?_) | (refine d_gf rfl ?_) | (refine d_gx rfl ?_) | (refine d_gs rfl ?_))) | ((with_reducible refine k_dop ?_); refine d_step (by first | exact Or.inl rfl | exact Or.inr rfl) ?_) | (with_reducible refine d_back ?_) | ((with_reducible refine k_br ?_); (first | (with_reducible first | refine Br_dec ?_ | refine Br_not ?_ | refine Br_eqF ?_ | refine Br_and ?_ | refine Br_or ?_ | refine Br_neg ?_ | refine Br_band ?_ | refine Br_bor ?_ | refine Br_beq ?_) | (refine Br_t (by first | with_reducible rfl | omega | assumption | rfl) ?_) | (refine Br_f (by first | omega | assumption | decide) ?_) | (with_reducible apply Br_sb <;> intro hbr <;> (first | subst hbr | simp only [hbr] | skip)) | (with_reducible apply Br_s <;> intro hbr))) | (with_reducible refine WN_succ ?_) | ((first | (with_reducible apply q_eqI) | (with_reducible apply q_eqN)); (first | exact nuI | exact nuN)) | ((first | (with_reducible apply q_eqL) | (with_reducible apply q_eqO)); (first | exact liL | exact liO)))
    all_goals first | (exfalso; omega) | exact ⟨trivial, _, rfl, h0 _⟩
end Go.Proofs.Ytfdfmbmhefckaaa
end
section
/- Reclaim plans: the program's answers. -/
set_option linter.unusedSimpArgs false
set_option linter.unusedVariables false
namespace Go.Proofs.Ytfdfmbmhefckaaa
open Go.AM Classical
set_option maxRecDepth 100000
set_option maxHeartbeats 4000000
theorem ask_no {p : List Pg} {l : List Acct} (hL : l.length ≤ 9223372036854775807) (hP : p.length ≤ 1000000) {s : Int} {kn : Bool} {Q : D → Heap → Prop} (hn : ¬ quP p l s) (h0 : ∀ h', Q (.tup [.nilp, .int .i64 (askE p l s)]) h') :
    Con Try.prog 42 [pgs p, accs l, .int .i64 s, .bool kn] (fun _ => none) Q := ask_c p l hL hP s kn (fun _ => h0) (fun h => absurd h hn)
theorem ask_yes {p : List Pg} {l : List Acct} (hL : l.length ≤ 9223372036854775807) (hP : p.length ≤ 1000000) {s : Int} {kn : Bool} {Q : D → Heap → Prop} (hq : quP p l s) (h1 : ∀ k h', QIn h' k p l s kn l.length → Q (.tup [.pt k 0, .int .i64 0]) h') :
    Con Try.prog 42 [pgs p, accs l, .int .i64 s, .bool kn] (fun _ => none) Q := ask_c p l hL hP s kn (fun h => absurd (askE_ok.2 hq) h) (fun _ => h1)
theorem qu_in {p : List Pg} {l : List Acct} {s : Int} (h : quP p l s) {i : Nat} (hi : i < p.length) : inQ l p[i] := ((errA_ok h.1).2 i hi).2.1.2
theorem qu_no {p : List Pg} {l : List Acct} {s : Int} (h : ¬ quP p l s) : askE p l s ≠ 0 := fun h2 => h (askE_ok.1 h2)
def cG (f : Pg → Int) (p : List Pg) : Nat → Int
  | 0 => 0
  | m + 1 => cG f p m + (if h : m < p.length then f p[m] else 0)
theorem cG_s {f : Pg → Int} {p : List Pg} {m : Nat} (h : m < p.length) : cG f p (m + 1) = cG f p m + f p[m] := by rw [cG, dif_pos h]
theorem cG_in {f : Pg → Int} (hf : ∀ q, 0 ≤ f q ∧ f q ≤ 1) (p : List Pg) : ∀ m, 0 ≤ cG f p m ∧ cG f p m ≤ m
  | 0 => by simp [cG]
  | m + 1 => by
    have := cG_in hf p m
    unfold cG
    split
    · have := hf p[m]; omega
    · omega
noncomputable def usB (l : List Acct) (v : List Int) (s : Int) (kn : Bool) (q : Pg) : Int := if q.leaving = true ∧ rsn l v s kn q = 8 then 1 else 0
noncomputable def useF (p : List Pg) (l : List Acct) (s : Int) (kn : Bool) : Int := if quP p l s then cG (usB l (lvL l p) s kn) p p.length else 0
theorem QIn.two {h : Heap} {k j : Nat} {p : List Pg} {l : List Acct} {s : Int} {kn : Bool} {c : List D} (hq : QIn h k p l s kn l.length) (hj : h j = none) : Rd (AM.upd h j c) (.pt k 0) (qV p l s kn) := QIn.rd (hq.upd hj)
end Go.Proofs.Ytfdfmbmhefckaaa
end
section
/- Reclaim plans: the program's answers, second part. -/
set_option linter.unusedSimpArgs false
set_option linter.unusedVariables false
namespace Go.Proofs.Ytfdfmbmhefckaaa
open Go.AM Classical
set_option maxRecDepth 100000
set_option maxHeartbeats 4000000
def agA (p : List Pg) (k : Int) : Int := if h : k.toNat < p.length then p[k.toNat].age else 0
noncomputable def nxS (l : List Acct) (v : List Int) (s : Int) (kn : Bool) (p : List Pg) : Nat → Int × Int
  | 0 => (-1, -1)
  | i + 1 => if h : i < p.length then
      (if rsn l v s kn p[i] = 0 then
        (if ¬ gdP l v s true p[i] ∧ ((nxS l v s kn p i).1 < 0 ∨ p[i].age < agA p (nxS l v s kn p i).1) then (i : Int) else (nxS l v s kn p i).1,
         if (nxS l v s kn p i).2 < 0 ∨ p[i].age < agA p (nxS l v s kn p i).2 then (i : Int) else (nxS l v s kn p i).2)
       else nxS l v s kn p i) else nxS l v s kn p i
theorem nxS_in (l : List Acct) (v : List Int) (s : Int) (kn : Bool) (p : List Pg) : ∀ i, (-1 ≤ (nxS l v s kn p i).1 ∧ (nxS l v s kn p i).1 < i) ∧ (-1 ≤ (nxS l v s kn p i).2 ∧ (nxS l v s kn p i).2 < i) ∧ (0 ≤ (nxS l v s kn p i).1 → 0 ≤ (nxS l v s kn p i).2)
  | 0 => by simp [nxS]
  | i + 1 => by
    have ih := nxS_in l v s kn p i
    unfold nxS
    generalize nxS l v s kn p i = b at *
    obtain ⟨b, c⟩ := b
    dsimp only at ih ⊢
    split
    · split
      · refine ⟨?_, ?_, ?_⟩
        · dsimp only; split <;> omega
        · dsimp only; split <;> omega
        · dsimp only
          split <;> split <;> omega
      · dsimp only; omega
    · dsimp only; omega
noncomputable def nxtV (b : Int × Int) : Int := if 0 ≤ b.1 then b.1 else b.2
noncomputable def nxtF (p : List Pg) (l : List Acct) (s : Int) (kn : Bool) : Int := if quP p l s then nxtV (nxS l (lvL l p) s kn p p.length) else -1
theorem agA_at {p : List Pg} {k : Int} (h : k.toNat < p.length) : (p.flatMap Pg.cells)[k.toNat * 7 + 2]? = some (.int .i64 (agA p k)) := by rw [pg2 h, agA, dif_pos h]
theorem Next_c (p : List Pg) (l : List Acct) (hL : l.length ≤ 9223372036854775807) (hP : p.length ≤ 1000000) (s : Int) (kn : Bool) : PCon Try.prog 25 [pgs p, accs l, .int .i64 s, .bool kn] (.int .i64 (nxtF p l s kn)) := by
  refine A25p (by simp [A25]) ?_
  simp only [A25, argEnv]
  have hpl := pgs_len p
  unfold nxtF
  by_cases hq : quP p l s
  · rw [if_pos hq]
    have hl := (chk_ok (errA_ok hq.1).1).1
    repeat' (first | (with_reducible first | refine W_seq ?_ | refine then_n ?_ | refine W_block ?_ | refine blk_n ?_ | refine blk_r ?_ | refine blk_e ?_ | refine W_skip ?_ | refine W_ret ?_ | refine then_r ?_ | refine W_exit ?_ | refine then_e ?_) | (refine blk_j (by decide) ?_) | ((with_reducible refine s_reg ?_); intro K hK) | ((with_reducible refine k_nil ?_); (with_reducible apply s_nil hK); (· exact nmX); clear hK; clear K) | ((with_reducible refine k_cond ?_); (first | ((with_reducible apply s_condT); (· rfl); (· exact nmX)) | ((with_reducible apply s_condF); (· rfl); (· exact nmX)) | ((with_reducible apply s_condS); (· rfl); (· exact nmX); (· exact nmX)))) | ((with_reducible refine k_guard ?_); (first | (refine s_gt rfl ?_) | (refine s_gf1 rfl ?_) | (refine s_gfn rfl ?_) | (refine s_gx1 rfl ?_) | (refine s_gxn rfl ?_) | (refine s_gs rfl ?_))) | ((with_reducible refine k_mv ?_); (refine s_mv rfl ?_)) | ((with_reducible refine k_extract ?_); (refine s_extract rfl rfl ?_)) | ((with_reducible refine k_len ?_); (first | (refine s_len rfl rfl ?_) | ((with_reducible apply s_len); (· rfl); (· exact SlOwn.len (by assumption))))) | ((with_reducible refine k_neq ?_); (first | (refine s_neq rfl rfl ?_) | (refine s_strNe rfl rfl ?_))) | ((with_reducible refine k_callF ?_); (first | ((with_reducible apply s_call1); (· rfl)) | ((with_reducible apply s_calln); (· rfl)))) | ((with_reducible refine k_con ?_); (first | (refine ask_yes hL hP hq ?_; intro kq hQ hqi; (try dsimp only)))) | ((with_reducible refine k_dreg ?_); refine s_dreg rfl rfl ?_; intro K hK) | (with_reducible refine d_nilS ?_) | ((with_reducible refine k_dnil ?_); (with_reducible apply d_nil hK); (· exact nmX); clear hK; clear K) | ((with_reducible refine k_dguard ?_); (first | (refine d_gt rfl ?_) | (refine d_gf rfl ?_) | (refine d_gx rfl ?_) | (refine d_gs rfl ?_))) | ((with_reducible refine k_dop ?_); refine d_step (by first | exact Or.inl rfl | exact Or.inr rfl) ?_) | (with_reducible refine d_back ?_) | ((with_reducible refine k_br ?_); (first | (with_reducible first | refine Br_dec ?_ | refine Br_not ?_ | refine Br_eqF ?_ | refine Br_and ?_ | refine Br_or ?_ | refine Br_neg ?_ | refine Br_band ?_ | refine Br_bor ?_ | refine Br_beq ?_) | (refine Br_t (by first | with_reducible rfl | omega | assumption | rfl) ?_) | (refine Br_f (by first | omega | assumption | decide) ?_) | (with_reducible apply Br_sb <;> intro hbr <;> (first | subst hbr | simp only [hbr] | skip)) | (with_reducible apply Br_s <;> intro hbr))) | (with_reducible refine WN_succ ?_) | ((first | (with_reducible apply q_eqI) | (with_reducible apply q_eqN)); (first | exact nuI | exact nuN)) | ((first | (with_reducible apply q_eqL) | (with_reducible apply q_eqO)); (first | exact liL | exact liO)))
    refine W_for p.length (fun i st => ∃ h' b c, (b, c) = nxS l (lvL l p) s kn p i ∧ st = ⟨[(0, pgs p), (9, .pt kq 0), (11, .int .i64 (nxtV (b, c))), (12, .bool (decide (0 ≤ b))), (26, pgs p), (27, .int .i64 p.length), (28, .int .i64 i)], h'⟩ ∧ QIn h' kq p l s kn l.length) ⟨_, -1, -1, rfl, rfl, hqi⟩ ?_ ?_
    · clear hqi
      rintro i e' h' hi ⟨h1, b, c, hbc, he, hqi⟩
      cases he
      have hrow := pgr hi
      have hin := qu_in hq hi
      have c1 := qreason_c p[i] p l s kn hin
      have hni := nxS_in l (lvL l p) s kn p i
      have hga := agA_at (p := p) (k := b)
      have hgc := agA_at (p := p) (k := c)
      have hst : nxS l (lvL l p) s kn p (i + 1) = (if rsn l (lvL l p) s kn p[i] = 0 then
        (if ¬ gdP l (lvL l p) s true p[i] ∧ (b < 0 ∨ p[i].age < agA p b) then (i : Int) else b, if c < 0 ∨ p[i].age < agA p c then (i : Int) else c) else (b, c)) := by
        rw [nxS, dif_pos hi, ← hbc]
      rw [← hbc] at hni
      dsimp only at hni
      have hgd : gdP l (lvL l p) s true p[i] ↔ (0 ≤ p[i].account ∧ grdP l (lvL l p) p[i].account s true) := Iff.rfl
      obtain ⟨d1, d2, d3, hkq, s1, s2, s3, fq⟩ := id hqi
      obtain ⟨k3, rfl, hk3⟩ := s3.pos (by omega)
      have hg3 : 0 ≤ p[i].account → ((bl (gdB l (lvL l p) s true) l.length).map D.bool)[p[i].account.toNat]? = some (.bool (decide (grdP l (lvL l p) p[i].account s true))) := fun h0 => by
        rw [bl_g (by unfold inQ at hin; omega), gdB, Int.toNat_of_nonneg h0]
      have hb3 : ((bl (gdB l (lvL l p) s true) l.length).map D.bool).length = l.length := by rw [List.length_map, bl_len]
      unfold inQ at hin
      clear fq s1 s2 s3
      rw [hst]
      clear hst hbc
      generalize rsn l (lvL l p) s kn p[i] = r at *
      generalize gdP l (lvL l p) s true p[i] = G at *
      generalize bl (gdB l (lvL l p) s true) l.length = B at *
      generalize p[i] = q at *
      obtain ⟨fr, ac, ag, re, ow, nm, lv⟩ := q
      dsimp only [Pg.cells] at c1 hrow hin hgd hg3 ⊢
      by_cases hr : r = 0
      · subst hr
        rw [if_pos rfl]
        have hG3 : (G ∧ 0 ≤ ac ∧ (B.map D.bool)[ac.toNat]? = some (.bool true)) ∨ (¬ G ∧ 0 ≤ ac ∧ (B.map D.bool)[ac.toNat]? = some (.bool false)) ∨ (¬ G ∧ ac < 0 ∧ (B.map D.bool)[B.length]? = none) := by
          by_cases h0 : 0 ≤ ac
          · by_cases h2 : grdP l (lvL l p) ac s true
            · exact .inl ⟨hgd.2 ⟨h0, h2⟩, h0, by rw [hg3 h0, decide_eq_true h2]⟩
            · exact .inr (.inl ⟨fun h => h2 (hgd.1 h).2, h0, by rw [hg3 h0, decide_eq_false h2]⟩)
          · exact .inr (.inr ⟨fun h => h0 (hgd.1 h).1, by omega, by simp⟩)
        clear hgd hg3
        have hbc : (0 ≤ b ∧ nxtV (b, c) = b ∧ decide (0 ≤ b) = true ∧ (p.flatMap Pg.cells)[b.toNat * 7 + 2]? = some (.int .i64 (agA p b)) ∧ 0 ≤ c) ∨ (b < 0 ∧ nxtV (b, c) = c ∧ decide (0 ≤ b) = false ∧ (p.flatMap Pg.cells)[c.toNat * 7 + 2]? = some (.int .i64 (agA p c)) ∧ 0 ≤ c) ∨
            (b < 0 ∧ nxtV (b, c) = c ∧ decide (0 ≤ b) = false ∧ c + 0 = c ∧ c < 0) := by
          by_cases h0 : 0 ≤ b
          · exact .inl ⟨h0, if_pos h0, decide_eq_true h0, hga (by omega), by omega⟩
          · by_cases h2 : 0 ≤ c
            · exact .inr (.inl ⟨by omega, if_neg h0, decide_eq_false h0, hgc (by omega), h2⟩)
            · exact .inr (.inr ⟨by omega, if_neg h0, decide_eq_false h0, by omega, by omega⟩)
        clear hga hgc
        generalize agA p b = ab at *
        generalize agA p c = ac2 at *
        have fin : ∀ (h2 : Heap) (X : Int) (Y : Bool), QIn h2 kq p l s kn l.length → X = nxtV (if ¬ G ∧ (b < 0 ∨ ag < ab) then (i : Int) else b, if c < 0 ∨ ag < ac2 then (i : Int) else c) → Y = decide (0 ≤ if ¬ G ∧ (b < 0 ∨ ag < ab) then (i : Int) else b) →
            ∃ h' b1 c1, (b1, c1) = (if ¬ G ∧ (b < 0 ∨ ag < ab) then (i : Int) else b, if c < 0 ∨ ag < ac2 then (i : Int) else c) ∧
              (⟨[(0, pgs p), (9, .pt kq 0), (11, .int .i64 X), (12, .bool Y), (26, pgs p), (27, .int .i64 p.length), (28, .int .i64 (i + 1))], h2⟩ : St) = ⟨[(0, pgs p), (9, .pt kq 0), (11, .int .i64 (nxtV (b1, c1))), (12, .bool (decide (0 ≤ b1))), (26, pgs p), (27, .int .i64 p.length), (28, .int .i64 ((i + 1 : Nat) : Int))], h'⟩ ∧ QIn h' kq p l s kn l.length :=
          fun h2 X Y hq2 hX hY => by subst hX; subst hY; exact ⟨h2, _, _, rfl, rfl, hq2⟩
        rcases hG3 with ⟨hG, hac, hgB⟩ | ⟨hG, hac, hgB⟩ | ⟨hG, hac, hgB⟩ <;> rcases hbc with ⟨hb, e1, e2, ha, hc⟩ | ⟨hb, e1, e2, ha, hc⟩ | ⟨hb, e1, e2, ha, hc⟩
        all_goals rw [e1, e2]
        all_goals clear e1 e2
        all_goals
          repeat' (first | (with_reducible first | refine W_seq ?_ | refine then_n ?_ | refine W_block ?_ | refine blk_n ?_ | refine blk_r ?_ | refine blk_e ?_ | refine W_skip ?_ | refine W_ret ?_ | refine then_r ?_ | refine W_exit ?_ | refine then_e ?_) | (refine blk_j (by decide) ?_) | ((with_reducible refine s_reg ?_); intro K hK) | ((with_reducible refine k_nil ?_); (with_reducible apply s_nil hK); (· exact nmX); clear hK; clear K) | ((with_reducible refine k_cond ?_); (first | ((with_reducible apply s_condT); (· rfl); (· exact nmX)) | ((with_reducible apply s_condF); (· rfl); (· exact nmX)) | ((with_reducible apply s_condS); (· rfl); (· exact nmX); (· exact nmX)))) | ((with_reducible refine k_guard ?_); (first | (refine s_gt rfl ?_) | (refine s_gf1 rfl ?_) | (refine s_gfn rfl ?_) | (refine s_gx1 rfl ?_) | (refine s_gxn rfl ?_) | (refine s_gs rfl ?_))) | ((with_reducible refine k_mv ?_); (refine s_mv rfl ?_)) | ((with_reducible refine k_pick ?_); (first | (refine s_pickT rfl rfl ?_) | (refine s_pickF rfl rfl ?_))) | ((with_reducible refine k_not ?_); (refine s_not rfl (by first | exact Bool.not_true | exact Bool.not_false | rfl) ?_)) | ((with_reducible refine k_neq ?_); (first | (refine s_neq rfl rfl ?_) | (refine s_strNe rfl rfl ?_))) | ((with_reducible refine k_lss ?_); (refine s_lss rfl rfl ?_)) | ((with_reducible refine k_iaddr ?_); (first | ((with_reducible apply s_iaddrV); (· rfl); (· rfl); (· (first | omega | exact ⟨rfl, by omega⟩ | skip))) | ((with_reducible apply s_iaddrO); (· rfl); (· rfl); (· (first | omega | exact ⟨rfl, by omega⟩ | skip)); (· (exact hpX))) | ((with_reducible apply s_iaddrSO); (· rfl); (· assumption); (· rfl); (· (first | omega | exact ⟨rfl, by omega⟩ | skip)); (· (first | (simp (disch := omega) only [w64, wu8, wu16, wu32, wu64, tm_nn, td_nn, fd_nn, Int.reduceAdd, Int.reduceSub, Int.reduceMul, Int.reduceDiv, Int.reduceMod, Int.reduceNeg, Int.reduceToNat, Int.toNat_natCast, Int.toNat_zero, Int.zero_add, Int.add_zero, Int.one_mul, Int.reducePow, Nat.mul_one, Nat.zero_add, Nat.add_zero, Nat.zero_mul, Nat.reduceAdd, Nat.reduceMul, Nat.reduceSub, Nat.min_eq_left, IntKind.bits, Nat.sub_zero, hrow, hgB, ha]; try rfl; done) | rfl)); intro ks hks))) | ((with_reducible refine k_load ?_); (first | ((with_reducible apply s_loadV); (· rfl)) | ((with_reducible apply s_loadP); (· rfl); (· (exact hpX))))) | ((with_reducible refine k_loadA ?_); (first | ((with_reducible apply s_loadAV); (· rfl); (· (first | exact Nat.le_of_ble_eq_true rfl | decide | omega | (simp; done) | (simp; omega) | skip))) | ((with_reducible apply s_loadAP); (· rfl); (· (exact hpX)); (· (first | exact Nat.le_of_ble_eq_true rfl | decide | omega | (simp; done) | (simp; omega) | skip))))) | ((with_reducible refine k_add ?_); ((with_reducible apply s_add); (· rfl); (· rfl))) | ((with_reducible refine k_store ?_); ((with_reducible apply s_store0); (· rfl); (· rfl); (· rfl); (· (exact hpX)); (· (exact ⟨rfl, by first | exact Nat.le_of_ble_eq_true rfl | omega | (simp [hrow, hgB, ha]; omega)⟩)); (· ((first | (simp (disch := omega) only [upd_self, upd_ne, upd_upd, rep, splice, List.take_succ_cons, List.take_zero, List.drop_succ_cons, List.drop_zero, List.cons_append, List.nil_append, List.append_nil, List.length_cons, List.length_nil, List.reduceReplicate, List.flatten_cons, List.flatten_nil, Nat.reduceAdd, Nat.reduceMul, Nat.reduceSub, Nat.zero_add, Nat.add_zero, List.getElem?_cons_zero, List.getElem?_cons_succ, hrow, hgB, ha]; try rfl; done) | rfl))); (· (first | exact upd_upd | rfl)))) | ((with_reducible refine k_faddr ?_); (first | ((with_reducible apply s_faddrV); (· rfl); (· rfl)) | ((with_reducible apply s_faddrP); (· rfl); (· rfl)))) | ((with_reducible refine k_eqB ?_); (first | (refine s_eqBt rfl rfl ?_) | (refine s_eqBf rfl rfl ?_))) | ((with_reducible refine k_alloc (dst := some 14) ?_); ((with_reducible apply s_alloc); intro k14 hk14; (try simp only [upd_none] at hk14))) | ((with_reducible refine k_nilck ?_); (first | ((with_reducible apply s_nilckV); (· rfl)) | ((with_reducible apply s_nilckP); (· rfl)) | ((with_reducible apply s_nilckF); (· rfl)))) | ((with_reducible refine k_callF ?_); (first | ((with_reducible apply s_call1); (· rfl)) | ((with_reducible apply s_calln); (· rfl)))) | ((with_reducible refine k_con ?_); (first | ((with_reducible apply con_val (c1)); (· (repeat (first | exact All2.nil | (apply All2.cons; (· first | exact QIn.two hqi hk14 | exact rdX))))); (· rfl); (· exact fun _ => rfl)))) | ((with_reducible refine k_dreg ?_); refine s_dreg rfl rfl ?_; intro K hK) | (with_reducible refine d_nilS ?_) | ((with_reducible refine k_dnil ?_); (with_reducible apply d_nil hK); (· exact nmX); clear hK; clear K) | ((with_reducible refine k_dguard ?_); (first | (refine d_gt rfl ?_) | (refine d_gf rfl ?_) | (refine d_gx rfl ?_) | (refine d_gs rfl ?_))) | ((with_reducible refine k_dop ?_); refine d_step (by first | exact Or.inl rfl | exact Or.inr rfl) ?_) | (with_reducible refine d_back ?_) | ((with_reducible refine k_br ?_); (first | (with_reducible first | refine Br_dec ?_ | refine Br_not ?_ | refine Br_eqF ?_ | refine Br_and ?_ | refine Br_or ?_ | refine Br_neg ?_ | refine Br_band ?_ | refine Br_bor ?_ | refine Br_beq ?_) | (refine Br_t (by first | with_reducible rfl | omega | assumption | rfl) ?_) | (refine Br_f (by first | omega | assumption | decide) ?_) | (with_reducible apply Br_sb <;> intro hbr <;> (first | subst hbr | simp only [hbr] | skip)) | (with_reducible apply Br_s <;> intro hbr))) | (with_reducible refine WN_succ ?_) | ((first | (with_reducible apply q_eqI) | (with_reducible apply q_eqN)); (first | (simp (disch := omega) only [w64, wu8, wu16, wu32, wu64, tm_nn, td_nn, fd_nn, Int.reduceAdd, Int.reduceSub, Int.reduceMul, Int.reduceDiv, Int.reduceMod, Int.reduceNeg, Int.reduceToNat, Int.toNat_natCast, Int.toNat_zero, Int.zero_add, Int.add_zero, Int.one_mul, Int.reducePow, Nat.mul_one, Nat.zero_add, Nat.add_zero, Nat.zero_mul, Nat.reduceAdd, Nat.reduceMul, Nat.reduceSub, Nat.min_eq_left, IntKind.bits, Nat.sub_zero, hrow, hgB, ha]; try rfl; done) | rfl)) | ((first | (with_reducible apply q_eqL) | (with_reducible apply q_eqO)); (first | (simp (disch := omega) only [upd_self, upd_ne, upd_upd, rep, splice, List.take_succ_cons, List.take_zero, List.drop_succ_cons, List.drop_zero, List.cons_append, List.nil_append, List.append_nil, List.length_cons, List.length_nil, List.reduceReplicate, List.flatten_cons, List.flatten_nil, Nat.reduceAdd, Nat.reduceMul, Nat.reduceSub, Nat.zero_add, Nat.add_zero, List.getElem?_cons_zero, List.getElem?_cons_succ, hrow, hgB, ha]; try rfl; done) | rfl)))
        all_goals first | (exfalso; omega) | skip
        all_goals refine fin _ _ _ (hqi.upd hk14) ?_ ?_
        all_goals clear fin c1 hrow hgB hkq hqi hk14 hk3
        all_goals simp only [hG, not_true_eq_false, false_and, if_false, not_false_eq_true, true_and]
        all_goals first
          | (symm; exact decide_eq_true (by (repeat' split) <;> omega))
          | (symm; exact decide_eq_false (by (repeat' split) <;> omega))
          | (unfold nxtV
             dsimp only
             (repeat' split) <;> first | rfl | omega)
      · rw [if_neg hr]
        repeat' (first | (with_reducible first | refine W_seq ?_ | refine then_n ?_ | refine W_block ?_ | refine blk_n ?_ | refine blk_r ?_ | refine blk_e ?_ | refine W_skip ?_ | refine W_ret ?_ | refine then_r ?_ | refine W_exit ?_ | refine then_e ?_) | (refine blk_j (by decide) ?_) | ((with_reducible refine s_reg ?_); intro K hK) | ((with_reducible refine k_nil ?_); (with_reducible apply s_nil hK); (· exact nmX); clear hK; clear K) | ((with_reducible refine k_cond ?_); (first | ((with_reducible apply s_condT); (· rfl); (· exact nmX)) | ((with_reducible apply s_condF); (· rfl); (· exact nmX)) | ((with_reducible apply s_condS); (· rfl); (· exact nmX); (· exact nmX)))) | ((with_reducible refine k_guard ?_); (first | (refine s_gt rfl ?_) | (refine s_gf1 rfl ?_) | (refine s_gfn rfl ?_) | (refine s_gx1 rfl ?_) | (refine s_gxn rfl ?_) | (refine s_gs rfl ?_))) | ((with_reducible refine k_mv ?_); (refine s_mv rfl ?_)) | ((with_reducible refine k_pick ?_); (first | (refine s_pickT rfl rfl ?_) | (refine s_pickF rfl rfl ?_))) | ((with_reducible refine k_not ?_); (refine s_not rfl (by first | exact Bool.not_true | exact Bool.not_false | rfl) ?_)) | ((with_reducible refine k_neq ?_); (first | (refine s_neq rfl rfl ?_) | (refine s_strNe rfl rfl ?_))) | ((with_reducible refine k_lss ?_); (refine s_lss rfl rfl ?_)) | ((with_reducible refine k_iaddr ?_); (first | ((with_reducible apply s_iaddrV); (· rfl); (· rfl); (· (first | omega | exact ⟨rfl, by omega⟩ | skip))) | ((with_reducible apply s_iaddrO); (· rfl); (· rfl); (· (first | omega | exact ⟨rfl, by omega⟩ | skip)); (· (exact hpX))) | ((with_reducible apply s_iaddrSO); (· rfl); (· assumption); (· rfl); (· (first | omega | exact ⟨rfl, by omega⟩ | skip)); (· (first | (simp (disch := omega) only [w64, wu8, wu16, wu32, wu64, tm_nn, td_nn, fd_nn, Int.reduceAdd, Int.reduceSub, Int.reduceMul, Int.reduceDiv, Int.reduceMod, Int.reduceNeg, Int.reduceToNat, Int.toNat_natCast, Int.toNat_zero, Int.zero_add, Int.add_zero, Int.one_mul, Int.reducePow, Nat.mul_one, Nat.zero_add, Nat.add_zero, Nat.zero_mul, Nat.reduceAdd, Nat.reduceMul, Nat.reduceSub, Nat.min_eq_left, IntKind.bits, Nat.sub_zero, hrow]; try rfl; done) | rfl)); intro ks hks))) | ((with_reducible refine k_load ?_); (first | ((with_reducible apply s_loadV); (· rfl)) | ((with_reducible apply s_loadP); (· rfl); (· (exact hpX))))) | ((with_reducible refine k_loadA ?_); (first | ((with_reducible apply s_loadAV); (· rfl); (· (first | exact Nat.le_of_ble_eq_true rfl | decide | omega | (simp; done) | (simp; omega) | skip))) | ((with_reducible apply s_loadAP); (· rfl); (· (exact hpX)); (· (first | exact Nat.le_of_ble_eq_true rfl | decide | omega | (simp; done) | (simp; omega) | skip))))) | ((with_reducible refine k_add ?_); ((with_reducible apply s_add); (· rfl); (· rfl))) | ((with_reducible refine k_store ?_); ((with_reducible apply s_store0); (· rfl); (· rfl); (· rfl); (· (exact hpX)); (· (exact ⟨rfl, by first | exact Nat.le_of_ble_eq_true rfl | omega | (simp [hrow]; omega)⟩)); (· ((first | (simp (disch := omega) only [upd_self, upd_ne, upd_upd, rep, splice, List.take_succ_cons, List.take_zero, List.drop_succ_cons, List.drop_zero, List.cons_append, List.nil_append, List.append_nil, List.length_cons, List.length_nil, List.reduceReplicate, List.flatten_cons, List.flatten_nil, Nat.reduceAdd, Nat.reduceMul, Nat.reduceSub, Nat.zero_add, Nat.add_zero, List.getElem?_cons_zero, List.getElem?_cons_succ, hrow]; try rfl; done) | rfl))); (· (first | exact upd_upd | rfl)))) | ((with_reducible refine k_faddr ?_); (first | ((with_reducible apply s_faddrV); (· rfl); (· rfl)) | ((with_reducible apply s_faddrP); (· rfl); (· rfl)))) | ((with_reducible refine k_eqB ?_); (first | (refine s_eqBt rfl rfl ?_) | (refine s_eqBf rfl rfl ?_))) | ((with_reducible refine k_alloc (dst := some 14) ?_); ((with_reducible apply s_alloc); intro k14 hk14; (try simp only [upd_none] at hk14))) | ((with_reducible refine k_nilck ?_); (first | ((with_reducible apply s_nilckV); (· rfl)) | ((with_reducible apply s_nilckP); (· rfl)) | ((with_reducible apply s_nilckF); (· rfl)))) | ((with_reducible refine k_callF ?_); (first | ((with_reducible apply s_call1); (· rfl)) | ((with_reducible apply s_calln); (· rfl)))) | ((with_reducible refine k_con ?_); (first | ((with_reducible apply con_val (c1)); (· (repeat (first | exact All2.nil | (apply All2.cons; (· first | exact QIn.two hqi hk14 | exact rdX))))); (· rfl); (· exact fun _ => rfl)))) | ((with_reducible refine k_dreg ?_); refine s_dreg rfl rfl ?_; intro K hK) | (with_reducible refine d_nilS ?_) | ((with_reducible refine k_dnil ?_); (with_reducible apply d_nil hK); (· exact nmX); clear hK; clear K) | ((with_reducible refine k_dguard ?_); (first | (refine d_gt rfl ?_) | (refine d_gf rfl ?_) | (refine d_gx rfl ?_) | (refine d_gs rfl ?_))) | ((with_reducible refine k_dop ?_); refine d_step (by first | exact Or.inl rfl | exact Or.inr rfl) ?_) | (with_reducible refine d_back ?_) | ((with_reducible refine k_br ?_); (first | (with_reducible first | refine Br_dec ?_ | refine Br_not ?_ | refine Br_eqF ?_ | refine Br_and ?_ | refine Br_or ?_ | refine Br_neg ?_ | refine Br_band ?_ | refine Br_bor ?_ | refine Br_beq ?_) | (refine Br_t (by first | with_reducible rfl | omega | assumption | rfl) ?_) | (refine Br_f (by first | omega | assumption | decide) ?_) | (with_reducible apply Br_sb <;> intro hbr <;> (first | subst hbr | simp only [hbr] | skip)) | (with_reducible apply Br_s <;> intro hbr))) | (with_reducible refine WN_succ ?_) | ((first | (with_reducible apply q_eqI) | (with_reducible apply q_eqN)); (first | (simp (disch := omega) only [w64, wu8, wu16, wu32, wu64, tm_nn, td_nn, fd_nn, Int.reduceAdd, Int.reduceSub, Int.reduceMul, Int.reduceDiv, Int.reduceMod, Int.reduceNeg, Int.reduceToNat, Int.toNat_natCast, Int.toNat_zero, Int.zero_add, Int.add_zero, Int.one_mul, Int.reducePow, Nat.mul_one, Nat.zero_add, Nat.add_zero, Nat.zero_mul, Nat.reduceAdd, Nat.reduceMul, Nat.reduceSub, Nat.min_eq_left, IntKind.bits, Nat.sub_zero, hrow]; try rfl; done) | rfl)) | ((first | (with_reducible apply q_eqL) | (with_reducible apply q_eqO)); (first | (simp (disch := omega) only [upd_self, upd_ne, upd_upd, rep, splice, List.take_succ_cons, List.take_zero, List.drop_succ_cons, List.drop_zero, List.cons_append, List.nil_append, List.append_nil, List.length_cons, List.length_nil, List.reduceReplicate, List.flatten_cons, List.flatten_nil, Nat.reduceAdd, Nat.reduceMul, Nat.reduceSub, Nat.zero_add, Nat.add_zero, List.getElem?_cons_zero, List.getElem?_cons_succ, hrow]; try rfl; done) | rfl)))
        exact ⟨_, b, c, rfl, rfl, hqi.upd hk14⟩
    · rintro e' h' ⟨h1, b, c, hbc, he, hqi⟩
      cases he
      rw [← hbc]
      repeat' (first | (with_reducible first | refine W_seq ?_ | refine then_n ?_ | refine W_block ?_ | refine blk_n ?_ | refine blk_r ?_ | refine blk_e ?_ | refine W_skip ?_ | refine W_ret ?_ | refine then_r ?_ | refine W_exit ?_ | refine then_e ?_) | (refine blk_j (by decide) ?_) | ((with_reducible refine s_reg ?_); intro K hK) | ((with_reducible refine k_nil ?_); (with_reducible apply s_nil hK); (· exact nmX); clear hK; clear K) | ((with_reducible refine k_cond ?_); (first | ((with_reducible apply s_condT); (· rfl); (· exact nmX)) | ((with_reducible apply s_condF); (· rfl); (· exact nmX)) | ((with_reducible apply s_condS); (· rfl); (· exact nmX); (· exact nmX)))) | ((with_reducible refine k_guard ?_); (first | (refine s_gt rfl ?_) | (refine s_gf1 rfl ?_) | (refine s_gfn rfl ?_) | (refine s_gx1 rfl ?_) | (refine s_gxn rfl ?_) | (refine s_gs rfl ?_))) | ((with_reducible refine k_mv ?_); (refine s_mv rfl ?_)) | ((with_reducible refine k_lss ?_); (refine s_lss rfl rfl ?_)) | ((with_reducible refine k_dreg ?_); refine s_dreg rfl rfl ?_; intro K hK) | (with_reducible refine d_nilS ?_) | ((with_reducible refine k_dnil ?_); (with_reducible apply d_nil hK); (· exact nmX); clear hK; clear K) | ((with_reducible refine k_dguard ?_); (first | (refine d_gt rfl ?_) | (refine d_gf rfl ?_) | (refine d_gx rfl ?_) | (refine d_gs rfl ?_))) | ((with_reducible refine k_dop ?_); refine d_step (by first | exact Or.inl rfl | exact Or.inr rfl) ?_) | (with_reducible refine d_back ?_) | ((with_reducible refine k_br ?_); (first | (with_reducible first | refine Br_dec ?_ | refine Br_not ?_ | refine Br_eqF ?_ | refine Br_and ?_ | refine Br_or ?_ | refine Br_neg ?_ | refine Br_band ?_ | refine Br_bor ?_ | refine Br_beq ?_) | (refine Br_t (by first | with_reducible rfl | omega | assumption | rfl) ?_) | (refine Br_f (by first | omega | assumption | decide) ?_) | (with_reducible apply Br_sb <;> intro hbr <;> (first | subst hbr | simp only [hbr] | skip)) | (with_reducible apply Br_s <;> intro hbr))) | (with_reducible refine WN_succ ?_) | ((first | (with_reducible apply q_eqI) | (with_reducible apply q_eqN)); (first | exact nuI | exact nuN)) | ((first | (with_reducible apply q_eqL) | (with_reducible apply q_eqO)); (first | exact liL | exact liO)))
      exact Fin_flat trivial rfl rfl
  · rw [if_neg hq]
    have he := qu_no hq
    repeat' (first | (with_reducible first | refine W_seq ?_ | refine then_n ?_ | refine W_block ?_ | refine blk_n ?_ | refine blk_r ?_ | refine blk_e ?_ | refine W_skip ?_ | refine W_ret ?_ | refine then_r ?_ | refine W_exit ?_ | refine then_e ?_) | (refine blk_j (by decide) ?_) | ((with_reducible refine s_reg ?_); intro K hK) | ((with_reducible refine k_nil ?_); (with_reducible apply s_nil hK); (· exact nmX); clear hK; clear K) | ((with_reducible refine k_cond ?_); (first | ((with_reducible apply s_condT); (· rfl); (· exact nmX)) | ((with_reducible apply s_condF); (· rfl); (· exact nmX)) | ((with_reducible apply s_condS); (· rfl); (· exact nmX); (· exact nmX)))) | ((with_reducible refine k_guard ?_); (first | (refine s_gt rfl ?_) | (refine s_gf1 rfl ?_) | (refine s_gfn rfl ?_) | (refine s_gx1 rfl ?_) | (refine s_gxn rfl ?_) | (refine s_gs rfl ?_))) | ((with_reducible refine k_mv ?_); (refine s_mv rfl ?_)) | ((with_reducible refine k_extract ?_); (refine s_extract rfl rfl ?_)) | ((with_reducible refine k_neq ?_); (first | (refine s_neq rfl rfl ?_) | (refine s_strNe rfl rfl ?_))) | ((with_reducible refine k_callF ?_); (first | ((with_reducible apply s_call1); (· rfl)) | ((with_reducible apply s_calln); (· rfl)))) | ((with_reducible refine k_con ?_); (first | (refine ask_no hL hP hq ?_; intro hQ; (try dsimp only)))) | ((with_reducible refine k_dreg ?_); refine s_dreg rfl rfl ?_; intro K hK) | (with_reducible refine d_nilS ?_) | ((with_reducible refine k_dnil ?_); (with_reducible apply d_nil hK); (· exact nmX); clear hK; clear K) | ((with_reducible refine k_dguard ?_); (first | (refine d_gt rfl ?_) | (refine d_gf rfl ?_) | (refine d_gx rfl ?_) | (refine d_gs rfl ?_))) | ((with_reducible refine k_dop ?_); refine d_step (by first | exact Or.inl rfl | exact Or.inr rfl) ?_) | (with_reducible refine d_back ?_) | ((with_reducible refine k_br ?_); (first | (with_reducible first | refine Br_dec ?_ | refine Br_not ?_ | refine Br_eqF ?_ | refine Br_and ?_ | refine Br_or ?_ | refine Br_neg ?_ | refine Br_band ?_ | refine Br_bor ?_ | refine Br_beq ?_) | (refine Br_t (by first | with_reducible rfl | omega | assumption | rfl) ?_) | (refine Br_f (by first | omega | assumption | decide) ?_) | (with_reducible apply Br_sb <;> intro hbr <;> (first | subst hbr | simp only [hbr] | skip)) | (with_reducible apply Br_s <;> intro hbr))) | (with_reducible refine WN_succ ?_) | ((first | (with_reducible apply q_eqI) | (with_reducible apply q_eqN)); (first | exact nuI | exact nuN)) | ((first | (with_reducible apply q_eqL) | (with_reducible apply q_eqO)); (first | exact liL | exact liO)))
    all_goals first | (exfalso; omega) | exact Fin_flat trivial rfl rfl
end Go.Proofs.Ytfdfmbmhefckaaa
end
section
/- Reclaim plans: the program's check of a witness. -/
set_option linter.unusedSimpArgs false
set_option linter.unusedVariables false
namespace Go.Proofs.Ytfdfmbmhefckaaa
open Go.AM Classical
set_option maxRecDepth 100000
set_option maxHeartbeats 4000000
end Go.Proofs.Ytfdfmbmhefckaaa
end
section
/- Reclaim plans: the example. -/
set_option linter.unusedSimpArgs false
set_option linter.unusedVariables false
namespace Go.Proofs.Ytfdfmbmhefckaaa
open Go.AM Classical
set_option maxRecDepth 100000
set_option maxHeartbeats 4000000
instance (l : List Acct) (v : List Int) (a s : Int) (low : Bool) : Decidable (stuckP l v a s low) := inferInstanceAs (Decidable (∃ x ∈ pathG l 8 a, 0 < x ∧ s < x ∧ us l x.toNat - insF l (vF v) x ≤ flr l low x.toNat))
def outD (l : List Acct) (s : Int) (q : Pg) : Bool := decide (0 ≤ s) && (decide (q.account < 0) || !(decide (s ∈ pathG l 8 q.account)))
def gdD (l : List Acct) (v : List Int) (s : Int) (low : Bool) (q : Pg) : Bool := decide (0 ≤ q.account) && (!(decide (s = -1) || decide (s ∈ pathG l 8 q.account)) || decide (stuckP l v q.account s low))
def rsnD (l : List Acct) (v : List Int) (s : Int) (kn : Bool) (q : Pg) : Int :=
  if outD l s q = true then 13 else if kn = true ∧ q.normal = false then 12 else if q.leaving = true then 8 else if q.reason ≠ 0 ∧ q.reason ≠ 8 then q.reason else if gdD l v s false q = true then 11 else q.reason
theorem outD_ok {l : List Acct} {s : Int} {q : Pg} (hc : chkF l = 0) (hq : q.account < l.length) : outD l s q = true ↔ outP l s q := by
  unfold outD outP
  simp only [Bool.and_eq_true, decide_eq_true_eq, Bool.or_eq_true, Bool.not_eq_true', decide_eq_false_iff_not]
  refine and_congr_right fun h0 => ?_
  by_cases ha : q.account < 0
  · simp only [ha, true_or]
  · have hp : isP l q.account := ⟨hc, by omega, hq⟩
    unfold insP
    rw [pathF_is hp]
    exact or_congr Iff.rfl (not_congr ⟨fun h => ⟨hp, .inr h⟩, fun h => h.2.resolve_left (by omega)⟩)
theorem gdD_ok {l : List Acct} {v : List Int} {s : Int} {low : Bool} {q : Pg} (hv : valP l v) (hs : -1 ≤ s ∧ s < l.length) (hq : q.account < l.length) : gdD l v s low q = true ↔ gdP l v s low q := by
  unfold gdD gdP
  simp only [Bool.and_eq_true, decide_eq_true_eq, Bool.or_eq_true, Bool.not_eq_true', Bool.or_eq_false_iff, decide_eq_false_iff_not]
  refine and_congr_right fun h0 => ?_
  unfold grdP
  refine or_congr ?_ Iff.rfl
  constructor
  · rintro ⟨h1, h2⟩ ⟨_, h3 | h3⟩
    · exact h1 h3
    · exact h2 h3
  · intro h
    exact ⟨fun h1 => h ⟨⟨hv, ⟨h0, hq⟩, hs⟩, .inl h1⟩, fun h1 => h ⟨⟨hv, ⟨h0, hq⟩, hs⟩, .inr h1⟩⟩
theorem rsnD_ok {l : List Acct} {v : List Int} {s : Int} {kn : Bool} {q : Pg} (hv : valP l v) (hs : -1 ≤ s ∧ s < l.length) (hq : q.account < l.length) : rsn l v s kn q = rsnD l v s kn q := by
  unfold rsn rsnD
  simp only [outD_ok hv.1 hq, gdD_ok hv hs hq]
def nxD (l : List Acct) (v : List Int) (s : Int) (kn : Bool) (p : List Pg) : Nat → Int × Int
  | 0 => (-1, -1)
  | i + 1 => if h : i < p.length then
      (if rsnD l v s kn p[i] = 0 then
        (if gdD l v s true p[i] = false ∧ ((nxD l v s kn p i).1 < 0 ∨ p[i].age < agA p (nxD l v s kn p i).1) then (i : Int) else (nxD l v s kn p i).1,
         if (nxD l v s kn p i).2 < 0 ∨ p[i].age < agA p (nxD l v s kn p i).2 then (i : Int) else (nxD l v s kn p i).2)
       else nxD l v s kn p i) else nxD l v s kn p i
theorem nxD_ok {l : List Acct} {v : List Int} {s : Int} {kn : Bool} {p : List Pg} (hv : valP l v) (hs : -1 ≤ s ∧ s < l.length) (hq : ∀ i (h : i < p.length), p[i].account < l.length) : ∀ i, nxS l v s kn p i = nxD l v s kn p i
  | 0 => rfl
  | i + 1 => by
    unfold nxS nxD
    rw [nxD_ok hv hs hq i]
    by_cases h : i < p.length
    · rw [dif_pos h, dif_pos h]
      have h1 := gdD_ok (low := true) hv hs (hq i h)
      have h2 : ¬ gdP l v s true p[i] ↔ gdD l v s true p[i] = false := by
        rw [← h1]; simp
      simp only [rsnD_ok hv hs (hq i h), h2]
    · rw [dif_neg h, dif_neg h]
end Go.Proofs.Ytfdfmbmhefckaaa
end
section
/- The layers' example. -/
set_option linter.unusedSimpArgs false
set_option linter.unusedVariables false
namespace Go.Proofs.Ytfdfmbmhefckaaa
open Go.AM Classical
set_option maxRecDepth 100000
set_option maxHeartbeats 4000000
abbrev L5 : List Acct := [⟨-1, 3, 0, 0, 9⟩, ⟨0, 3, 2, 0, 9⟩]
abbrev P5 : List Pg := [opg 0 1, opg 1 1, opg 2 1]
theorem five_at {i : Nat} (h : i < L5.length) : i = 0 ∨ i = 1 := by
  simp at h; omega
theorem chk_five : chkF L5 = 0 := by
  refine chk_mk (by decide) ?_ ⟨?_, fun _ => ⟨rfl, rfl⟩⟩ ?_ ?_
  · intro i _ h; rcases five_at h with rfl | rfl <;> simp [okP]
  · intro i _ h; rcases five_at h with rfl | rfl <;> simp [okA, inR]
  · intro a h
    simp at h
    rcases h with rfl | rfl <;> decide
  · intro i h; rcases five_at h with rfl | rfl <;> decide
theorem val_five : valP L5 [0, 0] := ⟨chk_five, rfl, by simp [inR]⟩
theorem own_five0 : ownF L5 ((0 : Nat) : Int) = 0 := by rw [ownF, if_pos ⟨chk_five, by decide, by decide⟩]; decide
theorem own_five1 : ownF L5 ((1 : Nat) : Int) = 3 := by rw [ownF, if_pos ⟨chk_five, by decide, by decide⟩]; decide
theorem opg_five : ownPg L5 = P5 := by
  have h : opTo L5 L5.length = P5 := by
    show opAdd (opAdd [] 0 (kOf (ownF L5 ((0 : Nat) : Int)))) 1 (kOf (ownF L5 ((1 : Nat) : Int))) = P5
    rw [own_five0, own_five1]; rfl
  rw [ownPg, h]; rfl
theorem nx_five {p : List Pg} {s : Int} {kn : Bool} {b : Int × Int} (hp : fE (errA L5 p) p.length = 0) (hl : p.length ≤ 1000) (hs : -1 ≤ s ∧ s < 2) (hb : nxD L5 (lvL L5 p) s kn p p.length = b) : nxtF p L5 s kn = nxtV b := by
  have hq : quP p L5 s := ⟨by rw [pchk, if_pos chk_five, hp], hs⟩
  rw [nxtF, if_pos hq, nxD_ok (val_lv chk_five (by omega)) hs (fun i h => qu_in hq h), hb]
instance (l : List Acct) (v : List Int) (a s : Int) (low : Bool) : Decidable (stuckP l v a s low) := inferInstanceAs (Decidable (∃ x ∈ pathG l 8 a, 0 < x ∧ s < x ∧ us l x.toNat - insF l (vF v) x ≤ flr l low x.toNat))
theorem opn_five : opnF L5 [0, 0] 0 = 1 := by
  rw [opnF, if_pos val_five]
  have h1 : openP L5 [0, 0] 0 1 := ⟨by decide, by
    rintro (h | h)
    · exact h ⟨⟨val_five, by decide, by decide⟩, .inr (by decide)⟩
    · exact absurd h (by decide)⟩
  have h0 : ¬ openP L5 [0, 0] 0 0 := fun h => absurd h.1 (by decide)
  exact firstI_at (i := 1) (by simp) (by simpa using h1) (fun j hj => by
    obtain rfl : j = 0 := by omega
    simpa using h0)
theorem awake20_c : PCon Try.prog 35 [] (.bool true) := by
  have cP : PCon Try.prog 39 [.vs 5 (L5.flatMap Acct.cells) 2] (.ow 7 (P5.flatMap Pg.cells) 3) := by
    have := ownPages_c L5 (by decide)
    rwa [opg_five] at this
  have cE : PCon Try.prog 36 [.vs 5 (L5.flatMap Acct.cells) 2] (.tup [.ow 1 [.int .i64 3, .int .i64 2] 2, .int .i64 0]) := by
    have := effective_c L5 (by decide)
    rwa [effF, if_pos chk_five, show effL L5 = [3, 2] by decide] at this
  have cX : PCon Try.prog 25 [.vs 7 (P5.flatMap Pg.cells) 3, .vs 5 (L5.flatMap Acct.cells) 2, .int .i64 (-1), .bool false] (.int .i64 0) := by
    have := Next_c P5 L5 (by decide) (by decide) (-1) false
    rwa [nx_five (b := (0, 0)) (by decide) (by decide) (by decide) (by decide)] at this
  have cO : PCon Try.prog 61 [.vs 5 (L5.flatMap Acct.cells) 2, .vs 1 [.int .i64 0, .int .i64 0] 2, .int .i64 0] (.int .i64 1) := by
    have := open_c L5 (by decide) [0, 0] 0
    rwa [opn_five] at this
  have cN := new_p
  have cA := add_p
  have cW := where_p
  refine A35p (by simp [A35]) ?_
  simp only [A35, argEnv]
  repeat' (first | (with_reducible first | refine W_seq ?_ | refine then_n ?_ | refine W_skip ?_ | refine W_ret ?_ | refine then_r ?_) | ((with_reducible refine s_reg ?_); intro K hK) | ((with_reducible refine k_nil ?_); (with_reducible apply s_nil hK); (· exact nmX); clear hK; clear K) | ((with_reducible refine k_guard ?_); (first | (refine s_gt rfl ?_) | (refine s_gf1 rfl ?_) | (refine s_gfn rfl ?_) | (refine s_gx1 rfl ?_) | (refine s_gxn rfl ?_) | (refine s_gs rfl ?_))) | ((with_reducible refine k_mv ?_); (refine s_mv rfl ?_)) | ((with_reducible refine k_extract ?_); (refine s_extract rfl rfl ?_)) | ((with_reducible refine k_len ?_); (first | (refine s_len rfl rfl ?_) | ((with_reducible apply s_len); (· rfl); (· exact SlOwn.len (by assumption))))) | ((with_reducible refine k_pick ?_); (first | (refine s_pickT rfl rfl ?_) | (refine s_pickF rfl rfl ?_))) | ((with_reducible refine k_eql ?_); (first | (refine s_eql rfl rfl ?_) | (refine s_strEq rfl rfl ?_))) | ((with_reducible refine k_iaddr ?_); (first | ((with_reducible apply s_iaddrV); (· rfl); (· rfl); (· (first | omega | exact ⟨rfl, by omega⟩ | skip))) | ((with_reducible apply s_iaddrO); (· rfl); (· rfl); (· (first | omega | exact ⟨rfl, by omega⟩ | skip)); (· (exact hpX))) | ((with_reducible apply s_iaddrSO); (· rfl); (· assumption); (· rfl); (· (first | omega | exact ⟨rfl, by omega⟩ | skip)); (· (first | exact nuI | exact nuN)); intro ks hks))) | ((with_reducible refine k_load ?_); (first | ((with_reducible apply s_loadV); (· rfl)) | ((with_reducible apply s_loadP); (· rfl); (· (exact hpX))))) | ((with_reducible refine k_build ?_); ((with_reducible apply s_build); (· rfl); (· rfl))) | ((with_reducible refine k_buildS (dst := some 9) ?_); ((with_reducible apply s_buildS); (· rfl); (· (exact ⟨rfl, by decide⟩)); (· (first | (simp only [fillB, rep, splice, List.reduceReplicate, List.flatten_cons, List.flatten_nil, List.cons_append, List.nil_append, List.append_nil, List.length_cons, List.length_nil, Nat.reduceAdd, Nat.reduceMul, Nat.reduceLeDiff, Nat.reduceEqDiff, eq_self, Nat.le_refl, Nat.zero_add, and_self, and_true, true_and, if_true, List.take_zero, List.take_succ_cons, List.drop_zero, List.drop_succ_cons, List.drop_nil, List.take_nil]; rfl) | rfl)); intro k9 hk9; (try simp only [upd_none] at hk9))) | ((with_reducible refine k_buildS (dst := some 52) ?_); ((with_reducible apply s_buildS); (· rfl); (· (exact ⟨rfl, by decide⟩)); (· (first | (simp only [fillB, rep, splice, List.reduceReplicate, List.flatten_cons, List.flatten_nil, List.cons_append, List.nil_append, List.append_nil, List.length_cons, List.length_nil, Nat.reduceAdd, Nat.reduceMul, Nat.reduceLeDiff, Nat.reduceEqDiff, eq_self, Nat.le_refl, Nat.zero_add, and_self, and_true, true_and, if_true, List.take_zero, List.take_succ_cons, List.drop_zero, List.drop_succ_cons, List.drop_nil, List.take_nil]; rfl) | rfl)); intro k52 hk52; (try simp only [upd_none] at hk52))) | ((with_reducible refine k_callF ?_); (first | ((with_reducible apply s_call1); (· rfl)) | ((with_reducible apply s_calln); (· rfl)))) | ((with_reducible refine k_con ?_); (first | ((with_reducible apply con_of_pcon (cP)); (· (repeat (first | exact All2.nil | (apply All2.cons; (· first | exact Rd_int | exact Rd_bool | exact Rd_vs | exact Rd_nil | exact Rd_emp | exact Rd_vp | exact Rd_sl0 upd_self rfl rfl | exact Rd_fn0 | exact Rd_flat rfl | ((apply Rd_sl0); (· (exact hpX)); (· first | rfl | exact scal_i | exact scal_b | assumption); (· first | rfl | assumption | (simp; done) | (simp; omega))) | ((apply Rd_so); (· first | assumption | ((repeat' (first | assumption | (with_reducible apply SlOwn.upd) | (simp only [upd_none]; assumption))); done)); (· first | rfl | exact scal_i | exact scal_b | assumption))))))); intro kP hkP; (try simp only [upd_none] at hkP); simp only [thaw, thawC, List.map, thawH, owOf, owL]) | ((with_reducible apply con_of_pcon (cE)); (· (repeat (first | exact All2.nil | (apply All2.cons; (· first | exact Rd_int | exact Rd_bool | exact Rd_vs | exact Rd_nil | exact Rd_emp | exact Rd_vp | exact Rd_sl0 upd_self rfl rfl | exact Rd_fn0 | exact Rd_flat rfl | ((apply Rd_sl0); (· (exact hpX)); (· first | rfl | exact scal_i | exact scal_b | assumption); (· first | rfl | assumption | (simp; done) | (simp; omega))) | ((apply Rd_so); (· first | assumption | ((repeat' (first | assumption | (with_reducible apply SlOwn.upd) | (simp only [upd_none]; assumption))); done)); (· first | rfl | exact scal_i | exact scal_b | assumption))))))); intro kE hkE; (try simp only [upd_none] at hkE); simp only [thaw, thawC, List.map, thawH, owOf, owL]) | ((with_reducible apply con_of_pcon (cN)); (· (repeat (first | exact All2.nil | (apply All2.cons; (· first | exact Rd_int | exact Rd_bool | exact Rd_vs | exact Rd_nil | exact Rd_emp | exact Rd_vp | exact Rd_sl0 upd_self rfl rfl | exact Rd_fn0 | exact Rd_flat rfl | ((apply Rd_sl0); (· (exact hpX)); (· first | rfl | exact scal_i | exact scal_b | assumption); (· first | rfl | assumption | (simp; done) | (simp; omega))) | ((apply Rd_so); (· first | assumption | ((repeat' (first | assumption | (with_reducible apply SlOwn.upd) | (simp only [upd_none]; assumption))); done)); (· first | rfl | exact scal_i | exact scal_b | assumption))))))); intro kN hkN; (try simp only [upd_none] at hkN); simp only [thaw, thawC, List.map, thawH, owOf, owL]) | ((with_reducible apply con_val (cA)); (· (repeat (first | exact All2.nil | (apply All2.cons; (· first | exact Rd_int | exact Rd_bool | exact Rd_vs | exact Rd_nil | exact Rd_emp | exact Rd_vp | exact Rd_sl0 upd_self rfl rfl | exact Rd_fn0 | exact Rd_flat rfl | ((apply Rd_sl0); (· (exact hpX)); (· first | rfl | exact scal_i | exact scal_b | assumption); (· first | rfl | assumption | (simp; done) | (simp; omega))) | ((apply Rd_so); (· first | assumption | ((repeat' (first | assumption | (with_reducible apply SlOwn.upd) | (simp only [upd_none]; assumption))); done)); (· first | rfl | exact scal_i | exact scal_b | assumption))))))); (· rfl); (· exact fun _ => rfl)) | ((with_reducible apply con_val (cX)); (· (repeat (first | exact All2.nil | (apply All2.cons; (· first | exact Rd_int | exact Rd_bool | exact Rd_vs | exact Rd_nil | exact Rd_emp | exact Rd_vp | exact Rd_sl0 upd_self rfl rfl | exact Rd_fn0 | exact Rd_flat rfl | ((apply Rd_sl0); (· (exact hpX)); (· first | rfl | exact scal_i | exact scal_b | assumption); (· first | rfl | assumption | (simp; done) | (simp; omega))) | ((apply Rd_so); (· first | assumption | ((repeat' (first | assumption | (with_reducible apply SlOwn.upd) | (simp only [upd_none]; assumption))); done)); (· first | rfl | exact scal_i | exact scal_b | assumption))))))); (· rfl); (· exact fun _ => rfl)) | ((with_reducible apply con_val (cW)); (· (repeat (first | exact All2.nil | (apply All2.cons; (· first | exact Rd_int | exact Rd_bool | exact Rd_vs | exact Rd_nil | exact Rd_emp | exact Rd_vp | exact Rd_sl0 upd_self rfl rfl | exact Rd_fn0 | exact Rd_flat rfl | ((apply Rd_sl0); (· (exact hpX)); (· first | rfl | exact scal_i | exact scal_b | assumption); (· first | rfl | assumption | (simp; done) | (simp; omega))) | ((apply Rd_so); (· first | assumption | ((repeat' (first | assumption | (with_reducible apply SlOwn.upd) | (simp only [upd_none]; assumption))); done)); (· first | rfl | exact scal_i | exact scal_b | assumption))))))); (· rfl); (· exact fun _ => rfl)) | ((with_reducible apply con_val (cO)); (· (repeat (first | exact All2.nil | (apply All2.cons; (· first | exact Rd_int | exact Rd_bool | exact Rd_vs | exact Rd_nil | exact Rd_emp | exact Rd_vp | exact Rd_sl0 upd_self rfl rfl | exact Rd_fn0 | exact Rd_flat rfl | ((apply Rd_sl0); (· (exact hpX)); (· first | rfl | exact scal_i | exact scal_b | assumption); (· first | rfl | assumption | (simp; done) | (simp; omega))) | ((apply Rd_so); (· first | assumption | ((repeat' (first | assumption | (with_reducible apply SlOwn.upd) | (simp only [upd_none]; assumption))); done)); (· first | rfl | exact scal_i | exact scal_b | assumption))))))); (· rfl); (· exact fun _ => rfl)))) | ((with_reducible refine k_br ?_); (first | (with_reducible first | refine Br_dec ?_ | refine Br_not ?_ | refine Br_eqF ?_ | refine Br_and ?_ | refine Br_or ?_ | refine Br_neg ?_ | refine Br_band ?_ | refine Br_bor ?_ | refine Br_beq ?_) | (refine Br_t (by first | with_reducible rfl | omega | assumption | rfl) ?_) | (refine Br_f (by first | omega | assumption | decide) ?_) | (with_reducible apply Br_sb <;> intro hbr <;> (first | subst hbr | simp only [hbr] | skip)) | (with_reducible apply Br_s <;> intro hbr))) | (with_reducible refine WN_succ ?_) | ((first | (with_reducible apply q_eqI) | (with_reducible apply q_eqN)); (first | exact nuI | exact nuN)) | ((first | (with_reducible apply q_eqL) | (with_reducible apply q_eqO)); (first | exact liL | exact liO)))
  all_goals first | exact Fin_flat trivial rfl rfl | (refine Fin_tup trivial rfl ?_ (Nat.le_of_ble_eq_true rfl); (repeat (first | exact All2.nil | (apply All2.cons; (· first | exact exc_n | exact exc_e | exact exc_v rfl rfl | exact exc_o upd_self rfl rfl)))); done) | (refine Fin_own trivial rfl upd_self ?_ (Nat.le_of_ble_eq_true rfl); (repeat (first | exact All2.nil | (apply All2.cons; (· first | exact exc_n | exact exc_e | exact exc_v rfl rfl | exact exc_o upd_self rfl rfl)))); done) | exact Fin_nil trivial rfl | exact Fin_sl trivial rfl upd_self rfl rfl
end Go.Proofs.Ytfdfmbmhefckaaa
end
section
/- Reclaim plans: the reference's answers; the laws that compare. -/
set_option linter.unusedSimpArgs false
set_option linter.unusedVariables false
namespace Go.Proofs.Ytfdfmbmhefckaaa
open Go.AM Classical
set_option maxRecDepth 100000
set_option maxHeartbeats 4000000
theorem usB_is (l : List Acct) (v : List Int) (s : Int) (kn : Bool) (q : Pg) : usB l v s kn q = if q.leaving = true ∧ ¬ outP l s q ∧ ¬ (kn = true ∧ q.normal = false) then 1 else 0 := by
  unfold usB
  congr 1
  refine propext (and_congr_right fun hl => ?_)
  unfold rsn
  constructor
  · intro h
    split at h
    · omega
    · split at h
      · omega
      · exact ⟨by assumption, by assumption⟩
  · rintro ⟨h1, h2⟩
    rw [if_neg h1, if_neg h2, if_pos hl]
end Go.Proofs.Ytfdfmbmhefckaaa
end
section
/- Reclaim plans: the reference's check of a witness; the laws that compare. -/
set_option linter.unusedSimpArgs false
set_option linter.unusedVariables false
namespace Go.Proofs.Ytfdfmbmhefckaaa
open Go.AM Classical
set_option maxRecDepth 100000
set_option maxHeartbeats 4000000
end Go.Proofs.Ytfdfmbmhefckaaa
end
section
/- Reclaim plans: the law ReclaimplanSound. -/
set_option linter.unusedSimpArgs false
set_option linter.unusedVariables false
namespace Go.Proofs.Ytfdfmbmhefckaaa
open Go.AM Classical
set_option maxRecDepth 100000
set_option maxHeartbeats 4000000
end Go.Proofs.Ytfdfmbmhefckaaa
end
section
/- Reclaim plans: the law ReclaimplanOldest. -/
set_option linter.unusedSimpArgs false
set_option linter.unusedVariables false
namespace Go.Proofs.Ytfdfmbmhefckaaa
open Go.AM Classical
set_option maxRecDepth 100000
set_option maxHeartbeats 4000000
theorem rsn_zero {l : List Acct} {v : List Int} {s : Int} {kn : Bool} {q : Pg} (h : rsn l v s kn q = 0) : ¬ outP l s q ∧ ¬ (kn = true ∧ q.normal = false) ∧ ¬ q.leaving = true ∧ ¬ (q.reason ≠ 0 ∧ q.reason ≠ 8) ∧ ¬ gdP l v s false q ∧ q.reason = 0 := by
  unfold rsn at h
  split at h
  · omega
  · split at h
    · omega
    · split at h
      · omega
      · split at h
        · omega
        · split at h
          · omega
          · exact ⟨by assumption, by assumption, by assumption, by assumption, by assumption, h⟩
theorem nxS_spec {l : List Acct} {v : List Int} {s : Int} {kn : Bool} {p : List Pg} : ∀ i, i ≤ p.length →
    (((nxS l v s kn p i).1 = -1 ∧ ∀ j (h : j < p.length), j < i → rsn l v s kn p[j] = 0 → gdP l v s true p[j]) ∨
      (0 ≤ (nxS l v s kn p i).1 ∧ (∀ h : (nxS l v s kn p i).1.toNat < p.length, rsn l v s kn p[(nxS l v s kn p i).1.toNat] = 0 ∧ ¬ gdP l v s true p[(nxS l v s kn p i).1.toNat]) ∧ ∀ j (h : j < p.length), j < i → rsn l v s kn p[j] = 0 → ¬ gdP l v s true p[j] → agA p (nxS l v s kn p i).1 ≤ p[j].age)) ∧
    (((nxS l v s kn p i).2 = -1 ∧ ∀ j (h : j < p.length), j < i → rsn l v s kn p[j] ≠ 0) ∨
      (0 ≤ (nxS l v s kn p i).2 ∧ (∀ h : (nxS l v s kn p i).2.toNat < p.length, rsn l v s kn p[(nxS l v s kn p i).2.toNat] = 0) ∧ ∀ j (h : j < p.length), j < i → rsn l v s kn p[j] = 0 → agA p (nxS l v s kn p i).2 ≤ p[j].age))
  | 0, _ => ⟨.inl ⟨rfl, fun j _ h => by omega⟩, .inl ⟨rfl, fun j _ h => by omega⟩⟩
  | i + 1, hi => by
    obtain ⟨h1, h2⟩ := nxS_spec (l := l) (v := v) (s := s) (kn := kn) (p := p) i (by omega)
    have hil : i < p.length := by omega
    have hst : nxS l v s kn p (i + 1) = (if rsn l v s kn p[i] = 0 then
        (if ¬ gdP l v s true p[i] ∧ ((nxS l v s kn p i).1 < 0 ∨ p[i].age < agA p (nxS l v s kn p i).1) then (i : Int) else (nxS l v s kn p i).1,
         if (nxS l v s kn p i).2 < 0 ∨ p[i].age < agA p (nxS l v s kn p i).2 then (i : Int) else (nxS l v s kn p i).2)
       else nxS l v s kn p i) := by rw [nxS, dif_pos hil]
    generalize nxS l v s kn p (i + 1) = B at hst ⊢
    generalize nxS l v s kn p i = b at *
    obtain ⟨b, c⟩ := b
    obtain ⟨B1, B2⟩ := B
    dsimp only at h1 h2 hst ⊢
    have hag : agA p (i : Int) = p[i].age := by unfold agA; rw [dif_pos (by simpa using hil)]; simp
    by_cases hr : rsn l v s kn p[i] = 0
    · rw [if_pos hr] at hst
      injection hst with hB1 hB2
      refine ⟨?_, ?_⟩
      · by_cases hc : ¬ gdP l v s true p[i] ∧ (b < 0 ∨ p[i].age < agA p b)
        · rw [if_pos hc] at hB1
          subst hB1
          refine .inr ⟨by omega, fun h => by simpa using ⟨hr, hc.1⟩, fun j hj hji hrj hgj => ?_⟩
          rw [hag]
          rcases Nat.lt_succ_iff_lt_or_eq.1 hji with h4 | rfl
          · rcases h1 with ⟨h5, h6⟩ | ⟨h5, _, h6⟩
            · exact absurd (h6 j hj h4 hrj) hgj
            · have := h6 j hj h4 hrj hgj
              rcases hc.2 with h7 | h7 <;> omega
          · exact Int.le_refl _
        · rw [if_neg hc] at hB1
          replace hB1 := hB1.symm
          subst hB1
          rcases h1 with ⟨h5, h6⟩ | ⟨h5, h6, h7⟩
          · refine .inl ⟨h5, fun j hj hji hrj => ?_⟩
            rcases Nat.lt_succ_iff_lt_or_eq.1 hji with h4 | rfl
            · exact h6 j hj h4 hrj
            · exact Classical.byContradiction fun hg => hc ⟨hg, .inl (by omega)⟩
          · refine .inr ⟨h5, h6, fun j hj hji hrj hgj => ?_⟩
            rcases Nat.lt_succ_iff_lt_or_eq.1 hji with h4 | rfl
            · exact h7 j hj h4 hrj hgj
            · have : ¬ p[j].age < agA p b := fun h => hc ⟨hgj, .inr h⟩
              omega
      · by_cases hc : c < 0 ∨ p[i].age < agA p c
        · rw [if_pos hc] at hB2
          subst hB2
          refine .inr ⟨by omega, fun h => by simpa using hr, fun j hj hji hrj => ?_⟩
          rw [hag]
          rcases Nat.lt_succ_iff_lt_or_eq.1 hji with h4 | rfl
          · rcases h2 with ⟨h5, h6⟩ | ⟨h5, _, h6⟩
            · exact absurd hrj (h6 j hj h4)
            · have := h6 j hj h4 hrj
              rcases hc with h7 | h7 <;> omega
          · exact Int.le_refl _
        · rw [if_neg hc] at hB2
          replace hB2 := hB2.symm
          subst hB2
          rcases h2 with ⟨h5, h6⟩ | ⟨h5, h6, h7⟩
          · omega
          · refine .inr ⟨h5, h6, fun j hj hji hrj => ?_⟩
            rcases Nat.lt_succ_iff_lt_or_eq.1 hji with h4 | rfl
            · exact h7 j hj h4 hrj
            · omega
    · rw [if_neg hr] at hst
      injection hst with hB1 hB2
      replace hB1 := hB1.symm
      replace hB2 := hB2.symm
      subst hB1 hB2
      refine ⟨?_, ?_⟩
      · rcases h1 with ⟨h5, h6⟩ | ⟨h5, h6, h7⟩
        · refine .inl ⟨h5, fun j hj hji hrj => ?_⟩
          rcases Nat.lt_succ_iff_lt_or_eq.1 hji with h4 | rfl
          · exact h6 j hj h4 hrj
          · exact absurd hrj hr
        · refine .inr ⟨h5, h6, fun j hj hji hrj hgj => ?_⟩
          rcases Nat.lt_succ_iff_lt_or_eq.1 hji with h4 | rfl
          · exact h7 j hj h4 hrj hgj
          · exact absurd hrj hr
      · rcases h2 with ⟨h5, h6⟩ | ⟨h5, h6, h7⟩
        · refine .inl ⟨h5, fun j hj hji => ?_⟩
          rcases Nat.lt_succ_iff_lt_or_eq.1 hji with h4 | rfl
          · exact h6 j hj h4
          · exact hr
        · refine .inr ⟨h5, h6, fun j hj hji hrj => ?_⟩
          rcases Nat.lt_succ_iff_lt_or_eq.1 hji with h4 | rfl
          · exact h7 j hj h4 hrj
          · exact absurd hrj hr
end Go.Proofs.Ytfdfmbmhefckaaa
end
section
/- Reclaim plans: the laws ReclaimplanReasons and ReclaimplanEither. -/
set_option linter.unusedSimpArgs false
set_option linter.unusedVariables false
namespace Go.Proofs.Ytfdfmbmhefckaaa
open Go.AM Classical
set_option maxRecDepth 100000
set_option maxHeartbeats 4000000
theorem nxt_some {p : List Pg} {l : List Acct} {s : Int} {kn : Bool} (hq : quP p l s) : 0 ≤ nxtF p l s kn ↔ ∃ i, ∃ h : i < p.length, rsn l (lvL l p) s kn p[i] = 0 := by
  rw [nxtF, if_pos hq]
  have hin := nxS_in l (lvL l p) s kn p p.length
  have hsp := (nxS_spec (l := l) (v := lvL l p) (s := s) (kn := kn) (p := p) p.length (Nat.le_refl _)).2
  generalize nxS l (lvL l p) s kn p p.length = b at *
  obtain ⟨b, c⟩ := b
  unfold nxtV
  dsimp only at hin hsp ⊢
  constructor
  · intro h
    have hc : 0 ≤ c := by split at h <;> omega
    rcases hsp with ⟨h1, _⟩ | ⟨_, h1, _⟩
    · omega
    · exact ⟨c.toNat, by omega, h1 (by omega)⟩
  · rintro ⟨i, hi, h⟩
    rcases hsp with ⟨_, h1⟩ | ⟨h1, _, _⟩
    · exact absurd h (h1 i hi hi)
    · split <;> omega
end Go.Proofs.Ytfdfmbmhefckaaa
end
section
/- Reclaim plans: the law ReclaimplanFloors. -/
set_option linter.unusedSimpArgs false
set_option linter.unusedVariables false
namespace Go.Proofs.Ytfdfmbmhefckaaa
open Go.AM Classical
set_option maxRecDepth 100000
set_option maxHeartbeats 4000000
def lvg (q : Pg) : Pg := ⟨q.frame, q.account, q.age, q.reason, q.owner, q.normal, true⟩
def takeP (g : List Pg) (k : Nat) : List Pg := if h : k < g.length then g.set k (lvg g[k]) else g
theorem takeP_len (g : List Pg) (k : Nat) : (takeP g k).length = g.length := by unfold takeP; split <;> simp
theorem takeP_at {g : List Pg} {k i : Nat} (hi : i < g.length) : (takeP g k)[i]'(by rw [takeP_len]; exact hi) = if k = i then lvg g[i] else g[i] := by
  unfold takeP
  by_cases h : k < g.length
  · simp only [dif_pos h, List.getElem_set]
    split
    · rename_i h2; subst h2; rfl
    · rfl
  · rw [if_neg (by omega)]
    simp only [dif_neg h]
theorem cG_take {f : Pg → Int} {g : List Pg} {k : Nat} (hk : k < g.length) : ∀ m, m ≤ g.length → cG f (takeP g k) m = cG f g m + if k < m then f (lvg g[k]) - f g[k] else 0
  | 0, _ => by simp [cG]
  | m + 1, hm => by
    rw [cG_s (by rw [takeP_len]; omega), cG_s (show m < g.length by omega), cG_take hk m (by omega), takeP_at (show m < g.length by omega)]
    by_cases h1 : k = m
    · subst h1
      rw [if_pos rfl, if_neg (by omega), if_pos (by omega)]; omega
    · rw [if_neg h1]
      by_cases h2 : k < m
      · rw [if_pos h2, if_pos (by omega)]; omega
      · rw [if_neg h2, if_neg (by omega)]; omega
theorem prev_take {g : List Pg} {k : Nat} (i : Nat) : prevF (takeP g k) i = prevF g i := by
  unfold prevF
  by_cases h0 : i = 0
  · rw [if_pos h0, if_pos h0]
  · rw [if_neg h0, if_neg h0]
    by_cases h : i - 1 < g.length
    · rw [dif_pos (by rwa [takeP_len]), dif_pos h, takeP_at h]
      split <;> rfl
    · rw [dif_neg (by rwa [takeP_len]), dif_neg h]
theorem pgE_lv {n prev : Int} {q : Pg} (h2 : pgE n prev q = 0) : pgE n prev (lvg q) = 0 := by
  unfold pgE at h2 ⊢
  by_cases e1 : q.frame < 0 ∨ 256 ≤ q.frame ∨ q.account < -1 ∨ n ≤ q.account
  · rw [if_pos e1] at h2; omega
  · rw [if_neg e1] at h2
    rw [if_neg (show ¬ ((lvg q).frame < 0 ∨ 256 ≤ (lvg q).frame ∨ (lvg q).account < -1 ∨ n ≤ (lvg q).account) from e1)]
    by_cases e2 : q.frame ≤ prev
    · rw [if_pos e2] at h2; omega
    · rw [if_neg e2] at h2
      rw [if_neg (show ¬ ((lvg q).frame ≤ prev) from e2)]
      by_cases e3 : q.reason < 0 ∨ 10 < q.reason ∨ q.age < -1 ∨ q.owner < -1
      · rw [if_pos e3] at h2; omega
      · rw [if_neg (show ¬ ((lvg q).reason < 0 ∨ 10 < (lvg q).reason ∨ (lvg q).age < -1 ∨ (lvg q).owner < -1) from e3), if_neg (fun h => by simp [lvg] at h)]
theorem qu_take {g : List Pg} {l : List Acct} {s : Int} {k : Nat} (h : quP g l s) : quP (takeP g k) l s := by
  obtain ⟨hc, ho⟩ := errA_ok h.1
  refine ⟨?_, h.2⟩
  have h1 := h.1
  unfold pchk at h1 ⊢
  rw [if_pos hc] at h1 ⊢
  rw [fE_zero] at h1 ⊢
  intro i hi
  rw [takeP_len] at hi
  have h2 := h1 i hi
  unfold errA at h2 ⊢
  rw [dif_pos hi] at h2
  rw [dif_pos (by rwa [takeP_len]), takeP_at hi, prev_take]
  by_cases hk : k = i
  · rw [if_pos hk]; exact pgE_lv h2
  · rw [if_neg hk]; exact h2
noncomputable def lvIn (l : List Acct) (x : Int) (q : Pg) : Int := if q.leaving = true ∧ insP l q.account x then 1 else 0
theorem lvIn_in (l : List Acct) (x : Int) (q : Pg) : 0 ≤ lvIn l x q ∧ lvIn l x q ≤ 1 := by unfold lvIn; split <;> omega
theorem insN_congr {l : List Acct} {v w : Nat → Int} {x : Int} : ∀ n : Nat, (∀ c, c < n → v c = w c) → insN l v x n = insN l w x n
  | 0, _ => rfl
  | n + 1, h => by rw [insN_s, insN_s, insN_congr n (fun c hc => h c (by omega)), h n (by omega)]
theorem insN_add {l : List Acct} {v w : Nat → Int} {x : Int} : ∀ n : Nat, insN l (fun c => v c + w c) x n = insN l v x n + insN l w x n
  | 0 => rfl
  | n + 1 => by
    rw [insN_s, insN_s, insN_s, insN_add n]
    split <;> omega
theorem insN_none {l : List Acct} {v : Nat → Int} {x : Int} : ∀ n : Nat, (∀ c, c < n → v c = 0) → insN l v x n = 0
  | 0, _ => rfl
  | n + 1, h => by
    rw [insN_s, insN_none n (fun c hc => h c (by omega)), h n (by omega)]
    split <;> rfl
theorem insN_one {l : List Acct} {q : Pg} {x : Int} : ∀ n : Nat, insN l (fun c => isLv q c) x n = if q.leaving = true ∧ 0 ≤ q.account ∧ q.account < n ∧ x ∈ pathG l 8 q.account then 1 else 0
  | 0 => by rw [if_neg (by omega)]; rfl
  | n + 1 => by
    rw [insN_s, insN_one n]
    unfold isLv
    by_cases hq : q.leaving = true ∧ q.account = (n : Int)
    · obtain ⟨h1, h2⟩ := hq
      rw [if_neg (show ¬ (q.leaving = true ∧ 0 ≤ q.account ∧ q.account < (n : Int) ∧ x ∈ pathG l 8 q.account) from fun h => by omega), if_pos (show q.leaving = true ∧ q.account = (n : Int) from ⟨h1, h2⟩), h2]
      by_cases hx : x ∈ pathG l 8 (n : Int)
      · rw [if_pos hx, if_pos ⟨h1, by omega, by omega, hx⟩]; rfl
      · rw [if_neg hx, if_neg (fun h => hx h.2.2.2)]; rfl
    · rw [if_neg hq]
      rw [show (if x ∈ pathG l 8 (n : Int) then (0 : Int) else 0) = 0 by split <;> rfl, Int.add_zero]
      by_cases hz : q.leaving = true ∧ 0 ≤ q.account ∧ q.account < n ∧ x ∈ pathG l 8 q.account
      · rw [if_pos hz, if_pos ⟨hz.1, hz.2.1, by omega, hz.2.2.2⟩]
      · rw [if_neg hz, if_neg (fun h => hz ⟨h.1, h.2.1, by have h1 := h.1; have : q.account ≠ n := fun h2 => hq ⟨h1, h2⟩; omega, h.2.2.2⟩)]
theorem ins_one {l : List Acct} {q : Pg} {x : Int} (hc : chkF l = 0) (hx : 0 ≤ x) : insN l (fun c => isLv q c) x l.length = lvIn l x q := by
  rw [insN_one]
  unfold lvIn
  congr 1
  refine propext (and_congr_right fun _ => ?_)
  unfold insP
  constructor
  · rintro ⟨h1, h2, h3⟩
    have hp : isP l q.account := ⟨hc, h1, h2⟩
    exact ⟨hp, .inr (by rw [pathF_is hp]; exact h3)⟩
  · rintro ⟨hp, h⟩
    rw [pathF_is hp] at h
    exact ⟨hp.2.1, hp.2.2, h.resolve_left (by omega)⟩
theorem ins_pages {l : List Acct} {g : List Pg} {x : Int} (hc : chkF l = 0) (hx : 0 ≤ x) : ∀ m, m ≤ g.length → insN l (fun c => cntA g c m) x l.length = cG (lvIn l x) g m
  | 0, _ => insN_none _ fun c _ => rfl
  | m + 1, h => by
    have hm : m < g.length := by omega
    have e : (fun (c : Nat) => cntA g c (m + 1)) = fun (c : Nat) => cntA g c m + isLv g[m] c := by funext c; exact cntA_s hm
    rw [e, insN_add, ins_pages hc hx m (by omega), ins_one hc hx, cG_s hm]
theorem ins_lv {l : List Acct} {g : List Pg} {x : Int} (hc : chkF l = 0) (hx : 0 ≤ x) : insF l (vF (lvL l g)) x = cG (lvIn l x) g g.length := by
  unfold insF
  rw [← ins_pages hc hx g.length (Nat.le_refl _)]
  refine insN_congr _ fun c h => ?_
  unfold vF
  rw [List.getD_eq_getElem?_getD, List.getElem?_eq_getElem (by rw [lvL_len]; exact h)]
  exact lvT_at (n := l.length) (by rw [lvT_len]; exact h)
theorem nxt_zero {g : List Pg} {l : List Acct} {s : Int} {kn : Bool} {k : Int} (hk : nxtF g l s kn = k) (h0 : 0 ≤ k) : quP g l s ∧ k.toNat < g.length ∧ ∀ h : k.toNat < g.length, rsn l (lvL l g) s kn g[k.toNat] = 0 := by
  unfold nxtF at hk
  split at hk
  · rename_i hq
    have hin := nxS_in l (lvL l g) s kn g g.length
    have hsp := nxS_spec (l := l) (v := lvL l g) (s := s) (kn := kn) (p := g) g.length (Nat.le_refl _)
    generalize nxS l (lvL l g) s kn g g.length = b at *
    obtain ⟨b, c⟩ := b
    unfold nxtV at hk
    dsimp only at hk hin hsp
    refine ⟨hq, by split at hk <;> omega, fun h => ?_⟩
    split at hk
    · subst hk
      rcases hsp.1 with ⟨h5, _⟩ | ⟨_, h6, _⟩
      · omega
      · exact (h6 h).1
    · subst hk
      rcases hsp.2 with ⟨h5, _⟩ | ⟨_, h6, _⟩
      · omega
      · exact h6 h
  · omega
theorem nxt_neg {g : List Pg} {l : List Acct} {s : Int} {kn : Bool} (h : ¬ 0 ≤ nxtF g l s kn) : nxtF g l s kn = -1 := by
  unfold nxtF at h ⊢
  split at h
  · rename_i hq
    rw [if_pos hq]
    have := nxS_in l (lvL l g) s kn g g.length
    unfold nxtV at h ⊢
    split at h
    · omega
    · rename_i h2; rw [if_neg h2]; omega
  · rename_i hq; rw [if_neg hq]
def lv1 (q : Pg) : Int := if q.leaving = true then 1 else 0
theorem lv1_in (q : Pg) : 0 ≤ lv1 q ∧ lv1 q ≤ 1 := by unfold lv1; split <;> omega
def onP (l : List Acct) (s a x : Int) : Prop := x ≤ 0 ∨ (x < l.length ∧ x ∈ pathG l 8 a ∧ s ≤ x)
theorem take_law {g : List Pg} {l : List Acct} {s : Int} {kn : Bool} {k : Int} (hP : g.length ≤ 1000000) (hk : nxtF g l s kn = k) (h0 : 0 ≤ k) (hl : k.toNat < g.length) :
    g[k.toNat].leaving = false ∧ g[k.toNat].reason = 0 ∧ useF (takeP g k.toNat) l s kn = useF g l s kn + 1 ∧ cG lv1 (takeP g k.toNat) g.length = cG lv1 g g.length + 1 ∧
    onP l s g[k.toNat].account g[k.toNat].account ∧
    (∀ x, onP l s g[k.toNat].account x → 0 < x → x ≠ s → onP l s g[k.toNat].account (pa l x.toNat) ∧ pa l x.toNat < x ∧ mn l x.toNat ≤ us l x.toNat - cG (lvIn l x) (takeP g k.toNat) g.length) := by
  obtain ⟨hq, _, hz⟩ := nxt_zero hk h0
  have hz := hz hl
  obtain ⟨r1, r2, r3, r4, r5, r6⟩ := rsn_zero hz
  have hc := (errA_ok hq.1).1
  have hv := val_lv (p := g) hc hP
  obtain ⟨h8, ht, _⟩ := chk_ok hc
  have hlv : g[k.toNat].leaving = false := by simpa using r3
  have hacc := ((errA_ok hq.1).2 k.toNat hl).2.1
  refine ⟨hlv, r6, ?_, ?_, ?_, ?_⟩
  · have hq2 := qu_take (k := k.toNat) hq
    rw [useF, if_pos hq2, useF, if_pos hq, takeP_len]
    have e : usB l (lvL l (takeP g k.toNat)) s kn = usB l (lvL l g) s kn := by funext q; rw [usB_is, usB_is]
    rw [e, cG_take hl _ (Nat.le_refl _), if_pos hl, usB_is, usB_is, if_pos ⟨rfl, r1, r2⟩, if_neg (fun h => r3 h.1)]
    omega
  · rw [cG_take hl _ (Nat.le_refl _), if_pos hl]
    unfold lv1
    rw [if_pos (show (lvg g[k.toNat]).leaving = true from rfl), if_neg r3]
    omega
  · unfold onP
    by_cases ha : g[k.toNat].account ≤ 0
    · exact .inl ha
    · have hp : isP l g[k.toNat].account := ⟨hc, by omega, hacc.2⟩
      refine .inr ⟨hacc.2, path_self hp, ?_⟩
      by_cases hs : 0 ≤ s
      · have hi : insP l g[k.toNat].account s := Classical.byContradiction fun h => r1 ⟨hs, .inr h⟩
        have := hi.2.resolve_left (by omega)
        rw [pathF_is hp] at this
        exact (path_range hp this).2.2
      · omega
  · intro x hx hx0 hxs
    obtain ⟨hxl, hxm, hsx⟩ := hx.resolve_left (by omega)
    have ha0 : 0 ≤ g[k.toNat].account := Classical.byContradiction fun h => by
      have : pathG l 8 g[k.toNat].account = [] := by rw [show pathG l 8 g[k.toNat].account = pathG l (7 + 1) g[k.toNat].account from rfl, pathG, if_neg h]
      rw [this] at hxm; simp at hxm
    have hp : isP l g[k.toNat].account := ⟨hc, ha0, hacc.2⟩
    have hpl := pa_lt ht (a := x) (by omega)
    have hscope : s = -1 ∨ s ∈ pathG l 8 g[k.toNat].account := by
      by_cases hs : 0 ≤ s
      · have hi : insP l g[k.toNat].account s := Classical.byContradiction fun h => r1 ⟨hs, .inr h⟩
        have := hi.2.resolve_left (by omega)
        rw [pathF_is hp] at this
        exact .inr this
      · have := hq.2; exact .inl (by omega)
    refine ⟨?_, hpl.2, ?_⟩
    · by_cases hpos : pa l x.toNat ≤ 0
      · exact .inl hpos
      · have hm := pathF_up hp (by rw [pathF_is hp]; exact hxm) (by omega)
        rw [pathF_is hp] at hm
        refine .inr ⟨by omega, hm, ?_⟩
        rcases hscope with h | h
        · omega
        · exact pathG_gap ht 8 _ hacc.2 x hxm s h (by omega)
    · have hng : ¬ stuckP l (lvL l g) g[k.toNat].account s false := fun h => r5 ⟨ha0, .inr h⟩
      have hgt : ¬ us l x.toNat - insF l (vF (lvL l g)) x ≤ flr l false x.toNat := fun h => hng ⟨x, hxm, hx0, by omega, h⟩
      rw [ins_lv hc (by omega)] at hgt
      simp only [flr, Bool.false_eq_true, if_false] at hgt
      rw [cG_take hl _ (Nat.le_refl _), if_pos hl]
      have h1 := lvIn_in l x (lvg g[k.toNat])
      have h2 := lvIn_in l x g[k.toNat]
      omega
end Go.Proofs.Ytfdfmbmhefckaaa
end
section
/- Reclaim plans: the law ReclaimplanFloors, its walk. -/
set_option linter.unusedSimpArgs false
set_option linter.unusedVariables false
namespace Go.Proofs.Ytfdfmbmhefckaaa
open Go.AM Classical
set_option maxRecDepth 100000
set_option maxHeartbeats 4000000
theorem take_cells {g : List Pg} {k : Nat} (hk : k < g.length) : List.take (k * 7 + 6) (g.flatMap Pg.cells) ++ [.bool true] ++ List.drop (k * 7 + 6 + 1) (g.flatMap Pg.cells) = (takeP g k).flatMap Pg.cells := by
  have h1 : takeP g k = g.set k (lvg g[k]) := by unfold takeP; rw [dif_pos hk]
  rw [h1]
  exact fm_st (f := Pg.cells) (l := g) (i := k) (j := 6) (d := .bool true) (b := lvg g[k]) Pg.cells_len hk (by omega) rfl
end Go.Proofs.Ytfdfmbmhefckaaa
end
section
/- What is left to an account when the leaving pages are gone. -/
set_option linter.unusedSimpArgs false
set_option linter.unusedVariables false
namespace Go.Proofs.Ytfdfmbmhefckaaa
open Go.AM Classical
set_option maxRecDepth 100000
set_option maxHeartbeats 4000000
theorem restOf_c (p : List Pg) (hP : p.length ≤ 1000000) (l : List Acct) (hL : l.length ≤ 9223372036854775807) (a : Nat) (ha : a < l.length) (hu : 0 ≤ us l a ∧ us l a ≤ 1048576) : PCon Try.prog 37 [pgs p, accs l, .int .i64 a] (.int .i64 (us l a - cG (lvIn l a) p p.length)) := by
  refine A37p (by simp [A37]) ?_
  simp only [A37, argEnv]
  have hal := accs_len l
  have hpl := pgs_len p
  have g1 := ac1 ha
  rw [← us_at ha] at g1
  generalize us l a = U at *
  repeat' (first | (with_reducible first | refine W_seq ?_ | refine then_n ?_ | refine W_block ?_ | refine blk_n ?_ | refine blk_r ?_ | refine blk_e ?_ | refine W_skip ?_ | refine W_ret ?_ | refine then_r ?_ | refine W_exit ?_ | refine then_e ?_) | (refine blk_j (by decide) ?_) | ((with_reducible refine s_reg ?_); intro K hK) | ((with_reducible refine k_nil ?_); (with_reducible apply s_nil hK); (· exact nmX); clear hK; clear K) | ((with_reducible refine k_cond ?_); (first | ((with_reducible apply s_condT); (· rfl); (· exact nmX)) | ((with_reducible apply s_condF); (· rfl); (· exact nmX)) | ((with_reducible apply s_condS); (· rfl); (· exact nmX); (· exact nmX)))) | ((with_reducible refine k_guard ?_); (first | (refine s_gt rfl ?_) | (refine s_gf1 rfl ?_) | (refine s_gfn rfl ?_) | (refine s_gx1 rfl ?_) | (refine s_gxn rfl ?_) | (refine s_gs rfl ?_))) | ((with_reducible refine k_mv ?_); (refine s_mv rfl ?_)) | ((with_reducible refine k_len ?_); (first | (refine s_len rfl rfl ?_) | ((with_reducible apply s_len); (· rfl); (· exact SlOwn.len (by assumption))))) | ((with_reducible refine k_iaddr ?_); (first | ((with_reducible apply s_iaddrV); (· rfl); (· rfl); (· (first | omega | exact ⟨rfl, by omega⟩ | skip))) | ((with_reducible apply s_iaddrO); (· rfl); (· rfl); (· (first | omega | exact ⟨rfl, by omega⟩ | skip)); (· (exact hpX))) | ((with_reducible apply s_iaddrSO); (· rfl); (· assumption); (· rfl); (· (first | omega | exact ⟨rfl, by omega⟩ | skip)); (· (first | (simp (disch := omega) only [w64, wu8, wu16, wu32, wu64, tm_nn, td_nn, fd_nn, Int.reduceAdd, Int.reduceSub, Int.reduceMul, Int.reduceDiv, Int.reduceMod, Int.reduceNeg, Int.reduceToNat, Int.toNat_natCast, Int.toNat_zero, Int.zero_add, Int.add_zero, Int.one_mul, Int.reducePow, Nat.mul_one, Nat.zero_add, Nat.add_zero, Nat.zero_mul, Nat.reduceAdd, Nat.reduceMul, Nat.reduceSub, Nat.min_eq_left, IntKind.bits, Nat.sub_zero, g1]; try rfl; done) | rfl)); intro ks hks))) | ((with_reducible refine k_load ?_); (first | ((with_reducible apply s_loadV); (· rfl)) | ((with_reducible apply s_loadP); (· rfl); (· (exact hpX))))) | ((with_reducible refine k_faddr ?_); (first | ((with_reducible apply s_faddrV); (· rfl); (· rfl)) | ((with_reducible apply s_faddrP); (· rfl); (· rfl)))) | ((with_reducible refine k_br ?_); (first | (with_reducible first | refine Br_dec ?_ | refine Br_not ?_ | refine Br_eqF ?_ | refine Br_and ?_ | refine Br_or ?_ | refine Br_neg ?_ | refine Br_band ?_ | refine Br_bor ?_ | refine Br_beq ?_) | (refine Br_t (by first | with_reducible rfl | omega | assumption | rfl) ?_) | (refine Br_f (by first | omega | assumption | decide) ?_) | (with_reducible apply Br_sb <;> intro hbr <;> (first | subst hbr | simp only [hbr] | skip)) | (with_reducible apply Br_s <;> intro hbr))) | (with_reducible refine WN_succ ?_) | ((first | (with_reducible apply q_eqI) | (with_reducible apply q_eqN)); (first | (simp (disch := omega) only [w64, wu8, wu16, wu32, wu64, tm_nn, td_nn, fd_nn, Int.reduceAdd, Int.reduceSub, Int.reduceMul, Int.reduceDiv, Int.reduceMod, Int.reduceNeg, Int.reduceToNat, Int.toNat_natCast, Int.toNat_zero, Int.zero_add, Int.add_zero, Int.one_mul, Int.reducePow, Nat.mul_one, Nat.zero_add, Nat.add_zero, Nat.zero_mul, Nat.reduceAdd, Nat.reduceMul, Nat.reduceSub, Nat.min_eq_left, IntKind.bits, Nat.sub_zero, g1]; try rfl; done) | rfl)) | ((first | (with_reducible apply q_eqL) | (with_reducible apply q_eqO)); (first | (simp (disch := omega) only [upd_self, upd_ne, upd_upd, rep, splice, List.take_succ_cons, List.take_zero, List.drop_succ_cons, List.drop_zero, List.cons_append, List.nil_append, List.append_nil, List.length_cons, List.length_nil, List.reduceReplicate, List.flatten_cons, List.flatten_nil, Nat.reduceAdd, Nat.reduceMul, Nat.reduceSub, Nat.zero_add, Nat.add_zero, List.getElem?_cons_zero, List.getElem?_cons_succ, g1]; try rfl; done) | rfl)))
  all_goals first | (exfalso; omega) | skip
  refine W_for p.length (fun i st => ∃ h', st = ⟨[(1, accs l), (2, .int .i64 a), (7, .int .i64 (U - cG (lvIn l a) p i)), (15, pgs p), (16, .int .i64 p.length), (17, .int .i64 i)], h'⟩) ⟨_, by rw [cG, Int.sub_zero]; rfl⟩ ?_ ?_
  · rintro i e' h' hi ⟨h1, he⟩
    cases he
    have hrow := pgr hi
    have ci := rinside_c l hL p[i].account a
    have hb := cG_in (lvIn_in l a) p i
    have hst := cG_s (f := lvIn l a) hi
    rw [hst]
    generalize cG (lvIn l a) p i = T at *
    unfold lvIn
    generalize insP l p[i].account a = Z at *
    clear hst
    generalize p[i] = q at *
    obtain ⟨fr, ac, ag, re, ow, nm, lv⟩ := q
    dsimp only at ci hrow ⊢
    cases lv
    all_goals
      repeat' (first | (with_reducible first | refine W_seq ?_ | refine then_n ?_ | refine W_block ?_ | refine blk_n ?_ | refine blk_r ?_ | refine blk_e ?_ | refine W_skip ?_ | refine W_ret ?_ | refine then_r ?_ | refine W_exit ?_ | refine then_e ?_) | (refine blk_j (by decide) ?_) | ((with_reducible refine s_reg ?_); intro K hK) | ((with_reducible refine k_nil ?_); (with_reducible apply s_nil hK); (· exact nmX); clear hK; clear K) | ((with_reducible refine k_cond ?_); (first | ((with_reducible apply s_condT); (· rfl); (· exact nmX)) | ((with_reducible apply s_condF); (· rfl); (· exact nmX)) | ((with_reducible apply s_condS); (· rfl); (· exact nmX); (· exact nmX)))) | ((with_reducible refine k_guard ?_); (first | (refine s_gt rfl ?_) | (refine s_gf1 rfl ?_) | (refine s_gfn rfl ?_) | (refine s_gx1 rfl ?_) | (refine s_gxn rfl ?_) | (refine s_gs rfl ?_))) | ((with_reducible refine k_mv ?_); (refine s_mv rfl ?_)) | ((with_reducible refine k_pick ?_); (first | (refine s_pickT rfl rfl ?_) | (refine s_pickF rfl rfl ?_))) | ((with_reducible refine k_lss ?_); (refine s_lss rfl rfl ?_)) | ((with_reducible refine k_iaddr ?_); (first | ((with_reducible apply s_iaddrV); (· rfl); (· rfl); (· (first | omega | exact ⟨rfl, by omega⟩ | skip))) | ((with_reducible apply s_iaddrO); (· rfl); (· rfl); (· (first | omega | exact ⟨rfl, by omega⟩ | skip)); (· (exact hpX))) | ((with_reducible apply s_iaddrSO); (· rfl); (· assumption); (· rfl); (· (first | omega | exact ⟨rfl, by omega⟩ | skip)); (· (first | (simp (disch := omega) only [w64, wu8, wu16, wu32, wu64, tm_nn, td_nn, fd_nn, Int.reduceAdd, Int.reduceSub, Int.reduceMul, Int.reduceDiv, Int.reduceMod, Int.reduceNeg, Int.reduceToNat, Int.toNat_natCast, Int.toNat_zero, Int.zero_add, Int.add_zero, Int.one_mul, Int.reducePow, Nat.mul_one, Nat.zero_add, Nat.add_zero, Nat.zero_mul, Nat.reduceAdd, Nat.reduceMul, Nat.reduceSub, Nat.min_eq_left, IntKind.bits, Nat.sub_zero, hrow]; try rfl; done) | rfl)); intro ks hks))) | ((with_reducible refine k_load ?_); (first | ((with_reducible apply s_loadV); (· rfl)) | ((with_reducible apply s_loadP); (· rfl); (· (exact hpX))))) | ((with_reducible refine k_loadA ?_); (first | ((with_reducible apply s_loadAV); (· rfl); (· (first | exact Nat.le_of_ble_eq_true rfl | decide | omega | (simp; done) | (simp; omega) | skip))) | ((with_reducible apply s_loadAP); (· rfl); (· (exact hpX)); (· (first | exact Nat.le_of_ble_eq_true rfl | decide | omega | (simp; done) | (simp; omega) | skip))))) | ((with_reducible refine k_add ?_); ((with_reducible apply s_add); (· rfl); (· rfl))) | ((with_reducible refine k_sub ?_); ((with_reducible apply s_sub); (· rfl); (· rfl))) | ((with_reducible refine k_store ?_); ((with_reducible apply s_store0); (· rfl); (· rfl); (· rfl); (· (exact hpX)); (· (exact ⟨rfl, by first | exact Nat.le_of_ble_eq_true rfl | omega | (simp [hrow]; omega)⟩)); (· ((first | (simp (disch := omega) only [upd_self, upd_ne, upd_upd, rep, splice, List.take_succ_cons, List.take_zero, List.drop_succ_cons, List.drop_zero, List.cons_append, List.nil_append, List.append_nil, List.length_cons, List.length_nil, List.reduceReplicate, List.flatten_cons, List.flatten_nil, Nat.reduceAdd, Nat.reduceMul, Nat.reduceSub, Nat.zero_add, Nat.add_zero, List.getElem?_cons_zero, List.getElem?_cons_succ, hrow]; try rfl; done) | rfl))); (· (first | exact upd_upd | rfl)))) | ((with_reducible refine k_faddr ?_); (first | ((with_reducible apply s_faddrV); (· rfl); (· rfl)) | ((with_reducible apply s_faddrP); (· rfl); (· rfl)))) | ((with_reducible refine k_alloc (dst := some 9) ?_); ((with_reducible apply s_alloc); intro k9 hk9; (try simp only [upd_none] at hk9))) | ((with_reducible refine k_callF ?_); (first | ((with_reducible apply s_call1); (· rfl)) | ((with_reducible apply s_calln); (· rfl)))) | ((with_reducible refine k_con ?_); (first | ((with_reducible apply con_valB (ci)); (· (repeat (first | exact All2.nil | (apply All2.cons; (· first | ((apply Rd_sl0); (· exact hpX); (· first | rfl | exact scal_i | exact scal_b | assumption); (· first | rfl | assumption | (simp [hrow]; done) | (simp [hrow]; omega))) | exact rdX)))))))) | ((with_reducible refine k_br ?_); (first | (with_reducible first | refine Br_dec ?_ | refine Br_not ?_ | refine Br_eqF ?_ | refine Br_and ?_ | refine Br_or ?_ | refine Br_neg ?_ | refine Br_band ?_ | refine Br_bor ?_ | refine Br_beq ?_) | (refine Br_t (by first | with_reducible rfl | omega | assumption | rfl) ?_) | (refine Br_f (by first | omega | assumption | decide) ?_) | (with_reducible apply Br_sb <;> intro hbr <;> (first | subst hbr | simp only [hbr] | skip)) | (with_reducible apply Br_s <;> intro hbr))) | (with_reducible refine WN_succ ?_) | ((first | (with_reducible apply q_eqI) | (with_reducible apply q_eqN)); (first | (simp (disch := omega) only [w64, wu8, wu16, wu32, wu64, tm_nn, td_nn, fd_nn, Int.reduceAdd, Int.reduceSub, Int.reduceMul, Int.reduceDiv, Int.reduceMod, Int.reduceNeg, Int.reduceToNat, Int.toNat_natCast, Int.toNat_zero, Int.zero_add, Int.add_zero, Int.one_mul, Int.reducePow, Nat.mul_one, Nat.zero_add, Nat.add_zero, Nat.zero_mul, Nat.reduceAdd, Nat.reduceMul, Nat.reduceSub, Nat.min_eq_left, IntKind.bits, Nat.sub_zero, hrow]; try rfl; done) | rfl)) | ((first | (with_reducible apply q_eqL) | (with_reducible apply q_eqO)); (first | (simp (disch := omega) only [upd_self, upd_ne, upd_upd, rep, splice, List.take_succ_cons, List.take_zero, List.drop_succ_cons, List.drop_zero, List.cons_append, List.nil_append, List.append_nil, List.length_cons, List.length_nil, List.reduceReplicate, List.flatten_cons, List.flatten_nil, Nat.reduceAdd, Nat.reduceMul, Nat.reduceSub, Nat.zero_add, Nat.add_zero, List.getElem?_cons_zero, List.getElem?_cons_succ, hrow]; try rfl; done) | rfl)))
    all_goals first | (exfalso; omega) | skip
    all_goals first
      | exact ⟨_, by rw [if_neg (fun h => absurd h.1 (by decide)), Int.add_zero]; rfl⟩
      | exact ⟨_, by rw [if_pos ⟨rfl, by assumption⟩, ← Int.sub_sub]; rfl⟩
      | exact ⟨_, by rw [if_neg (fun h => absurd h.2 (by assumption)), Int.add_zero]; rfl⟩
  · rintro e' h' ⟨h1, he⟩
    cases he
    repeat' (first | (with_reducible first | refine W_seq ?_ | refine then_n ?_ | refine W_block ?_ | refine blk_n ?_ | refine blk_r ?_ | refine blk_e ?_ | refine W_skip ?_ | refine W_ret ?_ | refine then_r ?_ | refine W_exit ?_ | refine then_e ?_) | (refine blk_j (by decide) ?_) | ((with_reducible refine s_reg ?_); intro K hK) | ((with_reducible refine k_nil ?_); (with_reducible apply s_nil hK); (· exact nmX); clear hK; clear K) | ((with_reducible refine k_cond ?_); (first | ((with_reducible apply s_condT); (· rfl); (· exact nmX)) | ((with_reducible apply s_condF); (· rfl); (· exact nmX)) | ((with_reducible apply s_condS); (· rfl); (· exact nmX); (· exact nmX)))) | ((with_reducible refine k_guard ?_); (first | (refine s_gt rfl ?_) | (refine s_gf1 rfl ?_) | (refine s_gfn rfl ?_) | (refine s_gx1 rfl ?_) | (refine s_gxn rfl ?_) | (refine s_gs rfl ?_))) | ((with_reducible refine k_mv ?_); (refine s_mv rfl ?_)) | ((with_reducible refine k_lss ?_); (refine s_lss rfl rfl ?_)) | ((with_reducible refine k_br ?_); (first | (with_reducible first | refine Br_dec ?_ | refine Br_not ?_ | refine Br_eqF ?_ | refine Br_and ?_ | refine Br_or ?_ | refine Br_neg ?_ | refine Br_band ?_ | refine Br_bor ?_ | refine Br_beq ?_) | (refine Br_t (by first | with_reducible rfl | omega | assumption | rfl) ?_) | (refine Br_f (by first | omega | assumption | decide) ?_) | (with_reducible apply Br_sb <;> intro hbr <;> (first | subst hbr | simp only [hbr] | skip)) | (with_reducible apply Br_s <;> intro hbr))) | (with_reducible refine WN_succ ?_) | ((first | (with_reducible apply q_eqI) | (with_reducible apply q_eqN)); (first | exact nuI | exact nuN)) | ((first | (with_reducible apply q_eqL) | (with_reducible apply q_eqO)); (first | exact liL | exact liO)))
    all_goals first | (exfalso; omega) | (first | exact Fin_flat trivial rfl rfl | (refine Fin_tup trivial rfl ?_ (Nat.le_of_ble_eq_true rfl); (repeat (first | exact All2.nil | (apply All2.cons; (· first | exact exc_n | exact exc_e | exact exc_v rfl rfl | exact exc_o upd_self rfl rfl)))); done) | (refine Fin_own trivial rfl upd_self ?_ (Nat.le_of_ble_eq_true rfl); (repeat (first | exact All2.nil | (apply All2.cons; (· first | exact exc_n | exact exc_e | exact exc_v rfl rfl | exact exc_o upd_self rfl rfl)))); done) | exact Fin_nil trivial rfl | exact Fin_sl trivial rfl upd_self rfl rfl)
end Go.Proofs.Ytfdfmbmhefckaaa
end
section
/- Shares that are kept: the plain law. -/
set_option linter.unusedSimpArgs false
set_option linter.unusedVariables false
namespace Go.Proofs.Ytfdfmbmhefckaaa
open Go.AM Classical
set_option maxRecDepth 100000
set_option maxHeartbeats 4000000
end Go.Proofs.Ytfdfmbmhefckaaa
end
section
/- A shortage opens something: the plain law. -/
set_option linter.unusedSimpArgs false
set_option linter.unusedVariables false
namespace Go.Proofs.Ytfdfmbmhefckaaa
open Go.AM Classical
set_option maxRecDepth 100000
set_option maxHeartbeats 4000000
theorem cG_app {f : Pg → Int} {a b : List Pg} : ∀ m, m ≤ a.length → cG f (a ++ b) m = cG f a m
  | 0, _ => rfl
  | m + 1, h => by
    rw [cG_s (show m < a.length by omega), cG_s (show m < (a ++ b).length by rw [List.length_append]; omega), cG_app m (by omega), List.getElem_append_left]
theorem cG_snoc (f : Pg → Int) (a : List Pg) (q : Pg) : cG f (a ++ [q]) (a ++ [q]).length = cG f a a.length + f q := by
  rw [List.length_append, List.length_singleton, cG_s (show a.length < (a ++ [q]).length by simp), cG_app _ (Nat.le_refl _)]
  simp
def acI (c : Nat) (q : Pg) : Int := if q.account = c then 1 else 0
theorem opAdd_cnt (out : List Pg) (c d : Nat) : ∀ n : Nat, cG (acI d) (opAdd out c n) (opAdd out c n).length = cG (acI d) out out.length + if c = d then (n : Int) else 0
  | 0 => by simp [opAdd]
  | n + 1 => by
    rw [opAdd, cG_snoc, opAdd_cnt out c d n]
    unfold acI opg
    dsimp only
    by_cases h : c = d
    · rw [if_pos h, if_pos h, if_pos (show (c : Int) = (d : Int) by omega)]; omega
    · rw [if_neg h, if_neg h, if_neg (show ¬ (c : Int) = (d : Int) by omega)]; omega
theorem opTo_cnt (l : List Acct) (d : Nat) : ∀ n : Nat, cG (acI d) (opTo l n) (opTo l n).length = if d < n then (kOf (ownF l d) : Int) else 0
  | 0 => by simp [opTo, cG]
  | n + 1 => by
    rw [opTo, opAdd_cnt, opTo_cnt l d n]
    by_cases h : n = d
    · subst h; rw [if_neg (by omega), if_pos rfl, if_pos (by omega)]; omega
    · rw [if_neg h]
      by_cases h2 : d < n
      · rw [if_pos h2, if_pos (by omega)]; omega
      · rw [if_neg h2, if_neg (by omega)]; omega
def wfO (n : Nat) (g : List Pg) : Prop := ∀ i (h : i < g.length), ∃ c : Nat, c < n ∧ g[i] = opg i c
theorem wfO_snoc {n : Nat} {g : List Pg} {c : Nat} (h : wfO n g) (hc : c < n) : wfO n (g ++ [opg g.length c]) := by
  intro i hi
  by_cases h1 : i < g.length
  · rw [List.getElem_append_left h1]; exact h i h1
  · have : i = g.length := by simp at hi; omega
    subst this
    exact ⟨c, hc, by simp⟩
theorem wfO_add {n : Nat} {g : List Pg} {c : Nat} (h : wfO n g) (hc : c < n) : ∀ m, wfO n (opAdd g c m)
  | 0 => h
  | m + 1 => wfO_snoc (wfO_add h hc m) hc
theorem wfO_to (l : List Acct) (n : Nat) : ∀ c, c ≤ n → wfO n (opTo l c)
  | 0, _ => fun i h => by simp [opTo] at h
  | c + 1, hc => wfO_add (wfO_to l n c (by omega)) (by omega) _
theorem wfO_chk {l : List Acct} {g : List Pg} (hc : chkF l = 0) (h : wfO l.length g) (hl : g.length ≤ 256) : quP g l (-1) := by
  refine ⟨?_, by omega, by omega⟩
  rw [pchk, if_pos hc, fE_zero]
  intro i hi
  have hpv : prevF g i < i := by
    unfold prevF
    by_cases h0 : i = 0
    · rw [if_pos h0]; omega
    · rw [if_neg h0, dif_pos (by omega)]
      obtain ⟨c, _, h1⟩ := h (i - 1) (by omega)
      rw [h1]; show ((i - 1 : Nat) : Int) < i
      omega
  obtain ⟨c, h1, h2⟩ := h i hi
  unfold errA
  rw [dif_pos hi, h2]
  unfold pgE opg
  dsimp only
  rw [if_neg (by omega), if_neg (by omega), if_neg (by omega), if_neg (by omega)]
def okG (l : List Acct) (g : List Pg) : Prop := quP g l (-1) ∧ (∀ i (h : i < g.length), g[i].reason = 0) ∧ ∀ c : Nat, c < l.length → cG (acI c) g g.length = us l c - kids l c
theorem okG_take {l : List Acct} {g : List Pg} {k : Nat} (hk : k < g.length) (h : okG l g) : okG l (takeP g k) := by
  refine ⟨qu_take h.1, fun i hi => ?_, fun c hc => ?_⟩
  · rw [takeP_len] at hi
    rw [takeP_at hi]
    split
    · exact h.2.1 i hi
    · exact h.2.1 i hi
  · rw [takeP_len, cG_take hk _ (Nat.le_refl _), if_pos hk, h.2.2 c hc]
    have : acI c (lvg g[k]) = acI c g[k] := rfl
    omega
theorem okG_own {l : List Acct} (hc : chkF l = 0) (hl : ¬ 256 < (opTo l l.length).length) : okG l (ownPg l) := by
  unfold ownPg
  rw [if_neg hl]
  have hw := wfO_to l l.length l.length (Nat.le_refl _)
  refine ⟨wfO_chk hc hw (by omega), fun i hi => ?_, fun c hcl => ?_⟩
  · obtain ⟨c, _, h2⟩ := hw i hi
    rw [h2]; rfl
  · have h1 := opTo_cnt l c l.length
    rw [if_pos hcl] at h1
    have h2 := (cG_in (f := acI c) (fun q => by unfold acI; split <;> omega) (opTo l l.length) (opTo l l.length).length).2
    rw [h1] at h2
    rw [h1]
    have h3 : ownF l c = us l c - kids l c := by rw [ownF, if_pos (isP_mk hc hcl)]; rfl
    have h4 : 0 ≤ us l c - kids l c := by have := (chk_ok hc).2.2.2.2 c hcl; omega
    rw [h3] at h2 ⊢
    unfold kOf at h2 ⊢
    split at h2
    · omega
    · rename_i h5; rw [if_neg h5]; omega
theorem all_lv {g : List Pg} {c : Nat} (h : ∀ i (hi : i < g.length), g[i].account = c → g[i].leaving = true) : ∀ m, m ≤ g.length → cntA g c m = cG (acI c) g m
  | 0, _ => rfl
  | m + 1, hm => by
    rw [cntA_s (show m < g.length by omega), cG_s (show m < g.length by omega), all_lv h m (by omega)]
    congr 1
    unfold isLv acI
    by_cases h1 : g[m].account = c
    · rw [if_pos h1, if_pos ⟨h m (by omega) h1, h1⟩]
    · rw [if_neg h1, if_neg (fun h2 => h1 h2.2)]
theorem short_law {l : List Acct} {fr : Int} {g : List Pg} (hP : g.length ≤ 1000000) (ho : ∀ x, x < l.length → ¬ ovrP l fr x) (hg : okG l g) (hn : ¬ 0 ≤ nxtF g l (-1) false) : us l 0 - cG (lvIn l 0) g g.length ≤ fr := by
  obtain ⟨hq, hr, hcn⟩ := hg
  have hc := (errA_ok hq.1).1
  have hv := val_lv (p := g) hc hP
  obtain ⟨h8, _⟩ := chk_ok hc
  refine Classical.byContradiction fun hlt => hn ?_
  obtain ⟨c, hcl, h1, h2⟩ := open_ex (s := 0) hv ho h8.1 (by
    rw [if_pos rfl]
    have := ins_lv (g := g) (x := 0) hc (by omega)
    show fr < us l 0 - insF l (vF (lvL l g)) 0
    omega)
  have h3 : vF (lvL l g) c = cntA g c g.length := by
    unfold vF
    rw [List.getD_eq_getElem?_getD, List.getElem?_eq_getElem (by rw [lvL_len]; exact hcl)]
    exact lvT_at (n := l.length) (by rw [lvT_len]; exact hcl)
  obtain ⟨i, hi, ha, hlv⟩ : ∃ i, ∃ hi : i < g.length, g[i].account = c ∧ ¬ g[i].leaving = true := by
    refine Classical.byContradiction fun hno => ?_
    have := all_lv (g := g) (c := c) (fun i hi ha => Classical.byContradiction fun h => hno ⟨i, hi, ha, h⟩) g.length (Nat.le_refl _)
    have := hcn c hcl
    omega
  refine (nxt_some hq).2 ⟨i, hi, ?_⟩
  unfold rsn
  rw [if_neg (fun h => absurd h.1 (by decide)), if_neg (fun h => absurd h.1 (by decide)), if_neg hlv, if_neg (fun h => h.1 (hr i hi)), if_neg, hr i hi]
  rintro ⟨_, h4⟩
  rw [ha] at h4
  rcases h4 with h4 | ⟨x, hx, hx0, _, hf⟩
  · exact h4 ⟨⟨hv, ⟨by omega, by omega⟩, by omega, by omega⟩, .inl rfl⟩
  · exact h2 (.inr ⟨x, hx, hx0, hx0, hf⟩)
end Go.Proofs.Ytfdfmbmhefckaaa
end
section
/- The law TopShortageOpens. -/
set_option linter.unusedSimpArgs false
set_option linter.unusedVariables false
namespace Go.Proofs.Ytfdfmbmhefckaaa
open Go.AM Classical
set_option maxRecDepth 100000
set_option maxHeartbeats 4000000
theorem ovr_sp {l : List Acct} {fr : Int} (hc : chkF l = 0) (h : (ovrF l fr).2 = 0 ∧ (ovrF l fr).1 = -1) : 0 ≤ fr ∧ ∀ x, x < l.length → ¬ ovrP l fr x := by
  unfold ovrF at h
  rw [if_pos hc] at h
  split at h
  · rename_i hr
    refine ⟨hr.1, fun x hx ho => ?_⟩
    have h1 : firstI (fun a => decide (ovrP l fr a)) (List.range l.length) = -1 := h.2
    have h2 : 0 ≤ firstI (fun a => decide (ovrP l fr a)) (List.range l.length) := firstI_nn.2 ⟨x, List.mem_range.2 hx, by simpa using ho⟩
    omega
  · exact absurd h.1 (by decide)
theorem ownPg_len (l : List Acct) : (ownPg l).length ≤ 256 := by
  unfold ownPg
  split
  · simp
  · omega
def okH (l : List Acct) (g : List Pg) : Prop := okG l g ∨ (g = [] ∧ us l 0 = 0)
theorem okH_own {l : List Acct} (hc : chkF l = 0) (hn : ((ownPg l).length : Int) = us l 0) : okH l (ownPg l) := by
  by_cases hl : 256 < (opTo l l.length).length
  · right
    have h0 : ownPg l = [] := by unfold ownPg; rw [if_pos hl]
    rw [h0] at hn
    exact ⟨h0, by rw [← hn]; rfl⟩
  · exact .inl (okG_own hc hl)
theorem okH_take {l : List Acct} {g : List Pg} {k : Nat} (hk : k < g.length) (h : okH l g) : okH l (takeP g k) := by
  rcases h with h | ⟨h, _⟩
  · exact .inl (okG_take hk h)
  · subst h; exact absurd hk (Nat.not_lt_zero _)
theorem okH_short {l : List Acct} {fr : Int} {g : List Pg} (hP : g.length ≤ 1000000) (hf : 0 ≤ fr) (ho : ∀ x, x < l.length → ¬ ovrP l fr x) (h : okH l g) (hn : ¬ 0 ≤ nxtF g l (-1) false) : us l 0 - cG (lvIn l 0) g g.length ≤ fr := by
  rcases h with h | ⟨h, h2⟩
  · exact short_law hP ho h hn
  · subst h; rw [h2]; show 0 - cG _ [] 0 ≤ fr; rw [cG]; omega
theorem shortage_l (l : List Acct) (hL : l.length ≤ 9223372036854775807) (fr : Int) : PCon Try.prog 13 [accs l, .int .i64 fr] (.bool true) := by
  refine A13p (by simp [A13]) ?_
  simp only [A13, argEnv]
  have ck := rcheck_c l hL
  by_cases hch : chkF l = 0
  · rw [hch] at ck
    have cO := overcommit_c l hL fr
    have cP := ownPages_c l hL
    have hon := ownPg_len l
    obtain ⟨h8, ht, ha, _⟩ := chk_ok hch
    have h0 : 0 < l.length := h8.1
    have hal := accs_len l
    have g1 : (l.flatMap Acct.cells)[1]? = some (.int .i64 (us l 0)) := by rw [us_at h0]; exact ac1 h0
    have g2 : (l.flatMap Acct.cells)[0 * 5 + 1]? = some (.int .i64 (us l 0)) := by rw [us_at h0]; exact ac1 h0
    have hpc := pgs_len (ownPg l)
    have hps := pgs_scal (ownPg l)
    by_cases hall : ((ovrF l fr).2 = 0 ∧ (ovrF l fr).1 = -1) ∧ ((ownPg l).length : Int) = us l 0
    · obtain ⟨ho, hn⟩ := hall
      obtain ⟨hfr, hov⟩ := ovr_sp hch ho
      have hH := okH_own hch hn
      rw [ho.1, ho.2] at cO
      rw [← hn] at g1 g2
      clear ho hn
      generalize ownPg l = g0 at *
      generalize hn0 : g0.length = n at *
      repeat' (first | (with_reducible first | refine W_seq ?_ | refine then_n ?_ | refine W_block ?_ | refine blk_n ?_ | refine blk_r ?_ | refine blk_e ?_ | refine W_skip ?_ | refine W_ret ?_ | refine then_r ?_ | refine W_exit ?_ | refine then_e ?_) | (refine blk_j (by decide) ?_) | ((with_reducible refine s_reg ?_); intro K hK) | ((with_reducible refine k_nil ?_); (with_reducible apply s_nil hK); (· exact nmX); clear hK; clear K) | ((with_reducible refine k_cond ?_); (first | ((with_reducible apply s_condT); (· rfl); (· exact nmX)) | ((with_reducible apply s_condF); (· rfl); (· exact nmX)) | ((with_reducible apply s_condS); (· rfl); (· exact nmX); (· exact nmX)))) | ((with_reducible refine k_guard ?_); (first | (refine s_gt rfl ?_) | (refine s_gf1 rfl ?_) | (refine s_gfn rfl ?_) | (refine s_gx1 rfl ?_) | (refine s_gxn rfl ?_) | (refine s_gs rfl ?_))) | ((with_reducible refine k_mv ?_); (refine s_mv rfl ?_)) | ((with_reducible refine k_extract ?_); (refine s_extract rfl rfl ?_)) | ((with_reducible refine k_len ?_); (first | (refine s_len rfl rfl ?_) | ((with_reducible apply s_len); (· rfl); (· exact SlOwn.len (by assumption))))) | ((with_reducible refine k_pick ?_); (first | (refine s_pickT rfl rfl ?_) | (refine s_pickF rfl rfl ?_))) | ((with_reducible refine k_not ?_); (refine s_not rfl (by first | exact Bool.not_true | exact Bool.not_false | rfl) ?_)) | ((with_reducible refine k_neq ?_); (first | (refine s_neq rfl rfl ?_) | (refine s_strNe rfl rfl ?_))) | ((with_reducible refine k_iaddr ?_); (first | ((with_reducible apply s_iaddrV); (· rfl); (· rfl); (· (first | omega | exact ⟨rfl, by omega⟩ | skip))) | ((with_reducible apply s_iaddrO); (· rfl); (· rfl); (· (first | omega | exact ⟨rfl, by omega⟩ | skip)); (· (exact hpX))) | ((with_reducible apply s_iaddrSO); (· rfl); (· assumption); (· rfl); (· (first | omega | exact ⟨rfl, by omega⟩ | skip)); (· (first | (simp (disch := omega) only [w64, wu8, wu16, wu32, wu64, tm_nn, td_nn, fd_nn, Int.reduceAdd, Int.reduceSub, Int.reduceMul, Int.reduceDiv, Int.reduceMod, Int.reduceNeg, Int.reduceToNat, Int.toNat_natCast, Int.toNat_zero, Int.zero_add, Int.add_zero, Int.one_mul, Int.reducePow, Nat.mul_one, Nat.zero_add, Nat.add_zero, Nat.zero_mul, Nat.reduceAdd, Nat.reduceMul, Nat.reduceSub, Nat.min_eq_left, IntKind.bits, Nat.sub_zero, g1, g2]; try rfl; done) | rfl)); intro ks hks))) | ((with_reducible refine k_load ?_); (first | ((with_reducible apply s_loadV); (· rfl)) | ((with_reducible apply s_loadP); (· rfl); (· (exact hpX))))) | ((with_reducible refine k_add ?_); ((with_reducible apply s_add); (· rfl); (· rfl))) | ((with_reducible refine k_faddr ?_); (first | ((with_reducible apply s_faddrV); (· rfl); (· rfl)) | ((with_reducible apply s_faddrP); (· rfl); (· rfl)))) | ((with_reducible refine k_callF ?_); (first | ((with_reducible apply s_call1); (· rfl)) | ((with_reducible apply s_calln); (· rfl)))) | ((with_reducible refine k_con ?_); (first | ((with_reducible apply con_val (awake20_c)); (· (repeat (first | exact All2.nil | (apply All2.cons; (· first | ((apply Rd_sl0); (· exact hpX); (· first | rfl | exact scal_i | exact scal_b | assumption); (· first | rfl | assumption | (simp [g1, g2]; done) | (simp [g1, g2]; omega))) | exact rdX))))); (· rfl); (· exact fun _ => rfl)) | ((with_reducible apply con_val (ck)); (· (repeat (first | exact All2.nil | (apply All2.cons; (· first | ((apply Rd_sl0); (· exact hpX); (· first | rfl | exact scal_i | exact scal_b | assumption); (· first | rfl | assumption | (simp [g1, g2]; done) | (simp [g1, g2]; omega))) | exact rdX))))); (· rfl); (· exact fun _ => rfl)) | ((with_reducible apply con_val (cO)); (· (repeat (first | exact All2.nil | (apply All2.cons; (· first | ((apply Rd_sl0); (· exact hpX); (· first | rfl | exact scal_i | exact scal_b | assumption); (· first | rfl | assumption | (simp [g1, g2]; done) | (simp [g1, g2]; omega))) | exact rdX))))); (· rfl); (· exact fun _ => rfl)) | ((with_reducible apply con_of_pcon (cP)); (· (repeat (first | exact All2.nil | (apply All2.cons; (· first | ((apply Rd_sl0); (· exact hpX); (· first | rfl | exact scal_i | exact scal_b | assumption); (· first | rfl | assumption | (simp [g1, g2]; done) | (simp [g1, g2]; omega))) | exact rdX))))); intro kP hkP; (try simp only [upd_none] at hkP); simp only [thaw, thawC, List.map, thawH, owOf, owL]))) | ((with_reducible refine k_br ?_); (first | (with_reducible first | refine Br_dec ?_ | refine Br_not ?_ | refine Br_eqF ?_ | refine Br_and ?_ | refine Br_or ?_ | refine Br_neg ?_ | refine Br_band ?_ | refine Br_bor ?_ | refine Br_beq ?_) | (refine Br_t (by first | with_reducible rfl | omega | assumption | rfl) ?_) | (refine Br_f (by first | omega | assumption | decide) ?_) | (with_reducible apply Br_sb <;> intro hbr <;> (first | subst hbr | simp only [hbr] | skip)) | (with_reducible apply Br_s <;> intro hbr))) | (with_reducible refine WN_succ ?_) | ((first | (with_reducible apply q_eqI) | (with_reducible apply q_eqN)); (first | (simp (disch := omega) only [w64, wu8, wu16, wu32, wu64, tm_nn, td_nn, fd_nn, Int.reduceAdd, Int.reduceSub, Int.reduceMul, Int.reduceDiv, Int.reduceMod, Int.reduceNeg, Int.reduceToNat, Int.toNat_natCast, Int.toNat_zero, Int.zero_add, Int.add_zero, Int.one_mul, Int.reducePow, Nat.mul_one, Nat.zero_add, Nat.add_zero, Nat.zero_mul, Nat.reduceAdd, Nat.reduceMul, Nat.reduceSub, Nat.min_eq_left, IntKind.bits, Nat.sub_zero, g1, g2]; try rfl; done) | rfl)) | ((first | (with_reducible apply q_eqL) | (with_reducible apply q_eqO)); (first | (simp (disch := omega) only [upd_self, upd_ne, upd_upd, rep, splice, List.take_succ_cons, List.take_zero, List.drop_succ_cons, List.drop_zero, List.cons_append, List.nil_append, List.append_nil, List.length_cons, List.length_nil, List.reduceReplicate, List.flatten_cons, List.flatten_nil, Nat.reduceAdd, Nat.reduceMul, Nat.reduceSub, Nat.zero_add, Nat.add_zero, List.getElem?_cons_zero, List.getElem?_cons_succ, g1, g2]; try rfl; done) | rfl)))
      all_goals first | (exfalso; omega) | skip
      clear g1 g2 ck cO cP
      refine W_for (n + 1) (fun t st => ∃ h' g, st = ⟨[(0, accs l), (1, .int .i64 fr), (7, .sl kP 7 0 n), (43, .int .i64 ((n : Int) + 1)), (44, .int .i64 t)], h'⟩ ∧ h' kP = some (g.flatMap Pg.cells) ∧ g.length = n ∧ okH l g ∧ (t : Int) ≤ cG lv1 g n) ⟨_, g0, rfl, upd_self, hn0, hH, (cG_in lv1_in g0 n).1⟩ ?_ ?_
      · rintro t e' h' hi ⟨h1, g, he, hkg, hg, hk, hlv⟩
        cases he
        have cN := Next_c g l hL (by omega) (-1) false
        have cR : PCon Try.prog 37 [pgs g, accs l, .int .i64 0] (.int .i64 (us l 0 - cG (lvIn l 0) g g.length)) := restOf_c g (by omega) l hL 0 h0 (us_in ha.1 0)
        have sg := pgs_scal g
        have hgl := pgs_len g
        have b1 := cG_in (lvIn_in l 0) g g.length
        have b2 := us_in ha.1 0
        have hsh := okH_short (g := g) (by omega) hfr hov hk
        simp only [pgs, hg] at cN cR hgl
        rw [hg] at b1 hsh
        generalize us l 0 - cG (lvIn l 0) g n = X at *
        by_cases hx : 0 ≤ nxtF g l (-1) false
        · obtain ⟨hq, hkl, _⟩ := nxt_zero rfl hx
          obtain ⟨w1, w2, w3, w4, w5, w6⟩ := take_law (k := nxtF g l (-1) false) (by omega) rfl hx hkl
          have hk2 := okH_take hkl hk
          have hst := take_cells hkl
          have g6 := pg6 hkl
          rw [w1] at g6
          rw [hg] at w4
          have gl2 := takeP_len g (nxtF g l (-1) false).toNat
          have gl3 := pgs_len (takeP g (nxtF g l (-1) false).toNat)
          clear w1 w2 w3 w5 w6 hsh
          generalize nxtF g l (-1) false = k at *
          generalize takeP g k.toNat = G at *
          rw [hg] at hkl
          repeat' (first | (with_reducible first | refine W_seq ?_ | refine then_n ?_ | refine W_block ?_ | refine blk_n ?_ | refine blk_r ?_ | refine blk_e ?_ | refine W_skip ?_ | refine W_ret ?_ | refine then_r ?_ | refine W_exit ?_ | refine then_e ?_) | (refine blk_j (by decide) ?_) | ((with_reducible refine s_reg ?_); intro K hK) | ((with_reducible refine k_nil ?_); (with_reducible apply s_nil hK); (· exact nmX); clear hK; clear K) | ((with_reducible refine k_cond ?_); (first | ((with_reducible apply s_condT); (· rfl); (· exact nmX)) | ((with_reducible apply s_condF); (· rfl); (· exact nmX)) | ((with_reducible apply s_condS); (· rfl); (· exact nmX); (· exact nmX)))) | ((with_reducible refine k_guard ?_); (first | (refine s_gt rfl ?_) | (refine s_gf1 rfl ?_) | (refine s_gfn rfl ?_) | (refine s_gx1 rfl ?_) | (refine s_gxn rfl ?_) | (refine s_gs rfl ?_))) | ((with_reducible refine k_mv ?_); (refine s_mv rfl ?_)) | ((with_reducible refine k_len ?_); (first | (refine s_len rfl rfl ?_) | ((with_reducible apply s_len); (· rfl); (· exact SlOwn.len (by assumption))))) | ((with_reducible refine k_pick ?_); (first | (refine s_pickT rfl rfl ?_) | (refine s_pickF rfl rfl ?_))) | ((with_reducible refine k_eql ?_); (first | (refine s_eql rfl rfl ?_) | (refine s_strEq rfl rfl ?_))) | ((with_reducible refine k_lss ?_); (refine s_lss rfl rfl ?_)) | ((with_reducible refine k_leq ?_); (refine s_leq rfl rfl ?_)) | ((with_reducible refine k_geq ?_); (refine s_geq rfl rfl ?_)) | ((with_reducible refine k_iaddr ?_); (first | ((with_reducible apply s_iaddrV); (· rfl); (· rfl); (· (first | omega | exact ⟨rfl, by omega⟩ | skip))) | ((with_reducible apply s_iaddrO); (· rfl); (· rfl); (· (first | omega | exact ⟨rfl, by omega⟩ | skip)); (· (exact hpX))) | ((with_reducible apply s_iaddrSO); (· rfl); (· assumption); (· rfl); (· (first | omega | exact ⟨rfl, by omega⟩ | skip)); (· (first | (simp (disch := omega) only [w64, wu8, wu16, wu32, wu64, tm_nn, td_nn, fd_nn, Int.reduceAdd, Int.reduceSub, Int.reduceMul, Int.reduceDiv, Int.reduceMod, Int.reduceNeg, Int.reduceToNat, Int.toNat_natCast, Int.toNat_zero, Int.zero_add, Int.add_zero, Int.one_mul, Int.reducePow, Nat.mul_one, Nat.zero_add, Nat.add_zero, Nat.zero_mul, Nat.reduceAdd, Nat.reduceMul, Nat.reduceSub, Nat.min_eq_left, IntKind.bits, Nat.sub_zero, hst, g6]; try rfl; done) | rfl)); intro ks hks))) | ((with_reducible refine k_load ?_); (first | ((with_reducible apply s_loadV); (· rfl)) | ((with_reducible apply s_loadP); (· rfl); (· (exact hpX))))) | ((with_reducible refine k_add ?_); ((with_reducible apply s_add); (· rfl); (· rfl))) | ((with_reducible refine k_store ?_); ((with_reducible apply s_store0); (· rfl); (· rfl); (· rfl); (· (exact hpX)); (· (exact ⟨rfl, by first | exact Nat.le_of_ble_eq_true rfl | omega | (simp [hst, g6]; omega)⟩)); (· ((first | (simp (disch := omega) only [upd_self, upd_ne, upd_upd, rep, splice, List.take_succ_cons, List.take_zero, List.drop_succ_cons, List.drop_zero, List.cons_append, List.nil_append, List.append_nil, List.length_cons, List.length_nil, List.reduceReplicate, List.flatten_cons, List.flatten_nil, Nat.reduceAdd, Nat.reduceMul, Nat.reduceSub, Nat.zero_add, Nat.add_zero, List.getElem?_cons_zero, List.getElem?_cons_succ, hst, g6]; try rfl; done) | rfl))); (· (first | exact upd_upd | rfl)))) | ((with_reducible refine k_faddr ?_); (first | ((with_reducible apply s_faddrV); (· rfl); (· rfl)) | ((with_reducible apply s_faddrP); (· rfl); (· rfl)))) | ((with_reducible refine k_callF ?_); (first | ((with_reducible apply s_call1); (· rfl)) | ((with_reducible apply s_calln); (· rfl)))) | ((with_reducible refine k_con ?_); (first | ((with_reducible apply con_val (cN)); (· (repeat (first | exact All2.nil | (apply All2.cons; (· first | ((apply Rd_sl0); (· exact hpX); (· first | rfl | exact scal_i | exact scal_b | assumption); (· first | rfl | assumption | (simp [hst, g6]; done) | (simp [hst, g6]; omega))) | exact rdX))))); (· rfl); (· exact fun _ => rfl)) | ((with_reducible apply con_val (cR)); (· (repeat (first | exact All2.nil | (apply All2.cons; (· first | ((apply Rd_sl0); (· exact hpX); (· first | rfl | exact scal_i | exact scal_b | assumption); (· first | rfl | assumption | (simp [hst, g6]; done) | (simp [hst, g6]; omega))) | exact rdX))))); (· rfl); (· exact fun _ => rfl)))) | ((with_reducible refine k_br ?_); (first | (with_reducible first | refine Br_dec ?_ | refine Br_not ?_ | refine Br_eqF ?_ | refine Br_and ?_ | refine Br_or ?_ | refine Br_neg ?_ | refine Br_band ?_ | refine Br_bor ?_ | refine Br_beq ?_) | (refine Br_t (by first | with_reducible rfl | omega | assumption | rfl) ?_) | (refine Br_f (by first | omega | assumption | decide) ?_) | (with_reducible apply Br_sb <;> intro hbr <;> (first | subst hbr | simp only [hbr] | skip)) | (with_reducible apply Br_s <;> intro hbr))) | (with_reducible refine WN_succ ?_) | ((first | (with_reducible apply q_eqI) | (with_reducible apply q_eqN)); (first | (simp (disch := omega) only [w64, wu8, wu16, wu32, wu64, tm_nn, td_nn, fd_nn, Int.reduceAdd, Int.reduceSub, Int.reduceMul, Int.reduceDiv, Int.reduceMod, Int.reduceNeg, Int.reduceToNat, Int.toNat_natCast, Int.toNat_zero, Int.zero_add, Int.add_zero, Int.one_mul, Int.reducePow, Nat.mul_one, Nat.zero_add, Nat.add_zero, Nat.zero_mul, Nat.reduceAdd, Nat.reduceMul, Nat.reduceSub, Nat.min_eq_left, IntKind.bits, Nat.sub_zero, hst, g6]; try rfl; done) | rfl)) | ((first | (with_reducible apply q_eqL) | (with_reducible apply q_eqO)); (first | (simp (disch := omega) only [upd_self, upd_ne, upd_upd, rep, splice, List.take_succ_cons, List.take_zero, List.drop_succ_cons, List.drop_zero, List.cons_append, List.nil_append, List.append_nil, List.length_cons, List.length_nil, List.reduceReplicate, List.flatten_cons, List.flatten_nil, Nat.reduceAdd, Nat.reduceMul, Nat.reduceSub, Nat.zero_add, Nat.add_zero, List.getElem?_cons_zero, List.getElem?_cons_succ, hst, g6]; try rfl; done) | rfl)))
          all_goals first | (exfalso; omega) | skip
          all_goals exact ⟨_, G, rfl, upd_self, by omega, hk2, by omega⟩
        · have hn1 := nxt_neg hx
          have hle := hsh hx
          rw [hn1] at cN
          clear hx hn1 hsh
          repeat' (first | (with_reducible first | refine W_seq ?_ | refine then_n ?_ | refine W_block ?_ | refine blk_n ?_ | refine blk_r ?_ | refine blk_e ?_ | refine W_skip ?_ | refine W_ret ?_ | refine then_r ?_ | refine W_exit ?_ | refine then_e ?_) | (refine blk_j (by decide) ?_) | ((with_reducible refine s_reg ?_); intro K hK) | ((with_reducible refine k_nil ?_); (with_reducible apply s_nil hK); (· exact nmX); clear hK; clear K) | ((with_reducible refine k_cond ?_); (first | ((with_reducible apply s_condT); (· rfl); (· exact nmX)) | ((with_reducible apply s_condF); (· rfl); (· exact nmX)) | ((with_reducible apply s_condS); (· rfl); (· exact nmX); (· exact nmX)))) | ((with_reducible refine k_guard ?_); (first | (refine s_gt rfl ?_) | (refine s_gf1 rfl ?_) | (refine s_gfn rfl ?_) | (refine s_gx1 rfl ?_) | (refine s_gxn rfl ?_) | (refine s_gs rfl ?_))) | ((with_reducible refine k_mv ?_); (refine s_mv rfl ?_)) | ((with_reducible refine k_len ?_); (first | (refine s_len rfl rfl ?_) | ((with_reducible apply s_len); (· rfl); (· exact SlOwn.len (by assumption))))) | ((with_reducible refine k_pick ?_); (first | (refine s_pickT rfl rfl ?_) | (refine s_pickF rfl rfl ?_))) | ((with_reducible refine k_eql ?_); (first | (refine s_eql rfl rfl ?_) | (refine s_strEq rfl rfl ?_))) | ((with_reducible refine k_lss ?_); (refine s_lss rfl rfl ?_)) | ((with_reducible refine k_leq ?_); (refine s_leq rfl rfl ?_)) | ((with_reducible refine k_geq ?_); (refine s_geq rfl rfl ?_)) | ((with_reducible refine k_iaddr ?_); (first | ((with_reducible apply s_iaddrV); (· rfl); (· rfl); (· (first | omega | exact ⟨rfl, by omega⟩ | skip))) | ((with_reducible apply s_iaddrO); (· rfl); (· rfl); (· (first | omega | exact ⟨rfl, by omega⟩ | skip)); (· (exact hpX))) | ((with_reducible apply s_iaddrSO); (· rfl); (· assumption); (· rfl); (· (first | omega | exact ⟨rfl, by omega⟩ | skip)); (· (first | exact nuI | exact nuN)); intro ks hks))) | ((with_reducible refine k_load ?_); (first | ((with_reducible apply s_loadV); (· rfl)) | ((with_reducible apply s_loadP); (· rfl); (· (exact hpX))))) | ((with_reducible refine k_add ?_); ((with_reducible apply s_add); (· rfl); (· rfl))) | ((with_reducible refine k_store ?_); ((with_reducible apply s_store0); (· rfl); (· rfl); (· rfl); (· (exact hpX)); (· (exact ⟨rfl, by first | exact Nat.le_of_ble_eq_true rfl | omega | (simp; omega)⟩)); (· ((first | exact liL | exact liO))); (· (first | exact upd_upd | rfl)))) | ((with_reducible refine k_faddr ?_); (first | ((with_reducible apply s_faddrV); (· rfl); (· rfl)) | ((with_reducible apply s_faddrP); (· rfl); (· rfl)))) | ((with_reducible refine k_callF ?_); (first | ((with_reducible apply s_call1); (· rfl)) | ((with_reducible apply s_calln); (· rfl)))) | ((with_reducible refine k_con ?_); (first | ((with_reducible apply con_val (cN)); (· (exact agX)); (· rfl); (· exact fun _ => rfl)) | ((with_reducible apply con_val (cR)); (· (exact agX)); (· rfl); (· exact fun _ => rfl)))) | ((with_reducible refine k_br ?_); (first | (with_reducible first | refine Br_dec ?_ | refine Br_not ?_ | refine Br_eqF ?_ | refine Br_and ?_ | refine Br_or ?_ | refine Br_neg ?_ | refine Br_band ?_ | refine Br_bor ?_ | refine Br_beq ?_) | (refine Br_t (by first | with_reducible rfl | omega | assumption | rfl) ?_) | (refine Br_f (by first | omega | assumption | decide) ?_) | (with_reducible apply Br_sb <;> intro hbr <;> (first | subst hbr | simp only [hbr] | skip)) | (with_reducible apply Br_s <;> intro hbr))) | (with_reducible refine WN_succ ?_) | ((first | (with_reducible apply q_eqI) | (with_reducible apply q_eqN)); (first | exact nuI | exact nuN)) | ((first | (with_reducible apply q_eqL) | (with_reducible apply q_eqO)); (first | exact liL | exact liO)))
          all_goals first | (exfalso; omega) | (first | exact Fin_flat trivial rfl rfl | (refine Fin_tup trivial rfl ?_ (Nat.le_of_ble_eq_true rfl); (repeat (first | exact All2.nil | (apply All2.cons; (· first | exact exc_n | exact exc_e | exact exc_v rfl rfl | exact exc_o upd_self rfl rfl)))); done) | (refine Fin_own trivial rfl upd_self ?_ (Nat.le_of_ble_eq_true rfl); (repeat (first | exact All2.nil | (apply All2.cons; (· first | exact exc_n | exact exc_e | exact exc_v rfl rfl | exact exc_o upd_self rfl rfl)))); done) | exact Fin_nil trivial rfl | exact Fin_sl trivial rfl upd_self rfl rfl) | exact Fin_bt trivial rfl (by omega)
      · rintro e' h' ⟨h1, g, he, hkg, hg, hk, hlv⟩
        have := cG_in lv1_in g n
        exfalso; omega
    · generalize ownPg l = g0 at *
      generalize ovrF l fr = o at *
      obtain ⟨o1, o2⟩ := o
      dsimp only at cO hall
      generalize us l 0 = U at *
      repeat' (first | (with_reducible first | refine W_seq ?_ | refine then_n ?_ | refine W_block ?_ | refine blk_n ?_ | refine blk_r ?_ | refine blk_e ?_ | refine W_skip ?_ | refine W_ret ?_ | refine then_r ?_ | refine W_exit ?_ | refine then_e ?_) | (refine blk_j (by decide) ?_) | ((with_reducible refine s_reg ?_); intro K hK) | ((with_reducible refine k_nil ?_); (with_reducible apply s_nil hK); (· exact nmX); clear hK; clear K) | ((with_reducible refine k_cond ?_); (first | ((with_reducible apply s_condT); (· rfl); (· exact nmX)) | ((with_reducible apply s_condF); (· rfl); (· exact nmX)) | ((with_reducible apply s_condS); (· rfl); (· exact nmX); (· exact nmX)))) | ((with_reducible refine k_guard ?_); (first | (refine s_gt rfl ?_) | (refine s_gf1 rfl ?_) | (refine s_gfn rfl ?_) | (refine s_gx1 rfl ?_) | (refine s_gxn rfl ?_) | (refine s_gs rfl ?_))) | ((with_reducible refine k_mv ?_); (refine s_mv rfl ?_)) | ((with_reducible refine k_extract ?_); (refine s_extract rfl rfl ?_)) | ((with_reducible refine k_len ?_); (first | (refine s_len rfl rfl ?_) | ((with_reducible apply s_len); (· rfl); (· exact SlOwn.len (by assumption))))) | ((with_reducible refine k_pick ?_); (first | (refine s_pickT rfl rfl ?_) | (refine s_pickF rfl rfl ?_))) | ((with_reducible refine k_not ?_); (refine s_not rfl (by first | exact Bool.not_true | exact Bool.not_false | rfl) ?_)) | ((with_reducible refine k_neq ?_); (first | (refine s_neq rfl rfl ?_) | (refine s_strNe rfl rfl ?_))) | ((with_reducible refine k_iaddr ?_); (first | ((with_reducible apply s_iaddrV); (· rfl); (· rfl); (· (first | omega | exact ⟨rfl, by omega⟩ | skip))) | ((with_reducible apply s_iaddrO); (· rfl); (· rfl); (· (first | omega | exact ⟨rfl, by omega⟩ | skip)); (· (exact hpX))) | ((with_reducible apply s_iaddrSO); (· rfl); (· assumption); (· rfl); (· (first | omega | exact ⟨rfl, by omega⟩ | skip)); (· (first | (simp (disch := omega) only [w64, wu8, wu16, wu32, wu64, tm_nn, td_nn, fd_nn, Int.reduceAdd, Int.reduceSub, Int.reduceMul, Int.reduceDiv, Int.reduceMod, Int.reduceNeg, Int.reduceToNat, Int.toNat_natCast, Int.toNat_zero, Int.zero_add, Int.add_zero, Int.one_mul, Int.reducePow, Nat.mul_one, Nat.zero_add, Nat.add_zero, Nat.zero_mul, Nat.reduceAdd, Nat.reduceMul, Nat.reduceSub, Nat.min_eq_left, IntKind.bits, Nat.sub_zero, g1, g2]; try rfl; done) | rfl)); intro ks hks))) | ((with_reducible refine k_load ?_); (first | ((with_reducible apply s_loadV); (· rfl)) | ((with_reducible apply s_loadP); (· rfl); (· (exact hpX))))) | ((with_reducible refine k_faddr ?_); (first | ((with_reducible apply s_faddrV); (· rfl); (· rfl)) | ((with_reducible apply s_faddrP); (· rfl); (· rfl)))) | ((with_reducible refine k_callF ?_); (first | ((with_reducible apply s_call1); (· rfl)) | ((with_reducible apply s_calln); (· rfl)))) | ((with_reducible refine k_con ?_); (first | ((with_reducible apply con_val (awake20_c)); (· (repeat (first | exact All2.nil | (apply All2.cons; (· first | ((apply Rd_sl0); (· exact hpX); (· first | rfl | exact scal_i | exact scal_b | assumption); (· first | rfl | assumption | (simp [g1, g2]; done) | (simp [g1, g2]; omega))) | exact rdX))))); (· rfl); (· exact fun _ => rfl)) | ((with_reducible apply con_val (ck)); (· (repeat (first | exact All2.nil | (apply All2.cons; (· first | ((apply Rd_sl0); (· exact hpX); (· first | rfl | exact scal_i | exact scal_b | assumption); (· first | rfl | assumption | (simp [g1, g2]; done) | (simp [g1, g2]; omega))) | exact rdX))))); (· rfl); (· exact fun _ => rfl)) | ((with_reducible apply con_val (cO)); (· (repeat (first | exact All2.nil | (apply All2.cons; (· first | ((apply Rd_sl0); (· exact hpX); (· first | rfl | exact scal_i | exact scal_b | assumption); (· first | rfl | assumption | (simp [g1, g2]; done) | (simp [g1, g2]; omega))) | exact rdX))))); (· rfl); (· exact fun _ => rfl)) | ((with_reducible apply con_of_pcon (cP)); (· (repeat (first | exact All2.nil | (apply All2.cons; (· first | ((apply Rd_sl0); (· exact hpX); (· first | rfl | exact scal_i | exact scal_b | assumption); (· first | rfl | assumption | (simp [g1, g2]; done) | (simp [g1, g2]; omega))) | exact rdX))))); intro kP hkP; (try simp only [upd_none] at hkP); simp only [thaw, thawC, List.map, thawH, owOf, owL]))) | ((with_reducible refine k_br ?_); (first | (with_reducible first | refine Br_dec ?_ | refine Br_not ?_ | refine Br_eqF ?_ | refine Br_and ?_ | refine Br_or ?_ | refine Br_neg ?_ | refine Br_band ?_ | refine Br_bor ?_ | refine Br_beq ?_) | (refine Br_t (by first | with_reducible rfl | omega | assumption | rfl) ?_) | (refine Br_f (by first | omega | assumption | decide) ?_) | (with_reducible apply Br_sb <;> intro hbr <;> (first | subst hbr | simp only [hbr] | skip)) | (with_reducible apply Br_s <;> intro hbr))) | (with_reducible refine WN_succ ?_) | ((first | (with_reducible apply q_eqI) | (with_reducible apply q_eqN)); (first | (simp (disch := omega) only [w64, wu8, wu16, wu32, wu64, tm_nn, td_nn, fd_nn, Int.reduceAdd, Int.reduceSub, Int.reduceMul, Int.reduceDiv, Int.reduceMod, Int.reduceNeg, Int.reduceToNat, Int.toNat_natCast, Int.toNat_zero, Int.zero_add, Int.add_zero, Int.one_mul, Int.reducePow, Nat.mul_one, Nat.zero_add, Nat.add_zero, Nat.zero_mul, Nat.reduceAdd, Nat.reduceMul, Nat.reduceSub, Nat.min_eq_left, IntKind.bits, Nat.sub_zero, g1, g2]; try rfl; done) | rfl)) | ((first | (with_reducible apply q_eqL) | (with_reducible apply q_eqO)); (first | (simp (disch := omega) only [upd_self, upd_ne, upd_upd, rep, splice, List.take_succ_cons, List.take_zero, List.drop_succ_cons, List.drop_zero, List.cons_append, List.nil_append, List.append_nil, List.length_cons, List.length_nil, List.reduceReplicate, List.flatten_cons, List.flatten_nil, Nat.reduceAdd, Nat.reduceMul, Nat.reduceSub, Nat.zero_add, Nat.add_zero, List.getElem?_cons_zero, List.getElem?_cons_succ, g1, g2]; try rfl; done) | rfl)))
      all_goals first | (exfalso; omega) | (first | exact Fin_flat trivial rfl rfl | (refine Fin_tup trivial rfl ?_ (Nat.le_of_ble_eq_true rfl); (repeat (first | exact All2.nil | (apply All2.cons; (· first | exact exc_n | exact exc_e | exact exc_v rfl rfl | exact exc_o upd_self rfl rfl)))); done) | (refine Fin_own trivial rfl upd_self ?_ (Nat.le_of_ble_eq_true rfl); (repeat (first | exact All2.nil | (apply All2.cons; (· first | exact exc_n | exact exc_e | exact exc_v rfl rfl | exact exc_o upd_self rfl rfl)))); done) | exact Fin_nil trivial rfl | exact Fin_sl trivial rfl upd_self rfl rfl)
  · generalize chkF l = e at *
    repeat' (first | (with_reducible first | refine W_seq ?_ | refine then_n ?_ | refine W_block ?_ | refine blk_n ?_ | refine blk_r ?_ | refine blk_e ?_ | refine W_skip ?_ | refine W_ret ?_ | refine then_r ?_ | refine W_exit ?_ | refine then_e ?_) | (refine blk_j (by decide) ?_) | ((with_reducible refine s_reg ?_); intro K hK) | ((with_reducible refine k_nil ?_); (with_reducible apply s_nil hK); (· exact nmX); clear hK; clear K) | ((with_reducible refine k_cond ?_); (first | ((with_reducible apply s_condT); (· rfl); (· exact nmX)) | ((with_reducible apply s_condF); (· rfl); (· exact nmX)) | ((with_reducible apply s_condS); (· rfl); (· exact nmX); (· exact nmX)))) | ((with_reducible refine k_guard ?_); (first | (refine s_gt rfl ?_) | (refine s_gf1 rfl ?_) | (refine s_gfn rfl ?_) | (refine s_gx1 rfl ?_) | (refine s_gxn rfl ?_) | (refine s_gs rfl ?_))) | ((with_reducible refine k_mv ?_); (refine s_mv rfl ?_)) | ((with_reducible refine k_pick ?_); (first | (refine s_pickT rfl rfl ?_) | (refine s_pickF rfl rfl ?_))) | ((with_reducible refine k_not ?_); (refine s_not rfl (by first | exact Bool.not_true | exact Bool.not_false | rfl) ?_)) | ((with_reducible refine k_neq ?_); (first | (refine s_neq rfl rfl ?_) | (refine s_strNe rfl rfl ?_))) | ((with_reducible refine k_callF ?_); (first | ((with_reducible apply s_call1); (· rfl)) | ((with_reducible apply s_calln); (· rfl)))) | ((with_reducible refine k_con ?_); (first | ((with_reducible apply con_val (awake20_c)); (· (exact agX)); (· rfl); (· exact fun _ => rfl)) | ((with_reducible apply con_val (ck)); (· (exact agX)); (· rfl); (· exact fun _ => rfl)))) | ((with_reducible refine k_br ?_); (first | (with_reducible first | refine Br_dec ?_ | refine Br_not ?_ | refine Br_eqF ?_ | refine Br_and ?_ | refine Br_or ?_ | refine Br_neg ?_ | refine Br_band ?_ | refine Br_bor ?_ | refine Br_beq ?_) | (refine Br_t (by first | with_reducible rfl | omega | assumption | rfl) ?_) | (refine Br_f (by first | omega | assumption | decide) ?_) | (with_reducible apply Br_sb <;> intro hbr <;> (first | subst hbr | simp only [hbr] | skip)) | (with_reducible apply Br_s <;> intro hbr))) | (with_reducible refine WN_succ ?_) | ((first | (with_reducible apply q_eqI) | (with_reducible apply q_eqN)); (first | exact nuI | exact nuN)) | ((first | (with_reducible apply q_eqL) | (with_reducible apply q_eqO)); (first | exact liL | exact liO)))
    all_goals first | (exfalso; omega) | (first | exact Fin_flat trivial rfl rfl | (refine Fin_tup trivial rfl ?_ (Nat.le_of_ble_eq_true rfl); (repeat (first | exact All2.nil | (apply All2.cons; (· first | exact exc_n | exact exc_e | exact exc_v rfl rfl | exact exc_o upd_self rfl rfl)))); done) | (refine Fin_own trivial rfl upd_self ?_ (Nat.le_of_ble_eq_true rfl); (repeat (first | exact All2.nil | (apply All2.cons; (· first | exact exc_n | exact exc_e | exact exc_v rfl rfl | exact exc_o upd_self rfl rfl)))); done) | exact Fin_nil trivial rfl | exact Fin_sl trivial rfl upd_self rfl rfl)
theorem shortage_t : ∀ dts, All2 (TypedA Try.prog) Try.f13.params.toList dts → PCon Try.prog 13 dts (.bool true) := by
  intro dts h
  rw [Try.params13] at h
  obtain ⟨a, b, rfl, ha, hb⟩ := two_args h
  obtain ⟨l, rfl, hl, _⟩ := typed_accs ha
  obtain ⟨fr, rfl, _⟩ := typed_int Try.underlying3 hb
  exact shortage_l l hl fr
end Go.Proofs.Ytfdfmbmhefckaaa
end
