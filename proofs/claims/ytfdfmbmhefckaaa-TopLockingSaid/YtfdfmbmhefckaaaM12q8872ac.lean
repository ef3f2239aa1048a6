import Derived.Test.YtfdfmbmhefckaaaR14q0c2185
import Derived.Test.YtfdfmbmhefckaaaAmZ3qc1017a
section
/- Locking pages: the plain law. -/
set_option linter.unusedSimpArgs false
set_option linter.unusedVariables false
namespace Go.Proofs.Ytfdfmbmhefckaaa
open Go.AM Classical
set_option maxRecDepth 100000
set_option maxHeartbeats 4000000
def lkTo (p : List Pg) (b : Nat → Bool) : Nat → List Pg
  | 0 => p
  | i + 1 => if b i = true then (lkTo p b i).modify i (fun q => wrP q 7) else lkTo p b i
theorem lkTo_len (p : List Pg) (b : Nat → Bool) : ∀ i, (lkTo p b i).length = p.length
  | 0 => rfl
  | i + 1 => by
    rw [lkTo]
    split
    · rw [List.length_modify, lkTo_len p b i]
    · exact lkTo_len p b i
theorem lkTo_get (p : List Pg) (b : Nat → Bool) (j : Nat) : ∀ i, (lkTo p b i)[j]? = p[j]? ∨ (lkTo p b i)[j]? = p[j]?.map fun q => wrP q 7
  | 0 => .inl rfl
  | i + 1 => by
    rw [lkTo]
    split
    · rw [List.getElem?_modify]
      by_cases h : i = j
      · right
        rcases lkTo_get p b j i with h1 | h1
        · rw [h1]; cases p[j]? <;> simp [h]
        · rw [h1]; cases p[j]? <;> simp [h, wrP]
      · have := lkTo_get p b j i
        simpa [h] using this
    · exact lkTo_get p b j i
def lkR (q q' : Pg) : Prop := q' = q ∨ q' = wrP q 7
theorem lkR_at {p : List Pg} {b : Nat → Bool} {i j : Nat} (h : j < (lkTo p b i).length) (h' : j < p.length) : lkR p[j] (lkTo p b i)[j] := by
  rcases lkTo_get p b j i with h1 | h1
  · rw [List.getElem?_eq_getElem h, List.getElem?_eq_getElem h'] at h1
    injection h1 with h1; exact .inl h1
  · rw [List.getElem?_eq_getElem h, List.getElem?_eq_getElem h'] at h1
    injection h1 with h1; exact .inr h1
theorem lkR_f {q q' : Pg} (h : lkR q q') : q'.frame = q.frame ∧ q'.account = q.account ∧ q'.age = q.age ∧ q'.owner = q.owner ∧ q'.normal = q.normal ∧ q'.leaving = q.leaving ∧ (q'.reason = q.reason ∨ q'.reason = 7) := by
  rcases h with rfl | rfl
  · exact ⟨rfl, rfl, rfl, rfl, rfl, rfl, .inl rfl⟩
  · exact ⟨rfl, rfl, rfl, rfl, rfl, rfl, .inr rfl⟩
theorem lk_cnt {p p' : List Pg} (hl : p'.length = p.length) (h : ∀ j (h1 : j < p'.length) (h2 : j < p.length), lkR p[j] p'[j]) (a : Int) : ∀ m, cntA p' a m = cntA p a m
  | 0 => rfl
  | m + 1 => by
    rw [cntA, cntA, lk_cnt hl h a m]
    by_cases hm : m < p.length
    · rw [dif_pos hm, dif_pos (by omega)]
      obtain ⟨_, e2, _, _, _, e6, _⟩ := lkR_f (h m (by omega) hm)
      unfold isLv
      rw [e2, e6]
    · rw [dif_neg hm, dif_neg (by omega)]
theorem lk_lv {p p' : List Pg} (l : List Acct) (hl : p'.length = p.length) (h : ∀ j (h1 : j < p'.length) (h2 : j < p.length), lkR p[j] p'[j]) : lvL l p' = lvL l p := by
  unfold lvL lvT
  rw [hl]
  apply List.map_congr_left
  intro j _
  exact lk_cnt hl h _ _
theorem lk_rsn {l : List Acct} {v : List Int} {s : Int} {kn : Bool} {q q' : Pg} (h : lkR q q') (h0 : rsn l v s kn q ≠ 0) (h8 : rsn l v s kn q ≠ 8) : rsn l v s kn q' ≠ 0 ∧ rsn l v s kn q' ≠ 8 := by
  rcases h with rfl | rfl
  · exact ⟨h0, h8⟩
  · unfold rsn at *
    have e1 : outP l s (wrP q 7) = outP l s q := rfl
    have e2 : (wrP q 7).normal = q.normal := rfl
    have e3 : (wrP q 7).leaving = q.leaving := rfl
    have e4 : (wrP q 7).reason = 7 := rfl
    rw [e1, e2, e3, e4]
    by_cases c1 : outP l s q
    · rw [if_pos c1]; decide
    · rw [if_neg c1] at *
      by_cases c2 : kn = true ∧ q.normal = false
      · rw [if_pos c2]; decide
      · rw [if_neg c2] at *
        by_cases c3 : q.leaving = true
        · rw [if_pos c3] at h8; exact absurd rfl h8
        · rw [if_neg c3, if_pos (by decide)]; decide
theorem lk_prev {p p' : List Pg} (hl : p'.length = p.length) (h : ∀ j (h1 : j < p'.length) (h2 : j < p.length), lkR p[j] p'[j]) (i : Nat) : prevF p' i = prevF p i := by
  unfold prevF
  by_cases h0 : i = 0
  · rw [if_pos h0, if_pos h0]
  · rw [if_neg h0, if_neg h0]
    by_cases h1 : i - 1 < p.length
    · rw [dif_pos h1, dif_pos (by omega)]
      exact (lkR_f (h _ (by omega) h1)).1
    · rw [dif_neg h1, dif_neg (by omega)]
theorem lk_qu {p p' : List Pg} {l : List Acct} {s : Int} (hl : p'.length = p.length) (h : ∀ j (h1 : j < p'.length) (h2 : j < p.length), lkR p[j] p'[j]) (hq : quP p l s) : quP p' l s := by
  refine ⟨?_, hq.2⟩
  have h1 := hq.1
  unfold pchk at *
  by_cases hc : chkF l = 0
  · rw [if_pos hc] at *
    rw [fE_zero] at *
    intro i hi
    have hi' : i < p.length := by omega
    have h2 := h1 i hi'
    unfold errA at *
    rw [dif_pos hi] 
    rw [dif_pos hi'] at h2
    rw [lk_prev hl h]
    obtain ⟨e1, e2, e3, e4, _, e6, e7⟩ := lkR_f (h i hi hi')
    unfold pgE at *
    rw [e1, e2, e3, e4, e6]
    generalize prevF p i = pv at *
    split at h2
    · omega
    · rename_i c1
      rw [if_neg c1]
      split at h2
      · omega
      · rename_i c2
        rw [if_neg c2]
        split at h2
        · omega
        · rename_i c3
          rw [if_neg (by
            rcases e7 with e7 | e7
            · rw [e7]; exact c3
            · rw [e7]; omega)]
          split at h2
          · omega
          · rename_i c4
            rw [if_neg]
            rintro ⟨r0, r1⟩
            rcases e7 with e7 | e7
            · exact c4 ⟨e7 ▸ r0, r1⟩
            · rw [e7] at r0; omega
  · rw [if_neg hc] at *
    exact h1
theorem lock_law {p p' : List Pg} {l : List Acct} {s : Int} {kn : Bool} (hl : p'.length = p.length) (h : ∀ j (h1 : j < p'.length) (h2 : j < p.length), lkR p[j] p'[j]) (hq : quP p l s) (hv : verF p l s kn (witF p l s kn) = 0) :
    quP p' l s ∧ verF p' l s kn (witF p' l s kn) = 0 ∧ nxtF p' l s kn = -1 ∧ ¬ trP p' l s kn := by
  have hq' := lk_qu hl h hq
  have hn : ¬ (0 ≤ nxtF p l s kn ∨ trP p l s kn) := fun hh => by rw [either_law hq, if_pos hh] at hv; omega
  have hr : ∀ i (hi : i < p'.length), rsn l (lvL l p') s kn p'[i] ≠ 0 ∧ rsn l (lvL l p') s kn p'[i] ≠ 8 := fun i hi => by
    have hi' : i < p.length := by omega
    rw [lk_lv l hl h]
    exact lk_rsn (h i hi hi') (fun h0 => hn (.inl ((nxt_some hq).2 ⟨i, hi', h0⟩))) (fun h8 => hn (.inr ⟨hq, _, List.getElem_mem hi', h8⟩))
  have hn' : ¬ (0 ≤ nxtF p' l s kn ∨ trP p' l s kn) := by
    rintro (h1 | ⟨_, q, hm, h8⟩)
    · obtain ⟨i, hi, h0⟩ := (nxt_some hq').1 h1
      exact (hr i hi).1 h0
    · obtain ⟨i, hi, rfl⟩ := List.getElem_of_mem hm
      exact (hr i hi).2 h8
  have hv' : verF p' l s kn (witF p' l s kn) = 0 := by rw [either_law hq', if_neg hn']
  exact ⟨hq', hv', ver_sound hv'⟩
end Go.Proofs.Ytfdfmbmhefckaaa
end
section
/- The law TopLocking. -/
set_option linter.unusedSimpArgs false
set_option linter.unusedVariables false
namespace Go.Proofs.Ytfdfmbmhefckaaa
open Go.AM Classical
set_option maxRecDepth 100000
set_option maxHeartbeats 4000000
theorem locking_l (p : List Pg) (l : List Acct) (hL : l.length ≤ 9223372036854775807) (s : Int) (kn : Bool) (b : List Bool) : PCon Try.prog 14 [csD p l s kn, .vs 1 (b.map .bool) b.length] (.bool true) := by
  refine A14p (by simp [A14]) ?_
  simp only [A14, argEnv]
  have c0 := lfew_c p l s kn
  have e0 : csD p l s kn = .agg [pgs p, accs l, .int .i64 s, .bool kn] := rfl
  rw [e0]
  by_cases hf : p.length ≤ 300 ∧ l.length ≤ 40
  · rw [decide_eq_true hf] at c0
    by_cases hb : b.length ≤ 300
    · have cW := Witness_c p l hL (by omega) s kn
      have hwl := wit_len (p := p) (l := l) (s := s) (kn := kn)
      have cV := Verify_c p l hL (by omega) s kn (witF p l s kn)
      have hpl := pgs_len p
      have hbl : (b.map D.bool).length = b.length := List.length_map _
      have hwc := pgs_len (witF p l s kn)
      have hws := pgs_scal (witF p l s kn)
      by_cases hv : verF p l s kn (witF p l s kn) = 0
      · rw [hv] at cV
        have hq : quP p l s := by
          refine Classical.byContradiction fun hq => ?_
          unfold verF at hv
          rw [if_neg (fun h => hq (askE_ok.1 h))] at hv
          exact hq (askE_ok.1 hv)
        have hlaw := fun i => lock_law (p' := lkTo p (fun j => b.getD j false) i) (kn := kn) (lkTo_len _ _ _) (fun j h1 h2 => lkR_at h1 h2) hq hv
        generalize witF p l s kn = w at *
        repeat' (first | (with_reducible first | refine W_seq ?_ | refine then_n ?_ | refine W_block ?_ | refine blk_n ?_ | refine blk_r ?_ | refine blk_e ?_ | refine W_skip ?_ | refine W_ret ?_ | refine then_r ?_ | refine W_exit ?_ | refine then_e ?_) | (refine blk_j (by decide) ?_) | ((with_reducible refine s_reg ?_); intro K hK) | ((with_reducible refine k_nil ?_); (with_reducible apply s_nil hK); (· exact nmX); clear hK; clear K) | ((with_reducible refine k_cond ?_); (first | ((with_reducible apply s_condT); (· rfl); (· exact nmX)) | ((with_reducible apply s_condF); (· rfl); (· exact nmX)) | ((with_reducible apply s_condS); (· rfl); (· exact nmX); (· exact nmX)))) | ((with_reducible refine k_guard ?_); (first | (refine s_gt rfl ?_) | (refine s_gf1 rfl ?_) | (refine s_gfn rfl ?_) | (refine s_gx1 rfl ?_) | (refine s_gxn rfl ?_) | (refine s_gs rfl ?_))) | ((with_reducible refine k_mv ?_); (refine s_mv rfl ?_)) | ((with_reducible refine k_len ?_); (first | (refine s_len rfl rfl ?_) | ((with_reducible apply s_len); (· rfl); (· exact SlOwn.len (by assumption))))) | ((with_reducible refine k_pick ?_); (first | (refine s_pickT rfl rfl ?_) | (refine s_pickF rfl rfl ?_))) | ((with_reducible refine k_not ?_); (refine s_not rfl (by first | exact Bool.not_true | exact Bool.not_false | rfl) ?_)) | ((with_reducible refine k_neq ?_); (first | (refine s_neq rfl rfl ?_) | (refine s_strNe rfl rfl ?_))) | ((with_reducible refine k_gtr ?_); (refine s_gtr rfl rfl ?_)) | ((with_reducible refine k_load ?_); (first | ((with_reducible apply s_loadV); (· rfl)) | ((with_reducible apply s_loadP); (· rfl); (· (exact hpX))))) | ((with_reducible refine k_loadA ?_); (first | ((with_reducible apply s_loadAV); (· rfl); (· (first | exact Nat.le_of_ble_eq_true rfl | decide | omega | (simp; done) | (simp; omega) | skip))) | ((with_reducible apply s_loadAP); (· rfl); (· (exact hpX)); (· (first | exact Nat.le_of_ble_eq_true rfl | decide | omega | (simp; done) | (simp; omega) | skip))))) | ((with_reducible refine k_faddr ?_); (first | ((with_reducible apply s_faddrV); (· rfl); (· rfl)) | ((with_reducible apply s_faddrP); (· rfl); (· rfl)))) | ((with_reducible refine k_box (dst := some 2) ?_); ((with_reducible apply s_box); (· rfl); (· rfl); intro k2 hk2; (try simp only [upd_none] at hk2))) | ((with_reducible refine k_buildS (dst := some 41) ?_); ((with_reducible apply s_buildS); (· rfl); (· (exact ⟨rfl, by decide⟩)); (· (first | (simp only [fillB, rep, splice, List.reduceReplicate, List.flatten_cons, List.flatten_nil, List.cons_append, List.nil_append, List.append_nil, List.length_cons, List.length_nil, Nat.reduceAdd, Nat.reduceMul, Nat.reduceLeDiff, Nat.reduceEqDiff, eq_self, Nat.le_refl, Nat.zero_add, and_self, and_true, true_and, if_true, List.take_zero, List.take_succ_cons, List.drop_zero, List.drop_succ_cons, List.drop_nil, List.take_nil]; rfl) | rfl)); intro k41 hk41; (try simp only [upd_none] at hk41))) | ((with_reducible refine k_append (dst := some 44) ?_); ((with_reducible apply s_app); (· rfl); (· rfl); (· first | assumption | exact SlOwn.nil | exact SlOwn.emp | exact SlOwn.sl upd_self rfl | ((repeat' (first | assumption | (with_reducible apply SlOwn.upd) | (simp only [upd_none]; assumption))); done) | ((apply SlOwn.sl); (· (exact hpX)); (· first | rfl | assumption))); (· rfl); (· first | exact srcD_sl upd_self rfl | (exact srcD_vs (by first | assumption | simp)) | ((apply srcD_sl); (· (exact hpX)); (· rfl))); (· exact ⟨by first | rfl | assumption | simp, by decide⟩); (· first | (rw [room_n]; omega) | skip); intro da44 ha44 hso44 hoth44)) | ((with_reducible refine k_callF ?_); (first | ((with_reducible apply s_call1); (· rfl)) | ((with_reducible apply s_calln); (· rfl)))) | ((with_reducible refine k_con ?_); (first | ((with_reducible apply con_val (awake20_c)); (· (repeat (first | exact All2.nil | (apply All2.cons; (· first | exact Rd_cs | exact rdX))))); (· rfl); (· exact fun _ => rfl)) | ((with_reducible apply con_val (c0)); (· (repeat (first | exact All2.nil | (apply All2.cons; (· first | exact Rd_cs | exact rdX))))); (· rfl); (· exact fun _ => rfl)) | ((with_reducible apply con_of_pcon (cW)); (· (repeat (first | exact All2.nil | (apply All2.cons; (· first | exact Rd_cs | exact rdX))))); intro kW hkW; (try simp only [upd_none] at hkW); simp only [thaw, thawC, List.map, thawH, owOf, owL]) | ((with_reducible apply con_val (cV)); (· (repeat (first | exact All2.nil | (apply All2.cons; (· first | exact Rd_cs | exact rdX))))); (· rfl); (· exact fun _ => rfl)))) | ((with_reducible refine k_br ?_); (first | (with_reducible first | refine Br_dec ?_ | refine Br_not ?_ | refine Br_eqF ?_ | refine Br_and ?_ | refine Br_or ?_ | refine Br_neg ?_ | refine Br_band ?_ | refine Br_bor ?_ | refine Br_beq ?_) | (refine Br_t (by first | with_reducible rfl | omega | assumption | rfl) ?_) | (refine Br_f (by first | omega | assumption | decide) ?_) | (with_reducible apply Br_sb <;> intro hbr <;> (first | subst hbr | simp only [hbr] | skip)) | (with_reducible apply Br_s <;> intro hbr))) | (with_reducible refine WN_succ ?_) | ((first | (with_reducible apply q_eqI) | (with_reducible apply q_eqN)); (first | exact nuI | exact nuN)) | ((first | (with_reducible apply q_eqL) | (with_reducible apply q_eqO)); (first | exact liL | exact liO)))
        all_goals first | (exfalso; omega) | skip
        rw [List.nil_append, Nat.zero_add] at hso44
        rw [Nat.zero_add]
        have hk2' : ha44 k2 = some [pgs p, accs l, .int .i64 s, .bool kn] := hoth44 k2 _ hpX (fun sz off n h => by injection h with h; exact (neX : k41 ≠ k2) h)
        clear hoth44 cV cW hv
        generalize hB : (fun j => b.getD j false) = B at *
        refine W_for p.length (fun i st => ∃ h', st = ⟨[(1, .vs 1 (b.map .bool) b.length), (2, .pt k2 0), (6, da44), (46, .int .i64 p.length), (47, .int .i64 i)], h'⟩ ∧ h' k2 = some [pgs p, accs l, .int .i64 s, .bool kn] ∧ SlOwn h' da44 7 ((lkTo p B i).flatMap Pg.cells) p.length) ⟨_, rfl, hk2', hso44⟩ ?_ ?_
        · clear hso44 hk2' hlaw
          rintro i e' h' hi ⟨h1, he, hk, ho⟩
          cases he
          obtain ⟨kg, rfl, hkg⟩ := ho.pos (by omega)
          have hml := lkTo_len p B i
          have hgl : ((lkTo p B i).flatMap Pg.cells).length = p.length * 7 := by rw [pgs_len, hml]
          have hil : i < (lkTo p B i).length := by omega
          have hs := fm_st (f := Pg.cells) (l := lkTo p B i) (i := i) (j := 3) (d := .int .i64 7) (b := wrP (lkTo p B i)[i] 7) Pg.cells_len hil (by omega) rfl
          have hne : k2 ≠ kg := fun h => by
            rw [h, hkg] at hk
            injection hk with hk
            have := congrArg List.length hk
            rw [hgl] at this
            simp at this
            omega
          have hml2 := lkTo_len p B (i + 1)
          have hBi : B i = b.getD i false := by rw [← hB]
          cases hb1 : B i with
          | true =>
            have hib : i < b.length := Classical.byContradiction fun h => by
              rw [hBi, List.getD_eq_getElem?_getD, List.getElem?_eq_none (by omega)] at hb1; cases hb1
            have hg : (b.map D.bool)[i]? = some (.bool true) := by
              rw [List.getElem?_map, List.getElem?_eq_getElem hib]
              rw [hBi, List.getD_eq_getElem?_getD, List.getElem?_eq_getElem hib] at hb1
              simp at hb1; simp [hb1]
            have hst : (lkTo p B i).set i (wrP ((lkTo p B i)[i]'hil) 7) = lkTo p B (i + 1) := by
              rw [lkTo, if_pos hb1]
              apply List.ext_getElem?
              intro j
              rw [List.getElem?_modify, List.getElem?_set]
              by_cases hj : i = j
              · subst hj; simp [hil]
              · simp [hj]
            rw [hst] at hs
            generalize lkTo p B (i + 1) = G1 at *
            generalize lkTo p B i = G0 at *
            repeat' (first | (with_reducible first | refine W_seq ?_ | refine then_n ?_ | refine W_block ?_ | refine blk_n ?_ | refine blk_r ?_ | refine blk_e ?_ | refine W_skip ?_ | refine W_ret ?_ | refine then_r ?_ | refine W_exit ?_ | refine then_e ?_) | (refine blk_j (by decide) ?_) | ((with_reducible refine s_reg ?_); intro K hK) | ((with_reducible refine k_nil ?_); (with_reducible apply s_nil hK); (· exact nmX); clear hK; clear K) | ((with_reducible refine k_cond ?_); (first | ((with_reducible apply s_condT); (· rfl); (· exact nmX)) | ((with_reducible apply s_condF); (· rfl); (· exact nmX)) | ((with_reducible apply s_condS); (· rfl); (· exact nmX); (· exact nmX)))) | ((with_reducible refine k_guard ?_); (first | (refine s_gt rfl ?_) | (refine s_gf1 rfl ?_) | (refine s_gfn rfl ?_) | (refine s_gx1 rfl ?_) | (refine s_gxn rfl ?_) | (refine s_gs rfl ?_))) | ((with_reducible refine k_mv ?_); (refine s_mv rfl ?_)) | ((with_reducible refine k_len ?_); (first | (refine s_len rfl rfl ?_) | ((with_reducible apply s_len); (· rfl); (· exact SlOwn.len (by assumption))))) | ((with_reducible refine k_pick ?_); (first | (refine s_pickT rfl rfl ?_) | (refine s_pickF rfl rfl ?_))) | ((with_reducible refine k_lss ?_); (refine s_lss rfl rfl ?_)) | ((with_reducible refine k_iaddr ?_); (first | ((with_reducible apply s_iaddrV); (· rfl); (· rfl); (· (first | omega | exact ⟨rfl, by omega⟩ | skip))) | ((with_reducible apply s_iaddrO); (· rfl); (· rfl); (· (first | omega | exact ⟨rfl, by omega⟩ | skip)); (· (exact hpX))) | ((with_reducible apply s_iaddrSO); (· rfl); (· assumption); (· rfl); (· (first | omega | exact ⟨rfl, by omega⟩ | skip)); (· (first | (simp (disch := omega) only [w64, wu8, wu16, wu32, wu64, tm_nn, td_nn, fd_nn, Int.reduceAdd, Int.reduceSub, Int.reduceMul, Int.reduceDiv, Int.reduceMod, Int.reduceNeg, Int.reduceToNat, Int.toNat_natCast, Int.toNat_zero, Int.zero_add, Int.add_zero, Int.one_mul, Int.reducePow, Nat.mul_one, Nat.zero_add, Nat.add_zero, Nat.zero_mul, Nat.reduceAdd, Nat.reduceMul, Nat.reduceSub, Nat.min_eq_left, IntKind.bits, Nat.sub_zero, hg, hs]; try rfl; done) | rfl)); intro ks hks))) | ((with_reducible refine k_load ?_); (first | ((with_reducible apply s_loadV); (· rfl)) | ((with_reducible apply s_loadP); (· rfl); (· (exact hpX))))) | ((with_reducible refine k_add ?_); ((with_reducible apply s_add); (· rfl); (· rfl))) | ((with_reducible refine k_store ?_); ((with_reducible apply s_store0); (· rfl); (· rfl); (· rfl); (· (exact hpX)); (· (exact ⟨rfl, by first | exact Nat.le_of_ble_eq_true rfl | omega | (simp [hg, hs]; omega)⟩)); (· ((first | (simp (disch := omega) only [upd_self, upd_ne, upd_upd, rep, splice, List.take_succ_cons, List.take_zero, List.drop_succ_cons, List.drop_zero, List.cons_append, List.nil_append, List.append_nil, List.length_cons, List.length_nil, List.reduceReplicate, List.flatten_cons, List.flatten_nil, Nat.reduceAdd, Nat.reduceMul, Nat.reduceSub, Nat.zero_add, Nat.add_zero, List.getElem?_cons_zero, List.getElem?_cons_succ, hg, hs]; try rfl; done) | rfl))); (· (first | exact upd_upd | rfl)))) | ((with_reducible refine k_faddr ?_); (first | ((with_reducible apply s_faddrV); (· rfl); (· rfl)) | ((with_reducible apply s_faddrP); (· rfl); (· rfl)))) | ((with_reducible refine k_br ?_); (first | (with_reducible first | refine Br_dec ?_ | refine Br_not ?_ | refine Br_eqF ?_ | refine Br_and ?_ | refine Br_or ?_ | refine Br_neg ?_ | refine Br_band ?_ | refine Br_bor ?_ | refine Br_beq ?_) | (refine Br_t (by first | with_reducible rfl | omega | assumption | rfl) ?_) | (refine Br_f (by first | omega | assumption | decide) ?_) | (with_reducible apply Br_sb <;> intro hbr <;> (first | subst hbr | simp only [hbr] | skip)) | (with_reducible apply Br_s <;> intro hbr))) | (with_reducible refine WN_succ ?_) | ((first | (with_reducible apply q_eqI) | (with_reducible apply q_eqN)); (first | (simp (disch := omega) only [w64, wu8, wu16, wu32, wu64, tm_nn, td_nn, fd_nn, Int.reduceAdd, Int.reduceSub, Int.reduceMul, Int.reduceDiv, Int.reduceMod, Int.reduceNeg, Int.reduceToNat, Int.toNat_natCast, Int.toNat_zero, Int.zero_add, Int.add_zero, Int.one_mul, Int.reducePow, Nat.mul_one, Nat.zero_add, Nat.add_zero, Nat.zero_mul, Nat.reduceAdd, Nat.reduceMul, Nat.reduceSub, Nat.min_eq_left, IntKind.bits, Nat.sub_zero, hg, hs]; try rfl; done) | rfl)) | ((first | (with_reducible apply q_eqL) | (with_reducible apply q_eqO)); (first | (simp (disch := omega) only [upd_self, upd_ne, upd_upd, rep, splice, List.take_succ_cons, List.take_zero, List.drop_succ_cons, List.drop_zero, List.cons_append, List.nil_append, List.append_nil, List.length_cons, List.length_nil, List.reduceReplicate, List.flatten_cons, List.flatten_nil, Nat.reduceAdd, Nat.reduceMul, Nat.reduceSub, Nat.zero_add, Nat.add_zero, List.getElem?_cons_zero, List.getElem?_cons_succ, hg, hs]; try rfl; done) | rfl)))
            all_goals first | (exfalso; omega) | skip
            all_goals exact ⟨_, rfl, by rw [upd_ne hne]; exact hk, SlOwn.sl upd_self (by rw [pgs_len, hml2])⟩
          | false =>
            have hst : lkTo p B (i + 1) = lkTo p B i := by rw [lkTo, if_neg (by rw [hb1]; decide)]
            rw [hst]
            clear hs
            by_cases hib : i < b.length
            · have hg : (b.map D.bool)[i]? = some (.bool false) := by
                rw [List.getElem?_map, List.getElem?_eq_getElem hib]
                rw [hBi, List.getD_eq_getElem?_getD, List.getElem?_eq_getElem hib] at hb1
                simp at hb1; simp [hb1]
              repeat' (first | (with_reducible first | refine W_seq ?_ | refine then_n ?_ | refine W_block ?_ | refine blk_n ?_ | refine blk_r ?_ | refine blk_e ?_ | refine W_skip ?_ | refine W_ret ?_ | refine then_r ?_ | refine W_exit ?_ | refine then_e ?_) | (refine blk_j (by decide) ?_) | ((with_reducible refine s_reg ?_); intro K hK) | ((with_reducible refine k_nil ?_); (with_reducible apply s_nil hK); (· exact nmX); clear hK; clear K) | ((with_reducible refine k_cond ?_); (first | ((with_reducible apply s_condT); (· rfl); (· exact nmX)) | ((with_reducible apply s_condF); (· rfl); (· exact nmX)) | ((with_reducible apply s_condS); (· rfl); (· exact nmX); (· exact nmX)))) | ((with_reducible refine k_guard ?_); (first | (refine s_gt rfl ?_) | (refine s_gf1 rfl ?_) | (refine s_gfn rfl ?_) | (refine s_gx1 rfl ?_) | (refine s_gxn rfl ?_) | (refine s_gs rfl ?_))) | ((with_reducible refine k_mv ?_); (refine s_mv rfl ?_)) | ((with_reducible refine k_len ?_); (first | (refine s_len rfl rfl ?_) | ((with_reducible apply s_len); (· rfl); (· exact SlOwn.len (by assumption))))) | ((with_reducible refine k_pick ?_); (first | (refine s_pickT rfl rfl ?_) | (refine s_pickF rfl rfl ?_))) | ((with_reducible refine k_lss ?_); (refine s_lss rfl rfl ?_)) | ((with_reducible refine k_iaddr ?_); (first | ((with_reducible apply s_iaddrV); (· rfl); (· rfl); (· (first | omega | exact ⟨rfl, by omega⟩ | skip))) | ((with_reducible apply s_iaddrO); (· rfl); (· rfl); (· (first | omega | exact ⟨rfl, by omega⟩ | skip)); (· (exact hpX))) | ((with_reducible apply s_iaddrSO); (· rfl); (· assumption); (· rfl); (· (first | omega | exact ⟨rfl, by omega⟩ | skip)); (· (first | (simp (disch := omega) only [w64, wu8, wu16, wu32, wu64, tm_nn, td_nn, fd_nn, Int.reduceAdd, Int.reduceSub, Int.reduceMul, Int.reduceDiv, Int.reduceMod, Int.reduceNeg, Int.reduceToNat, Int.toNat_natCast, Int.toNat_zero, Int.zero_add, Int.add_zero, Int.one_mul, Int.reducePow, Nat.mul_one, Nat.zero_add, Nat.add_zero, Nat.zero_mul, Nat.reduceAdd, Nat.reduceMul, Nat.reduceSub, Nat.min_eq_left, IntKind.bits, Nat.sub_zero, hg]; try rfl; done) | rfl)); intro ks hks))) | ((with_reducible refine k_load ?_); (first | ((with_reducible apply s_loadV); (· rfl)) | ((with_reducible apply s_loadP); (· rfl); (· (exact hpX))))) | ((with_reducible refine k_add ?_); ((with_reducible apply s_add); (· rfl); (· rfl))) | ((with_reducible refine k_store ?_); ((with_reducible apply s_store0); (· rfl); (· rfl); (· rfl); (· (exact hpX)); (· (exact ⟨rfl, by first | exact Nat.le_of_ble_eq_true rfl | omega | (simp [hg]; omega)⟩)); (· ((first | (simp (disch := omega) only [upd_self, upd_ne, upd_upd, rep, splice, List.take_succ_cons, List.take_zero, List.drop_succ_cons, List.drop_zero, List.cons_append, List.nil_append, List.append_nil, List.length_cons, List.length_nil, List.reduceReplicate, List.flatten_cons, List.flatten_nil, Nat.reduceAdd, Nat.reduceMul, Nat.reduceSub, Nat.zero_add, Nat.add_zero, List.getElem?_cons_zero, List.getElem?_cons_succ, hg]; try rfl; done) | rfl))); (· (first | exact upd_upd | rfl)))) | ((with_reducible refine k_faddr ?_); (first | ((with_reducible apply s_faddrV); (· rfl); (· rfl)) | ((with_reducible apply s_faddrP); (· rfl); (· rfl)))) | ((with_reducible refine k_br ?_); (first | (with_reducible first | refine Br_dec ?_ | refine Br_not ?_ | refine Br_eqF ?_ | refine Br_and ?_ | refine Br_or ?_ | refine Br_neg ?_ | refine Br_band ?_ | refine Br_bor ?_ | refine Br_beq ?_) | (refine Br_t (by first | with_reducible rfl | omega | assumption | rfl) ?_) | (refine Br_f (by first | omega | assumption | decide) ?_) | (with_reducible apply Br_sb <;> intro hbr <;> (first | subst hbr | simp only [hbr] | skip)) | (with_reducible apply Br_s <;> intro hbr))) | (with_reducible refine WN_succ ?_) | ((first | (with_reducible apply q_eqI) | (with_reducible apply q_eqN)); (first | (simp (disch := omega) only [w64, wu8, wu16, wu32, wu64, tm_nn, td_nn, fd_nn, Int.reduceAdd, Int.reduceSub, Int.reduceMul, Int.reduceDiv, Int.reduceMod, Int.reduceNeg, Int.reduceToNat, Int.toNat_natCast, Int.toNat_zero, Int.zero_add, Int.add_zero, Int.one_mul, Int.reducePow, Nat.mul_one, Nat.zero_add, Nat.add_zero, Nat.zero_mul, Nat.reduceAdd, Nat.reduceMul, Nat.reduceSub, Nat.min_eq_left, IntKind.bits, Nat.sub_zero, hg]; try rfl; done) | rfl)) | ((first | (with_reducible apply q_eqL) | (with_reducible apply q_eqO)); (first | (simp (disch := omega) only [upd_self, upd_ne, upd_upd, rep, splice, List.take_succ_cons, List.take_zero, List.drop_succ_cons, List.drop_zero, List.cons_append, List.nil_append, List.append_nil, List.length_cons, List.length_nil, List.reduceReplicate, List.flatten_cons, List.flatten_nil, Nat.reduceAdd, Nat.reduceMul, Nat.reduceSub, Nat.zero_add, Nat.add_zero, List.getElem?_cons_zero, List.getElem?_cons_succ, hg]; try rfl; done) | rfl)))
              all_goals first | (exfalso; omega) | exact ⟨_, rfl, hk, SlOwn.sl hkg hgl⟩
            · repeat' (first | (with_reducible first | refine W_seq ?_ | refine then_n ?_ | refine W_block ?_ | refine blk_n ?_ | refine blk_r ?_ | refine blk_e ?_ | refine W_skip ?_ | refine W_ret ?_ | refine then_r ?_ | refine W_exit ?_ | refine then_e ?_) | (refine blk_j (by decide) ?_) | ((with_reducible refine s_reg ?_); intro K hK) | ((with_reducible refine k_nil ?_); (with_reducible apply s_nil hK); (· exact nmX); clear hK; clear K) | ((with_reducible refine k_cond ?_); (first | ((with_reducible apply s_condT); (· rfl); (· exact nmX)) | ((with_reducible apply s_condF); (· rfl); (· exact nmX)) | ((with_reducible apply s_condS); (· rfl); (· exact nmX); (· exact nmX)))) | ((with_reducible refine k_guard ?_); (first | (refine s_gt rfl ?_) | (refine s_gf1 rfl ?_) | (refine s_gfn rfl ?_) | (refine s_gx1 rfl ?_) | (refine s_gxn rfl ?_) | (refine s_gs rfl ?_))) | ((with_reducible refine k_mv ?_); (refine s_mv rfl ?_)) | ((with_reducible refine k_len ?_); (first | (refine s_len rfl rfl ?_) | ((with_reducible apply s_len); (· rfl); (· exact SlOwn.len (by assumption))))) | ((with_reducible refine k_pick ?_); (first | (refine s_pickT rfl rfl ?_) | (refine s_pickF rfl rfl ?_))) | ((with_reducible refine k_lss ?_); (refine s_lss rfl rfl ?_)) | ((with_reducible refine k_iaddr ?_); (first | ((with_reducible apply s_iaddrV); (· rfl); (· rfl); (· (first | omega | exact ⟨rfl, by omega⟩ | skip))) | ((with_reducible apply s_iaddrO); (· rfl); (· rfl); (· (first | omega | exact ⟨rfl, by omega⟩ | skip)); (· (exact hpX))) | ((with_reducible apply s_iaddrSO); (· rfl); (· assumption); (· rfl); (· (first | omega | exact ⟨rfl, by omega⟩ | skip)); (· (first | exact nuI | exact nuN)); intro ks hks))) | ((with_reducible refine k_load ?_); (first | ((with_reducible apply s_loadV); (· rfl)) | ((with_reducible apply s_loadP); (· rfl); (· (exact hpX))))) | ((with_reducible refine k_add ?_); ((with_reducible apply s_add); (· rfl); (· rfl))) | ((with_reducible refine k_store ?_); ((with_reducible apply s_store0); (· rfl); (· rfl); (· rfl); (· (exact hpX)); (· (exact ⟨rfl, by first | exact Nat.le_of_ble_eq_true rfl | omega | (simp; omega)⟩)); (· ((first | exact liL | exact liO))); (· (first | exact upd_upd | rfl)))) | ((with_reducible refine k_faddr ?_); (first | ((with_reducible apply s_faddrV); (· rfl); (· rfl)) | ((with_reducible apply s_faddrP); (· rfl); (· rfl)))) | ((with_reducible refine k_br ?_); (first | (with_reducible first | refine Br_dec ?_ | refine Br_not ?_ | refine Br_eqF ?_ | refine Br_and ?_ | refine Br_or ?_ | refine Br_neg ?_ | refine Br_band ?_ | refine Br_bor ?_ | refine Br_beq ?_) | (refine Br_t (by first | with_reducible rfl | omega | assumption | rfl) ?_) | (refine Br_f (by first | omega | assumption | decide) ?_) | (with_reducible apply Br_sb <;> intro hbr <;> (first | subst hbr | simp only [hbr] | skip)) | (with_reducible apply Br_s <;> intro hbr))) | (with_reducible refine WN_succ ?_) | ((first | (with_reducible apply q_eqI) | (with_reducible apply q_eqN)); (first | exact nuI | exact nuN)) | ((first | (with_reducible apply q_eqL) | (with_reducible apply q_eqO)); (first | exact liL | exact liO)))
              all_goals first | (exfalso; omega) | exact ⟨_, rfl, hk, SlOwn.sl hkg hgl⟩
        · clear hso44 hk2'
          rintro e' h' ⟨h1, he, hk, ho⟩
          cases he
          obtain ⟨hq', hv', hn', ht'⟩ := hlaw p.length
          have hml := lkTo_len p B p.length
          have hps := pgs_scal (lkTo p B p.length)
          have cW := Witness_c (lkTo p B p.length) l hL (by omega) s kn
          have cV := Verify_c (lkTo p B p.length) l hL (by omega) s kn (witF (lkTo p B p.length) l s kn)
          have cN := Next_c (lkTo p B p.length) l hL (by omega) s kn
          have cT := Transit_c (lkTo p B p.length) l hL (by omega) s kn
          rw [hv'] at cV
          rw [hn'] at cN
          rw [decide_eq_false ht'] at cT
          have hwl2 := wit_len (p := lkTo p B p.length) (l := l) (s := s) (kn := kn)
          have hwc2 := pgs_len (witF (lkTo p B p.length) l s kn)
          have hws2 := pgs_scal (witF (lkTo p B p.length) l s kn)
          generalize witF (lkTo p B p.length) l s kn = w2 at *
          simp only [pgs, hml] at cW cV cN cT
          clear hlaw hq' hv' hn' ht'
          generalize lkTo p B p.length = G at *
          repeat' (first | (with_reducible first | refine W_seq ?_ | refine then_n ?_ | refine W_block ?_ | refine blk_n ?_ | refine blk_r ?_ | refine blk_e ?_ | refine W_skip ?_ | refine W_ret ?_ | refine then_r ?_ | refine W_exit ?_ | refine then_e ?_) | (refine blk_j (by decide) ?_) | ((with_reducible refine s_reg ?_); intro K hK) | ((with_reducible refine k_nil ?_); (with_reducible apply s_nil hK); (· exact nmX); clear hK; clear K) | ((with_reducible refine k_cond ?_); (first | ((with_reducible apply s_condT); (· rfl); (· exact nmX)) | ((with_reducible apply s_condF); (· rfl); (· exact nmX)) | ((with_reducible apply s_condS); (· rfl); (· exact nmX); (· exact nmX)))) | ((with_reducible refine k_guard ?_); (first | (refine s_gt rfl ?_) | (refine s_gf1 rfl ?_) | (refine s_gfn rfl ?_) | (refine s_gx1 rfl ?_) | (refine s_gxn rfl ?_) | (refine s_gs rfl ?_))) | ((with_reducible refine k_mv ?_); (refine s_mv rfl ?_)) | ((with_reducible refine k_pick ?_); (first | (refine s_pickT rfl rfl ?_) | (refine s_pickF rfl rfl ?_))) | ((with_reducible refine k_not ?_); (refine s_not rfl (by first | exact Bool.not_true | exact Bool.not_false | rfl) ?_)) | ((with_reducible refine k_eql ?_); (first | (refine s_eql rfl rfl ?_) | (refine s_strEq rfl rfl ?_))) | ((with_reducible refine k_lss ?_); (refine s_lss rfl rfl ?_)) | ((with_reducible refine k_load ?_); (first | ((with_reducible apply s_loadV); (· rfl)) | ((with_reducible apply s_loadP); (· rfl); (· (exact hpX))))) | ((with_reducible refine k_faddr ?_); (first | ((with_reducible apply s_faddrV); (· rfl); (· rfl)) | ((with_reducible apply s_faddrP); (· rfl); (· rfl)))) | ((with_reducible refine k_callF ?_); (first | ((with_reducible apply s_call1); (· rfl)) | ((with_reducible apply s_calln); (· rfl)))) | ((with_reducible refine k_con ?_); (first | ((with_reducible apply con_of_pcon (cW)); (· (exact agX)); intro kV hkV; (try simp only [upd_none] at hkV); simp only [thaw, thawC, List.map, thawH, owOf, owL]) | ((with_reducible apply con_val (cV)); (· (exact agX)); (· rfl); (· exact fun _ => rfl)) | ((with_reducible apply con_val (cN)); (· (exact agX)); (· rfl); (· exact fun _ => rfl)) | ((with_reducible apply con_val (cT)); (· (exact agX)); (· rfl); (· exact fun _ => rfl)))) | ((with_reducible refine k_br ?_); (first | (with_reducible first | refine Br_dec ?_ | refine Br_not ?_ | refine Br_eqF ?_ | refine Br_and ?_ | refine Br_or ?_ | refine Br_neg ?_ | refine Br_band ?_ | refine Br_bor ?_ | refine Br_beq ?_) | (refine Br_t (by first | with_reducible rfl | omega | assumption | rfl) ?_) | (refine Br_f (by first | omega | assumption | decide) ?_) | (with_reducible apply Br_sb <;> intro hbr <;> (first | subst hbr | simp only [hbr] | skip)) | (with_reducible apply Br_s <;> intro hbr))) | (with_reducible refine WN_succ ?_) | ((first | (with_reducible apply q_eqI) | (with_reducible apply q_eqN)); (first | exact nuI | exact nuN)) | ((first | (with_reducible apply q_eqL) | (with_reducible apply q_eqO)); (first | exact liL | exact liO)))
          all_goals first | (exfalso; omega) | (first | exact Fin_flat trivial rfl rfl | (refine Fin_tup trivial rfl ?_ (Nat.le_of_ble_eq_true rfl); (repeat (first | exact All2.nil | (apply All2.cons; (· first | exact exc_n | exact exc_e | exact exc_v rfl rfl | exact exc_o upd_self rfl rfl)))); done) | (refine Fin_own trivial rfl upd_self ?_ (Nat.le_of_ble_eq_true rfl); (repeat (first | exact All2.nil | (apply All2.cons; (· first | exact exc_n | exact exc_e | exact exc_v rfl rfl | exact exc_o upd_self rfl rfl)))); done) | exact Fin_nil trivial rfl | exact Fin_sl trivial rfl upd_self rfl rfl)
      · generalize verF p l s kn (witF p l s kn) = e at *
        generalize witF p l s kn = w at *
        repeat' (first | (with_reducible first | refine W_seq ?_ | refine then_n ?_ | refine W_block ?_ | refine blk_n ?_ | refine blk_r ?_ | refine blk_e ?_ | refine W_skip ?_ | refine W_ret ?_ | refine then_r ?_ | refine W_exit ?_ | refine then_e ?_) | (refine blk_j (by decide) ?_) | ((with_reducible refine s_reg ?_); intro K hK) | ((with_reducible refine k_nil ?_); (with_reducible apply s_nil hK); (· exact nmX); clear hK; clear K) | ((with_reducible refine k_cond ?_); (first | ((with_reducible apply s_condT); (· rfl); (· exact nmX)) | ((with_reducible apply s_condF); (· rfl); (· exact nmX)) | ((with_reducible apply s_condS); (· rfl); (· exact nmX); (· exact nmX)))) | ((with_reducible refine k_guard ?_); (first | (refine s_gt rfl ?_) | (refine s_gf1 rfl ?_) | (refine s_gfn rfl ?_) | (refine s_gx1 rfl ?_) | (refine s_gxn rfl ?_) | (refine s_gs rfl ?_))) | ((with_reducible refine k_mv ?_); (refine s_mv rfl ?_)) | ((with_reducible refine k_len ?_); (first | (refine s_len rfl rfl ?_) | ((with_reducible apply s_len); (· rfl); (· exact SlOwn.len (by assumption))))) | ((with_reducible refine k_pick ?_); (first | (refine s_pickT rfl rfl ?_) | (refine s_pickF rfl rfl ?_))) | ((with_reducible refine k_not ?_); (refine s_not rfl (by first | exact Bool.not_true | exact Bool.not_false | rfl) ?_)) | ((with_reducible refine k_neq ?_); (first | (refine s_neq rfl rfl ?_) | (refine s_strNe rfl rfl ?_))) | ((with_reducible refine k_gtr ?_); (refine s_gtr rfl rfl ?_)) | ((with_reducible refine k_load ?_); (first | ((with_reducible apply s_loadV); (· rfl)) | ((with_reducible apply s_loadP); (· rfl); (· (exact hpX))))) | ((with_reducible refine k_loadA ?_); (first | ((with_reducible apply s_loadAV); (· rfl); (· (first | exact Nat.le_of_ble_eq_true rfl | decide | omega | (simp; done) | (simp; omega) | skip))) | ((with_reducible apply s_loadAP); (· rfl); (· (exact hpX)); (· (first | exact Nat.le_of_ble_eq_true rfl | decide | omega | (simp; done) | (simp; omega) | skip))))) | ((with_reducible refine k_faddr ?_); (first | ((with_reducible apply s_faddrV); (· rfl); (· rfl)) | ((with_reducible apply s_faddrP); (· rfl); (· rfl)))) | ((with_reducible refine k_box (dst := some 2) ?_); ((with_reducible apply s_box); (· rfl); (· rfl); intro k2 hk2; (try simp only [upd_none] at hk2))) | ((with_reducible refine k_callF ?_); (first | ((with_reducible apply s_call1); (· rfl)) | ((with_reducible apply s_calln); (· rfl)))) | ((with_reducible refine k_con ?_); (first | ((with_reducible apply con_val (awake20_c)); (· (repeat (first | exact All2.nil | (apply All2.cons; (· first | exact Rd_cs | exact rdX))))); (· rfl); (· exact fun _ => rfl)) | ((with_reducible apply con_val (c0)); (· (repeat (first | exact All2.nil | (apply All2.cons; (· first | exact Rd_cs | exact rdX))))); (· rfl); (· exact fun _ => rfl)) | ((with_reducible apply con_of_pcon (cW)); (· (repeat (first | exact All2.nil | (apply All2.cons; (· first | exact Rd_cs | exact rdX))))); intro kW hkW; (try simp only [upd_none] at hkW); simp only [thaw, thawC, List.map, thawH, owOf, owL]) | ((with_reducible apply con_val (cV)); (· (repeat (first | exact All2.nil | (apply All2.cons; (· first | exact Rd_cs | exact rdX))))); (· rfl); (· exact fun _ => rfl)))) | ((with_reducible refine k_br ?_); (first | (with_reducible first | refine Br_dec ?_ | refine Br_not ?_ | refine Br_eqF ?_ | refine Br_and ?_ | refine Br_or ?_ | refine Br_neg ?_ | refine Br_band ?_ | refine Br_bor ?_ | refine Br_beq ?_) | (refine Br_t (by first | with_reducible rfl | omega | assumption | rfl) ?_) | (refine Br_f (by first | omega | assumption | decide) ?_) | (with_reducible apply Br_sb <;> intro hbr <;> (first | subst hbr | simp only [hbr] | skip)) | (with_reducible apply Br_s <;> intro hbr))) | (with_reducible refine WN_succ ?_) | ((first | (with_reducible apply q_eqI) | (with_reducible apply q_eqN)); (first | exact nuI | exact nuN)) | ((first | (with_reducible apply q_eqL) | (with_reducible apply q_eqO)); (first | exact liL | exact liO)))
        all_goals first | (exfalso; omega) | (first | exact Fin_flat trivial rfl rfl | (refine Fin_tup trivial rfl ?_ (Nat.le_of_ble_eq_true rfl); (repeat (first | exact All2.nil | (apply All2.cons; (· first | exact exc_n | exact exc_e | exact exc_v rfl rfl | exact exc_o upd_self rfl rfl)))); done) | (refine Fin_own trivial rfl upd_self ?_ (Nat.le_of_ble_eq_true rfl); (repeat (first | exact All2.nil | (apply All2.cons; (· first | exact exc_n | exact exc_e | exact exc_v rfl rfl | exact exc_o upd_self rfl rfl)))); done) | exact Fin_nil trivial rfl | exact Fin_sl trivial rfl upd_self rfl rfl)
    · repeat' (first | (with_reducible first | refine W_seq ?_ | refine then_n ?_ | refine W_block ?_ | refine blk_n ?_ | refine blk_r ?_ | refine blk_e ?_ | refine W_skip ?_ | refine W_ret ?_ | refine then_r ?_ | refine W_exit ?_ | refine then_e ?_) | (refine blk_j (by decide) ?_) | ((with_reducible refine s_reg ?_); intro K hK) | ((with_reducible refine k_nil ?_); (with_reducible apply s_nil hK); (· exact nmX); clear hK; clear K) | ((with_reducible refine k_cond ?_); (first | ((with_reducible apply s_condT); (· rfl); (· exact nmX)) | ((with_reducible apply s_condF); (· rfl); (· exact nmX)) | ((with_reducible apply s_condS); (· rfl); (· exact nmX); (· exact nmX)))) | ((with_reducible refine k_guard ?_); (first | (refine s_gt rfl ?_) | (refine s_gf1 rfl ?_) | (refine s_gfn rfl ?_) | (refine s_gx1 rfl ?_) | (refine s_gxn rfl ?_) | (refine s_gs rfl ?_))) | ((with_reducible refine k_mv ?_); (refine s_mv rfl ?_)) | ((with_reducible refine k_len ?_); (first | (refine s_len rfl rfl ?_) | ((with_reducible apply s_len); (· rfl); (· exact SlOwn.len (by assumption))))) | ((with_reducible refine k_pick ?_); (first | (refine s_pickT rfl rfl ?_) | (refine s_pickF rfl rfl ?_))) | ((with_reducible refine k_not ?_); (refine s_not rfl (by first | exact Bool.not_true | exact Bool.not_false | rfl) ?_)) | ((with_reducible refine k_gtr ?_); (refine s_gtr rfl rfl ?_)) | ((with_reducible refine k_loadA ?_); (first | ((with_reducible apply s_loadAV); (· rfl); (· (first | exact Nat.le_of_ble_eq_true rfl | decide | omega | (simp; done) | (simp; omega) | skip))) | ((with_reducible apply s_loadAP); (· rfl); (· (exact hpX)); (· (first | exact Nat.le_of_ble_eq_true rfl | decide | omega | (simp; done) | (simp; omega) | skip))))) | ((with_reducible refine k_box (dst := some 2) ?_); ((with_reducible apply s_box); (· rfl); (· rfl); intro k2 hk2; (try simp only [upd_none] at hk2))) | ((with_reducible refine k_callF ?_); (first | ((with_reducible apply s_call1); (· rfl)) | ((with_reducible apply s_calln); (· rfl)))) | ((with_reducible refine k_con ?_); (first | ((with_reducible apply con_val (awake20_c)); (· (repeat (first | exact All2.nil | (apply All2.cons; (· first | exact Rd_cs | exact rdX))))); (· rfl); (· exact fun _ => rfl)) | ((with_reducible apply con_val (c0)); (· (repeat (first | exact All2.nil | (apply All2.cons; (· first | exact Rd_cs | exact rdX))))); (· rfl); (· exact fun _ => rfl)))) | ((with_reducible refine k_br ?_); (first | (with_reducible first | refine Br_dec ?_ | refine Br_not ?_ | refine Br_eqF ?_ | refine Br_and ?_ | refine Br_or ?_ | refine Br_neg ?_ | refine Br_band ?_ | refine Br_bor ?_ | refine Br_beq ?_) | (refine Br_t (by first | with_reducible rfl | omega | assumption | rfl) ?_) | (refine Br_f (by first | omega | assumption | decide) ?_) | (with_reducible apply Br_sb <;> intro hbr <;> (first | subst hbr | simp only [hbr] | skip)) | (with_reducible apply Br_s <;> intro hbr))) | (with_reducible refine WN_succ ?_) | ((first | (with_reducible apply q_eqI) | (with_reducible apply q_eqN)); (first | exact nuI | exact nuN)) | ((first | (with_reducible apply q_eqL) | (with_reducible apply q_eqO)); (first | exact liL | exact liO)))
      all_goals first | (exfalso; omega) | (first | exact Fin_flat trivial rfl rfl | (refine Fin_tup trivial rfl ?_ (Nat.le_of_ble_eq_true rfl); (repeat (first | exact All2.nil | (apply All2.cons; (· first | exact exc_n | exact exc_e | exact exc_v rfl rfl | exact exc_o upd_self rfl rfl)))); done) | (refine Fin_own trivial rfl upd_self ?_ (Nat.le_of_ble_eq_true rfl); (repeat (first | exact All2.nil | (apply All2.cons; (· first | exact exc_n | exact exc_e | exact exc_v rfl rfl | exact exc_o upd_self rfl rfl)))); done) | exact Fin_nil trivial rfl | exact Fin_sl trivial rfl upd_self rfl rfl)
  · rw [decide_eq_false hf] at c0
    repeat' (first | (with_reducible first | refine W_seq ?_ | refine then_n ?_ | refine W_block ?_ | refine blk_n ?_ | refine blk_r ?_ | refine blk_e ?_ | refine W_skip ?_ | refine W_ret ?_ | refine then_r ?_ | refine W_exit ?_ | refine then_e ?_) | (refine blk_j (by decide) ?_) | ((with_reducible refine s_reg ?_); intro K hK) | ((with_reducible refine k_nil ?_); (with_reducible apply s_nil hK); (· exact nmX); clear hK; clear K) | ((with_reducible refine k_cond ?_); (first | ((with_reducible apply s_condT); (· rfl); (· exact nmX)) | ((with_reducible apply s_condF); (· rfl); (· exact nmX)) | ((with_reducible apply s_condS); (· rfl); (· exact nmX); (· exact nmX)))) | ((with_reducible refine k_guard ?_); (first | (refine s_gt rfl ?_) | (refine s_gf1 rfl ?_) | (refine s_gfn rfl ?_) | (refine s_gx1 rfl ?_) | (refine s_gxn rfl ?_) | (refine s_gs rfl ?_))) | ((with_reducible refine k_mv ?_); (refine s_mv rfl ?_)) | ((with_reducible refine k_len ?_); (first | (refine s_len rfl rfl ?_) | ((with_reducible apply s_len); (· rfl); (· exact SlOwn.len (by assumption))))) | ((with_reducible refine k_pick ?_); (first | (refine s_pickT rfl rfl ?_) | (refine s_pickF rfl rfl ?_))) | ((with_reducible refine k_not ?_); (refine s_not rfl (by first | exact Bool.not_true | exact Bool.not_false | rfl) ?_)) | ((with_reducible refine k_gtr ?_); (refine s_gtr rfl rfl ?_)) | ((with_reducible refine k_loadA ?_); (first | ((with_reducible apply s_loadAV); (· rfl); (· (first | exact Nat.le_of_ble_eq_true rfl | decide | omega | (simp; done) | (simp; omega) | skip))) | ((with_reducible apply s_loadAP); (· rfl); (· (exact hpX)); (· (first | exact Nat.le_of_ble_eq_true rfl | decide | omega | (simp; done) | (simp; omega) | skip))))) | ((with_reducible refine k_box (dst := some 2) ?_); ((with_reducible apply s_box); (· rfl); (· rfl); intro k2 hk2; (try simp only [upd_none] at hk2))) | ((with_reducible refine k_callF ?_); (first | ((with_reducible apply s_call1); (· rfl)) | ((with_reducible apply s_calln); (· rfl)))) | ((with_reducible refine k_con ?_); (first | ((with_reducible apply con_val (awake20_c)); (· (repeat (first | exact All2.nil | (apply All2.cons; (· first | exact Rd_cs | exact rdX))))); (· rfl); (· exact fun _ => rfl)) | ((with_reducible apply con_val (c0)); (· (repeat (first | exact All2.nil | (apply All2.cons; (· first | exact Rd_cs | exact rdX))))); (· rfl); (· exact fun _ => rfl)))) | ((with_reducible refine k_br ?_); (first | (with_reducible first | refine Br_dec ?_ | refine Br_not ?_ | refine Br_eqF ?_ | refine Br_and ?_ | refine Br_or ?_ | refine Br_neg ?_ | refine Br_band ?_ | refine Br_bor ?_ | refine Br_beq ?_) | (refine Br_t (by first | with_reducible rfl | omega | assumption | rfl) ?_) | (refine Br_f (by first | omega | assumption | decide) ?_) | (with_reducible apply Br_sb <;> intro hbr <;> (first | subst hbr | simp only [hbr] | skip)) | (with_reducible apply Br_s <;> intro hbr))) | (with_reducible refine WN_succ ?_) | ((first | (with_reducible apply q_eqI) | (with_reducible apply q_eqN)); (first | exact nuI | exact nuN)) | ((first | (with_reducible apply q_eqL) | (with_reducible apply q_eqO)); (first | exact liL | exact liO)))
    all_goals first | (exfalso; omega) | (first | exact Fin_flat trivial rfl rfl | (refine Fin_tup trivial rfl ?_ (Nat.le_of_ble_eq_true rfl); (repeat (first | exact All2.nil | (apply All2.cons; (· first | exact exc_n | exact exc_e | exact exc_v rfl rfl | exact exc_o upd_self rfl rfl)))); done) | (refine Fin_own trivial rfl upd_self ?_ (Nat.le_of_ble_eq_true rfl); (repeat (first | exact All2.nil | (apply All2.cons; (· first | exact exc_n | exact exc_e | exact exc_v rfl rfl | exact exc_o upd_self rfl rfl)))); done) | exact Fin_nil trivial rfl | exact Fin_sl trivial rfl upd_self rfl rfl)
theorem locking_t : ∀ dts, All2 (TypedA Try.prog) Try.f14.params.toList dts → PCon Try.prog 14 dts (.bool true) := by
  intro dts h
  rw [Try.params14] at h
  obtain ⟨a, b, rfl, ha, hb⟩ := two_args h
  obtain ⟨p, l, s, kn, rfl, hl⟩ := typed_case ha
  obtain ⟨b, rfl, _⟩ := typed_bools Try.underlying54 Try.underlying4 (by kernel_rfl) hb
  exact locking_l p l hl s kn b
end Go.Proofs.Ytfdfmbmhefckaaa
end
