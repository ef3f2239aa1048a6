/- Reclaim plans: the example. -/
import Derived.Test.YtfdfmbmhefckaaaR7q49390a
import Derived.Test.YtfdfmbmhefckaaaAmZ3q8c31dc
set_option linter.unusedSimpArgs false
set_option linter.unusedVariables false
namespace Go.Proofs.Ytfdfmbmhefckaaa
open Go.AM Classical
set_option maxRecDepth 100000
set_option maxHeartbeats 4000000
instance (l : List Acct) (v : List Int) (a s : Int) (low : Bool) : Decidable (stuckP l v a s low) := inferInstanceAs (Decidable (∃ x ∈ pathG l 8 a, 0 < x ∧ s < x ∧ us l x.toNat - insF l (vF v) x ≤ flr l low x.toNat))
def outD (l : List Acct) (s : Int) (q : Pg) : Bool := decide (0 ≤ s) && (decide (q.account < 0) || !(decide (s ∈ pathG l 8 q.account)))
def gdD (l : List Acct) (v : List Int) (s : Int) (low : Bool) (q : Pg) : Bool := decide (0 ≤ q.account) && (!(decide (s = -1) || decide (s ∈ pathG l 8 q.account)) || decide (stuckP l v q.account s low))
def rsnD (l : List Acct) (v : List Int) (s : Int) (kn : Bool) (q : Pg) : Int :=
  if outD l s q = true then 13 else if kn = true ∧ q.normal = false then 12 else if q.leaving = true then 8 else if q.reason ≠ 0 ∧ q.reason ≠ 8 then q.reason else if gdD l v s false q = true then 11 else q.reason
theorem outD_ok {l : List Acct} {s : Int} {q : Pg} (hc : chkF l = 0) (hq : q.account < l.length) : outD l s q = true ↔ outP l s q := by
  unfold outD outP
  simp only [Bool.and_eq_true, decide_eq_true_eq, Bool.or_eq_true, Bool.not_eq_true', decide_eq_false_iff_not]
  refine and_congr_right fun h0 => ?_
  by_cases ha : q.account < 0
  · simp only [ha, true_or]
  · have hp : isP l q.account := ⟨hc, by omega, hq⟩
    unfold insP
    rw [pathF_is hp]
    exact or_congr Iff.rfl (not_congr ⟨fun h => ⟨hp, .inr h⟩, fun h => h.2.resolve_left (by omega)⟩)
theorem gdD_ok {l : List Acct} {v : List Int} {s : Int} {low : Bool} {q : Pg} (hv : valP l v) (hs : -1 ≤ s ∧ s < l.length) (hq : q.account < l.length) : gdD l v s low q = true ↔ gdP l v s low q := by
  unfold gdD gdP
  simp only [Bool.and_eq_true, decide_eq_true_eq, Bool.or_eq_true, Bool.not_eq_true', Bool.or_eq_false_iff, decide_eq_false_iff_not]
  refine and_congr_right fun h0 => ?_
  unfold grdP
  refine or_congr ?_ Iff.rfl
  constructor
  · rintro ⟨h1, h2⟩ ⟨_, h3 | h3⟩
    · exact h1 h3
    · exact h2 h3
  · intro h
    exact ⟨fun h1 => h ⟨⟨hv, ⟨h0, hq⟩, hs⟩, .inl h1⟩, fun h1 => h ⟨⟨hv, ⟨h0, hq⟩, hs⟩, .inr h1⟩⟩
theorem rsnD_ok {l : List Acct} {v : List Int} {s : Int} {kn : Bool} {q : Pg} (hv : valP l v) (hs : -1 ≤ s ∧ s < l.length) (hq : q.account < l.length) : rsn l v s kn q = rsnD l v s kn q := by
  unfold rsn rsnD
  simp only [outD_ok hv.1 hq, gdD_ok hv hs hq]
def nxD (l : List Acct) (v : List Int) (s : Int) (kn : Bool) (p : List Pg) : Nat → Int × Int
  | 0 => (-1, -1)
  | i + 1 => if h : i < p.length then
      (if rsnD l v s kn p[i] = 0 then
        (if gdD l v s true p[i] = false ∧ ((nxD l v s kn p i).1 < 0 ∨ p[i].age < agA p (nxD l v s kn p i).1) then (i : Int) else (nxD l v s kn p i).1,
         if (nxD l v s kn p i).2 < 0 ∨ p[i].age < agA p (nxD l v s kn p i).2 then (i : Int) else (nxD l v s kn p i).2)
       else nxD l v s kn p i) else nxD l v s kn p i
theorem nxD_ok {l : List Acct} {v : List Int} {s : Int} {kn : Bool} {p : List Pg} (hv : valP l v) (hs : -1 ≤ s ∧ s < l.length) (hq : ∀ i (h : i < p.length), p[i].account < l.length) : ∀ i, nxS l v s kn p i = nxD l v s kn p i
  | 0 => rfl
  | i + 1 => by
    unfold nxS nxD
    rw [nxD_ok hv hs hq i]
    by_cases h : i < p.length
    · rw [dif_pos h, dif_pos h]
      have h1 := gdD_ok (low := true) hv hs (hq i h)
      have h2 : ¬ gdP l v s true p[i] ↔ gdD l v s true p[i] = false := by
        rw [← h1]; simp
      simp only [rsnD_ok hv hs (hq i h), h2]
    · rw [dif_neg h, dif_neg h]
abbrev L4 : List Acct := [⟨-1, 10, 0, 0, 20⟩, ⟨0, 6, 4, 0, 20⟩, ⟨0, 4, 4, 0, 20⟩, ⟨1, 5, 3, 0, 20⟩]
abbrev P4 : List Pg := [⟨0, 3, 5, 0, -1, true, false⟩, ⟨1, 2, 0, 0, -1, true, false⟩, ⟨2, 1, 7, 0, -1, false, false⟩, ⟨3, -1, -1, 1, -1, true, false⟩]
abbrev P4b : List Pg := [⟨0, 3, 5, 7, -1, true, false⟩, ⟨1, 2, 0, 0, -1, true, false⟩, ⟨2, 1, 7, 0, -1, false, false⟩, ⟨3, -1, -1, 1, -1, true, false⟩]
abbrev P4c : List Pg := [⟨0, 3, 5, 7, -1, true, false⟩, ⟨1, 2, 0, 0, -1, true, false⟩, ⟨2, 1, 7, 0, -1, false, true⟩, ⟨3, -1, -1, 1, -1, true, false⟩]
theorem four_at {i : Nat} (h : i < L4.length) : i = 0 ∨ i = 1 ∨ i = 2 ∨ i = 3 := by
  simp at h; omega
theorem chk_four : chkF L4 = 0 := by
  refine chk_mk (by decide) ?_ ⟨?_, fun _ => ⟨rfl, rfl⟩⟩ ?_ ?_
  · intro i _ h; rcases four_at h with rfl | rfl | rfl | rfl <;> simp [okP]
  · intro i _ h; rcases four_at h with rfl | rfl | rfl | rfl <;> simp [okA, inR]
  · intro a h
    simp at h
    rcases h with rfl | rfl | rfl | rfl <;> decide
  · intro i h; rcases four_at h with rfl | rfl | rfl | rfl <;> decide
theorem qu_four {p : List Pg} {s : Int} (hp : fE (errA L4 p) p.length = 0) (hs : -1 ≤ s ∧ s < 4) : quP p L4 s := ⟨by rw [pchk, if_pos chk_four, hp], hs⟩
theorem nx_four {p : List Pg} {s : Int} {kn : Bool} {b : Int × Int} (hp : fE (errA L4 p) p.length = 0) (hl : p.length ≤ 1000) (hs : -1 ≤ s ∧ s < 4) (hb : nxD L4 (lvL L4 p) s kn p p.length = b) : nxtF p L4 s kn = nxtV b := by
  have hq := qu_four hp hs
  rw [nxtF, if_pos hq, nxD_ok (val_lv chk_four (by omega)) hs (fun i h => qu_in hq h), hb]
theorem rs_four {p : List Pg} {s : Int} {kn : Bool} (hp : fE (errA L4 p) p.length = 0) (hl : p.length ≤ 1000) (hs : -1 ≤ s ∧ s < 4) {i : Nat} (hi : i < p.length) {r : Int} (hr : rsnD L4 (lvL L4 p) s kn p[i] = r) : rsn L4 (lvL L4 p) s kn p[i] = r := by
  rw [rsnD_ok (val_lv chk_four (by omega)) hs (qu_in (qu_four hp hs) hi), hr]
theorem ex_c {Q : D → Heap → Prop} (h : ∀ kp ka h', ka ≠ kp → h' kp = some (P4.flatMap Pg.cells) → h' ka = some (L4.flatMap Acct.cells) → Q (.agg [.sl kp 7 0 4, .sl ka 5 0 4, .int .i64 (-1), .bool false]) h') : Con Try.prog 40 [] (fun _ => none) Q := by
  refine con_of_W mixed Try.func40 A40k A40c (by simp [A40]) ?_
  simp only [A40, argEnv]
  repeat' (first | (with_reducible first | refine W_seq ?_ | refine then_n ?_ | refine W_skip ?_ | refine W_ret ?_ | refine then_r ?_) | ((with_reducible refine s_reg ?_); intro K hK) | ((with_reducible refine k_nil ?_); (with_reducible apply s_nil hK); (· exact nmX); clear hK; clear K) | ((with_reducible refine k_guard ?_); (first | (refine s_gt rfl ?_) | (refine s_gf1 rfl ?_) | (refine s_gfn rfl ?_) | (refine s_gx1 rfl ?_) | (refine s_gxn rfl ?_) | (refine s_gs rfl ?_))) | ((with_reducible refine k_mv ?_); (refine s_mv rfl ?_)) | ((with_reducible refine k_store ?_); ((with_reducible apply s_store0); (· rfl); (· rfl); (· rfl); (· (exact hpX)); (· (exact ⟨rfl, by first | exact Nat.le_of_ble_eq_true rfl | omega | (simp; omega)⟩)); (· ((first | exact liL | exact liO))); (· (first | exact upd_upd | rfl)))) | ((with_reducible refine k_alloc (dst := some 0) ?_); ((with_reducible apply s_alloc); intro k0 hk0; (try simp only [upd_none] at hk0))) | ((with_reducible refine k_build ?_); ((with_reducible apply s_build); (· rfl); (· rfl))) | ((with_reducible refine k_buildS (dst := some 7) ?_); ((with_reducible apply s_buildS); (· rfl); (· (exact ⟨rfl, by decide⟩)); (· (first | (simp only [fillB, rep, splice, List.reduceReplicate, List.flatten_cons, List.flatten_nil, List.cons_append, List.nil_append, List.append_nil, List.length_cons, List.length_nil, Nat.reduceAdd, Nat.reduceMul, Nat.reduceLeDiff, Nat.reduceEqDiff, eq_self, Nat.le_refl, Nat.zero_add, and_self, and_true, true_and, if_true, List.take_zero, List.take_succ_cons, List.drop_zero, List.drop_succ_cons, List.drop_nil, List.take_nil]; rfl) | rfl)); intro k7 hk7; (try simp only [upd_none] at hk7))) | ((with_reducible refine k_buildS (dst := some 12) ?_); ((with_reducible apply s_buildS); (· rfl); (· (exact ⟨rfl, by decide⟩)); (· (first | (simp only [fillB, rep, splice, List.reduceReplicate, List.flatten_cons, List.flatten_nil, List.cons_append, List.nil_append, List.append_nil, List.length_cons, List.length_nil, Nat.reduceAdd, Nat.reduceMul, Nat.reduceLeDiff, Nat.reduceEqDiff, eq_self, Nat.le_refl, Nat.zero_add, and_self, and_true, true_and, if_true, List.take_zero, List.take_succ_cons, List.drop_zero, List.drop_succ_cons, List.drop_nil, List.take_nil]; rfl) | rfl)); intro k12 hk12; (try simp only [upd_none] at hk12))) | ((with_reducible refine k_br ?_); (first | (with_reducible first | refine Br_dec ?_ | refine Br_not ?_ | refine Br_eqF ?_ | refine Br_and ?_ | refine Br_or ?_ | refine Br_neg ?_ | refine Br_band ?_ | refine Br_bor ?_ | refine Br_beq ?_) | (refine Br_t (by first | omega | assumption | rfl) ?_) | (refine Br_f (by first | omega | assumption | decide) ?_) | (with_reducible apply Br_sb <;> intro hbr <;> (first | subst hbr | simp only [hbr] | skip)) | (with_reducible apply Br_s <;> intro hbr))) | (with_reducible refine WN_succ ?_) | ((first | (with_reducible apply q_eqI) | (with_reducible apply q_eqN)); (first | exact nuI | exact nuN)) | ((first | (with_reducible apply q_eqL) | (with_reducible apply q_eqO)); (first | exact liL | exact liO)))
  refine ⟨trivial, _, ?_, h k12 k7 _ (fun h => hk12.1 h.symm) ?_ ?_⟩
  · simp [resD, resL, AM.get, upd_self, memAt, ldD]
  · dsimp only; rw [upd_ne hk12.2.1, upd_self]; rfl
  · dsimp only; rw [upd_ne hk7.1, upd_ne (fun h => hk12.1 h.symm), upd_self]; rfl
theorem awake_c : PCon Try.prog 15 [] (.bool true) := by
  have n1 : PCon Try.prog 25 [.vs 7 (P4.flatMap Pg.cells) 4, .vs 5 (L4.flatMap Acct.cells) 4, .int .i64 (-1), .bool false] (.int .i64 0) := by
    have := Next_c P4 L4 (by decide) (by decide) (-1) false
    rwa [nx_four (b := (0, 0)) (by decide) (by decide) (by decide) (by decide)] at this
  have n2 : PCon Try.prog 25 [.vs 7 (P4.flatMap Pg.cells) 4, .vs 5 (L4.flatMap Acct.cells) 4, .int .i64 2, .bool true] (.int .i64 1) := by
    have := Next_c P4 L4 (by decide) (by decide) 2 true
    rwa [nx_four (b := (1, 1)) (by decide) (by decide) (by decide) (by decide)] at this
  have n3 : PCon Try.prog 25 [.vs 7 (P4b.flatMap Pg.cells) 4, .vs 5 (L4.flatMap Acct.cells) 4, .int .i64 1, .bool true] (.int .i64 (-1)) := by
    have := Next_c P4b L4 (by decide) (by decide) 1 true
    rwa [nx_four (b := (-1, -1)) (by decide) (by decide) (by decide) (by decide)] at this
  have n4 : PCon Try.prog 20 [.vs 7 (P4.flatMap Pg.cells) 4, .vs 5 (L4.flatMap Acct.cells) 4, .int .i64 (-1), .int .i64 1, .bool false] (.int .i64 11) := by
    have := Reason_c P4 L4 (by decide) (by decide) (-1) 1 false
    rw [reaF, if_pos (qu_four (by decide) (by decide)), dif_pos (by decide)] at this
    have e := rs_four (p := P4) (s := -1) (kn := false) (r := 11) (by decide) (by decide) (by decide) (i := 1) (by decide) (by decide)
    change PCon _ _ _ (.int .i64 (rsn L4 (lvL L4 P4) (-1) false (P4[1]'(by decide)))) at this
    rwa [e] at this
  have w1 : PCon Try.prog 23 [.vs 7 (P4b.flatMap Pg.cells) 4, .vs 5 (L4.flatMap Acct.cells) 4, .int .i64 1, .bool true] (.ow 7 [.int .i64 0, .int .i64 3, .int .i64 5, .int .i64 7, .int .i64 (-1), .bool true, .bool false, .int .i64 1, .int .i64 2, .int .i64 0, .int .i64 13, .int .i64 (-1), .bool true, .bool false, .int .i64 2, .int .i64 1, .int .i64 7, .int .i64 12, .int .i64 (-1), .bool false, .bool false, .int .i64 3, .int .i64 (-1), .int .i64 (-1), .int .i64 13, .int .i64 (-1), .bool true, .bool false] 4) := by
    have := Witness_c P4b L4 (by decide) (by decide) 1 true (by decide)
    have e0 := rs_four (p := P4b) (s := 1) (kn := true) (r := 7) (by decide) (by decide) (by decide) (i := 0) (by decide) (by decide)
    have e1 := rs_four (p := P4b) (s := 1) (kn := true) (r := 13) (by decide) (by decide) (by decide) (i := 1) (by decide) (by decide)
    have e2 := rs_four (p := P4b) (s := 1) (kn := true) (r := 12) (by decide) (by decide) (by decide) (i := 2) (by decide) (by decide)
    have e3 := rs_four (p := P4b) (s := 1) (kn := true) (r := 13) (by decide) (by decide) (by decide) (i := 3) (by decide) (by decide)
    simp only [List.getElem_cons_zero, List.getElem_cons_succ] at e0 e1 e2 e3
    rw [witF, if_pos (qu_four (by decide) (by decide))] at this
    simp only [List.map_cons, List.map_nil, wit, wrP, e0, e1, e2, e3] at this
    exact this
  have v1 : PCon Try.prog 31 [.vs 7 (P4c.flatMap Pg.cells) 4, .vs 5 (L4.flatMap Acct.cells) 4, .int .i64 1, .bool true, .vs 7 [] 0] (.int .i64 3) := by
    have := Verify_c P4c L4 (by decide) (by decide) 1 true []
    rwa [verF, if_pos (askE_ok.2 (qu_four (by decide) (by decide))), if_neg (by decide)] at this
  have u1 : PCon Try.prog 27 [.vs 7 (P4c.flatMap Pg.cells) 4, .vs 5 (L4.flatMap Acct.cells) 4, .int .i64 1, .bool false] (.int .i64 1) := by
    have := Useful_c P4c L4 (by decide) (by decide) 1 false
    have e2 := rs_four (p := P4c) (s := 1) (kn := false) (r := 8) (by decide) (by decide) (by decide) (i := 2) (by decide) (by decide)
    simp only [List.getElem_cons_zero, List.getElem_cons_succ] at e2
    rw [useF, if_pos (qu_four (by decide) (by decide))] at this
    simp [cG, usB, e2] at this
    exact this
  have t1 : PCon Try.prog 29 [.vs 7 (P4c.flatMap Pg.cells) 4, .vs 5 (L4.flatMap Acct.cells) 4, .int .i64 (-1), .bool false] (.bool true) := by
    have := Transit_c P4c L4 (by decide) (by decide) (-1) false
    have e2 := rs_four (p := P4c) (s := -1) (kn := false) (r := 8) (by decide) (by decide) (by decide) (i := 2) (by decide) (by decide)
    simp only [List.getElem_cons_zero, List.getElem_cons_succ] at e2
    rwa [decide_eq_true (show trP P4c L4 (-1) false from ⟨qu_four (by decide) (by decide), _, by simp, e2⟩)] at this
  have kc : PCon Try.prog 17 [.vs 7 [] 0, .vs 5 [] 0] (.int .i64 9) := by
    have h9 : chkF [] = 9 := by unfold chkF; rw [if_pos (by decide)]
    have := pcheck_c [] [] (by decide) (by decide)
    rwa [pchk, if_neg (by rw [h9]; decide), h9] at this
  refine A15p (by simp [A15]) ?_
  simp only [A15, argEnv]
  have s1 : List.take 3 (P4.flatMap Pg.cells) ++ [.int .i64 7] ++ List.drop 4 (P4.flatMap Pg.cells) = P4b.flatMap Pg.cells := rfl
  have s2 : List.take 20 (P4b.flatMap Pg.cells) ++ [.bool true] ++ List.drop 21 (P4b.flatMap Pg.cells) = P4c.flatMap Pg.cells := rfl
  repeat' (first | (with_reducible first | refine W_seq ?_ | refine then_n ?_ | refine W_skip ?_ | refine W_ret ?_ | refine then_r ?_) | ((with_reducible refine s_reg ?_); intro K hK) | ((with_reducible refine k_nil ?_); (with_reducible apply s_nil hK); (· exact nmX); clear hK; clear K) | ((with_reducible refine k_cond ?_); (first | ((with_reducible apply s_condT); (· rfl); (· exact nmX)) | ((with_reducible apply s_condF); (· rfl); (· exact nmX)) | ((with_reducible apply s_condS); (· rfl); (· exact nmX); (· exact nmX)))) | ((with_reducible refine k_guard ?_); (first | (refine s_gt rfl ?_) | (refine s_gf1 rfl ?_) | (refine s_gfn rfl ?_) | (refine s_gx1 rfl ?_) | (refine s_gxn rfl ?_) | (refine s_gs rfl ?_))) | ((with_reducible refine k_mv ?_); (refine s_mv rfl ?_)) | ((with_reducible refine k_len ?_); (first | (refine s_len rfl rfl ?_) | ((with_reducible apply s_len); (· rfl); (· exact SlOwn.len (by assumption))))) | ((with_reducible refine k_pick ?_); (first | (refine s_pickT rfl rfl ?_) | (refine s_pickF rfl rfl ?_))) | ((with_reducible refine k_eql ?_); (first | (refine s_eql rfl rfl ?_) | (refine s_strEq rfl rfl ?_))) | ((with_reducible refine k_neq ?_); (first | (refine s_neq rfl rfl ?_) | (refine s_strNe rfl rfl ?_))) | ((with_reducible refine k_iaddr ?_); (first | ((with_reducible apply s_iaddrV); (· rfl); (· rfl); (· (first | omega | exact ⟨rfl, by omega⟩ | skip))) | ((with_reducible apply s_iaddrO); (· rfl); (· rfl); (· (first | omega | exact ⟨rfl, by omega⟩ | skip)); (· (exact hpX))) | ((with_reducible apply s_iaddrSO); (· rfl); (· assumption); (· rfl); (· (first | omega | exact ⟨rfl, by omega⟩ | skip)); (· (first | (simp (disch := omega) only [w64, wu8, wu16, wu32, wu64, tm_nn, td_nn, fd_nn, Int.reduceAdd, Int.reduceSub, Int.reduceMul, Int.reduceDiv, Int.reduceMod, Int.reduceNeg, Int.reduceToNat, Int.toNat_natCast, Int.toNat_zero, Int.zero_add, Int.add_zero, Int.one_mul, Int.reducePow, Nat.mul_one, Nat.zero_add, Nat.add_zero, Nat.zero_mul, Nat.reduceAdd, Nat.reduceMul, Nat.reduceSub, Nat.min_eq_left, IntKind.bits, Nat.sub_zero, s1, s2]; try rfl; done) | rfl)); intro ks hks))) | ((with_reducible refine k_load ?_); (first | ((with_reducible apply s_loadV); (· rfl)) | ((with_reducible apply s_loadP); (· rfl); (· (exact hpX))))) | ((with_reducible refine k_store ?_); ((with_reducible apply s_store0); (· rfl); (· rfl); (· rfl); (· (exact hpX)); (· (exact ⟨rfl, by first | exact Nat.le_of_ble_eq_true rfl | omega | (simp [s1, s2]; omega)⟩)); (· ((first | (simp (disch := omega) only [upd_self, upd_ne, upd_upd, rep, splice, List.take_succ_cons, List.take_zero, List.drop_succ_cons, List.drop_zero, List.cons_append, List.nil_append, List.append_nil, List.length_cons, List.length_nil, List.reduceReplicate, List.flatten_cons, List.flatten_nil, Nat.reduceAdd, Nat.reduceMul, Nat.reduceSub, Nat.zero_add, Nat.add_zero, List.getElem?_cons_zero, List.getElem?_cons_succ, s1, s2]; try rfl; done) | rfl))); (· (first | exact upd_upd | rfl)))) | ((with_reducible refine k_faddr ?_); (first | ((with_reducible apply s_faddrV); (· rfl); (· rfl)) | ((with_reducible apply s_faddrP); (· rfl); (· rfl)))) | ((with_reducible refine k_alloc (dst := some 1) ?_); ((with_reducible apply s_alloc); intro k1 hk1; (try simp only [upd_none] at hk1))) | ((with_reducible refine k_callF ?_); (first | ((with_reducible apply s_call1); (· rfl)) | ((with_reducible apply s_calln); (· rfl)))) | ((with_reducible refine k_con ?_); (first | (refine ex_c ?_; intro kp ka hE hne hP hA; (try dsimp only)) | ((with_reducible apply con_val (n1)); (· (repeat (first | exact All2.nil | (apply All2.cons; (· first | ((apply Rd_sl0); (· exact hpX); (· first | rfl | exact scal_i | exact scal_b | assumption); (· first | rfl | assumption | (simp [s1, s2]; done) | (simp [s1, s2]; omega))) | exact rdX))))); (· rfl); (· exact fun _ => rfl)) | ((with_reducible apply con_val (n2)); (· (repeat (first | exact All2.nil | (apply All2.cons; (· first | ((apply Rd_sl0); (· exact hpX); (· first | rfl | exact scal_i | exact scal_b | assumption); (· first | rfl | assumption | (simp [s1, s2]; done) | (simp [s1, s2]; omega))) | exact rdX))))); (· rfl); (· exact fun _ => rfl)) | ((with_reducible apply con_val (n3)); (· (repeat (first | exact All2.nil | (apply All2.cons; (· first | ((apply Rd_sl0); (· exact hpX); (· first | rfl | exact scal_i | exact scal_b | assumption); (· first | rfl | assumption | (simp [s1, s2]; done) | (simp [s1, s2]; omega))) | exact rdX))))); (· rfl); (· exact fun _ => rfl)) | ((with_reducible apply con_val (n4)); (· (repeat (first | exact All2.nil | (apply All2.cons; (· first | ((apply Rd_sl0); (· exact hpX); (· first | rfl | exact scal_i | exact scal_b | assumption); (· first | rfl | assumption | (simp [s1, s2]; done) | (simp [s1, s2]; omega))) | exact rdX))))); (· rfl); (· exact fun _ => rfl)) | ((with_reducible apply con_of_pcon (w1)); (· (repeat (first | exact All2.nil | (apply All2.cons; (· first | ((apply Rd_sl0); (· exact hpX); (· first | rfl | exact scal_i | exact scal_b | assumption); (· first | rfl | assumption | (simp [s1, s2]; done) | (simp [s1, s2]; omega))) | exact rdX))))); intro kW hkW; (try simp only [upd_none] at hkW); simp only [thaw, thawC, List.map, thawH, owOf, owL]) | ((with_reducible apply con_val (v1)); (· (repeat (first | exact All2.nil | (apply All2.cons; (· first | ((apply Rd_sl0); (· exact hpX); (· first | rfl | exact scal_i | exact scal_b | assumption); (· first | rfl | assumption | (simp [s1, s2]; done) | (simp [s1, s2]; omega))) | exact rdX))))); (· rfl); (· exact fun _ => rfl)) | ((with_reducible apply con_val (u1)); (· (repeat (first | exact All2.nil | (apply All2.cons; (· first | ((apply Rd_sl0); (· exact hpX); (· first | rfl | exact scal_i | exact scal_b | assumption); (· first | rfl | assumption | (simp [s1, s2]; done) | (simp [s1, s2]; omega))) | exact rdX))))); (· rfl); (· exact fun _ => rfl)) | ((with_reducible apply con_val (t1)); (· (repeat (first | exact All2.nil | (apply All2.cons; (· first | ((apply Rd_sl0); (· exact hpX); (· first | rfl | exact scal_i | exact scal_b | assumption); (· first | rfl | assumption | (simp [s1, s2]; done) | (simp [s1, s2]; omega))) | exact rdX))))); (· rfl); (· exact fun _ => rfl)) | ((with_reducible apply con_val (kc)); (· (repeat (first | exact All2.nil | (apply All2.cons; (· first | ((apply Rd_sl0); (· exact hpX); (· first | rfl | exact scal_i | exact scal_b | assumption); (· first | rfl | assumption | (simp [s1, s2]; done) | (simp [s1, s2]; omega))) | exact rdX))))); (· rfl); (· exact fun _ => rfl)))) | ((with_reducible refine k_br ?_); (first | (with_reducible first | refine Br_dec ?_ | refine Br_not ?_ | refine Br_eqF ?_ | refine Br_and ?_ | refine Br_or ?_ | refine Br_neg ?_ | refine Br_band ?_ | refine Br_bor ?_ | refine Br_beq ?_) | (refine Br_t (by first | omega | assumption | rfl) ?_) | (refine Br_f (by first | omega | assumption | decide) ?_) | (with_reducible apply Br_sb <;> intro hbr <;> (first | subst hbr | simp only [hbr] | skip)) | (with_reducible apply Br_s <;> intro hbr))) | (with_reducible refine WN_succ ?_) | ((first | (with_reducible apply q_eqI) | (with_reducible apply q_eqN)); (first | (simp (disch := omega) only [w64, wu8, wu16, wu32, wu64, tm_nn, td_nn, fd_nn, Int.reduceAdd, Int.reduceSub, Int.reduceMul, Int.reduceDiv, Int.reduceMod, Int.reduceNeg, Int.reduceToNat, Int.toNat_natCast, Int.toNat_zero, Int.zero_add, Int.add_zero, Int.one_mul, Int.reducePow, Nat.mul_one, Nat.zero_add, Nat.add_zero, Nat.zero_mul, Nat.reduceAdd, Nat.reduceMul, Nat.reduceSub, Nat.min_eq_left, IntKind.bits, Nat.sub_zero, s1, s2]; try rfl; done) | rfl)) | ((first | (with_reducible apply q_eqL) | (with_reducible apply q_eqO)); (first | (simp (disch := omega) only [upd_self, upd_ne, upd_upd, rep, splice, List.take_succ_cons, List.take_zero, List.drop_succ_cons, List.drop_zero, List.cons_append, List.nil_append, List.append_nil, List.length_cons, List.length_nil, List.reduceReplicate, List.flatten_cons, List.flatten_nil, Nat.reduceAdd, Nat.reduceMul, Nat.reduceSub, Nat.zero_add, Nat.add_zero, List.getElem?_cons_zero, List.getElem?_cons_succ, s1, s2]; try rfl; done) | rfl)))
  all_goals first | exact Fin_flat trivial rfl rfl | (refine Fin_tup trivial rfl ?_ (Nat.le_of_ble_eq_true rfl); (repeat (first | exact All2.nil | (apply All2.cons; (· first | exact exc_n | exact exc_e | exact exc_v rfl rfl | exact exc_o upd_self rfl rfl)))); done) | (refine Fin_own trivial rfl upd_self ?_ (Nat.le_of_ble_eq_true rfl); (repeat (first | exact All2.nil | (apply All2.cons; (· first | exact exc_n | exact exc_e | exact exc_v rfl rfl | exact exc_o upd_self rfl rfl)))); done) | exact Fin_nil trivial rfl | exact Fin_sl trivial rfl upd_self rfl rfl
end Go.Proofs.Ytfdfmbmhefckaaa
