import Derived.Test.YtfdfmbmhefckaaaNR7qc0e00a
import Derived.Test.YtfdfmbmhefckaaaNAmZ3q0bf57a
section
/- Reclaim plans: the example. -/
set_option linter.unusedSimpArgs false
set_option linter.unusedVariables false
namespace Go.Proofs.Ytfdfmbmhefckaaa
open Go.AM Classical
set_option maxRecDepth 100000
set_option maxHeartbeats 4000000
instance (l : List Acct) (v : List Int) (a s : Int) (low : Bool) : Decidable (stuckP l v a s low) := inferInstanceAs (Decidable (∃ x ∈ pathG l 8 a, 0 < x ∧ s < x ∧ us l x.toNat - insF l (vF v) x ≤ flr l low x.toNat))
def outD (l : List Acct) (s : Int) (q : Pg) : Bool := decide (0 ≤ s) && (decide (q.account < 0) || !(decide (s ∈ pathG l 8 q.account)))
def gdD (l : List Acct) (v : List Int) (s : Int) (low : Bool) (q : Pg) : Bool := decide (0 ≤ q.account) && (!(decide (s = -1) || decide (s ∈ pathG l 8 q.account)) || decide (stuckP l v q.account s low))
def rsnD (l : List Acct) (v : List Int) (s : Int) (kn : Bool) (q : Pg) : Int :=
  if outD l s q = true then 13 else if kn = true ∧ q.normal = false then 12 else if q.leaving = true then 8 else if q.reason ≠ 0 ∧ q.reason ≠ 8 then q.reason else if gdD l v s false q = true then 11 else q.reason
theorem outD_ok {l : List Acct} {s : Int} {q : Pg} (hc : chkF l = 0) (hq : q.account < l.length) : outD l s q = true ↔ outP l s q := by
  unfold outD outP
  simp only [Bool.and_eq_true, decide_eq_true_eq, Bool.or_eq_true, Bool.not_eq_true', decide_eq_false_iff_not]
  refine and_congr_right fun h0 => ?_
  by_cases ha : q.account < 0
  · simp only [ha, true_or]
  · have hp : isP l q.account := ⟨hc, by omega, hq⟩
    unfold insP
    rw [pathF_is hp]
    exact or_congr Iff.rfl (not_congr ⟨fun h => ⟨hp, .inr h⟩, fun h => h.2.resolve_left (by omega)⟩)
theorem gdD_ok {l : List Acct} {v : List Int} {s : Int} {low : Bool} {q : Pg} (hv : valP l v) (hs : -1 ≤ s ∧ s < l.length) (hq : q.account < l.length) : gdD l v s low q = true ↔ gdP l v s low q := by
  unfold gdD gdP
  simp only [Bool.and_eq_true, decide_eq_true_eq, Bool.or_eq_true, Bool.not_eq_true', Bool.or_eq_false_iff, decide_eq_false_iff_not]
  refine and_congr_right fun h0 => ?_
  unfold grdP
  refine or_congr ?_ Iff.rfl
  constructor
  · rintro ⟨h1, h2⟩ ⟨_, h3 | h3⟩
    · exact h1 h3
    · exact h2 h3
  · intro h
    exact ⟨fun h1 => h ⟨⟨hv, ⟨h0, hq⟩, hs⟩, .inl h1⟩, fun h1 => h ⟨⟨hv, ⟨h0, hq⟩, hs⟩, .inr h1⟩⟩
theorem rsnD_ok {l : List Acct} {v : List Int} {s : Int} {kn : Bool} {q : Pg} (hv : valP l v) (hs : -1 ≤ s ∧ s < l.length) (hq : q.account < l.length) : rsn l v s kn q = rsnD l v s kn q := by
  unfold rsn rsnD
  simp only [outD_ok hv.1 hq, gdD_ok hv hs hq]
def nxD (l : List Acct) (v : List Int) (s : Int) (kn : Bool) (p : List Pg) : Nat → Int × Int
  | 0 => (-1, -1)
  | i + 1 => if h : i < p.length then
      (if rsnD l v s kn p[i] = 0 then
        (if gdD l v s true p[i] = false ∧ ((nxD l v s kn p i).1 < 0 ∨ p[i].age < agA p (nxD l v s kn p i).1) then (i : Int) else (nxD l v s kn p i).1,
         if (nxD l v s kn p i).2 < 0 ∨ p[i].age < agA p (nxD l v s kn p i).2 then (i : Int) else (nxD l v s kn p i).2)
       else nxD l v s kn p i) else nxD l v s kn p i
theorem nxD_ok {l : List Acct} {v : List Int} {s : Int} {kn : Bool} {p : List Pg} (hv : valP l v) (hs : -1 ≤ s ∧ s < l.length) (hq : ∀ i (h : i < p.length), p[i].account < l.length) : ∀ i, nxS l v s kn p i = nxD l v s kn p i
  | 0 => rfl
  | i + 1 => by
    unfold nxS nxD
    rw [nxD_ok hv hs hq i]
    by_cases h : i < p.length
    · rw [dif_pos h, dif_pos h]
      have h1 := gdD_ok (low := true) hv hs (hq i h)
      have h2 : ¬ gdP l v s true p[i] ↔ gdD l v s true p[i] = false := by
        rw [← h1]; simp
      simp only [rsnD_ok hv hs (hq i h), h2]
    · rw [dif_neg h, dif_neg h]
abbrev L4 : List Acct := [⟨-1, 10, 0, 0, 20⟩, ⟨0, 6, 4, 0, 20⟩, ⟨0, 4, 4, 0, 20⟩, ⟨1, 5, 3, 0, 20⟩]
abbrev P4 : List Pg := [⟨0, 3, 5, 0, -1, true, false⟩, ⟨1, 2, 0, 0, -1, true, false⟩, ⟨2, 1, 7, 0, -1, false, false⟩, ⟨3, -1, -1, 1, -1, true, false⟩]
abbrev P4b : List Pg := [⟨0, 3, 5, 7, -1, true, false⟩, ⟨1, 2, 0, 0, -1, true, false⟩, ⟨2, 1, 7, 0, -1, false, false⟩, ⟨3, -1, -1, 1, -1, true, false⟩]
abbrev P4c : List Pg := [⟨0, 3, 5, 7, -1, true, false⟩, ⟨1, 2, 0, 0, -1, true, false⟩, ⟨2, 1, 7, 0, -1, false, true⟩, ⟨3, -1, -1, 1, -1, true, false⟩]
theorem four_at {i : Nat} (h : i < L4.length) : i = 0 ∨ i = 1 ∨ i = 2 ∨ i = 3 := by
  simp at h; omega
theorem chk_four : chkF L4 = 0 := by
  refine chk_mk (by decide) ?_ ⟨?_, fun _ => ⟨rfl, rfl⟩⟩ ?_ ?_
  · intro i _ h; rcases four_at h with rfl | rfl | rfl | rfl <;> simp [okP]
  · intro i _ h; rcases four_at h with rfl | rfl | rfl | rfl <;> simp [okA, inR]
  · intro a h
    simp at h
    rcases h with rfl | rfl | rfl | rfl <;> decide
  · intro i h; rcases four_at h with rfl | rfl | rfl | rfl <;> decide
theorem qu_four {p : List Pg} {s : Int} (hp : fE (errA L4 p) p.length = 0) (hs : -1 ≤ s ∧ s < 4) : quP p L4 s := ⟨by rw [pchk, if_pos chk_four, hp], hs⟩
theorem nx_four {p : List Pg} {s : Int} {kn : Bool} {b : Int × Int} (hp : fE (errA L4 p) p.length = 0) (hl : p.length ≤ 1000) (hs : -1 ≤ s ∧ s < 4) (hb : nxD L4 (lvL L4 p) s kn p p.length = b) : nxtF p L4 s kn = nxtV b := by
  have hq := qu_four hp hs
  rw [nxtF, if_pos hq, nxD_ok (val_lv chk_four (by omega)) hs (fun i h => qu_in hq h), hb]
theorem rs_four {p : List Pg} {s : Int} {kn : Bool} (hp : fE (errA L4 p) p.length = 0) (hl : p.length ≤ 1000) (hs : -1 ≤ s ∧ s < 4) {i : Nat} (hi : i < p.length) {r : Int} (hr : rsnD L4 (lvL L4 p) s kn p[i] = r) : rsn L4 (lvL L4 p) s kn p[i] = r := by
  rw [rsnD_ok (val_lv chk_four (by omega)) hs (qu_in (qu_four hp hs) hi), hr]
theorem ex_c {Q : D → Heap → Prop} (h : ∀ kp ka h', ka ≠ kp → h' kp = some (P4.flatMap Pg.cells) → h' ka = some (L4.flatMap Acct.cells) → Q (.agg [.sl kp 7 0 4, .sl ka 5 0 4, .int .i64 (-1), .bool false]) h') : Con Try.prog 40 [] (fun _ => none) Q := by
  refine con_of_W mixed Try.func40 A40k A40c (by simp [A40]) ?_
  simp only [A40, argEnv]
  repeat' (first | (with_reducible first | refine W_seq ?_ | refine then_n ?_ | refine W_skip ?_ | refine W_ret ?_ | refine then_r ?_) | ((with_reducible refine s_reg ?_); intro K hK) | ((with_reducible refine k_nil ?_); (with_reducible apply s_nil hK); (· exact nmX); clear hK; clear K) | ((with_reducible refine k_guard ?_); (first | (refine s_gt rfl ?_) | (refine s_gf1 rfl ?_) | (refine s_gfn rfl ?_) | (refine s_gx1 rfl ?_) | (refine s_gxn rfl ?_) | (refine s_gs rfl ?_))) | ((with_reducible refine k_mv ?_); (refine s_mv rfl ?_)) | ((with_reducible refine k_store ?_); ((with_reducible apply s_store0); (· rfl); (· rfl); (· rfl); (· (exact hpX)); (· (exact ⟨rfl, by first | exact Nat.le_of_ble_eq_true rfl | omega | (simp; omega)⟩)); (· ((first | exact liL | exact liO))); (· (first | exact upd_upd | rfl)))) | ((with_reducible refine k_alloc (dst := some 0) ?_); ((with_reducible apply s_alloc); intro k0 hk0; (try simp only [upd_none] at hk0))) | ((with_reducible refine k_build ?_); ((with_reducible apply s_build); (· rfl); (· rfl))) | ((with_reducible refine k_buildS (dst := some 7) ?_); ((with_reducible apply s_buildS); (· rfl); (· (exact ⟨rfl, by decide⟩)); (· (first | (simp only [fillB, rep, splice, List.reduceReplicate, List.flatten_cons, List.flatten_nil, List.cons_append, List.nil_append, List.append_nil, List.length_cons, List.length_nil, Nat.reduceAdd, Nat.reduceMul, Nat.reduceLeDiff, Nat.reduceEqDiff, eq_self, Nat.le_refl, Nat.zero_add, and_self, and_true, true_and, if_true, List.take_zero, List.take_succ_cons, List.drop_zero, List.drop_succ_cons, List.drop_nil, List.take_nil]; rfl) | rfl)); intro k7 hk7; (try simp only [upd_none] at hk7))) | ((with_reducible refine k_buildS (dst := some 12) ?_); ((with_reducible apply s_buildS); (· rfl); (· (exact ⟨rfl, by decide⟩)); (· (first | (simp only [fillB, rep, splice, List.reduceReplicate, List.flatten_cons, List.flatten_nil, List.cons_append, List.nil_append, List.append_nil, List.length_cons, List.length_nil, Nat.reduceAdd, Nat.reduceMul, Nat.reduceLeDiff, Nat.reduceEqDiff, eq_self, Nat.le_refl, Nat.zero_add, and_self, and_true, true_and, if_true, List.take_zero, List.take_succ_cons, List.drop_zero, List.drop_succ_cons, List.drop_nil, List.take_nil]; rfl) | rfl)); intro k12 hk12; (try simp only [upd_none] at hk12))) | ((with_reducible refine k_br ?_); (first | (with_reducible first | refine Br_dec ?_ | refine Br_not ?_ | refine Br_eqF ?_ | refine Br_and ?_ | refine Br_or ?_ | refine Br_neg ?_ | refine Br_band ?_ | refine Br_bor ?_ | refine Br_beq ?_) | (refine Br_t (by first | omega | assumption | rfl) ?_) | (refine Br_f (by first | omega | assumption | decide) ?_) | (with_reducible apply Br_sb <;> intro hbr <;> (first | subst hbr | simp only [hbr] | skip)) | (with_reducible apply Br_s <;> intro hbr))) | (with_reducible refine WN_succ ?_) | ((first | (with_reducible apply q_eqI) | (with_reducible apply q_eqN)); (first | exact nuI | exact nuN)) | ((first | (with_reducible apply q_eqL) | (with_reducible apply q_eqO)); (first | exact liL | exact liO)))
  refine ⟨trivial, _, ?_, h k12 k7 _ (fun h => hk12.1 h.symm) ?_ ?_⟩
  · simp [resD, resL, AM.get, upd_self, memAt, ldD]
  · dsimp only; rw [upd_ne hk12.2.1, upd_self]; rfl
  · dsimp only; rw [upd_ne hk7.1, upd_ne (fun h => hk12.1 h.symm), upd_self]; rfl
theorem awake_c : PCon Try.prog 15 [] (.bool true) := by
  have n1 : PCon Try.prog 25 [.vs 7 (P4.flatMap Pg.cells) 4, .vs 5 (L4.flatMap Acct.cells) 4, .int .i64 (-1), .bool false] (.int .i64 0) := by
    have := Next_c P4 L4 (by decide) (by decide) (-1) false
    rwa [nx_four (b := (0, 0)) (by decide) (by decide) (by decide) (by decide)] at this
  have n2 : PCon Try.prog 25 [.vs 7 (P4.flatMap Pg.cells) 4, .vs 5 (L4.flatMap Acct.cells) 4, .int .i64 2, .bool true] (.int .i64 1) := by
    have := Next_c P4 L4 (by decide) (by decide) 2 true
    rwa [nx_four (b := (1, 1)) (by decide) (by decide) (by decide) (by decide)] at this
  have n3 : PCon Try.prog 25 [.vs 7 (P4b.flatMap Pg.cells) 4, .vs 5 (L4.flatMap Acct.cells) 4, .int .i64 1, .bool true] (.int .i64 (-1)) := by
    have := Next_c P4b L4 (by decide) (by decide) 1 true
    rwa [nx_four (b := (-1, -1)) (by decide) (by decide) (by decide) (by decide)] at this
  have n4 : PCon Try.prog 20 [.vs 7 (P4.flatMap Pg.cells) 4, .vs 5 (L4.flatMap Acct.cells) 4, .int .i64 (-1), .int .i64 1, .bool false] (.int .i64 11) := by
    have := Reason_c P4 L4 (by decide) (by decide) (-1) 1 false
    rw [reaF, if_pos (qu_four (by decide) (by decide)), dif_pos (by decide)] at this
    have e := rs_four (p := P4) (s := -1) (kn := false) (r := 11) (by decide) (by decide) (by decide) (i := 1) (by decide) (by decide)
    change PCon _ _ _ (.int .i64 (rsn L4 (lvL L4 P4) (-1) false (P4[1]'(by decide)))) at this
    rwa [e] at this
  have w1 : PCon Try.prog 23 [.vs 7 (P4b.flatMap Pg.cells) 4, .vs 5 (L4.flatMap Acct.cells) 4, .int .i64 1, .bool true] (.ow 7 [.int .i64 0, .int .i64 3, .int .i64 5, .int .i64 7, .int .i64 (-1), .bool true, .bool false, .int .i64 1, .int .i64 2, .int .i64 0, .int .i64 13, .int .i64 (-1), .bool true, .bool false, .int .i64 2, .int .i64 1, .int .i64 7, .int .i64 12, .int .i64 (-1), .bool false, .bool false, .int .i64 3, .int .i64 (-1), .int .i64 (-1), .int .i64 13, .int .i64 (-1), .bool true, .bool false] 4) := by
    have := Witness_c P4b L4 (by decide) (by decide) 1 true
    have e0 := rs_four (p := P4b) (s := 1) (kn := true) (r := 7) (by decide) (by decide) (by decide) (i := 0) (by decide) (by decide)
    have e1 := rs_four (p := P4b) (s := 1) (kn := true) (r := 13) (by decide) (by decide) (by decide) (i := 1) (by decide) (by decide)
    have e2 := rs_four (p := P4b) (s := 1) (kn := true) (r := 12) (by decide) (by decide) (by decide) (i := 2) (by decide) (by decide)
    have e3 := rs_four (p := P4b) (s := 1) (kn := true) (r := 13) (by decide) (by decide) (by decide) (i := 3) (by decide) (by decide)
    simp only [List.getElem_cons_zero, List.getElem_cons_succ] at e0 e1 e2 e3
    rw [witF, if_pos (qu_four (by decide) (by decide))] at this
    simp only [List.map_cons, List.map_nil, wit, wrP, e0, e1, e2, e3] at this
    exact this
  have v1 : PCon Try.prog 31 [.vs 7 (P4c.flatMap Pg.cells) 4, .vs 5 (L4.flatMap Acct.cells) 4, .int .i64 1, .bool true, .vs 7 [] 0] (.int .i64 3) := by
    have := Verify_c P4c L4 (by decide) (by decide) 1 true []
    rwa [verF, if_pos (askE_ok.2 (qu_four (by decide) (by decide))), if_neg (by decide)] at this
  have u1 : PCon Try.prog 27 [.vs 7 (P4c.flatMap Pg.cells) 4, .vs 5 (L4.flatMap Acct.cells) 4, .int .i64 1, .bool false] (.int .i64 1) := by
    have := Useful_c P4c L4 (by decide) (by decide) 1 false
    have e2 := rs_four (p := P4c) (s := 1) (kn := false) (r := 8) (by decide) (by decide) (by decide) (i := 2) (by decide) (by decide)
    simp only [List.getElem_cons_zero, List.getElem_cons_succ] at e2
    rw [useF, if_pos (qu_four (by decide) (by decide))] at this
    simp [cG, usB, e2] at this
    exact this
  have t1 : PCon Try.prog 29 [.vs 7 (P4c.flatMap Pg.cells) 4, .vs 5 (L4.flatMap Acct.cells) 4, .int .i64 (-1), .bool false] (.bool true) := by
    have := Transit_c P4c L4 (by decide) (by decide) (-1) false
    have e2 := rs_four (p := P4c) (s := -1) (kn := false) (r := 8) (by decide) (by decide) (by decide) (i := 2) (by decide) (by decide)
    simp only [List.getElem_cons_zero, List.getElem_cons_succ] at e2
    rwa [decide_eq_true (show trP P4c L4 (-1) false from ⟨qu_four (by decide) (by decide), _, by simp, e2⟩)] at this
  have kc : PCon Try.prog 17 [.vs 7 [] 0, .vs 5 [] 0] (.int .i64 9) := by
    have h9 : chkF [] = 9 := by unfold chkF; rw [if_pos (by decide)]
    have := pcheck_c [] [] (by decide) (by decide)
    rwa [pchk, if_neg (by rw [h9]; decide), h9] at this
  refine A15p (by simp [A15]) ?_
  simp only [A15, argEnv]
  have s1 : List.take 3 (P4.flatMap Pg.cells) ++ [.int .i64 7] ++ List.drop 4 (P4.flatMap Pg.cells) = P4b.flatMap Pg.cells := rfl
  have s2 : List.take 20 (P4b.flatMap Pg.cells) ++ [.bool true] ++ List.drop 21 (P4b.flatMap Pg.cells) = P4c.flatMap Pg.cells := rfl
  repeat' (first | (with_reducible first | refine W_seq ?_ | refine then_n ?_ | refine W_skip ?_ | refine W_ret ?_ | refine then_r ?_) | ((with_reducible refine s_reg ?_); intro K hK) | ((with_reducible refine k_nil ?_); (with_reducible apply s_nil hK); (· exact nmX); clear hK; clear K) | ((with_reducible refine k_cond ?_); (first | ((with_reducible apply s_condT); (· rfl); (· exact nmX)) | ((with_reducible apply s_condF); (· rfl); (· exact nmX)) | ((with_reducible apply s_condS); (· rfl); (· exact nmX); (· exact nmX)))) | ((with_reducible refine k_guard ?_); (first | (refine s_gt rfl ?_) | (refine s_gf1 rfl ?_) | (refine s_gfn rfl ?_) | (refine s_gx1 rfl ?_) | (refine s_gxn rfl ?_) | (refine s_gs rfl ?_))) | ((with_reducible refine k_mv ?_); (refine s_mv rfl ?_)) | ((with_reducible refine k_len ?_); (first | (refine s_len rfl rfl ?_) | ((with_reducible apply s_len); (· rfl); (· exact SlOwn.len (by assumption))))) | ((with_reducible refine k_pick ?_); (first | (refine s_pickT rfl rfl ?_) | (refine s_pickF rfl rfl ?_))) | ((with_reducible refine k_eql ?_); (first | (refine s_eql rfl rfl ?_) | (refine s_strEq rfl rfl ?_))) | ((with_reducible refine k_neq ?_); (first | (refine s_neq rfl rfl ?_) | (refine s_strNe rfl rfl ?_))) | ((with_reducible refine k_iaddr ?_); (first | ((with_reducible apply s_iaddrV); (· rfl); (· rfl); (· (first | omega | exact ⟨rfl, by omega⟩ | skip))) | ((with_reducible apply s_iaddrO); (· rfl); (· rfl); (· (first | omega | exact ⟨rfl, by omega⟩ | skip)); (· (exact hpX))) | ((with_reducible apply s_iaddrSO); (· rfl); (· assumption); (· rfl); (· (first | omega | exact ⟨rfl, by omega⟩ | skip)); (· (first | (simp (disch := omega) only [w64, wu8, wu16, wu32, wu64, tm_nn, td_nn, fd_nn, Int.reduceAdd, Int.reduceSub, Int.reduceMul, Int.reduceDiv, Int.reduceMod, Int.reduceNeg, Int.reduceToNat, Int.toNat_natCast, Int.toNat_zero, Int.zero_add, Int.add_zero, Int.one_mul, Int.reducePow, Nat.mul_one, Nat.zero_add, Nat.add_zero, Nat.zero_mul, Nat.reduceAdd, Nat.reduceMul, Nat.reduceSub, Nat.min_eq_left, IntKind.bits, Nat.sub_zero, s1, s2]; try rfl; done) | rfl)); intro ks hks))) | ((with_reducible refine k_load ?_); (first | ((with_reducible apply s_loadV); (· rfl)) | ((with_reducible apply s_loadP); (· rfl); (· (exact hpX))))) | ((with_reducible refine k_store ?_); ((with_reducible apply s_store0); (· rfl); (· rfl); (· rfl); (· (exact hpX)); (· (exact ⟨rfl, by first | exact Nat.le_of_ble_eq_true rfl | omega | (simp [s1, s2]; omega)⟩)); (· ((first | (simp (disch := omega) only [upd_self, upd_ne, upd_upd, rep, splice, List.take_succ_cons, List.take_zero, List.drop_succ_cons, List.drop_zero, List.cons_append, List.nil_append, List.append_nil, List.length_cons, List.length_nil, List.reduceReplicate, List.flatten_cons, List.flatten_nil, Nat.reduceAdd, Nat.reduceMul, Nat.reduceSub, Nat.zero_add, Nat.add_zero, List.getElem?_cons_zero, List.getElem?_cons_succ, s1, s2]; try rfl; done) | rfl))); (· (first | exact upd_upd | rfl)))) | ((with_reducible refine k_faddr ?_); (first | ((with_reducible apply s_faddrV); (· rfl); (· rfl)) | ((with_reducible apply s_faddrP); (· rfl); (· rfl)))) | ((with_reducible refine k_alloc (dst := some 1) ?_); ((with_reducible apply s_alloc); intro k1 hk1; (try simp only [upd_none] at hk1))) | ((with_reducible refine k_callF ?_); (first | ((with_reducible apply s_call1); (· rfl)) | ((with_reducible apply s_calln); (· rfl)))) | ((with_reducible refine k_con ?_); (first | (refine ex_c ?_; intro kp ka hE hne hP hA; (try dsimp only)) | ((with_reducible apply con_val (n1)); (· (repeat (first | exact All2.nil | (apply All2.cons; (· first | ((apply Rd_sl0); (· exact hpX); (· first | rfl | exact scal_i | exact scal_b | assumption); (· first | rfl | assumption | (simp [s1, s2]; done) | (simp [s1, s2]; omega))) | exact rdX))))); (· rfl); (· exact fun _ => rfl)) | ((with_reducible apply con_val (n2)); (· (repeat (first | exact All2.nil | (apply All2.cons; (· first | ((apply Rd_sl0); (· exact hpX); (· first | rfl | exact scal_i | exact scal_b | assumption); (· first | rfl | assumption | (simp [s1, s2]; done) | (simp [s1, s2]; omega))) | exact rdX))))); (· rfl); (· exact fun _ => rfl)) | ((with_reducible apply con_val (n3)); (· (repeat (first | exact All2.nil | (apply All2.cons; (· first | ((apply Rd_sl0); (· exact hpX); (· first | rfl | exact scal_i | exact scal_b | assumption); (· first | rfl | assumption | (simp [s1, s2]; done) | (simp [s1, s2]; omega))) | exact rdX))))); (· rfl); (· exact fun _ => rfl)) | ((with_reducible apply con_val (n4)); (· (repeat (first | exact All2.nil | (apply All2.cons; (· first | ((apply Rd_sl0); (· exact hpX); (· first | rfl | exact scal_i | exact scal_b | assumption); (· first | rfl | assumption | (simp [s1, s2]; done) | (simp [s1, s2]; omega))) | exact rdX))))); (· rfl); (· exact fun _ => rfl)) | ((with_reducible apply con_of_pcon (w1)); (· (repeat (first | exact All2.nil | (apply All2.cons; (· first | ((apply Rd_sl0); (· exact hpX); (· first | rfl | exact scal_i | exact scal_b | assumption); (· first | rfl | assumption | (simp [s1, s2]; done) | (simp [s1, s2]; omega))) | exact rdX))))); intro kW hkW; (try simp only [upd_none] at hkW); simp only [thaw, thawC, List.map, thawH, owOf, owL]) | ((with_reducible apply con_val (v1)); (· (repeat (first | exact All2.nil | (apply All2.cons; (· first | ((apply Rd_sl0); (· exact hpX); (· first | rfl | exact scal_i | exact scal_b | assumption); (· first | rfl | assumption | (simp [s1, s2]; done) | (simp [s1, s2]; omega))) | exact rdX))))); (· rfl); (· exact fun _ => rfl)) | ((with_reducible apply con_val (u1)); (· (repeat (first | exact All2.nil | (apply All2.cons; (· first | ((apply Rd_sl0); (· exact hpX); (· first | rfl | exact scal_i | exact scal_b | assumption); (· first | rfl | assumption | (simp [s1, s2]; done) | (simp [s1, s2]; omega))) | exact rdX))))); (· rfl); (· exact fun _ => rfl)) | ((with_reducible apply con_val (t1)); (· (repeat (first | exact All2.nil | (apply All2.cons; (· first | ((apply Rd_sl0); (· exact hpX); (· first | rfl | exact scal_i | exact scal_b | assumption); (· first | rfl | assumption | (simp [s1, s2]; done) | (simp [s1, s2]; omega))) | exact rdX))))); (· rfl); (· exact fun _ => rfl)) | ((with_reducible apply con_val (kc)); (· (repeat (first | exact All2.nil | (apply All2.cons; (· first | ((apply Rd_sl0); (· exact hpX); (· first | rfl | exact scal_i | exact scal_b | assumption); (· first | rfl | assumption | (simp [s1, s2]; done) | (simp [s1, s2]; omega))) | exact rdX))))); (· rfl); (· exact fun _ => rfl)))) | ((with_reducible refine k_br ?_); (first | (with_reducible first | refine Br_dec ?_ | refine Br_not ?_ | refine Br_eqF ?_ | refine Br_and ?_ | refine Br_or ?_ | refine Br_neg ?_ | refine Br_band ?_ | refine Br_bor ?_ | refine Br_beq ?_) | (refine Br_t (by first | omega | assumption | rfl) ?_) | (refine Br_f (by first | omega | assumption | decide) ?_) | (with_reducible apply Br_sb <;> intro hbr <;> (first | subst hbr | simp only [hbr] | skip)) | (with_reducible apply Br_s <;> intro hbr))) | (with_reducible refine WN_succ ?_) | ((first | (with_reducible apply q_eqI) | (with_reducible apply q_eqN)); (first | (simp (disch := omega) only [w64, wu8, wu16, wu32, wu64, tm_nn, td_nn, fd_nn, Int.reduceAdd, Int.reduceSub, Int.reduceMul, Int.reduceDiv, Int.reduceMod, Int.reduceNeg, Int.reduceToNat, Int.toNat_natCast, Int.toNat_zero, Int.zero_add, Int.add_zero, Int.one_mul, Int.reducePow, Nat.mul_one, Nat.zero_add, Nat.add_zero, Nat.zero_mul, Nat.reduceAdd, Nat.reduceMul, Nat.reduceSub, Nat.min_eq_left, IntKind.bits, Nat.sub_zero, s1, s2]; try rfl; done) | rfl)) | ((first | (with_reducible apply q_eqL) | (with_reducible apply q_eqO)); (first | (simp (disch := omega) only [upd_self, upd_ne, upd_upd, rep, splice, List.take_succ_cons, List.take_zero, List.drop_succ_cons, List.drop_zero, List.cons_append, List.nil_append, List.append_nil, List.length_cons, List.length_nil, List.reduceReplicate, List.flatten_cons, List.flatten_nil, Nat.reduceAdd, Nat.reduceMul, Nat.reduceSub, Nat.zero_add, Nat.add_zero, List.getElem?_cons_zero, List.getElem?_cons_succ, s1, s2]; try rfl; done) | rfl)))
  all_goals first | exact Fin_flat trivial rfl rfl | (refine Fin_tup trivial rfl ?_ (Nat.le_of_ble_eq_true rfl); (repeat (first | exact All2.nil | (apply All2.cons; (· first | exact exc_n | exact exc_e | exact exc_v rfl rfl | exact exc_o upd_self rfl rfl)))); done) | (refine Fin_own trivial rfl upd_self ?_ (Nat.le_of_ble_eq_true rfl); (repeat (first | exact All2.nil | (apply All2.cons; (· first | exact exc_n | exact exc_e | exact exc_v rfl rfl | exact exc_o upd_self rfl rfl)))); done) | exact Fin_nil trivial rfl | exact Fin_sl trivial rfl upd_self rfl rfl
end Go.Proofs.Ytfdfmbmhefckaaa
end
section
/- Reclaim plans: the reference's answers; the laws that compare. -/
set_option linter.unusedSimpArgs false
set_option linter.unusedVariables false
namespace Go.Proofs.Ytfdfmbmhefckaaa
open Go.AM Classical
set_option maxRecDepth 100000
set_option maxHeartbeats 4000000
end Go.Proofs.Ytfdfmbmhefckaaa
end
section
/- Reclaim plans: the reference's check of a witness; the laws that compare. -/
set_option linter.unusedSimpArgs false
set_option linter.unusedVariables false
namespace Go.Proofs.Ytfdfmbmhefckaaa
open Go.AM Classical
set_option maxRecDepth 100000
set_option maxHeartbeats 4000000
theorem Rd_aggR {h : Heap} {c c' : List D} (hr : All2 (Rd h) c c') : Rd h (.agg c) (.agg c') := by
  intro s v H hv
  obtain ⟨cs, rfl, hall⟩ := hv.inv_agg
  refine .agg cs c' (hall.1.trans hr.1) (fun u hu => ?_) (fun i u d hu hd => ?_)
  · obtain ⟨i, hi⟩ := List.mem_iff_getElem?.1 hu
    have hlt : i < c.length := by
      rcases Nat.lt_or_ge i c.length with h' | h'
      · exact h'
      · rw [← hall.1] at h'; rw [List.getElem?_eq_none h'] at hi; cases hi
    exact (hall.2 i u _ hi (List.getElem?_eq_getElem hlt)).2
  · have hlt : i < c.length := by
      rcases Nat.lt_or_ge i c.length with h' | h'
      · exact h'
      · rw [List.getElem?_eq_none (by rw [← hr.1]; exact h')] at hd; cases hd
    have hci := List.getElem?_eq_getElem hlt
    exact hr.2 i _ _ hci hd s u H (hall.2 i u _ hu hci).1
theorem Rd_cs {h : Heap} {p : List Pg} {l : List Acct} {s : Int} {kn : Bool} : Rd h (.agg [pgs p, accs l, .int .i64 s, .bool kn]) (csD p l s kn) := Rd_aggR (All2.cons Rd_vs (All2.cons Rd_vs (All2.cons Rd_int (All2.cons Rd_bool All2.nil))))
theorem typed_pg {n : Nat} {d : List D} (h : Typed Try.prog (n + 2) 40 d) : ∃ q : Pg, d = q.cells ∧ True := by
  obtain ⟨ps, rfl, h1⟩ := typed_struct' Try.underlying40 h
  match ps, h1.1 with
  | [a, b, c, e, f, g, i], _ =>
    obtain ⟨x1, rfl, _⟩ := typed_int' Try.underlying3 (h1.2 0 _ a rfl rfl)
    obtain ⟨x2, rfl, _⟩ := typed_int' Try.underlying3 (h1.2 1 _ b rfl rfl)
    obtain ⟨x3, rfl, _⟩ := typed_int' Try.underlying3 (h1.2 2 _ c rfl rfl)
    obtain ⟨x4, rfl, _⟩ := typed_int' Try.underlying3 (h1.2 3 _ e rfl rfl)
    obtain ⟨x5, rfl, _⟩ := typed_int' Try.underlying3 (h1.2 4 _ f rfl rfl)
    obtain ⟨x6, rfl⟩ := typed_bool' Try.underlying4 (h1.2 5 _ g rfl rfl)
    obtain ⟨x7, rfl⟩ := typed_bool' Try.underlying4 (h1.2 6 _ i rfl rfl)
    exact ⟨⟨x1, x2, x3, x4, x5, x6, x7⟩, rfl, trivial⟩
theorem typed_pgs' {n : Nat} {d : List D} (h : Typed Try.prog (n + 3) 22 d) : ∃ p : List Pg, d = [pgs p] := by
  obtain ⟨ps, rfl, h1, h2⟩ := typed_slice' Try.underlying22 h
  obtain ⟨p, rfl, _⟩ := all_map (f := Pg.cells) (q := fun _ => True) (fun d hd => typed_pg (h2 d hd))
  exact ⟨p, by rw [List.length_map, ← List.flatMap_def, show Try.prog.cellsOf 40 = 7 by kernel_rfl]⟩
theorem typed_accs' {n : Nat} {d : List D} (h : Typed Try.prog (n + 3) 23 d) : ∃ l : List Acct, d = [accs l] ∧ l.length ≤ maxLen := by
  obtain ⟨ps, rfl, h1, h2⟩ := typed_slice' Try.underlying23 h
  obtain ⟨l, rfl, _⟩ := all_map (f := Acct.cells) (q := AIn) (fun d hd => typed_acct (h2 d hd))
  exact ⟨l, by rw [List.length_map, ← List.flatMap_def, show Try.prog.cellsOf 44 = 5 by kernel_rfl], by simpa using h1⟩
theorem typed_case {d : D} (h : TypedA Try.prog 28 d) : ∃ p l s kn, d = csD p l s kn ∧ l.length ≤ 9223372036854775807 := by
  obtain ⟨ds, rfl, h1⟩ := typed_agg (agg_yes Try.underlying28 rfl) h
  obtain ⟨ps, rfl, h2⟩ := typed_struct' Try.underlying28 h1
  match ps, h2.1 with
  | [a, b, c, e], _ =>
    obtain ⟨p, rfl⟩ := typed_pgs' (h2.2 0 _ a rfl rfl)
    obtain ⟨l, rfl, hl⟩ := typed_accs' (h2.2 1 _ b rfl rfl)
    obtain ⟨s, rfl, _⟩ := typed_int' Try.underlying3 (h2.2 2 _ c rfl rfl)
    obtain ⟨kn, rfl⟩ := typed_bool' Try.underlying4 (h2.2 3 _ e rfl rfl)
    exact ⟨p, l, s, kn, rfl, maxLen_le hl⟩
end Go.Proofs.Ytfdfmbmhefckaaa
end
section
/- Reclaim plans: the law ReclaimplanSound. -/
set_option linter.unusedSimpArgs false
set_option linter.unusedVariables false
namespace Go.Proofs.Ytfdfmbmhefckaaa
open Go.AM Classical
set_option maxRecDepth 100000
set_option maxHeartbeats 4000000
theorem hld_rsn {l : List Acct} {v : List Int} {s : Int} {kn : Bool} {q : Pg} {c : Int} (h : hldP l v s kn q c) : rsn l v s kn q ≠ 0 ∧ rsn l v s kn q ≠ 8 := by
  unfold hldP at h
  unfold rsn
  by_cases h1 : outP l s q
  · rw [if_pos h1]; omega
  · rw [if_neg h1]
    by_cases h2 : kn = true ∧ q.normal = false
    · rw [if_pos h2]; omega
    · rw [if_neg h2]
      by_cases e1 : c = 13
      · rw [if_pos e1] at h; exact absurd h h1
      · rw [if_neg e1] at h
        by_cases e2 : c = 12
        · rw [if_pos e2] at h; exact absurd h h2
        · rw [if_neg e2] at h
          by_cases e3 : q.leaving = true ∨ c = 0 ∨ c = 8
          · rw [if_pos e3] at h; exact h.elim
          · rw [if_neg e3] at h
            rw [if_neg (fun hl => e3 (.inl hl))]
            by_cases e4 : q.reason ≠ 0 ∧ q.reason ≠ 8
            · rw [if_pos e4]; exact e4
            · rw [if_neg e4]
              by_cases e5 : c = 11
              · rw [if_pos e5] at h
                rw [if_pos h]; omega
              · rw [if_neg e5] at h
                exfalso
                exact e4 ⟨fun h0 => e3 (.inr (.inl (h.trans h0))), fun h0 => e3 (.inr (.inr (h.trans h0)))⟩
end Go.Proofs.Ytfdfmbmhefckaaa
end
section
/- Reclaim plans: the law ReclaimplanOldest. -/
set_option linter.unusedSimpArgs false
set_option linter.unusedVariables false
namespace Go.Proofs.Ytfdfmbmhefckaaa
open Go.AM Classical
set_option maxRecDepth 100000
set_option maxHeartbeats 4000000
theorem nxS_spec {l : List Acct} {v : List Int} {s : Int} {kn : Bool} {p : List Pg} : ∀ i, i ≤ p.length →
    (((nxS l v s kn p i).1 = -1 ∧ ∀ j (h : j < p.length), j < i → rsn l v s kn p[j] = 0 → gdP l v s true p[j]) ∨
      (0 ≤ (nxS l v s kn p i).1 ∧ (∀ h : (nxS l v s kn p i).1.toNat < p.length, rsn l v s kn p[(nxS l v s kn p i).1.toNat] = 0 ∧ ¬ gdP l v s true p[(nxS l v s kn p i).1.toNat]) ∧ ∀ j (h : j < p.length), j < i → rsn l v s kn p[j] = 0 → ¬ gdP l v s true p[j] → agA p (nxS l v s kn p i).1 ≤ p[j].age)) ∧
    (((nxS l v s kn p i).2 = -1 ∧ ∀ j (h : j < p.length), j < i → rsn l v s kn p[j] ≠ 0) ∨
      (0 ≤ (nxS l v s kn p i).2 ∧ (∀ h : (nxS l v s kn p i).2.toNat < p.length, rsn l v s kn p[(nxS l v s kn p i).2.toNat] = 0) ∧ ∀ j (h : j < p.length), j < i → rsn l v s kn p[j] = 0 → agA p (nxS l v s kn p i).2 ≤ p[j].age))
  | 0, _ => ⟨.inl ⟨rfl, fun j _ h => by omega⟩, .inl ⟨rfl, fun j _ h => by omega⟩⟩
  | i + 1, hi => by
    obtain ⟨h1, h2⟩ := nxS_spec (l := l) (v := v) (s := s) (kn := kn) (p := p) i (by omega)
    have hil : i < p.length := by omega
    have hst : nxS l v s kn p (i + 1) = (if rsn l v s kn p[i] = 0 then
        (if ¬ gdP l v s true p[i] ∧ ((nxS l v s kn p i).1 < 0 ∨ p[i].age < agA p (nxS l v s kn p i).1) then (i : Int) else (nxS l v s kn p i).1,
         if (nxS l v s kn p i).2 < 0 ∨ p[i].age < agA p (nxS l v s kn p i).2 then (i : Int) else (nxS l v s kn p i).2)
       else nxS l v s kn p i) := by rw [nxS, dif_pos hil]
    generalize nxS l v s kn p (i + 1) = B at hst ⊢
    generalize nxS l v s kn p i = b at *
    obtain ⟨b, c⟩ := b
    obtain ⟨B1, B2⟩ := B
    dsimp only at h1 h2 hst ⊢
    have hag : agA p (i : Int) = p[i].age := by unfold agA; rw [dif_pos (by simpa using hil)]; simp
    by_cases hr : rsn l v s kn p[i] = 0
    · rw [if_pos hr] at hst
      injection hst with hB1 hB2
      refine ⟨?_, ?_⟩
      · by_cases hc : ¬ gdP l v s true p[i] ∧ (b < 0 ∨ p[i].age < agA p b)
        · rw [if_pos hc] at hB1
          subst hB1
          refine .inr ⟨by omega, fun h => by simpa using ⟨hr, hc.1⟩, fun j hj hji hrj hgj => ?_⟩
          rw [hag]
          rcases Nat.lt_succ_iff_lt_or_eq.1 hji with h4 | rfl
          · rcases h1 with ⟨h5, h6⟩ | ⟨h5, _, h6⟩
            · exact absurd (h6 j hj h4 hrj) hgj
            · have := h6 j hj h4 hrj hgj
              rcases hc.2 with h7 | h7 <;> omega
          · exact Int.le_refl _
        · rw [if_neg hc] at hB1
          replace hB1 := hB1.symm
          subst hB1
          rcases h1 with ⟨h5, h6⟩ | ⟨h5, h6, h7⟩
          · refine .inl ⟨h5, fun j hj hji hrj => ?_⟩
            rcases Nat.lt_succ_iff_lt_or_eq.1 hji with h4 | rfl
            · exact h6 j hj h4 hrj
            · exact Classical.byContradiction fun hg => hc ⟨hg, .inl (by omega)⟩
          · refine .inr ⟨h5, h6, fun j hj hji hrj hgj => ?_⟩
            rcases Nat.lt_succ_iff_lt_or_eq.1 hji with h4 | rfl
            · exact h7 j hj h4 hrj hgj
            · have : ¬ p[j].age < agA p b := fun h => hc ⟨hgj, .inr h⟩
              omega
      · by_cases hc : c < 0 ∨ p[i].age < agA p c
        · rw [if_pos hc] at hB2
          subst hB2
          refine .inr ⟨by omega, fun h => by simpa using hr, fun j hj hji hrj => ?_⟩
          rw [hag]
          rcases Nat.lt_succ_iff_lt_or_eq.1 hji with h4 | rfl
          · rcases h2 with ⟨h5, h6⟩ | ⟨h5, _, h6⟩
            · exact absurd hrj (h6 j hj h4)
            · have := h6 j hj h4 hrj
              rcases hc with h7 | h7 <;> omega
          · exact Int.le_refl _
        · rw [if_neg hc] at hB2
          replace hB2 := hB2.symm
          subst hB2
          rcases h2 with ⟨h5, h6⟩ | ⟨h5, h6, h7⟩
          · omega
          · refine .inr ⟨h5, h6, fun j hj hji hrj => ?_⟩
            rcases Nat.lt_succ_iff_lt_or_eq.1 hji with h4 | rfl
            · exact h7 j hj h4 hrj
            · omega
    · rw [if_neg hr] at hst
      injection hst with hB1 hB2
      replace hB1 := hB1.symm
      replace hB2 := hB2.symm
      subst hB1 hB2
      refine ⟨?_, ?_⟩
      · rcases h1 with ⟨h5, h6⟩ | ⟨h5, h6, h7⟩
        · refine .inl ⟨h5, fun j hj hji hrj => ?_⟩
          rcases Nat.lt_succ_iff_lt_or_eq.1 hji with h4 | rfl
          · exact h6 j hj h4 hrj
          · exact absurd hrj hr
        · refine .inr ⟨h5, h6, fun j hj hji hrj hgj => ?_⟩
          rcases Nat.lt_succ_iff_lt_or_eq.1 hji with h4 | rfl
          · exact h7 j hj h4 hrj hgj
          · exact absurd hrj hr
      · rcases h2 with ⟨h5, h6⟩ | ⟨h5, h6, h7⟩
        · refine .inl ⟨h5, fun j hj hji => ?_⟩
          rcases Nat.lt_succ_iff_lt_or_eq.1 hji with h4 | rfl
          · exact h6 j hj h4
          · exact hr
        · refine .inr ⟨h5, h6, fun j hj hji hrj => ?_⟩
          rcases Nat.lt_succ_iff_lt_or_eq.1 hji with h4 | rfl
          · exact h7 j hj h4 hrj
          · exact absurd hrj hr
end Go.Proofs.Ytfdfmbmhefckaaa
end
section
/- Reclaim plans: the laws ReclaimplanReasons and ReclaimplanEither. -/
set_option linter.unusedSimpArgs false
set_option linter.unusedVariables false
namespace Go.Proofs.Ytfdfmbmhefckaaa
open Go.AM Classical
set_option maxRecDepth 100000
set_option maxHeartbeats 4000000
theorem rsn_hld {l : List Acct} {v : List Int} {s : Int} {kn : Bool} {q : Pg} (hr : 0 ≤ q.reason ∧ q.reason ≤ 10) (h0 : rsn l v s kn q ≠ 0) (h8 : rsn l v s kn q ≠ 8) : hldP l v s kn q (rsn l v s kn q) := by
  unfold rsn at *
  by_cases h1 : outP l s q
  · rw [if_pos h1]; unfold hldP; rw [if_pos rfl]; exact h1
  · rw [if_neg h1] at *
    by_cases h2 : kn = true ∧ q.normal = false
    · rw [if_pos h2]; unfold hldP; rw [if_neg (by decide), if_pos rfl]; exact h2
    · rw [if_neg h2] at *
      by_cases h3 : q.leaving = true
      · rw [if_pos h3] at h8; exact absurd rfl h8
      · rw [if_neg h3] at *
        by_cases h4 : q.reason ≠ 0 ∧ q.reason ≠ 8
        · rw [if_pos h4]; unfold hldP
          rw [if_neg (by omega), if_neg (by omega), if_neg (fun h => h.elim h3 (fun h => by omega)), if_neg (by omega)]
        · rw [if_neg h4] at *
          by_cases h5 : gdP l v s false q
          · rw [if_pos h5]; unfold hldP
            rw [if_neg (by decide), if_neg (by decide), if_neg (fun h => h.elim h3 (fun h => by omega)), if_pos rfl]; exact h5
          · rw [if_neg h5] at *; exact absurd ⟨h0, h8⟩ h4
theorem nxt_some {p : List Pg} {l : List Acct} {s : Int} {kn : Bool} (hq : quP p l s) : 0 ≤ nxtF p l s kn ↔ ∃ i, ∃ h : i < p.length, rsn l (lvL l p) s kn p[i] = 0 := by
  rw [nxtF, if_pos hq]
  have hin := nxS_in l (lvL l p) s kn p p.length
  have hsp := (nxS_spec (l := l) (v := lvL l p) (s := s) (kn := kn) (p := p) p.length (Nat.le_refl _)).2
  generalize nxS l (lvL l p) s kn p p.length = b at *
  obtain ⟨b, c⟩ := b
  unfold nxtV
  dsimp only at hin hsp ⊢
  constructor
  · intro h
    have hc : 0 ≤ c := by split at h <;> omega
    rcases hsp with ⟨h1, _⟩ | ⟨_, h1, _⟩
    · omega
    · exact ⟨c.toNat, by omega, h1 (by omega)⟩
  · rintro ⟨i, hi, h⟩
    rcases hsp with ⟨_, h1⟩ | ⟨h1, _, _⟩
    · exact absurd h (h1 i hi hi)
    · split <;> omega
theorem either_law {p : List Pg} {l : List Acct} {s : Int} {kn : Bool} (hq : quP p l s) : verF p l s kn (witF p l s kn) = if 0 ≤ nxtF p l s kn ∨ trP p l s kn then 19 else 0 := by
  have ho := (errA_ok hq.1).2
  unfold verF
  rw [if_pos (askE_ok.2 hq)]
  unfold witF
  rw [if_pos hq, if_pos (List.length_map _), if_pos (fun i h h' => by simp [smP, wit, wrP])]
  have hr : ∀ i (h : i < p.length), ((p.map (wit l (lvL l p) s kn))[i]'(by simpa using h)).reason = rsn l (lvL l p) s kn p[i] := fun i h => by simp [wit, wrP]
  by_cases hs : 0 ≤ nxtF p l s kn ∨ trP p l s kn
  · rw [if_pos hs]
    rw [if_neg]
    intro hh
    rw [nxt_some hq] at hs
    rcases hs with ⟨i, hi, h0⟩ | ⟨_, q, hm, h8⟩
    · have := hh i hi (by simpa using hi)
      exact (hld_rsn this).1 h0
    · obtain ⟨i, hi, rfl⟩ := List.getElem_of_mem hm
      have := hh i hi (by simpa using hi)
      exact (hld_rsn this).2 h8
  · rw [if_neg hs, if_pos]
    intro i hi h'
    rw [hr i hi]
    refine rsn_hld (ho i hi).2.2.1 (fun h => hs (.inl ((nxt_some hq).2 ⟨i, hi, h⟩))) (fun h => hs (.inr ⟨hq, _, List.getElem_mem hi, h⟩))
theorem wit_pos {p : List Pg} {l : List Acct} {s : Int} {kn : Bool} (hq : quP p l s) : (witF p l s kn).length = p.length := by
  unfold witF; rw [if_pos hq, List.length_map]
theorem either_l (p : List Pg) (l : List Acct) (hL : l.length ≤ 9223372036854775807) (s : Int) (kn : Bool) : PCon Try.prog 8 [csD p l s kn] (.bool true) := by
  refine A8p (by simp [A8]) ?_
  simp only [A8, argEnv]
  have c0 := lfew_c p l s kn
  have e0 : csD p l s kn = .agg [pgs p, accs l, .int .i64 s, .bool kn] := rfl
  rw [e0]
  by_cases hf : p.length ≤ 300 ∧ l.length ≤ 40
  · rw [decide_eq_true hf] at c0
    have ck := pcheck_c p l hL (by omega)
    have cN := Next_c p l hL (by omega) s kn
    by_cases hq : quP p l s
    · have cT := Transit_c p l hL (by omega) s kn
      have cW := Witness_c p l hL (by omega) s kn
      have cV := Verify_c p l hL (by omega) s kn (witF p l s kn)
      have hlaw := either_law (kn := kn) hq
      have hwl := wit_pos (kn := kn) hq
      have hsc := pgs_scal (witF p l s kn)
      have hwc := pgs_len (witF p l s kn)
      simp only [pgs, hwl] at cV
      rw [hwl] at cW hwc
      rw [hq.1] at ck
      obtain ⟨_, hq1, hq2⟩ := hq
      generalize (witF p l s kn).flatMap Pg.cells = g at *
      generalize verF p l s kn (witF p l s kn) = e at *
      generalize nxtF p l s kn = k at *
      by_cases ht : trP p l s kn
      · rw [decide_eq_true ht] at cT
        rw [if_pos (.inr ht)] at hlaw
        subst hlaw
        repeat' (first | (with_reducible first | refine W_seq ?_ | refine then_n ?_ | refine W_skip ?_ | refine W_ret ?_ | refine then_r ?_) | ((with_reducible refine s_reg ?_); intro K hK) | ((with_reducible refine k_nil ?_); (with_reducible apply s_nil hK); (· exact nmX); clear hK; clear K) | ((with_reducible refine k_cond ?_); (first | ((with_reducible apply s_condT); (· rfl); (· exact nmX)) | ((with_reducible apply s_condF); (· rfl); (· exact nmX)) | ((with_reducible apply s_condS); (· rfl); (· exact nmX); (· exact nmX)))) | ((with_reducible refine k_guard ?_); (first | (refine s_gt rfl ?_) | (refine s_gf1 rfl ?_) | (refine s_gfn rfl ?_) | (refine s_gx1 rfl ?_) | (refine s_gxn rfl ?_) | (refine s_gs rfl ?_))) | ((with_reducible refine k_mv ?_); (refine s_mv rfl ?_)) | ((with_reducible refine k_len ?_); (first | (refine s_len rfl rfl ?_) | ((with_reducible apply s_len); (· rfl); (· exact SlOwn.len (by assumption))))) | ((with_reducible refine k_pick ?_); (first | (refine s_pickT rfl rfl ?_) | (refine s_pickF rfl rfl ?_))) | ((with_reducible refine k_not ?_); (refine s_not rfl (by first | exact Bool.not_true | exact Bool.not_false | rfl) ?_)) | ((with_reducible refine k_eql ?_); (first | (refine s_eql rfl rfl ?_) | (refine s_strEq rfl rfl ?_))) | ((with_reducible refine k_neq ?_); (first | (refine s_neq rfl rfl ?_) | (refine s_strNe rfl rfl ?_))) | ((with_reducible refine k_lss ?_); (refine s_lss rfl rfl ?_)) | ((with_reducible refine k_geq ?_); (refine s_geq rfl rfl ?_)) | ((with_reducible refine k_load ?_); (first | ((with_reducible apply s_loadV); (· rfl)) | ((with_reducible apply s_loadP); (· rfl); (· (exact hpX))))) | ((with_reducible refine k_loadA ?_); (first | ((with_reducible apply s_loadAV); (· rfl); (· (first | exact Nat.le_of_ble_eq_true rfl | decide | omega | (simp; done) | (simp; omega) | skip))) | ((with_reducible apply s_loadAP); (· rfl); (· (exact hpX)); (· (first | exact Nat.le_of_ble_eq_true rfl | decide | omega | (simp; done) | (simp; omega) | skip))))) | ((with_reducible refine k_faddr ?_); (first | ((with_reducible apply s_faddrV); (· rfl); (· rfl)) | ((with_reducible apply s_faddrP); (· rfl); (· rfl)))) | ((with_reducible refine k_box (dst := some 1) ?_); ((with_reducible apply s_box); (· rfl); (· rfl); intro k1 hk1; (try simp only [upd_none] at hk1))) | ((with_reducible refine k_callF ?_); (first | ((with_reducible apply s_call1); (· rfl)) | ((with_reducible apply s_calln); (· rfl)))) | ((with_reducible refine k_con ?_); (first | ((with_reducible apply con_val (awake_c)); (· (repeat (first | exact All2.nil | (apply All2.cons; (· first | exact Rd_cs | exact rdX))))); (· rfl); (· exact fun _ => rfl)) | ((with_reducible apply con_val (c0)); (· (repeat (first | exact All2.nil | (apply All2.cons; (· first | exact Rd_cs | exact rdX))))); (· rfl); (· exact fun _ => rfl)) | ((with_reducible apply con_val (ck)); (· (repeat (first | exact All2.nil | (apply All2.cons; (· first | exact Rd_cs | exact rdX))))); (· rfl); (· exact fun _ => rfl)) | ((with_reducible apply con_val (cN)); (· (repeat (first | exact All2.nil | (apply All2.cons; (· first | exact Rd_cs | exact rdX))))); (· rfl); (· exact fun _ => rfl)) | ((with_reducible apply con_val (cT)); (· (repeat (first | exact All2.nil | (apply All2.cons; (· first | exact Rd_cs | exact rdX))))); (· rfl); (· exact fun _ => rfl)) | ((with_reducible apply con_of_pcon (cW)); (· (repeat (first | exact All2.nil | (apply All2.cons; (· first | exact Rd_cs | exact rdX))))); intro kW hkW; (try simp only [upd_none] at hkW); simp only [thaw, thawC, List.map, thawH, owOf, owL]) | ((with_reducible apply con_val (cV)); (· (repeat (first | exact All2.nil | (apply All2.cons; (· first | exact Rd_cs | exact rdX))))); (· rfl); (· exact fun _ => rfl)))) | ((with_reducible refine k_br ?_); (first | (with_reducible first | refine Br_dec ?_ | refine Br_not ?_ | refine Br_eqF ?_ | refine Br_and ?_ | refine Br_or ?_ | refine Br_neg ?_ | refine Br_band ?_ | refine Br_bor ?_ | refine Br_beq ?_) | (refine Br_t (by first | omega | assumption | rfl) ?_) | (refine Br_f (by first | omega | assumption | decide) ?_) | (with_reducible apply Br_sb <;> intro hbr <;> (first | subst hbr | simp only [hbr] | skip)) | (with_reducible apply Br_s <;> intro hbr))) | (with_reducible refine WN_succ ?_) | ((first | (with_reducible apply q_eqI) | (with_reducible apply q_eqN)); (first | exact nuI | exact nuN)) | ((first | (with_reducible apply q_eqL) | (with_reducible apply q_eqO)); (first | exact liL | exact liO)))
        all_goals first | (exfalso; omega) | (first | exact Fin_flat trivial rfl rfl | (refine Fin_tup trivial rfl ?_ (Nat.le_of_ble_eq_true rfl); (repeat (first | exact All2.nil | (apply All2.cons; (· first | exact exc_n | exact exc_e | exact exc_v rfl rfl | exact exc_o upd_self rfl rfl)))); done) | (refine Fin_own trivial rfl upd_self ?_ (Nat.le_of_ble_eq_true rfl); (repeat (first | exact All2.nil | (apply All2.cons; (· first | exact exc_n | exact exc_e | exact exc_v rfl rfl | exact exc_o upd_self rfl rfl)))); done) | exact Fin_nil trivial rfl | exact Fin_sl trivial rfl upd_self rfl rfl)
      · rw [decide_eq_false ht] at cT
        by_cases hk : 0 ≤ k
        · rw [if_pos (.inl hk)] at hlaw
          subst hlaw
          repeat' (first | (with_reducible first | refine W_seq ?_ | refine then_n ?_ | refine W_skip ?_ | refine W_ret ?_ | refine then_r ?_) | ((with_reducible refine s_reg ?_); intro K hK) | ((with_reducible refine k_nil ?_); (with_reducible apply s_nil hK); (· exact nmX); clear hK; clear K) | ((with_reducible refine k_cond ?_); (first | ((with_reducible apply s_condT); (· rfl); (· exact nmX)) | ((with_reducible apply s_condF); (· rfl); (· exact nmX)) | ((with_reducible apply s_condS); (· rfl); (· exact nmX); (· exact nmX)))) | ((with_reducible refine k_guard ?_); (first | (refine s_gt rfl ?_) | (refine s_gf1 rfl ?_) | (refine s_gfn rfl ?_) | (refine s_gx1 rfl ?_) | (refine s_gxn rfl ?_) | (refine s_gs rfl ?_))) | ((with_reducible refine k_mv ?_); (refine s_mv rfl ?_)) | ((with_reducible refine k_len ?_); (first | (refine s_len rfl rfl ?_) | ((with_reducible apply s_len); (· rfl); (· exact SlOwn.len (by assumption))))) | ((with_reducible refine k_pick ?_); (first | (refine s_pickT rfl rfl ?_) | (refine s_pickF rfl rfl ?_))) | ((with_reducible refine k_not ?_); (refine s_not rfl (by first | exact Bool.not_true | exact Bool.not_false | rfl) ?_)) | ((with_reducible refine k_eql ?_); (first | (refine s_eql rfl rfl ?_) | (refine s_strEq rfl rfl ?_))) | ((with_reducible refine k_neq ?_); (first | (refine s_neq rfl rfl ?_) | (refine s_strNe rfl rfl ?_))) | ((with_reducible refine k_lss ?_); (refine s_lss rfl rfl ?_)) | ((with_reducible refine k_geq ?_); (refine s_geq rfl rfl ?_)) | ((with_reducible refine k_load ?_); (first | ((with_reducible apply s_loadV); (· rfl)) | ((with_reducible apply s_loadP); (· rfl); (· (exact hpX))))) | ((with_reducible refine k_loadA ?_); (first | ((with_reducible apply s_loadAV); (· rfl); (· (first | exact Nat.le_of_ble_eq_true rfl | decide | omega | (simp; done) | (simp; omega) | skip))) | ((with_reducible apply s_loadAP); (· rfl); (· (exact hpX)); (· (first | exact Nat.le_of_ble_eq_true rfl | decide | omega | (simp; done) | (simp; omega) | skip))))) | ((with_reducible refine k_faddr ?_); (first | ((with_reducible apply s_faddrV); (· rfl); (· rfl)) | ((with_reducible apply s_faddrP); (· rfl); (· rfl)))) | ((with_reducible refine k_box (dst := some 1) ?_); ((with_reducible apply s_box); (· rfl); (· rfl); intro k1 hk1; (try simp only [upd_none] at hk1))) | ((with_reducible refine k_callF ?_); (first | ((with_reducible apply s_call1); (· rfl)) | ((with_reducible apply s_calln); (· rfl)))) | ((with_reducible refine k_con ?_); (first | ((with_reducible apply con_val (awake_c)); (· (repeat (first | exact All2.nil | (apply All2.cons; (· first | exact Rd_cs | exact rdX))))); (· rfl); (· exact fun _ => rfl)) | ((with_reducible apply con_val (c0)); (· (repeat (first | exact All2.nil | (apply All2.cons; (· first | exact Rd_cs | exact rdX))))); (· rfl); (· exact fun _ => rfl)) | ((with_reducible apply con_val (ck)); (· (repeat (first | exact All2.nil | (apply All2.cons; (· first | exact Rd_cs | exact rdX))))); (· rfl); (· exact fun _ => rfl)) | ((with_reducible apply con_val (cN)); (· (repeat (first | exact All2.nil | (apply All2.cons; (· first | exact Rd_cs | exact rdX))))); (· rfl); (· exact fun _ => rfl)) | ((with_reducible apply con_val (cT)); (· (repeat (first | exact All2.nil | (apply All2.cons; (· first | exact Rd_cs | exact rdX))))); (· rfl); (· exact fun _ => rfl)) | ((with_reducible apply con_of_pcon (cW)); (· (repeat (first | exact All2.nil | (apply All2.cons; (· first | exact Rd_cs | exact rdX))))); intro kW hkW; (try simp only [upd_none] at hkW); simp only [thaw, thawC, List.map, thawH, owOf, owL]) | ((with_reducible apply con_val (cV)); (· (repeat (first | exact All2.nil | (apply All2.cons; (· first | exact Rd_cs | exact rdX))))); (· rfl); (· exact fun _ => rfl)))) | ((with_reducible refine k_br ?_); (first | (with_reducible first | refine Br_dec ?_ | refine Br_not ?_ | refine Br_eqF ?_ | refine Br_and ?_ | refine Br_or ?_ | refine Br_neg ?_ | refine Br_band ?_ | refine Br_bor ?_ | refine Br_beq ?_) | (refine Br_t (by first | omega | assumption | rfl) ?_) | (refine Br_f (by first | omega | assumption | decide) ?_) | (with_reducible apply Br_sb <;> intro hbr <;> (first | subst hbr | simp only [hbr] | skip)) | (with_reducible apply Br_s <;> intro hbr))) | (with_reducible refine WN_succ ?_) | ((first | (with_reducible apply q_eqI) | (with_reducible apply q_eqN)); (first | exact nuI | exact nuN)) | ((first | (with_reducible apply q_eqL) | (with_reducible apply q_eqO)); (first | exact liL | exact liO)))
          all_goals first | (exfalso; omega) | (first | exact Fin_flat trivial rfl rfl | (refine Fin_tup trivial rfl ?_ (Nat.le_of_ble_eq_true rfl); (repeat (first | exact All2.nil | (apply All2.cons; (· first | exact exc_n | exact exc_e | exact exc_v rfl rfl | exact exc_o upd_self rfl rfl)))); done) | (refine Fin_own trivial rfl upd_self ?_ (Nat.le_of_ble_eq_true rfl); (repeat (first | exact All2.nil | (apply All2.cons; (· first | exact exc_n | exact exc_e | exact exc_v rfl rfl | exact exc_o upd_self rfl rfl)))); done) | exact Fin_nil trivial rfl | exact Fin_sl trivial rfl upd_self rfl rfl)
        · rw [if_neg (fun h => h.elim hk ht)] at hlaw
          subst hlaw
          repeat' (first | (with_reducible first | refine W_seq ?_ | refine then_n ?_ | refine W_skip ?_ | refine W_ret ?_ | refine then_r ?_) | ((with_reducible refine s_reg ?_); intro K hK) | ((with_reducible refine k_nil ?_); (with_reducible apply s_nil hK); (· exact nmX); clear hK; clear K) | ((with_reducible refine k_cond ?_); (first | ((with_reducible apply s_condT); (· rfl); (· exact nmX)) | ((with_reducible apply s_condF); (· rfl); (· exact nmX)) | ((with_reducible apply s_condS); (· rfl); (· exact nmX); (· exact nmX)))) | ((with_reducible refine k_guard ?_); (first | (refine s_gt rfl ?_) | (refine s_gf1 rfl ?_) | (refine s_gfn rfl ?_) | (refine s_gx1 rfl ?_) | (refine s_gxn rfl ?_) | (refine s_gs rfl ?_))) | ((with_reducible refine k_mv ?_); (refine s_mv rfl ?_)) | ((with_reducible refine k_len ?_); (first | (refine s_len rfl rfl ?_) | ((with_reducible apply s_len); (· rfl); (· exact SlOwn.len (by assumption))))) | ((with_reducible refine k_pick ?_); (first | (refine s_pickT rfl rfl ?_) | (refine s_pickF rfl rfl ?_))) | ((with_reducible refine k_not ?_); (refine s_not rfl (by first | exact Bool.not_true | exact Bool.not_false | rfl) ?_)) | ((with_reducible refine k_eql ?_); (first | (refine s_eql rfl rfl ?_) | (refine s_strEq rfl rfl ?_))) | ((with_reducible refine k_neq ?_); (first | (refine s_neq rfl rfl ?_) | (refine s_strNe rfl rfl ?_))) | ((with_reducible refine k_lss ?_); (refine s_lss rfl rfl ?_)) | ((with_reducible refine k_geq ?_); (refine s_geq rfl rfl ?_)) | ((with_reducible refine k_load ?_); (first | ((with_reducible apply s_loadV); (· rfl)) | ((with_reducible apply s_loadP); (· rfl); (· (exact hpX))))) | ((with_reducible refine k_loadA ?_); (first | ((with_reducible apply s_loadAV); (· rfl); (· (first | exact Nat.le_of_ble_eq_true rfl | decide | omega | (simp; done) | (simp; omega) | skip))) | ((with_reducible apply s_loadAP); (· rfl); (· (exact hpX)); (· (first | exact Nat.le_of_ble_eq_true rfl | decide | omega | (simp; done) | (simp; omega) | skip))))) | ((with_reducible refine k_faddr ?_); (first | ((with_reducible apply s_faddrV); (· rfl); (· rfl)) | ((with_reducible apply s_faddrP); (· rfl); (· rfl)))) | ((with_reducible refine k_box (dst := some 1) ?_); ((with_reducible apply s_box); (· rfl); (· rfl); intro k1 hk1; (try simp only [upd_none] at hk1))) | ((with_reducible refine k_callF ?_); (first | ((with_reducible apply s_call1); (· rfl)) | ((with_reducible apply s_calln); (· rfl)))) | ((with_reducible refine k_con ?_); (first | ((with_reducible apply con_val (awake_c)); (· (repeat (first | exact All2.nil | (apply All2.cons; (· first | exact Rd_cs | exact rdX))))); (· rfl); (· exact fun _ => rfl)) | ((with_reducible apply con_val (c0)); (· (repeat (first | exact All2.nil | (apply All2.cons; (· first | exact Rd_cs | exact rdX))))); (· rfl); (· exact fun _ => rfl)) | ((with_reducible apply con_val (ck)); (· (repeat (first | exact All2.nil | (apply All2.cons; (· first | exact Rd_cs | exact rdX))))); (· rfl); (· exact fun _ => rfl)) | ((with_reducible apply con_val (cN)); (· (repeat (first | exact All2.nil | (apply All2.cons; (· first | exact Rd_cs | exact rdX))))); (· rfl); (· exact fun _ => rfl)) | ((with_reducible apply con_val (cT)); (· (repeat (first | exact All2.nil | (apply All2.cons; (· first | exact Rd_cs | exact rdX))))); (· rfl); (· exact fun _ => rfl)) | ((with_reducible apply con_of_pcon (cW)); (· (repeat (first | exact All2.nil | (apply All2.cons; (· first | exact Rd_cs | exact rdX))))); intro kW hkW; (try simp only [upd_none] at hkW); simp only [thaw, thawC, List.map, thawH, owOf, owL]) | ((with_reducible apply con_val (cV)); (· (repeat (first | exact All2.nil | (apply All2.cons; (· first | exact Rd_cs | exact rdX))))); (· rfl); (· exact fun _ => rfl)))) | ((with_reducible refine k_br ?_); (first | (with_reducible first | refine Br_dec ?_ | refine Br_not ?_ | refine Br_eqF ?_ | refine Br_and ?_ | refine Br_or ?_ | refine Br_neg ?_ | refine Br_band ?_ | refine Br_bor ?_ | refine Br_beq ?_) | (refine Br_t (by first | omega | assumption | rfl) ?_) | (refine Br_f (by first | omega | assumption | decide) ?_) | (with_reducible apply Br_sb <;> intro hbr <;> (first | subst hbr | simp only [hbr] | skip)) | (with_reducible apply Br_s <;> intro hbr))) | (with_reducible refine WN_succ ?_) | ((first | (with_reducible apply q_eqI) | (with_reducible apply q_eqN)); (first | exact nuI | exact nuN)) | ((first | (with_reducible apply q_eqL) | (with_reducible apply q_eqO)); (first | exact liL | exact liO)))
          all_goals first | (exfalso; omega) | (first | exact Fin_flat trivial rfl rfl | (refine Fin_tup trivial rfl ?_ (Nat.le_of_ble_eq_true rfl); (repeat (first | exact All2.nil | (apply All2.cons; (· first | exact exc_n | exact exc_e | exact exc_v rfl rfl | exact exc_o upd_self rfl rfl)))); done) | (refine Fin_own trivial rfl upd_self ?_ (Nat.le_of_ble_eq_true rfl); (repeat (first | exact All2.nil | (apply All2.cons; (· first | exact exc_n | exact exc_e | exact exc_v rfl rfl | exact exc_o upd_self rfl rfl)))); done) | exact Fin_nil trivial rfl | exact Fin_sl trivial rfl upd_self rfl rfl)
    · have hk : nxtF p l s kn = -1 := by rw [nxtF, if_neg hq]
      rw [hk] at cN
      have hq' : ¬ (pchk p l = 0 ∧ -1 ≤ s ∧ s < l.length) := hq
      generalize pchk p l = e at *
      repeat' (first | (with_reducible first | refine W_seq ?_ | refine then_n ?_ | refine W_skip ?_ | refine W_ret ?_ | refine then_r ?_) | ((with_reducible refine s_reg ?_); intro K hK) | ((with_reducible refine k_nil ?_); (with_reducible apply s_nil hK); (· exact nmX); clear hK; clear K) | ((with_reducible refine k_cond ?_); (first | ((with_reducible apply s_condT); (· rfl); (· exact nmX)) | ((with_reducible apply s_condF); (· rfl); (· exact nmX)) | ((with_reducible apply s_condS); (· rfl); (· exact nmX); (· exact nmX)))) | ((with_reducible refine k_guard ?_); (first | (refine s_gt rfl ?_) | (refine s_gf1 rfl ?_) | (refine s_gfn rfl ?_) | (refine s_gx1 rfl ?_) | (refine s_gxn rfl ?_) | (refine s_gs rfl ?_))) | ((with_reducible refine k_mv ?_); (refine s_mv rfl ?_)) | ((with_reducible refine k_len ?_); (first | (refine s_len rfl rfl ?_) | ((with_reducible apply s_len); (· rfl); (· exact SlOwn.len (by assumption))))) | ((with_reducible refine k_pick ?_); (first | (refine s_pickT rfl rfl ?_) | (refine s_pickF rfl rfl ?_))) | ((with_reducible refine k_not ?_); (refine s_not rfl (by first | exact Bool.not_true | exact Bool.not_false | rfl) ?_)) | ((with_reducible refine k_eql ?_); (first | (refine s_eql rfl rfl ?_) | (refine s_strEq rfl rfl ?_))) | ((with_reducible refine k_neq ?_); (first | (refine s_neq rfl rfl ?_) | (refine s_strNe rfl rfl ?_))) | ((with_reducible refine k_lss ?_); (refine s_lss rfl rfl ?_)) | ((with_reducible refine k_geq ?_); (refine s_geq rfl rfl ?_)) | ((with_reducible refine k_load ?_); (first | ((with_reducible apply s_loadV); (· rfl)) | ((with_reducible apply s_loadP); (· rfl); (· (exact hpX))))) | ((with_reducible refine k_loadA ?_); (first | ((with_reducible apply s_loadAV); (· rfl); (· (first | exact Nat.le_of_ble_eq_true rfl | decide | omega | (simp; done) | (simp; omega) | skip))) | ((with_reducible apply s_loadAP); (· rfl); (· (exact hpX)); (· (first | exact Nat.le_of_ble_eq_true rfl | decide | omega | (simp; done) | (simp; omega) | skip))))) | ((with_reducible refine k_faddr ?_); (first | ((with_reducible apply s_faddrV); (· rfl); (· rfl)) | ((with_reducible apply s_faddrP); (· rfl); (· rfl)))) | ((with_reducible refine k_box (dst := some 1) ?_); ((with_reducible apply s_box); (· rfl); (· rfl); intro k1 hk1; (try simp only [upd_none] at hk1))) | ((with_reducible refine k_callF ?_); (first | ((with_reducible apply s_call1); (· rfl)) | ((with_reducible apply s_calln); (· rfl)))) | ((with_reducible refine k_con ?_); (first | ((with_reducible apply con_val (awake_c)); (· (repeat (first | exact All2.nil | (apply All2.cons; (· first | exact Rd_cs | exact rdX))))); (· rfl); (· exact fun _ => rfl)) | ((with_reducible apply con_val (c0)); (· (repeat (first | exact All2.nil | (apply All2.cons; (· first | exact Rd_cs | exact rdX))))); (· rfl); (· exact fun _ => rfl)) | ((with_reducible apply con_val (ck)); (· (repeat (first | exact All2.nil | (apply All2.cons; (· first | exact Rd_cs | exact rdX))))); (· rfl); (· exact fun _ => rfl)) | ((with_reducible apply con_val (cN)); (· (repeat (first | exact All2.nil | (apply All2.cons; (· first | exact Rd_cs | exact rdX))))); (· rfl); (· exact fun _ => rfl)))) | ((with_reducible refine k_br ?_); (first | (with_reducible first | refine Br_dec ?_ | refine Br_not ?_ | refine Br_eqF ?_ | refine Br_and ?_ | refine Br_or ?_ | refine Br_neg ?_ | refine Br_band ?_ | refine Br_bor ?_ | refine Br_beq ?_) | (refine Br_t (by first | omega | assumption | rfl) ?_) | (refine Br_f (by first | omega | assumption | decide) ?_) | (with_reducible apply Br_sb <;> intro hbr <;> (first | subst hbr | simp only [hbr] | skip)) | (with_reducible apply Br_s <;> intro hbr))) | (with_reducible refine WN_succ ?_) | ((first | (with_reducible apply q_eqI) | (with_reducible apply q_eqN)); (first | exact nuI | exact nuN)) | ((first | (with_reducible apply q_eqL) | (with_reducible apply q_eqO)); (first | exact liL | exact liO)))
      all_goals first | (exfalso; omega) | (first | exact Fin_flat trivial rfl rfl | (refine Fin_tup trivial rfl ?_ (Nat.le_of_ble_eq_true rfl); (repeat (first | exact All2.nil | (apply All2.cons; (· first | exact exc_n | exact exc_e | exact exc_v rfl rfl | exact exc_o upd_self rfl rfl)))); done) | (refine Fin_own trivial rfl upd_self ?_ (Nat.le_of_ble_eq_true rfl); (repeat (first | exact All2.nil | (apply All2.cons; (· first | exact exc_n | exact exc_e | exact exc_v rfl rfl | exact exc_o upd_self rfl rfl)))); done) | exact Fin_nil trivial rfl | exact Fin_sl trivial rfl upd_self rfl rfl)
  · rw [decide_eq_false hf] at c0
    repeat' (first | (with_reducible first | refine W_seq ?_ | refine then_n ?_ | refine W_skip ?_ | refine W_ret ?_ | refine then_r ?_) | ((with_reducible refine s_reg ?_); intro K hK) | ((with_reducible refine k_nil ?_); (with_reducible apply s_nil hK); (· exact nmX); clear hK; clear K) | ((with_reducible refine k_cond ?_); (first | ((with_reducible apply s_condT); (· rfl); (· exact nmX)) | ((with_reducible apply s_condF); (· rfl); (· exact nmX)) | ((with_reducible apply s_condS); (· rfl); (· exact nmX); (· exact nmX)))) | ((with_reducible refine k_guard ?_); (first | (refine s_gt rfl ?_) | (refine s_gf1 rfl ?_) | (refine s_gfn rfl ?_) | (refine s_gx1 rfl ?_) | (refine s_gxn rfl ?_) | (refine s_gs rfl ?_))) | ((with_reducible refine k_mv ?_); (refine s_mv rfl ?_)) | ((with_reducible refine k_pick ?_); (first | (refine s_pickT rfl rfl ?_) | (refine s_pickF rfl rfl ?_))) | ((with_reducible refine k_not ?_); (refine s_not rfl (by first | exact Bool.not_true | exact Bool.not_false | rfl) ?_)) | ((with_reducible refine k_loadA ?_); (first | ((with_reducible apply s_loadAV); (· rfl); (· (first | exact Nat.le_of_ble_eq_true rfl | decide | omega | (simp; done) | (simp; omega) | skip))) | ((with_reducible apply s_loadAP); (· rfl); (· (exact hpX)); (· (first | exact Nat.le_of_ble_eq_true rfl | decide | omega | (simp; done) | (simp; omega) | skip))))) | ((with_reducible refine k_box (dst := some 1) ?_); ((with_reducible apply s_box); (· rfl); (· rfl); intro k1 hk1; (try simp only [upd_none] at hk1))) | ((with_reducible refine k_callF ?_); (first | ((with_reducible apply s_call1); (· rfl)) | ((with_reducible apply s_calln); (· rfl)))) | ((with_reducible refine k_con ?_); (first | ((with_reducible apply con_val (awake_c)); (· (repeat (first | exact All2.nil | (apply All2.cons; (· first | exact Rd_cs | exact rdX))))); (· rfl); (· exact fun _ => rfl)) | ((with_reducible apply con_val (c0)); (· (repeat (first | exact All2.nil | (apply All2.cons; (· first | exact Rd_cs | exact rdX))))); (· rfl); (· exact fun _ => rfl)))) | ((with_reducible refine k_br ?_); (first | (with_reducible first | refine Br_dec ?_ | refine Br_not ?_ | refine Br_eqF ?_ | refine Br_and ?_ | refine Br_or ?_ | refine Br_neg ?_ | refine Br_band ?_ | refine Br_bor ?_ | refine Br_beq ?_) | (refine Br_t (by first | omega | assumption | rfl) ?_) | (refine Br_f (by first | omega | assumption | decide) ?_) | (with_reducible apply Br_sb <;> intro hbr <;> (first | subst hbr | simp only [hbr] | skip)) | (with_reducible apply Br_s <;> intro hbr))) | (with_reducible refine WN_succ ?_) | ((first | (with_reducible apply q_eqI) | (with_reducible apply q_eqN)); (first | exact nuI | exact nuN)) | ((first | (with_reducible apply q_eqL) | (with_reducible apply q_eqO)); (first | exact liL | exact liO)))
    all_goals first | (exfalso; omega) | (first | exact Fin_flat trivial rfl rfl | (refine Fin_tup trivial rfl ?_ (Nat.le_of_ble_eq_true rfl); (repeat (first | exact All2.nil | (apply All2.cons; (· first | exact exc_n | exact exc_e | exact exc_v rfl rfl | exact exc_o upd_self rfl rfl)))); done) | (refine Fin_own trivial rfl upd_self ?_ (Nat.le_of_ble_eq_true rfl); (repeat (first | exact All2.nil | (apply All2.cons; (· first | exact exc_n | exact exc_e | exact exc_v rfl rfl | exact exc_o upd_self rfl rfl)))); done) | exact Fin_nil trivial rfl | exact Fin_sl trivial rfl upd_self rfl rfl)
theorem either_t : ∀ dts, All2 (TypedA Try.prog) Try.f8.params.toList dts → PCon Try.prog 8 dts (.bool true) := by
  intro dts h
  rw [Try.params8] at h
  obtain ⟨a, rfl, ha⟩ := one_arg h
  obtain ⟨p, l, s, kn, rfl, hl⟩ := typed_case ha
  exact either_l p l hl s kn
end Go.Proofs.Ytfdfmbmhefckaaa
end
