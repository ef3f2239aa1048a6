import Derived.Test.YtolnhkpckbgmgaaAmZ
section
/- Appending to growable slices: the new block. -/
set_option linter.unusedSimpArgs false
set_option linter.unusedVariables false
namespace Go.AM
open Go
/-! ### Appending something: the new block -/
theorem append_own2 {h : Heap} {d y : D} {sz bytes n m key : Nat} {cells new : List D} (ho : SlOwn h d sz cells n) (hy : lenA y = some m) (hs : srcD h sz m y = some new) (hl : new.length = m * sz) (hsz : 0 < sz) (hm : m ≠ 0) (hr : (n + m) * bytes ≤ room) (hk : h key = none) :
    ∃ h', appD h key sz bytes d y = some (.sl key sz 0 (n + m), h') ∧ h' key = some (cells ++ new) ∧ (∀ j c, h j = some c → (∀ sz off n, d ≠ .sl j sz off n) → h' j = some c) := by
  obtain ⟨hc, ⟨rfl, hd⟩ | ⟨k, rfl, hkc⟩⟩ := ho
  · have hc0 : cells = [] := by cases cells with | nil => rfl | cons _ _ => simp at hc
    subst hc0
    have hr' : m * bytes ≤ room := by simpa using hr
    have hoth : ∀ j c, h j = some c → upd h key new j = some c := fun j c hj => by rw [upd_ne (by rintro rfl; rw [hk] at hj; cases hj)]; exact hj
    rcases hd with rfl | rfl
    · exact ⟨_, by simp [appD, hy, hs, hm, hr'], upd_self, fun j c hj _ => hoth j c hj⟩
    · exact ⟨_, by simp [appD, hy, hs, hm, hr'], upd_self, fun j c hj _ => hoth j c hj⟩
  · have hlt : ¬ ((n + m) * sz ≤ cells.length) := by
      rw [hc, Nat.add_mul]
      have : 0 < m * sz := Nat.mul_pos (by omega) hsz
      omega
    refine ⟨upd (del h k) key (cells ++ new), ?_, upd_self, ?_⟩
    · rw [hc] at hlt
      simp only [appD, hy, hs, if_true, hkc, if_neg hm, Nat.zero_add, hc, true_and, if_pos hr]
      rw [if_neg hlt]
    · intro j c hj hne
      rw [upd_ne (by rintro rfl; rw [hk] at hj; cases hj)]
      simp only [del]
      rw [if_neg (by rintro rfl; exact hne sz 0 n rfl)]
      exact hj
theorem s_app2 {P : Program} {e : Env} {h : Heap} {r : List AIns} {K : Env → Heap → Prop} {t : Nat} {sz bytes n m : Nat} {x y : O} {d dy : D} {cells new : List D} (h1 : evO (get e) x = some d) (h2 : evO (get e) y = some dy) (ho : SlOwn h d sz cells n) (hy : lenA dy = some m) (hs : srcD h sz m dy = some new) (hl : new.length = m * sz ∧ 0 < sz ∧ m ≠ 0) (hr : (n + m) * bytes ≤ room)
    (hw : ∀ key h', h key = none → h' key = some (cells ++ new) → (∀ j c, h j = some c → (∀ sz off n, d ≠ .sl j sz off n) → h' j = some c) → Wops P r ((t, .sl key sz 0 (n + m)) :: e) h' K) : Wops P (⟨some t, .append sz bytes x y, none⟩ :: r) e h K :=
  s_append h1 h2 fun k hk => let ⟨h', h3, h4, h5⟩ := append_own2 ho hy hs hl.1 hl.2.1 hl.2.2 hr hk; ⟨_, h', h3, hw k h' hk h4 h5⟩
def Fr (d : D) (j : Nat) : Prop := ∀ sz off n, d ≠ .sl j sz off n
theorem Fr.sl {k j sz off n : Nat} (h : k ≠ j) : Fr (.sl k sz off n) j := fun _ _ _ he => by injection he; contradiction
theorem Fr.nil {j : Nat} : Fr .nil j := fun _ _ _ he => by cases he
def Dis (d d' : D) : Prop := ∀ j, Fr d j ∨ Fr d' j
theorem Dis.symm {d d' : D} (h : Dis d d') : Dis d' d := fun j => (h j).symm
theorem SlOwn.dis {h : Heap} {d : D} {sz n k : Nat} {cells : List D} (ho : SlOwn h d sz cells n) {sz' n' : Nat} (hk : h k = none) : Dis d (.sl k sz' 0 n') := by
  intro j
  by_cases hj : j = k
  · subst hj; exact .inl (ho.fresh hk)
  · exact .inr (Fr.sl (Ne.symm hj))
theorem SlOwn.oth {h h' : Heap} {d d0 : D} {sz n : Nat} {cells : List D} (ho : SlOwn h d sz cells n) (hd : Dis d0 d) (hh : ∀ j c, h j = some c → (∀ sz off n, d0 ≠ .sl j sz off n) → h' j = some c) : SlOwn h' d sz cells n := by
  obtain ⟨hc, ⟨rfl, hn⟩ | ⟨k, rfl, hkc⟩⟩ := ho
  · exact ⟨hc, .inl ⟨rfl, hn⟩⟩
  · refine ⟨hc, .inr ⟨k, rfl, hh k _ hkc ?_⟩⟩
    rcases hd k with h1 | h1
    · exact h1
    · exact absurd rfl (h1 sz 0 n)
end Go.AM
end
section
/- Closing steps of a walk, each under one name. -/
set_option linter.unusedSimpArgs false
set_option linter.unusedVariables false
namespace Go.AM
open Go
theorem nuI {a b : Int} (h : a = b := by first | (simp (disch := omega) only [w64, wu8, wu16, wu32, wu64, tm_nn, td_nn, fd_nn, Int.reduceAdd, Int.reduceSub, Int.reduceMul, Int.reduceDiv, Int.reduceMod, Int.reduceNeg, Int.reduceToNat, Int.toNat_natCast, Int.toNat_zero, Int.zero_add, Int.add_zero, Int.one_mul, Int.reducePow, Nat.mul_one, Nat.zero_add, Nat.add_zero, Nat.zero_mul, Nat.reduceAdd, Nat.reduceMul, Nat.reduceSub, Nat.min_eq_left, IntKind.bits, Nat.sub_zero]; try rfl; done) | rfl) : a = b := h
theorem nuN {a b : Nat} (h : a = b := by first | (simp (disch := omega) only [w64, wu8, wu16, wu32, wu64, tm_nn, td_nn, fd_nn, Int.reduceAdd, Int.reduceSub, Int.reduceMul, Int.reduceDiv, Int.reduceMod, Int.reduceNeg, Int.reduceToNat, Int.toNat_natCast, Int.toNat_zero, Int.zero_add, Int.add_zero, Int.one_mul, Int.reducePow, Nat.mul_one, Nat.zero_add, Nat.add_zero, Nat.zero_mul, Nat.reduceAdd, Nat.reduceMul, Nat.reduceSub, Nat.min_eq_left, IntKind.bits, Nat.sub_zero]; try rfl; done) | rfl) : a = b := h
theorem liL {a b : List D} (h : a = b := by first | (simp (disch := omega) only [upd_self, upd_ne, upd_upd, rep, splice, List.take_succ_cons, List.take_zero, List.drop_succ_cons, List.drop_zero, List.cons_append, List.nil_append, List.append_nil, List.length_cons, List.length_nil, List.reduceReplicate, List.flatten_cons, List.flatten_nil, Nat.reduceAdd, Nat.reduceMul, Nat.reduceSub, Nat.zero_add, Nat.add_zero, List.getElem?_cons_zero, List.getElem?_cons_succ]; try rfl; done) | rfl) : a = b := h
theorem liO {a b : Option D} (h : a = b := by first | (simp (disch := omega) only [upd_self, upd_ne, upd_upd, rep, splice, List.take_succ_cons, List.take_zero, List.drop_succ_cons, List.drop_zero, List.cons_append, List.nil_append, List.append_nil, List.length_cons, List.length_nil, List.reduceReplicate, List.flatten_cons, List.flatten_nil, Nat.reduceAdd, Nat.reduceMul, Nat.reduceSub, Nat.zero_add, Nat.add_zero, List.getElem?_cons_zero, List.getElem?_cons_succ]; try rfl; done) | rfl) : a = b := h
theorem neX {a b : Nat} (h : a ≠ b := by first | (with_reducible first | exact And.left (by assumption) | exact Ne.symm (And.left (by assumption)) | exact And.left (And.right (by assumption)) | exact Ne.symm (And.left (And.right (by assumption))) | exact And.left (And.right (And.right (by assumption))) | exact Ne.symm (And.left (And.right (And.right (by assumption)))) | exact And.left (And.right (And.right (And.right (by assumption)))) | exact Ne.symm (And.left (And.right (And.right (And.right (by assumption))))) | exact And.left (And.right (And.right (And.right (And.right (by assumption))))) | exact Ne.symm (And.left (And.right (And.right (And.right (And.right (by assumption)))))) | exact And.left (And.right (And.right (And.right (And.right (And.right (by assumption)))))) | exact Ne.symm (And.left (And.right (And.right (And.right (And.right (And.right (by assumption))))))) | exact And.left (And.right (And.right (And.right (And.right (And.right (And.right (by assumption))))))) | exact Ne.symm (And.left (And.right (And.right (And.right (And.right (And.right (And.right (by assumption)))))))) | exact And.left (And.right (And.right (And.right (And.right (And.right (And.right (And.right (by assumption)))))))) | exact Ne.symm (And.left (And.right (And.right (And.right (And.right (And.right (And.right (And.right (by assumption))))))))) | exact And.left (And.right (And.right (And.right (And.right (And.right (And.right (And.right (And.right (by assumption))))))))) | exact Ne.symm (And.left (And.right (And.right (And.right (And.right (And.right (And.right (And.right (And.right (by assumption))))))))))) | omega | exact ne_key ‹_› ‹_› | exact (ne_key ‹_› ‹_›).symm | exact ne_key1 ‹_› ‹_› | exact (ne_key1 ‹_› ‹_›).symm | exact ne_key2 ‹_› ‹_› | exact (ne_key2 ‹_› ‹_›).symm | exact ne_key3 ‹_› ‹_› | exact (ne_key3 ‹_› ‹_›).symm) : a ≠ b := h
theorem hpX {h : Heap} {k : Nat} {c : List D} (p : h k = some c := by first | exact upd_self | rfl | assumption | (simp (disch := exact neX) only [upd_self, upd_ne]; first | done | rfl | assumption)) : h k = some c := p
theorem nmX {keep : List Nat} {e e' : Env} (p : norm keep e = e' := by repeat (first | exact norm_nil | ((with_reducible apply norm_cons); (focus ((rfl); first | done | fail))) | ((with_reducible apply norm_skip); (focus ((rfl); first | done | fail))))) : norm keep e = e' := p
theorem agX {h : Heap} {ds ds' : List D} (p : All2 (Rd h) ds ds' := by (repeat (first | exact All2.nil | (apply All2.cons; (focus ((first | exact Rd_int | exact Rd_bool | exact Rd_vs | exact Rd_nil | exact Rd_emp | exact Rd_vp | exact Rd_sl0 upd_self rfl rfl | exact Rd_fn0 | exact Rd_flat rfl | ((apply Rd_sl0); (focus ((exact hpX); first | done | fail)); (focus ((first | rfl | exact scal_i | exact scal_b | assumption); first | done | fail)); (focus ((first | rfl | assumption | (simp; first | done | fail) | (simp; omega)); first | done | fail))) | ((apply Rd_so); (focus ((first | assumption | ((repeat' (first | assumption | (with_reducible apply SlOwn.upd) | (simp only [upd_none]; assumption))); first | done | fail)); first | done | fail)); (focus ((first | rfl | exact scal_i | exact scal_b | assumption); first | done | fail)))); first | done | fail))))); first | done | fail) : All2 (Rd h) ds ds' := p
theorem rdX {h : Heap} {d d' : D} (p : Rd h d d' := by first | exact Rd_int | exact Rd_bool | exact Rd_vs | exact Rd_nil | exact Rd_emp | exact Rd_vp | exact Rd_sl0 upd_self rfl rfl | exact Rd_fn0 | exact Rd_flat rfl | ((apply Rd_sl0); (focus ((exact hpX); first | done | fail)); (focus ((first | rfl | exact scal_i | exact scal_b | assumption); first | done | fail)); (focus ((first | rfl | assumption | (simp; first | done | fail) | (simp; omega)); first | done | fail))) | ((apply Rd_so); (focus ((first | assumption | ((repeat' (first | assumption | (with_reducible apply SlOwn.upd) | (simp only [upd_none]; assumption))); first | done | fail)); first | done | fail)); (focus ((first | rfl | exact scal_i | exact scal_b | assumption); first | done | fail)))) : Rd h d d' := p
end Go.AM
end
