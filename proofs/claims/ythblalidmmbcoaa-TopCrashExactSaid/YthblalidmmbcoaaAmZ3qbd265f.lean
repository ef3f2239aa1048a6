import Derived.Test.YthblalidmmbcoaaAmZ
section
/- Appending to growable slices: the new block. -/
set_option linter.unusedSimpArgs false
set_option linter.unusedVariables false
namespace Go.AM
open Go
/-! ### Appending something: the new block -/
theorem append_own2 {h : Heap} {d y : D} {sz bytes n m key : Nat} {cells new : List D} (ho : SlOwn h d sz cells n) (hy : lenA y = some m) (hs : srcD h sz m y = some new) (hl : new.length = m * sz) (hsz : 0 < sz) (hm : m ≠ 0) (hr : (n + m) * bytes ≤ room) (hk : h key = none) :
    ∃ h', appD h key sz bytes d y = some (.sl key sz 0 (n + m), h') ∧ h' key = some (cells ++ new) ∧ (∀ j c, h j = some c → (∀ sz off n, d ≠ .sl j sz off n) → h' j = some c) := by
  obtain ⟨hc, ⟨rfl, hd⟩ | ⟨k, rfl, hkc⟩⟩ := ho
  · have hc0 : cells = [] := by cases cells with | nil => rfl | cons _ _ => simp at hc
    subst hc0
    have hr' : m * bytes ≤ room := by simpa using hr
    have hoth : ∀ j c, h j = some c → upd h key new j = some c := fun j c hj => by rw [upd_ne (by rintro rfl; rw [hk] at hj; cases hj)]; exact hj
    rcases hd with rfl | rfl
    · exact ⟨_, by simp [appD, hy, hs, hm, hr'], upd_self, fun j c hj _ => hoth j c hj⟩
    · exact ⟨_, by simp [appD, hy, hs, hm, hr'], upd_self, fun j c hj _ => hoth j c hj⟩
  · have hlt : ¬ ((n + m) * sz ≤ cells.length) := by
      rw [hc, Nat.add_mul]
      have : 0 < m * sz := Nat.mul_pos (by omega) hsz
      omega
    refine ⟨upd (del h k) key (cells ++ new), ?_, upd_self, ?_⟩
    · rw [hc] at hlt
      simp only [appD, hy, hs, if_true, hkc, if_neg hm, Nat.zero_add, hc, true_and, if_pos hr]
      rw [if_neg hlt]
    · intro j c hj hne
      rw [upd_ne (by rintro rfl; rw [hk] at hj; cases hj)]
      simp only [del]
      rw [if_neg (by rintro rfl; exact hne sz 0 n rfl)]
      exact hj
theorem s_app2 {P : Program} {e : Env} {h : Heap} {r : List AIns} {K : Env → Heap → Prop} {t : Nat} {sz bytes n m : Nat} {x y : O} {d dy : D} {cells new : List D} (h1 : evO (get e) x = some d) (h2 : evO (get e) y = some dy) (ho : SlOwn h d sz cells n) (hy : lenA dy = some m) (hs : srcD h sz m dy = some new) (hl : new.length = m * sz ∧ 0 < sz ∧ m ≠ 0) (hr : (n + m) * bytes ≤ room)
    (hw : ∀ key h', h key = none → h' key = some (cells ++ new) → (∀ j c, h j = some c → (∀ sz off n, d ≠ .sl j sz off n) → h' j = some c) → Wops P r ((t, .sl key sz 0 (n + m)) :: e) h' K) : Wops P (⟨some t, .append sz bytes x y, none⟩ :: r) e h K :=
  s_append h1 h2 fun k hk => let ⟨h', h3, h4, h5⟩ := append_own2 ho hy hs hl.1 hl.2.1 hl.2.2 hr hk; ⟨_, h', h3, hw k h' hk h4 h5⟩
def Fr (d : D) (j : Nat) : Prop := ∀ sz off n, d ≠ .sl j sz off n
theorem Fr.sl {k j sz off n : Nat} (h : k ≠ j) : Fr (.sl k sz off n) j := fun _ _ _ he => by injection he; contradiction
theorem Fr.nil {j : Nat} : Fr .nil j := fun _ _ _ he => by cases he
def Dis (d d' : D) : Prop := ∀ j, Fr d j ∨ Fr d' j
theorem Dis.symm {d d' : D} (h : Dis d d') : Dis d' d := fun j => (h j).symm
theorem SlOwn.dis {h : Heap} {d : D} {sz n k : Nat} {cells : List D} (ho : SlOwn h d sz cells n) {sz' n' : Nat} (hk : h k = none) : Dis d (.sl k sz' 0 n') := by
  intro j
  by_cases hj : j = k
  · subst hj; exact .inl (ho.fresh hk)
  · exact .inr (Fr.sl (Ne.symm hj))
theorem SlOwn.oth {h h' : Heap} {d d0 : D} {sz n : Nat} {cells : List D} (ho : SlOwn h d sz cells n) (hd : Dis d0 d) (hh : ∀ j c, h j = some c → (∀ sz off n, d0 ≠ .sl j sz off n) → h' j = some c) : SlOwn h' d sz cells n := by
  obtain ⟨hc, ⟨rfl, hn⟩ | ⟨k, rfl, hkc⟩⟩ := ho
  · exact ⟨hc, .inl ⟨rfl, hn⟩⟩
  · refine ⟨hc, .inr ⟨k, rfl, hh k _ hkc ?_⟩⟩
    rcases hd k with h1 | h1
    · exact h1
    · exact absurd rfl (h1 sz 0 n)
end Go.AM
end
section
/- Closing steps of a walk, each under one name. -/
set_option linter.unusedSimpArgs false
set_option linter.unusedVariables false
namespace Go.AM
open Go
theorem nuI {a b : Int} (h : a = b := by first | (simp (disch := omega) only [w64, wu8, wu16, wu32, wu64, tm_nn, td_nn, fd_nn, Int.reduceAdd, Int.reduceSub, Int.reduceMul, Int.reduceDiv, Int.reduceMod, Int.reduceNeg, Int.reduceToNat, Int.toNat_natCast, Int.toNat_zero, Int.zero_add, Int.add_zero, Int.one_mul, Int.reducePow, Nat.mul_one, Nat.zero_add, Nat.add_zero, Nat.zero_mul, Nat.reduceAdd, Nat.reduceMul, Nat.reduceSub, Nat.min_eq_left, IntKind.bits, Nat.sub_zero]; try rfl; done) | rfl) : a = b := h
theorem nuN {a b : Nat} (h : a = b := by first | (simp (disch := omega) only [w64, wu8, wu16, wu32, wu64, tm_nn, td_nn, fd_nn, Int.reduceAdd, Int.reduceSub, Int.reduceMul, Int.reduceDiv, Int.reduceMod, Int.reduceNeg, Int.reduceToNat, Int.toNat_natCast, Int.toNat_zero, Int.zero_add, Int.add_zero, Int.one_mul, Int.reducePow, Nat.mul_one, Nat.zero_add, Nat.add_zero, Nat.zero_mul, Nat.reduceAdd, Nat.reduceMul, Nat.reduceSub, Nat.min_eq_left, IntKind.bits, Nat.sub_zero]; try rfl; done) | rfl) : a = b := h
theorem liL {a b : List D} (h : a = b := by first | (simp (disch := omega) only [upd_self, upd_ne, upd_upd, rep, splice, List.take_succ_cons, List.take_zero, List.drop_succ_cons, List.drop_zero, List.cons_append, List.nil_append, List.append_nil, List.length_cons, List.length_nil, List.reduceReplicate, List.flatten_cons, List.flatten_nil, Nat.reduceAdd, Nat.reduceMul, Nat.reduceSub, Nat.zero_add, Nat.add_zero, List.getElem?_cons_zero, List.getElem?_cons_succ]; try rfl; done) | rfl) : a = b := h
theorem liO {a b : Option D} (h : a = b := by first | (simp (disch := omega) only [upd_self, upd_ne, upd_upd, rep, splice, List.take_succ_cons, List.take_zero, List.drop_succ_cons, List.drop_zero, List.cons_append, List.nil_append, List.append_nil, List.length_cons, List.length_nil, List.reduceReplicate, List.flatten_cons, List.flatten_nil, Nat.reduceAdd, Nat.reduceMul, Nat.reduceSub, Nat.zero_add, Nat.add_zero, List.getElem?_cons_zero, List.getElem?_cons_succ]; try rfl; done) | rfl) : a = b := h
theorem neX {a b : Nat} (h : a ≠ b := by first | (with_reducible first | exact And.left (by assumption) | exact Ne.symm (And.left (by assumption)) | exact And.left (And.right (by assumption)) | exact Ne.symm (And.left (And.right (by assumption))) | exact And.left (And.right (And.right (by assumption))) | exact Ne.symm (And.left (And.right (And.right (by assumption)))) | exact And.left (And.right (And.right (And.right (by assumption)))) | exact Ne.symm (And.left (And.right (And.right (And.right (by assumption))))) | exact And.left (And.right (And.right (And.right (And.right (by assumption))))) | exact Ne.symm (And.left (And.right (And.right (And.right (And.right (by assumption)))))) | exact And.left (And.right (And.right (And.right (And.right (And.right (by assumption)))))) | exact Ne.symm (And.left (And.right (And.right (And.right (And.right (And.right (by assumption))))))) | exact And.left (And.right (And.right (And.right (And.right (And.right (And.right (by assumption))))))) | exact Ne.symm (And.left (And.right (And.right (And.right (And.right (And.right (And.right (by assumption)))))))) | exact And.left (And.right (And.right (And.right (And.right (And.right (And.right (And.right (by assumption)))))))) | exact Ne.symm (And.left (And.right (And.right (And.right (And.right (And.right (And.right (And.right (by assumption))))))))) | exact And.left (And.right (And.right (And.right (And.right (And.right (And.right (And.right (And.right (by assumption))))))))) | exact Ne.symm (And.left (And.right (And.right (And.right (And.right (And.right (And.right (And.right (And.right (by assumption))))))))))) | omega | exact ne_key ‹_› ‹_› | exact (ne_key ‹_› ‹_›).symm | exact ne_key1 ‹_› ‹_› | exact (ne_key1 ‹_› ‹_›).symm | exact ne_key2 ‹_› ‹_› | exact (ne_key2 ‹_› ‹_›).symm | exact ne_key3 ‹_› ‹_› | exact (ne_key3 ‹_› ‹_›).symm) : a ≠ b := h
theorem hpX {h : Heap} {k : Nat} {c : List D} (p : h k = some c := by first | exact upd_self | rfl | assumption | (simp (disch := exact neX) only [upd_self, upd_ne]; first | done | rfl | assumption)) : h k = some c := p
theorem nmX {keep : List Nat} {e e' : Env} (p : norm keep e = e' := by repeat (first | exact norm_nil | ((with_reducible apply norm_cons); (focus ((rfl); first | done | fail))) | ((with_reducible apply norm_skip); (focus ((rfl); first | done | fail))))) : norm keep e = e' := p
theorem agX {h : Heap} {ds ds' : List D} (p : All2 (Rd h) ds ds' := by (repeat (first | exact All2.nil | (apply All2.cons; (focus ((first | exact Rd_int | exact Rd_bool | exact Rd_vs | exact Rd_nil | exact Rd_emp | exact Rd_vn | exact Rd_vp | exact Rd_sl0 upd_self rfl rfl | exact Rd_fn0 | exact Rd_flat rfl | ((apply Rd_sl0); (focus ((exact hpX); first | done | fail)); (focus ((first | rfl | exact scal_i | exact scal_b | assumption); first | done | fail)); (focus ((first | rfl | assumption | (simp; first | done | fail) | (simp; omega)); first | done | fail))) | ((apply Rd_so); (focus ((first | assumption | ((repeat' (first | assumption | (with_reducible apply SlOwn.upd) | (simp only [upd_none]; assumption))); first | done | fail)); first | done | fail)); (focus ((first | rfl | exact scal_i | exact scal_b | assumption); first | done | fail)))); first | done | fail))))); first | done | fail) : All2 (Rd h) ds ds' := p
theorem rdX {h : Heap} {d d' : D} (p : Rd h d d' := by first | exact Rd_int | exact Rd_bool | exact Rd_vs | exact Rd_nil | exact Rd_emp | exact Rd_vn | exact Rd_vp | exact Rd_sl0 upd_self rfl rfl | exact Rd_fn0 | exact Rd_flat rfl | ((apply Rd_sl0); (focus ((exact hpX); first | done | fail)); (focus ((first | rfl | exact scal_i | exact scal_b | assumption); first | done | fail)); (focus ((first | rfl | assumption | (simp; first | done | fail) | (simp; omega)); first | done | fail))) | ((apply Rd_so); (focus ((first | assumption | ((repeat' (first | assumption | (with_reducible apply SlOwn.upd) | (simp only [upd_none]; assumption))); first | done | fail)); first | done | fail)); (focus ((first | rfl | exact scal_i | exact scal_b | assumption); first | done | fail)))) : Rd h d d' := p
theorem s_eqN0 {P : Program} {e : Env} {h : Heap} {r : List AIns} {K : Env → Heap → Prop} {t : Nat} {neg : Bool} {x : O} {sz : Nat} {c : List D} (h1 : evO (get e) x = some (.vs sz c 0)) (hw : ∀ b, Wops P r ((t, .bool b) :: e) h K) : Wops P (⟨some t, .eqN neg x, none⟩ :: r) e h K := by
  show Wins P _ e h fun e' h' => Wops P r e' h' K
  unfold Wins
  simp only
  unfold runIns
  simp only [makes, Bool.false_eq_true, if_false, evOp, h1, Option.bind_some, isNilD, if_true]
  exact ⟨⟨neg, x, sz, c, rfl, h1⟩, hw⟩
/-! ### Results that are read by value -/
def Rn (h : Heap) (d r : D) : Prop := ∀ (s : Sg) (base : Nat) (v : Value), RH s h → ((∀ b, b < base → s.prot b) ∧ s.base = base) → RV s v d → RP s.w (fun b => base ≤ b ∧ b < s.w.heap.size) v r
theorem Rn_scal {h : Heap} {d : D} (hd : scal d = true) : Rn h d d := fun _ _ _ _ _ hv => hv.scal hd _
theorem Rn_nil {h : Heap} {sz : Nat} : Rn h .nil (.vs sz [] 0) := fun _ _ _ _ _ hv => by rw [hv.inv_nil]; exact .vs0 _ _ _
theorem Rn_emp {h : Heap} {sz : Nat} : Rn h .emp (.vs sz [] 0) := fun _ _ _ _ _ hv => by obtain ⟨a, rfl⟩ := hv.inv_emp; exact .vs0 _ _ _
theorem Rn_vn {h : Heap} {sz len : Nat} {c : List D} : Rn h (.vn sz c len) (.vs sz c len) := fun s base v H hb hv => hv.inv_vn.mono fun b hf => ⟨⟨hb.2 ▸ (H.fp b hf).2, H.lt b (H.fp b hf).1⟩, rfl⟩
theorem Rn_so {h : Heap} {d : D} {sz n : Nat} {c c' : List D} (ho : SlOwn h d sz c n) (hr : All2 (Rn h) c c') : Rn h d (.vs sz c' n) := by
  obtain ⟨hl, ⟨rfl, hd⟩ | ⟨k, rfl, hk⟩⟩ := ho
  · have h0 : c = [] := List.length_eq_zero_iff.1 (by simpa using hl)
    subst h0
    have h1 : c' = [] := List.length_eq_zero_iff.1 (by have := hr.1; simpa using this.symm)
    subst h1
    rcases hd with rfl | rfl
    · exact Rn_nil
    · exact Rn_emp
  · intro s base v H hb hv
    obtain ⟨_, ad, cap, rfl, hna, hlc, hq⟩ := hv.inv_sl
    obtain ⟨_, x, hx, _, hown⟩ := H.own k c hk
    obtain ⟨hcc, hcap⟩ := hq x _ hx
    have hlen := hr.1
    rcases hcap with h0 | ⟨b, cs, e, rfl, rfl, hbb, hs⟩
    · obtain rfl : n = 0 := by omega
      have h0 : c = [] := List.length_eq_zero_iff.1 (by simpa using hl)
      subst h0
      have h1 : c' = [] := List.length_eq_zero_iff.1 (by simpa using hlen.symm)
      subst h1
      exact RP.vs0 ad cap sz
    · obtain ⟨hnp, cs2, e2, hh, hl2, hall⟩ := hown b rfl
      have hbl : b < s.w.heap.size := by
        rcases Nat.lt_or_ge b s.w.heap.size with h' | h'
        · exact h'
        · simp [Array.getElem?_eq_none h'] at hh
      have hge : base ≤ b := by
        rcases Nat.lt_or_ge b base with h' | h'
        · exact absurd (hb.1 b h') hnp
        · exact h'
      have hat := (cellsAt_block hh).sub 0 c.length
      simp only [Nat.add_zero, List.drop_zero] at hat
      refine .vs b 0 cap sz n _ (cs2.toList.take c.length) (by omega) hlc ⟨hge, hbl⟩ (hall.1.trans hlen) ?_ hat ?_
      · intro v hv'
        obtain ⟨i, hi⟩ := List.mem_iff_getElem?.1 hv'
        have hlt : i < c.length := by
          rcases Nat.lt_or_ge i (cs2.toList.take c.length).length with h' | h'
          · rw [hall.1] at h'; exact h'
          · simp [List.getElem?_eq_none h'] at hi
        exact (hall.2 i v _ hi (List.getElem?_eq_getElem hlt)).2
      · intro i v d hv' hd
        have hlt : i < c.length := by
          rcases Nat.lt_or_ge i c.length with h' | h'
          · exact h'
          · rw [List.getElem?_eq_none (by omega)] at hd; cases hd
        have hci := List.getElem?_eq_getElem hlt
        exact hr.2 i _ d hci hd s base v H hb (hall.2 i v _ hv' hci).1
theorem Rn_sl {h : Heap} {k sz n : Nat} {c c' : List D} (hk : h k = some c) (hl : c.length = n * sz) (hr : All2 (Rn h) c c') : Rn h (.sl k sz 0 n) (.vs sz c' n) := Rn_so (.sl hk hl) hr
theorem All2_scal {h : Heap} : ∀ {c : List D}, c.all scal = true → All2 (Rn h) c c
  | [], _ => All2.nil
  | d :: c, hc => by
    simp only [List.all_cons, Bool.and_eq_true] at hc
    exact All2.cons (Rn_scal hc.1) (All2_scal hc.2)
def noOw : D → Bool
  | .ow _ _ _ => false
  | _ => true
def noTup : D → Bool
  | .tup _ => false
  | .ow _ _ _ => false
  | _ => true
theorem OutC_rp {x : Option Nat} {w : World} {prot : Nat → Prop} {v : Value} {r : D} (hn : noOw r = true) (h : RP w prot v r) : OutC x w prot v r := by
  cases r <;> first | exact h | (simp [noOw] at hn)
theorem Ex_rn {h : Heap} {d r : D} (hr : Rn h d r) (hn : noTup r = true) : Ex h d r := by
  intro s base v H hb hv
  have h1 : RP s.w (fun b => base ≤ b ∧ b < s.w.heap.size ∧ (none : Option Nat) ≠ some b) v r := (hr s base v H hb hv).mono fun b hb => ⟨⟨hb.1, hb.2, by simp⟩, rfl⟩
  refine ⟨none, by simp, ?_⟩
  cases r <;> first | exact h1 | (simp [noTup] at hn)
theorem nOw_no : ∀ {rs : List D}, rs.all noOw = true → nOw rs = 0
  | [], _ => rfl
  | r :: rs, h => by
    simp only [List.all_cons, Bool.and_eq_true] at h
    rw [nOw, nOw_no h.2]
    cases r <;> first | rfl | (simp [noOw] at h)
theorem Ex_tupN {h : Heap} {ds rs : List D} (hall : All2 (Rn h) ds rs) (hn : rs.all noOw = true) : Ex h (.tup ds) (.tup rs) := by
  intro s base v H hb hv
  obtain ⟨vs, rfl, hvs⟩ := hv.inv_tup
  refine ⟨none, by simp, by rw [nOw_no hn]; omega, vs, rfl, hvs.1.trans hall.1, fun i u r hu hr => ?_⟩
  have hlt : i < ds.length := by
    rcases Nat.lt_or_ge i ds.length with h' | h'
    · exact h'
    · rw [hall.1] at h'; simp [List.getElem?_eq_none h'] at hr
  have hd := List.getElem?_eq_getElem hlt
  exact OutC_rp (List.all_eq_true.1 hn r (List.mem_of_getElem? hr)) ((hall.2 i _ r hd hr s base u H hb (hvs.2 i u _ hu hd)).mono fun b hb => ⟨⟨hb.1, hb.2, by simp⟩, rfl⟩)
theorem Fin_rn {rs : List ARes} {e : Env} {h : Heap} {d r : D} {x : X} (hx : match x with | .exit _ => False | _ => True) (hd : resD rs (get e) h = some d) (hr : Rn h d r) (hn : noTup r = true) : Fin rs r x ⟨e, h⟩ := ⟨hx, d, hd, Ex_rn hr hn⟩
theorem Fin_tupN {rs : List ARes} {e : Env} {h : Heap} {ds ws : List D} {x : X} (hx : match x with | .exit _ => False | _ => True) (hd : resD rs (get e) h = some (.tup ds)) (hr : All2 (Rn h) ds ws) (hn : ws.all noOw = true) : Fin rs (.tup ws) x ⟨e, h⟩ := ⟨hx, _, hd, Ex_tupN hr hn⟩
theorem Kl_vs {sz len : Nat} {c : List D} : Kl (.vs sz c len) := fun _ _ hv => hv.inv_vs
theorem PK.val {P : Program} {h : Heap} {ds : List D} {g : Nat} {r : D} (hkl : Kl r) (hn : noTup r = true) (hc : ∀ h2, Sub h h2 → Con P g ds h2 (fun d h' => d = r ∧ h' = h2)) : PK P h ds g r := by
  have ho : owOf r = none := by cases r <;> first | rfl | (simp [noTup] at hn)
  have ht : ∀ k, thaw k r = r := fun k => by cases r <;> first | rfl | (simp [noTup] at hn)
  refine ⟨by cases r <;> first | exact hkl | (simp [noTup] at hn), fun h2 hs => (hc h2 hs).mono ?_⟩
  rintro d h' ⟨rfl, rfl⟩
  exact ⟨0, .inl ho, (ht 0).symm, (thawH_none ho).symm⟩
theorem PK.own {P : Program} {h : Heap} {ds : List D} {g sz n : Nat} {c : List D} (hkl : ∀ d ∈ c, Kl d) (hm : ∀ l, c ≠ [.mpc l]) (hc : ∀ h2, Sub h h2 → Con P g ds h2 (fun d h' => ∃ k, h2 k = none ∧ d = .sl k sz 0 n ∧ h' = upd h2 k c)) : PK P h ds g (.ow sz c n) :=
  ⟨⟨hkl, hm⟩, fun h2 hs => (hc h2 hs).mono fun _ _ ⟨k, h1, h2, h3⟩ => ⟨k, .inr h1, h2, h3⟩⟩
theorem d_callK {P : Program} {dst : Option Nat} {r : List AIns} {e : Env} {h : Heap} {K : Env → Prop} {args : List O} {g : Nat} {ds : List D} {r0 : D} (h2 : evOs (get e) args = some ds) (hp : PK P h ds g r0) (hn : noTup r0 = true) (hw : WdR P r (put dst r0 e) h K) : WdR P (⟨dst, .call (.fnc g) args, none⟩ :: r) e h K := by
  simp only [WdR, WdI, evO, h2]
  exact .inr (.inl ⟨r0, by simpa using hp, by cases r0 <;> first | rfl | (simp [noTup] at hn), fun k => by cases r0 <;> first | rfl | (simp [noTup] at hn), hw⟩)
theorem d_callN {P : Program} {dst : Option Nat} {r : List AIns} {e : Env} {h : Heap} {K : Env → Prop} {args : List O} {g : Nat} {ds ds' : List D} {r0 : D} (h2 : evOs (get e) args = some ds) (hp : PCon P g ds' r0) (hr : All2 (Rd h) ds ds') (hw : WdR P r (put dst (vnw (unow r0)) e) h K) : WdR P (⟨dst, .call (.fnc g) args, none⟩ :: r) e h K := by
  simp only [WdR, WdI, evO, h2]
  exact .inr (.inr ⟨ds', r0, by simpa using hr, hp, hw⟩)
theorem d_ownK {P : Program} {mid suf : List AIns} {e : Env} {h : Heap} {K : Env → Heap → Prop} {t : Nat} {args : List O} {g : Nat} {gd : Option (Nat × Bool)} {ds : List D} {r : D} (h2 : evOs (get e) args = some ds) (hp : PK P h ds g r)
    (hk : ∀ k, h k = none → WdR P mid ((t, thaw k r) :: e) h fun e3 => Wops P suf e3 (thawH k r h) K) : WdC P ⟨some t, .call (.fnc g) args, gd⟩ mid suf e h K := by
  simp only [WdC, evO, h2]
  exact ⟨r, .inr (.inl (by simpa using hp)), hk⟩
theorem con_fin {P : Program} {f : Nat} {ds : List D} {h : Heap} {sz n : Nat} {c : List D} (hc : ∀ d ∈ c, Kl d) (hw : Con P f ds h (fun d h' => SlOwn h' d sz c n ∧ ∀ j x, h j = some x → h' j = some x ∧ ∀ sz off n, d ≠ .sl j sz off n)) : Con P f ds h (fun d h' => d = .vs sz c n ∧ h' = h) := by
  refine ⟨hw.1, fun s args H A => (hw.2 s args H A).mono ?_⟩
  rintro e w' ⟨v, d, h', s', rfl, rfl, hE, H', hv, ⟨hcl, hd⟩, hk⟩
  -- the block
  obtain ⟨x, hx, hxp, hrp⟩ : ∃ x : Option Nat, (∀ b, x = some b → b < s'.w.heap.size ∧ (∃ cs e, s'.w.heap[b]? = some (.cells cs e (0, 0))) ∧ ∀ j y, h j = some y → ∀ m, s'.ρ j ≠ some (some b, m)) ∧ True ∧ RP s'.w (fun b => s'.prot b ∨ x = some b) v (.vs sz c n) := by
    rcases hd with ⟨rfl, hd⟩ | ⟨k, rfl, hkk⟩
    · have h0 : c = [] := List.length_eq_zero_iff.1 (by simpa using hcl)
      subst h0
      refine ⟨none, by simp, trivial, ?_⟩
      rcases hd with rfl | rfl
      · rw [hv.inv_nil]; exact .vs0 _ _ _
      · obtain ⟨a, rfl⟩ := hv.inv_emp; exact .vs0 _ _ _
    · obtain ⟨_, a, cap, rfl, hna, hlc, hsl⟩ := hv.inv_sl
      obtain ⟨_, x, hx, _, hq⟩ := H'.own k c hkk
      obtain ⟨hcc, hcap⟩ := hsl x _ hx
      refine ⟨x, fun b hb => ?_, trivial, ?_⟩
      · obtain ⟨_, cs, e, h2, _⟩ := hq b hb
        refine ⟨?_, ⟨cs, e, h2⟩, fun j y hj m hm => ?_⟩
        · rcases Nat.lt_or_ge b s'.w.heap.size with h' | h'
          · exact h'
          · simp [Array.getElem?_eq_none h'] at h2
        · subst hb
          have := H'.inj j k b _ _ hm hx
          subst this
          exact (hk j y hj).2 sz 0 n rfl
      · rcases hcap with h0 | ⟨b, cs, e, hxb, rfl, hbb, hs⟩
        · obtain rfl : n = 0 := by omega
          have h4 : c = [] := List.length_eq_zero_iff.1 (by simpa using hcl)
          rw [h4]
          exact RP.vs0 a cap sz
        · obtain ⟨hnp, cs2, e2, hh, hl2, hall⟩ := hq b hxb
          have hat := (cellsAt_block hh).sub 0 c.length
          simp only [Nat.add_zero, List.drop_zero] at hat
          refine .vs b 0 cap sz n _ (cs2.toList.take c.length) hcl hlc (.inr hxb) hall.1 ?_ hat ?_
          · intro v hv'
            obtain ⟨i, hi⟩ := List.mem_iff_getElem?.1 hv'
            have hlt : i < c.length := by
              rcases Nat.lt_or_ge i (cs2.toList.take c.length).length with h' | h'
              · rw [hall.1] at h'; exact h'
              · simp [List.getElem?_eq_none h'] at hi
            exact (hall.2 i v _ hi (List.getElem?_eq_getElem hlt)).2
          · intro i v d hv' hd
            exact (hc d (List.mem_of_getElem? hd) s' v (hall.2 i v d hv' hd).1).mono fun b hb => ⟨.inl hb, rfl⟩
  let s2 : Sg := { w := s'.w, ρ := fun i => if (h i).isSome then s'.ρ i else none, μ := s'.μ, prot := fun b => s'.prot b ∨ x = some b, base := s'.base, fr := s'.fr, used := s'.used, next := s'.next }
  have hρ : ∀ i y, s2.ρ i = some y → (h i).isSome = true ∧ s'.ρ i = some y := by
    intro i y hy
    have hy' : (if (h i).isSome then s'.ρ i else none) = some y := hy
    split at hy'
    · rename_i h1; exact ⟨h1, hy'⟩
    · cases hy'
  have hE2 : Ext s' s2 := ⟨Nat.le_refl _, fun _ h => h, Nat.le_refl _, fun b hb => ⟨.inl hb, rfl⟩, fun i y _ hy => (hρ i y hy).2, fun _ _ _ cs _ _ _ h => ⟨cs, h, rfl⟩, .refl _, fun _ _ => rfl, rfl, fun _ h => ⟨h, rfl⟩⟩
  refine ⟨v, _, h, s2, rfl, rfl, hE.trans hE2, ⟨fun b hb => hb.elim (H'.lt b) (fun h => (hx b h).1), fun k1 k2 b n n' h1 h2 => H'.inj k1 k2 b n n' (hρ _ _ h1).2 (hρ _ _ h2).2, fun i hi => ?_, H'.bound, fun i c2 hi => ?_, fun i b h1 h2 => ?_, fun b hb => .inl (H'.bp b hb), fun b hb => ⟨.inl (H'.fp b hb).1, (H'.fp b hb).2⟩⟩, .pure hrp, rfl, rfl⟩
  · show (if (h i).isSome then s'.ρ i else none) = none
    rw [hi]; rfl
  · obtain ⟨hl, x2, hx2, hn2, hq2⟩ := H'.own i c2 (hk i c2 hi).1
    refine ⟨hl, x2, by show (if (h i).isSome then s'.ρ i else none) = _; rw [hi]; exact hx2, hn2, fun b hb => ?_⟩
    obtain ⟨hp, cs, e2, hb2, hl2, hall⟩ := hq2 b hb
    refine ⟨?_, cs, e2, hb2, hl2, hall.mono fun _ _ h => h.mono hE2⟩
    rintro (h3 | h3)
    · exact hp h3
    · subst hb; exact (hx b h3).2.2 i c2 hi _ hx2
  · obtain ⟨h3, h4, h5⟩ := H'.mu i b h1 h2
    refine ⟨h3, ?_, h5⟩
    rintro (h6 | h6)
    · exact h4 h6
    · obtain ⟨cs, e, h7⟩ := (hx b h6).2.1
      obtain ⟨_, es, cl, h8⟩ := h3
      rw [h7] at h8; cases h8
end Go.AM
end
