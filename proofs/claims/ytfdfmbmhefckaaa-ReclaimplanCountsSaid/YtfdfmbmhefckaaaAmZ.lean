/- Rows that change; first places. -/
import Derived.Test.YtfdfmbmhefckaaaAmY
set_option linter.unusedSimpArgs false
set_option linter.unusedVariables false
namespace Go.AM
open Go

theorem fm_set {α : Type} {f : α → List D} {w : Nat} (hf : ∀ a, (f a).length = w) {l : List α} {i j : Nat} {d : D} {b : α} (hi : i < l.length) (hj : j < w) (hb : f b = (f l[i]).set j d) :
    (l.flatMap f).set (i * w + j) d = (l.set i b).flatMap f := by
  induction l generalizing i with
  | nil => simp at hi
  | cons a r ih =>
    cases i with
    | zero =>
      simp only [Nat.zero_mul, Nat.zero_add, List.set_cons_zero, List.flatMap_cons]
      rw [List.set_append_left _ _ (by rw [hf]; exact hj)]
      simp only [List.getElem_cons_zero] at hb
      rw [hb]
    | succ i =>
      simp only [List.set_cons_succ, List.flatMap_cons]
      simp only [List.length_cons] at hi
      rw [List.set_append_right _ _ (by rw [hf, Nat.succ_mul]; omega), hf, ← ih (by omega) (by simpa using hb)]
      congr 2
      rw [Nat.succ_mul]; omega
theorem fm_st {α : Type} {f : α → List D} {w : Nat} (hf : ∀ a, (f a).length = w) {l : List α} {i j : Nat} {d : D} {b : α} (hi : i < l.length) (hj : j < w) (hb : f b = (f l[i]).set j d) :
    List.take (i * w + j) (l.flatMap f) ++ [d] ++ List.drop (i * w + j + 1) (l.flatMap f) = (l.set i b).flatMap f := by
  have h1 : i * w + w ≤ l.length * w := by rw [← Nat.succ_mul]; exact Nat.mul_le_mul_right w hi
  rw [set_form (by rw [fm_len hf]; omega), fm_set hf hi hj hb]
theorem rep_zero {k : IntKind} {xs : List Int} {n : Nat} (hl : xs.length = n) (h : ∀ x ∈ xs, x = 0) : rep n [D.int k 0] = xs.map (.int k) := by
  subst hl
  simp only [rep, List.flatten_replicate_singleton]
  apply List.ext_getElem (by simp)
  intro j h1 h2
  rw [List.getElem_replicate, List.getElem_map, h _ (List.getElem_mem _)]
theorem map_st {k : IntKind} {xs ys : List Int} {i : Nat} {v : Int} (hi : i < xs.length) (hs : xs.set i v = ys) : List.take i (xs.map (D.int k)) ++ [D.int k v] ++ List.drop (i + 1) (xs.map (D.int k)) = ys.map (.int k) := by
  rw [set_form (by simpa using hi), ← List.map_set, hs]
theorem map_g {k : IntKind} {xs : List Int} {i : Nat} (hi : i < xs.length) : (xs.map (D.int k))[i]? = some (.int k (xs.getD i 0)) := by
  rw [List.getElem?_map, List.getD_eq_getElem?_getD, List.getElem?_eq_getElem hi]; rfl

/-! ### Reading by value, one level more -/
theorem own_cellsR {s : Sg} {h : Heap} (H : RHo s h) {k : Nat} {c c' : List D} (hk : h k = some c) (hr : All2 (Rd h) c c') {b n : Nat} (hb : s.ρ k = some (some b, n)) :
    b < s.w.heap.size ∧ ∃ cs e, s.w.heap[b]? = some (.cells cs e (0, 0)) ∧ c'.length ≤ cs.size ∧ CellsAt s.w b 0 (cs.toList.take c'.length) ∧ All2 (RPc s.w (below s.w.heap.size)) (cs.toList.take c'.length) c' := by
  have hlen := hr.1
  obtain ⟨_, x, hx, _, hq⟩ := H.own k c hk
  rw [hb] at hx
  injection hx with hx; injection hx with h1 h2
  subst h1
  obtain ⟨_, cs, e, hh, hl, hall⟩ := hq b rfl
  rw [hlen] at hl hall
  refine ⟨?_, cs, e, hh, hl, ?_, by rw [hall.1, hlen], fun i v d hv hd => ?_⟩
  · rcases Nat.lt_or_ge b s.w.heap.size with h' | h'
    · exact h'
    · simp [Array.getElem?_eq_none h'] at hh
  · have := (cellsAt_block hh).sub 0 c'.length
    simp only [Nat.add_zero, List.drop_zero] at this
    exact this
  · have hlt : i < c.length := by
      rcases Nat.lt_or_ge i c.length with h' | h'
      · exact h'
      · rw [List.getElem?_eq_none (by omega)] at hd; cases hd
    have hci := List.getElem?_eq_getElem hlt
    have h3 := hall.2 i v _ hv hci
    exact ⟨hr.2 i _ _ hci hd s v H h3.1, h3.2⟩
/-- A pointer to an own block, whose cells are read by value. -/
theorem Rd_ptR {h : Heap} {k off : Nat} {c c' : List D} (hk : h k = some c) (hr : All2 (Rd h) c c') (hne : c' ≠ []) : Rd h (.pt k off) (.vp c' off) := by
  intro s v H hv
  obtain ⟨_, b, rfl, hq⟩ := hv.inv_pt
  obtain ⟨_, x, hx, hxn, _⟩ := H.own k c hk
  have hxb := hq x _ hx
  subst hxb
  obtain ⟨hbl, cs2, e2, hh, hl2, hat, hall⟩ := own_cellsR H hk hr hx
  have := RP.vp (w := s.w) (prot := below s.w.heap.size) b off 0 c' (cs2.toList.take c'.length) hbl hall.1 ?_ hat (fun i v d hv' hd => (hall.2 i v d hv' hd).1)
  · simpa using this
  · intro v hv'
    obtain ⟨i, hi⟩ := List.mem_iff_getElem?.1 hv'
    have hlt : i < c'.length := by
      rcases Nat.lt_or_ge i (cs2.toList.take c'.length).length with h' | h'
      · rw [hall.1] at h'; exact h'
      · simp [List.getElem?_eq_none h'] at hi
    exact (hall.2 i v _ hi (List.getElem?_eq_getElem hlt)).2
/-- An own slice, whose cells are read by value. -/
theorem Rd_slR {h : Heap} {k sz len : Nat} {c c' : List D} (hk : h k = some c) (hr : All2 (Rd h) c c') (hl : c'.length = len * sz) : Rd h (.sl k sz 0 len) (.vs sz c' len) := by
  intro s v H hv
  obtain ⟨_, ad, cap, rfl, hna, hlc, hq⟩ := hv.inv_sl
  obtain ⟨_, x, hx, hxn, _⟩ := H.own k c hk
  obtain ⟨hcc, hcap⟩ := hq x _ hx
  have hlen := hr.1
  rcases hcap with h0 | ⟨b, cs, e, rfl, rfl, hb, hs⟩
  · obtain rfl : len = 0 := by omega
    rw [Nat.zero_mul] at hl
    rw [List.length_eq_zero_iff.1 hl]
    exact RP.vs0 ad cap sz
  · obtain ⟨hbl, cs2, e2, hh, hl2, hat, hall⟩ := own_cellsR H hk hr hx
    refine .vs b 0 cap sz len _ (cs2.toList.take c'.length) hl hlc hbl hall.1 ?_ hat ?_
    · intro v hv'
      obtain ⟨i, hi⟩ := List.mem_iff_getElem?.1 hv'
      have hlt : i < c'.length := by
        rcases Nat.lt_or_ge i (cs2.toList.take c'.length).length with h' | h'
        · rw [hall.1] at h'; exact h'
        · simp [List.getElem?_eq_none h'] at hi
      exact (hall.2 i v _ hi (List.getElem?_eq_getElem hlt)).2
    · intro i v d hv' hd
      exact (hall.2 i v d hv' hd).1
theorem Rd_fnR {h : Heap} {f : Nat} {a a' c c' : List D} (ha : All2 (Rd h) a a') (hc : All2 (Rd h) c c') : Rd h (.fn f a c) (.fn f a' c') := by
  intro s v H hv
  obtain ⟨as, bs, rfl, h1, h2⟩ := hv.inv_fn
  refine .fn f as bs a' c' (h1.1.trans ha.1) (h2.1.trans hc.1) (fun i v d hv hd => ?_) (fun i v d hv hd => ?_)
  · have hlt : i < a.length := by
      rcases Nat.lt_or_ge i a.length with h' | h'
      · exact h'
      · rw [List.getElem?_eq_none (by rw [← ha.1]; exact h')] at hd; cases hd
    have hci := List.getElem?_eq_getElem hlt
    exact ha.2 i _ _ hci hd s v H (h1.2 i v _ hv hci)
  · have hlt : i < c.length := by
      rcases Nat.lt_or_ge i c.length with h' | h'
      · exact h'
      · rw [List.getElem?_eq_none (by rw [← hc.1]; exact h')] at hd; cases hd
    have hci := List.getElem?_eq_getElem hlt
    exact hc.2 i _ _ hci hd s v H (h2.2 i v _ hv hci)
theorem d_callt {P : Program} {e : Env} {h : Heap} {r : List AIns} {K : Env → Prop} {dst : Option Nat} {tf : Nat} {args : List O} {g : Nat} {fst caps ds ds0 ds' : List D} {r0 : D} (h1 : get e tf = some (.fn g fst caps)) (h2 : evOs (get e) args = some ds) (hd : fst ++ ds ++ caps = ds0) (hp : PCon P g ds' r0) (hr : All2 (Rd h) ds0 ds') (hw : WdR P r (put dst (unow r0) e) h K) : WdR P (⟨dst, .call (.tmp tf) args, none⟩ :: r) e h K := by
  subst hd
  simp only [WdR, WdI, evO, h1, h2]
  exact ⟨ds', r0, hr, hp, hw⟩
theorem k_dcallt {P : Program} {n : Nat} {l : List O} {dst : Option Nat} {r : List AIns} {e : Env} {h : Heap} {K : Env → Prop} (hw : WdR P (⟨dst, .call (.tmp n) l, none⟩ :: r) e h K) : WdR P (⟨dst, .call (.tmp n) l, none⟩ :: r) e h K := hw

/-! ### A drawn region that reads first, and then makes and writes memory in an order of its own -/
theorem evOp_fix {e : Look} {h h1 : Heap} {k : Nat} {op : AOp} {d : D} {hf : Nat → Bool} (hk : hf k = false) (hid : hide hf h = h) (hev : evOp e h k op = some (d, h1)) : unhide hf h h1 = h1 := by
  have := evOp_hide (hf := hf) hk (by rw [hid]; exact hev)
  rw [hev] at this
  injection this with this
  injection this with _ this
  exact this.symm
theorem evOp_none {e : Look} {h h1 : Heap} {key : Nat} {op : AOp} {d : D} (hev : evOp e h key op = some (d, h1)) {k : Nat} (hk : h k = none) (hne : k ≠ key) : h1 k = none := by
  have hid : hide (fun j => j == k) h = h := by
    funext j
    simp only [hide]
    split
    · rename_i hj
      rw [beq_iff_eq] at hj
      subst hj; exact hk.symm
    · rfl
  have := congrFun (evOp_fix (hf := fun j => j == k) (by simpa using fun h => hne h.symm) hid hev) k
  simp only [unhide, beq_self_eq_true, if_true] at this
  rw [← this]; exact hk
def notCall : AOp → Bool
  | .call .. => false
  | _ => true
def okS (bef : List (List Nat)) : List Nat → Nat → List AIns → Bool
  | _, _, [] => true
  | made, i, o :: r => o.guard.isNone && notCall o.op && (cls o.op == 0 || made.all fun m => (befAt bef i).contains m) && okS bef (if makes o.op then i :: made else made) (i + 1) r
theorem Wsuf_run {P : Program} {ops : List AIns} {bef : List (List Nat)} (hbl : bef.length = ops.length) {N : Nat} {rs : Nat → D} : ∀ (l : List AIns) (i : Nat) (made : List Nat) (e : Env) (h : Heap) (K : Env → Heap → Prop), ops.drop i = l → okS bef made i l = true → Wops P l e h K →
    (∀ k, N ≤ k → h k ≠ none → ∃ m ∈ made, k = N + m) → (∀ m ∈ made, m < i) → ∃ e' h', dRun P N ops.length rs ops bef (List.range' i l.length) (get e) h = some (get e', h') ∧ K e' h'
  | [], i, _, e, h, K, _, _, hw, _, _ => ⟨e, h, by simp [dRun], hw⟩
  | o :: r, i, made, e, h, K, hd, hok, hw, hN, hm => by
    have hoi : ops[i]? = some o := by
      have : (ops.drop i)[0]? = some o := by rw [hd]; rfl
      rw [List.getElem?_drop] at this
      simpa using this
    have hil : i < ops.length := by
      rcases Nat.lt_or_ge i ops.length with h' | h'
      · exact h'
      · simp [List.getElem?_eq_none h'] at hoi
    have hbi : bef[i]? = some (befAt bef i) := by
      unfold befAt
      have : i < bef.length := by omega
      simp [this]
    have hdr : ops.drop (i + 1) = r := by rw [← List.drop_drop, hd]; rfl
    simp only [okS, Bool.and_eq_true] at hok
    obtain ⟨⟨⟨hg, hnc⟩, hcl⟩, hokr⟩ := hok
    have hg : o.guard = none := by simpa using hg
    have hkey : h (N + i) = none := by
      refine Classical.byContradiction fun hne => ?_
      obtain ⟨m, h1, h2⟩ := hN (N + i) (by omega) hne
      have := hm m h1
      omega
    -- the operation on the whole heap
    have key : ∀ d h1, evOp (get e) h (N + i) o.op = some (d, h1) → Wops P r (put o.dst d e) h1 K → (∀ k, N ≤ k → h1 k ≠ none → k = N + i → makes o.op = true) → ∃ e' h', dRun P N ops.length rs ops bef (List.range' i (o :: r).length) (get e) h = some (get e', h') ∧ K e' h' := by
      intro d h1 hev hw1 hmk
      have hres : dRes P N ops.length rs i (befAt bef i) o (get e) h = some (d, h1) := by
        have hgv : guardV o.guard (get e) = some true := by rw [hg]; rfl
        have hcase : (match evOp (get e) (hide (hidF N ops.length (befAt bef i) i) h) (N + i) o.op with | some (d, h1) => some (d, unhide (hidF N ops.length (befAt bef i) i) h h1) | none => none) = some (d, h1) := by
          by_cases hc0 : cls o.op = 0
          · obtain ⟨e1, e2⟩ := cls0 hc0 hev
            rw [e2 _ _, e1]
            simp only [unhide_hide]
          · have hid : hide (hidF N ops.length (befAt bef i) i) h = h := by
              funext k
              simp only [hide]
              split
              · rename_i hk
                refine Classical.byContradiction fun hne => ?_
                simp only [hidF, Bool.and_eq_true, decide_eq_true_eq, Bool.not_eq_true'] at hk
                obtain ⟨m, h3, h4⟩ := hN k hk.1.1.1 (fun h5 => hne h5.symm)
                have h5 : made.all (fun m => (befAt bef i).contains m) = true := by
                  rcases Bool.or_eq_true _ _ ▸ hcl with h6 | h6
                  · exact absurd (by simpa using h6) hc0
                  · exact h6
                have h6 := List.all_eq_true.1 h5 m h3
                rw [h4, Nat.add_sub_cancel_left] at hk
                rw [h6] at hk
                exact absurd hk.2 (by simp)
              · rfl
            rw [hid, hev]
            simp only
            rw [evOp_fix hid_own hid hev]
        unfold dRes
        rw [hgv]
        simp only
        cases hop : o.op <;> rw [hop] at hcase hnc <;> first | exact hcase | (simp [notCall] at hnc; done)
      have hinv : ∀ k, N ≤ k → h1 k ≠ none → ∃ m ∈ (if makes o.op then i :: made else made), k = N + m := by
        intro k hk hne
        by_cases hki : k = N + i
        · rw [if_pos (hmk k hk hne hki)]
          exact ⟨i, by simp, hki⟩
        · obtain ⟨m, h3, h4⟩ := hN k hk (fun h0 => hne (evOp_none hev h0 hki))
          refine ⟨m, ?_, h4⟩
          split
          · simp [h3]
          · exact h3
      obtain ⟨e', h', h2, h3⟩ := Wsuf_run hbl (N := N) (rs := rs) r (i + 1) _ (put o.dst d e) h1 K hdr hokr hw1 hinv (by
        intro m hm2
        split at hm2
        · rcases List.mem_cons.1 hm2 with rfl | hm2
          · omega
          · have := hm m hm2; omega
        · have := hm m hm2; omega)
      refine ⟨e', h', ?_, h3⟩
      simp only [List.length_cons, List.range'_succ, dRun, hoi, hbi, hres]
      rw [← get_put]
      exact h2
    simp only [Wops, Wins, hg, runIns] at hw
    split at hw
    · rename_i hop
      rw [hop] at hnc
      simp [notCall] at hnc
    · split at hw
      · rename_i hmk
        have h1 := hw (N + i) hkey
        split at h1
        · rename_i d h' hev
          exact key d h' hev h1 (fun _ _ _ _ => hmk)
        · exact h1.elim
      · rename_i hmk
        have hmk : makes o.op = false := by simpa using hmk
        split at hw
        · rename_i d h' hev
          rw [key_any hmk 0 (N + i)] at hev
          refine key d h' hev hw (fun k hk hne hki => ?_)
          subst hki
          rw [key_any hmk (N + i) (N + i + 1)] at hev
          exact absurd (evOp_none hev hkey (by omega)) hne
        · exact hw.elim
theorem W_dregM {P : Program} {Q : X → St → Prop} {e : Env} {h : Heap} {pre suf ops : List AIns} {bef : List (List Nat)} {keep : List Nat} (hs : pre ++ suf = ops) (hbl : bef.length = ops.length) (hro : pre.all readsOnly = true) (hok : okS bef [] pre.length suf = true)
    (hw : ∀ K : Env → Heap → Prop, (∀ e1 h1 e2, norm keep e1 = e2 → Q .normal ⟨e2, h1⟩ → K e1 h1) → WdR P pre e h fun e' => Wops P suf e' h K) : W P (.dreg ops bef keep) Q ⟨e, h⟩ := by
  subst hs
  obtain ⟨rs, hr⟩ := WdR_run (ops := pre ++ suf) hbl pre 0 ⟨suf, by simp⟩ hro e h _ (hw (fun e' h' => Q .normal ⟨norm keep e', h'⟩) fun _ _ _ h1 h2 => by rw [h1]; exact h2)
  refine ⟨rs, fun N hN => ?_⟩
  have hN : ∀ k, N ≤ k → h k = none := hN
  obtain ⟨e', h1, h2⟩ := hr N hN
  obtain ⟨e2, h', h3, h4⟩ := Wsuf_run (ops := pre ++ suf) hbl (N := N) (rs := rs) suf pre.length [] e' h _ (by simp) hok h2 (fun k hk hne => absurd (hN k hk) hne) (by simp)
  refine ⟨(get e2, h'), ?_, ?_⟩
  · rw [List.length_append, List.range_eq_range', ← List.range'_append_1, dRun_append]
    rw [List.length_append] at h1 h3
    rw [h1]
    simp only [Option.bind_some, Nat.zero_add]
    exact h3
  · rw [norm_get] at h4
    exact h4
end Go.AM
