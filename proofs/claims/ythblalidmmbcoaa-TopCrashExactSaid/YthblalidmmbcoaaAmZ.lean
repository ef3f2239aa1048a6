/- Rows that change; first places. -/
import Derived.Test.YthblalidmmbcoaaAmY
set_option linter.unusedSimpArgs false
set_option linter.unusedVariables false
namespace Go.AM
open Go

theorem fm_set {α : Type} {f : α → List D} {w : Nat} (hf : ∀ a, (f a).length = w) {l : List α} {i j : Nat} {d : D} {b : α} (hi : i < l.length) (hj : j < w) (hb : f b = (f l[i]).set j d) :
    (l.flatMap f).set (i * w + j) d = (l.set i b).flatMap f := by
  induction l generalizing i with
  | nil => simp at hi
  | cons a r ih =>
    cases i with
    | zero =>
      simp only [Nat.zero_mul, Nat.zero_add, List.set_cons_zero, List.flatMap_cons]
      rw [List.set_append_left _ _ (by rw [hf]; exact hj)]
      simp only [List.getElem_cons_zero] at hb
      rw [hb]
    | succ i =>
      simp only [List.set_cons_succ, List.flatMap_cons]
      simp only [List.length_cons] at hi
      rw [List.set_append_right _ _ (by rw [hf, Nat.succ_mul]; omega), hf, ← ih (by omega) (by simpa using hb)]
      congr 2
      rw [Nat.succ_mul]; omega
theorem fm_st {α : Type} {f : α → List D} {w : Nat} (hf : ∀ a, (f a).length = w) {l : List α} {i j : Nat} {d : D} {b : α} (hi : i < l.length) (hj : j < w) (hb : f b = (f l[i]).set j d) :
    List.take (i * w + j) (l.flatMap f) ++ [d] ++ List.drop (i * w + j + 1) (l.flatMap f) = (l.set i b).flatMap f := by
  have h1 : i * w + w ≤ l.length * w := by rw [← Nat.succ_mul]; exact Nat.mul_le_mul_right w hi
  rw [set_form (by rw [fm_len hf]; omega), fm_set hf hi hj hb]
theorem rep_zero {k : IntKind} {xs : List Int} {n : Nat} (hl : xs.length = n) (h : ∀ x ∈ xs, x = 0) : rep n [D.int k 0] = xs.map (.int k) := by
  subst hl
  simp only [rep, List.flatten_replicate_singleton]
  apply List.ext_getElem (by simp)
  intro j h1 h2
  rw [List.getElem_replicate, List.getElem_map, h _ (List.getElem_mem _)]
theorem map_st {k : IntKind} {xs ys : List Int} {i : Nat} {v : Int} (hi : i < xs.length) (hs : xs.set i v = ys) : List.take i (xs.map (D.int k)) ++ [D.int k v] ++ List.drop (i + 1) (xs.map (D.int k)) = ys.map (.int k) := by
  rw [set_form (by simpa using hi), ← List.map_set, hs]
theorem map_g {k : IntKind} {xs : List Int} {i : Nat} (hi : i < xs.length) : (xs.map (D.int k))[i]? = some (.int k (xs.getD i 0)) := by
  rw [List.getElem?_map, List.getD_eq_getElem?_getD, List.getElem?_eq_getElem hi]; rfl

/-! ### Reading by value, one level more -/
theorem own_cellsR {s : Sg} {h : Heap} (H : RHo s h) {k : Nat} {c c' : List D} (hk : h k = some c) (hr : All2 (Rd h) c c') {b n : Nat} (hb : s.ρ k = some (some b, n)) :
    b < s.w.heap.size ∧ ∃ cs e, s.w.heap[b]? = some (.cells cs e (0, 0)) ∧ c'.length ≤ cs.size ∧ CellsAt s.w b 0 (cs.toList.take c'.length) ∧ All2 (RPc s.w (below s.w.heap.size)) (cs.toList.take c'.length) c' := by
  have hlen := hr.1
  obtain ⟨_, x, hx, _, hq⟩ := H.own k c hk
  rw [hb] at hx
  injection hx with hx; injection hx with h1 h2
  subst h1
  obtain ⟨_, cs, e, hh, hl, hall⟩ := hq b rfl
  rw [hlen] at hl hall
  refine ⟨?_, cs, e, hh, hl, ?_, by rw [hall.1, hlen], fun i v d hv hd => ?_⟩
  · rcases Nat.lt_or_ge b s.w.heap.size with h' | h'
    · exact h'
    · simp [Array.getElem?_eq_none h'] at hh
  · have := (cellsAt_block hh).sub 0 c'.length
    simp only [Nat.add_zero, List.drop_zero] at this
    exact this
  · have hlt : i < c.length := by
      rcases Nat.lt_or_ge i c.length with h' | h'
      · exact h'
      · rw [List.getElem?_eq_none (by omega)] at hd; cases hd
    have hci := List.getElem?_eq_getElem hlt
    have h3 := hall.2 i v _ hv hci
    exact ⟨hr.2 i _ _ hci hd s v H h3.1, h3.2⟩
/-- A pointer to an own block, whose cells are read by value. -/
theorem Rd_ptR {h : Heap} {k off : Nat} {c c' : List D} (hk : h k = some c) (hr : All2 (Rd h) c c') (hne : c' ≠ []) : Rd h (.pt k off) (.vp c' off) := by
  intro s v H hv
  obtain ⟨_, b, rfl, hq⟩ := hv.inv_pt
  obtain ⟨_, x, hx, hxn, _⟩ := H.own k c hk
  have hxb := hq x _ hx
  subst hxb
  obtain ⟨hbl, cs2, e2, hh, hl2, hat, hall⟩ := own_cellsR H hk hr hx
  have := RP.vp (w := s.w) (prot := below s.w.heap.size) b off 0 c' (cs2.toList.take c'.length) hbl hall.1 ?_ hat (fun i v d hv' hd => (hall.2 i v d hv' hd).1)
  · simpa using this
  · intro v hv'
    obtain ⟨i, hi⟩ := List.mem_iff_getElem?.1 hv'
    have hlt : i < c'.length := by
      rcases Nat.lt_or_ge i (cs2.toList.take c'.length).length with h' | h'
      · rw [hall.1] at h'; exact h'
      · simp [List.getElem?_eq_none h'] at hi
    exact (hall.2 i v _ hi (List.getElem?_eq_getElem hlt)).2
/-- An own slice, whose cells are read by value. -/
theorem Rd_slR {h : Heap} {k sz len : Nat} {c c' : List D} (hk : h k = some c) (hr : All2 (Rd h) c c') (hl : c'.length = len * sz) : Rd h (.sl k sz 0 len) (.vs sz c' len) := by
  intro s v H hv
  obtain ⟨_, ad, cap, rfl, hna, hlc, hq⟩ := hv.inv_sl
  obtain ⟨_, x, hx, hxn, _⟩ := H.own k c hk
  obtain ⟨hcc, hcap⟩ := hq x _ hx
  have hlen := hr.1
  rcases hcap with h0 | ⟨b, cs, e, rfl, rfl, hb, hs⟩
  · obtain rfl : len = 0 := by omega
    rw [Nat.zero_mul] at hl
    rw [List.length_eq_zero_iff.1 hl]
    exact RP.vs0 ad cap sz
  · obtain ⟨hbl, cs2, e2, hh, hl2, hat, hall⟩ := own_cellsR H hk hr hx
    refine .vs b 0 cap sz len _ (cs2.toList.take c'.length) hl hlc hbl hall.1 ?_ hat ?_
    · intro v hv'
      obtain ⟨i, hi⟩ := List.mem_iff_getElem?.1 hv'
      have hlt : i < c'.length := by
        rcases Nat.lt_or_ge i (cs2.toList.take c'.length).length with h' | h'
        · rw [hall.1] at h'; exact h'
        · simp [List.getElem?_eq_none h'] at hi
      exact (hall.2 i v _ hi (List.getElem?_eq_getElem hlt)).2
    · intro i v d hv' hd
      exact (hall.2 i v d hv' hd).1
theorem Rd_fnR {h : Heap} {f : Nat} {a a' c c' : List D} (ha : All2 (Rd h) a a') (hc : All2 (Rd h) c c') : Rd h (.fn f a c) (.fn f a' c') := by
  intro s v H hv
  obtain ⟨as, bs, rfl, h1, h2⟩ := hv.inv_fn
  refine .fn f as bs a' c' (h1.1.trans ha.1) (h2.1.trans hc.1) (fun i v d hv hd => ?_) (fun i v d hv hd => ?_)
  · have hlt : i < a.length := by
      rcases Nat.lt_or_ge i a.length with h' | h'
      · exact h'
      · rw [List.getElem?_eq_none (by rw [← ha.1]; exact h')] at hd; cases hd
    have hci := List.getElem?_eq_getElem hlt
    exact ha.2 i _ _ hci hd s v H (h1.2 i v _ hv hci)
  · have hlt : i < c.length := by
      rcases Nat.lt_or_ge i c.length with h' | h'
      · exact h'
      · rw [List.getElem?_eq_none (by rw [← hc.1]; exact h')] at hd; cases hd
    have hci := List.getElem?_eq_getElem hlt
    exact hc.2 i _ _ hci hd s v H (h2.2 i v _ hv hci)
theorem d_callt {P : Program} {e : Env} {h : Heap} {r : List AIns} {K : Env → Prop} {dst : Option Nat} {tf : Nat} {args : List O} {g : Nat} {fst caps ds ds0 ds' : List D} {r0 : D} (h1 : get e tf = some (.fn g fst caps)) (h2 : evOs (get e) args = some ds) (hd : fst ++ ds ++ caps = ds0) (hp : PCon P g ds' r0) (hr : All2 (Rd h) ds0 ds') (hw : WdR P r (put dst (unow r0) e) h K) : WdR P (⟨dst, .call (.tmp tf) args, none⟩ :: r) e h K := by
  subst hd
  simp only [WdR, WdI, evO, h1, h2]
  exact .inl ⟨ds', r0, hr, hp, hw⟩
theorem k_dcallt {P : Program} {n : Nat} {l : List O} {dst : Option Nat} {r : List AIns} {e : Env} {h : Heap} {K : Env → Prop} (hw : WdR P (⟨dst, .call (.tmp n) l, none⟩ :: r) e h K) : WdR P (⟨dst, .call (.tmp n) l, none⟩ :: r) e h K := hw

/-! ### A drawn region that reads first, and then makes and writes memory in an order of its own -/
theorem evOp_fix {e : Look} {h h1 : Heap} {k : Nat} {op : AOp} {d : D} {hf : Nat → Bool} (hk : hf k = false) (hid : hide hf h = h) (hev : evOp e h k op = some (d, h1)) : unhide hf h h1 = h1 := by
  have := evOp_hide (hf := hf) hk (by rw [hid]; exact hev)
  rw [hev] at this
  injection this with this
  injection this with _ this
  exact this.symm
theorem evOp_none {e : Look} {h h1 : Heap} {key : Nat} {op : AOp} {d : D} (hev : evOp e h key op = some (d, h1)) {k : Nat} (hk : h k = none) (hne : k ≠ key) : h1 k = none := by
  have hid : hide (fun j => j == k) h = h := by
    funext j
    simp only [hide]
    split
    · rename_i hj
      rw [beq_iff_eq] at hj
      subst hj; exact hk.symm
    · rfl
  have := congrFun (evOp_fix (hf := fun j => j == k) (by simpa using fun h => hne h.symm) hid hev) k
  simp only [unhide, beq_self_eq_true, if_true] at this
  rw [← this]; exact hk
def notCall : AOp → Bool
  | .call .. => false
  | .eqN .. => false
  | _ => true
def okS (bef : List (List Nat)) : List Nat → Nat → List AIns → Bool
  | _, _, [] => true
  | made, i, o :: r => o.guard.isNone && notCall o.op && (cls o.op == 0 || cls o.op == 2 || made.all fun m => (befAt bef i).contains m) && okS bef (if makes o.op then i :: made else made) (i + 1) r
theorem Wsuf_run {P : Program} {ops : List AIns} {bef : List (List Nat)} (hbl : bef.length = ops.length) {N : Nat} {rs : Nat → D} : ∀ (l : List AIns) (i : Nat) (made : List Nat) (e : Env) (h : Heap) (K : Env → Heap → Prop), ops.drop i = l → okS bef made i l = true → Wops P l e h K →
    (∀ k, N ≤ k → h k ≠ none → ∃ m ∈ made, k = N + m) → (∀ m ∈ made, m < i) → ∃ e' h', dRun P N ops.length rs ops bef (List.range' i l.length) (get e) h = some (get e', h') ∧ K e' h'
  | [], i, _, e, h, K, _, _, hw, _, _ => ⟨e, h, by simp [dRun], hw⟩
  | o :: r, i, made, e, h, K, hd, hok, hw, hN, hm => by
    have hoi : ops[i]? = some o := by
      have : (ops.drop i)[0]? = some o := by rw [hd]; rfl
      rw [List.getElem?_drop] at this
      simpa using this
    have hil : i < ops.length := by
      rcases Nat.lt_or_ge i ops.length with h' | h'
      · exact h'
      · simp [List.getElem?_eq_none h'] at hoi
    have hbi : bef[i]? = some (befAt bef i) := by
      unfold befAt
      have : i < bef.length := by omega
      simp [this]
    have hdr : ops.drop (i + 1) = r := by rw [← List.drop_drop, hd]; rfl
    simp only [okS, Bool.and_eq_true] at hok
    obtain ⟨⟨⟨hg, hnc⟩, hcl⟩, hokr⟩ := hok
    have hg : o.guard = none := by simpa using hg
    have hkey : h (N + i) = none := by
      refine Classical.byContradiction fun hne => ?_
      obtain ⟨m, h1, h2⟩ := hN (N + i) (by omega) hne
      have := hm m h1
      omega
    -- the operation on the whole heap
    have key : ∀ d h1, evOp (get e) h (N + i) o.op = some (d, h1) → Wops P r (put o.dst d e) h1 K → (∀ k, N ≤ k → h1 k ≠ none → k = N + i → makes o.op = true) → ∃ e' h', dRun P N ops.length rs ops bef (List.range' i (o :: r).length) (get e) h = some (get e', h') ∧ K e' h' := by
      intro d h1 hev hw1 hmk
      have hres : dRes P N ops.length rs i (befAt bef i) o (get e) h = some (d, h1) := by
        have hgv : guardV o.guard (get e) = some true := by rw [hg]; rfl
        have hcase : (match evOp (get e) (hide (hidF N ops.length (befAt bef i) i) h) (N + i) o.op with | some (d, h1) => some (d, unhide (hidF N ops.length (befAt bef i) i) h h1) | none => none) = some (d, h1) := by
          by_cases hc0 : cls o.op = 0
          · obtain ⟨e1, e2⟩ := cls0 hc0 hev
            rw [e2 _ _, e1]
            simp only [unhide_hide]
          · by_cases hc2 : cls o.op = 2
            · obtain ⟨c, e1, e2⟩ := cls2 hc2 hev
              rw [e2 _, e1]
              simp only [unhide_upd hid_own]
            have hid : hide (hidF N ops.length (befAt bef i) i) h = h := by
              funext k
              simp only [hide]
              split
              · rename_i hk
                refine Classical.byContradiction fun hne => ?_
                simp only [hidF, Bool.and_eq_true, decide_eq_true_eq, Bool.not_eq_true'] at hk
                obtain ⟨m, h3, h4⟩ := hN k hk.1.1.1 (fun h5 => hne h5.symm)
                have h5 : made.all (fun m => (befAt bef i).contains m) = true := by
                  rcases Bool.or_eq_true _ _ ▸ hcl with h6 | h6
                  · rcases (by simpa using h6 : cls o.op = 0 ∨ cls o.op = 2) with h7 | h7
                    · exact absurd h7 hc0
                    · exact absurd h7 hc2
                  · exact h6
                have h6 := List.all_eq_true.1 h5 m h3
                rw [h4, Nat.add_sub_cancel_left] at hk
                rw [h6] at hk
                exact absurd hk.2 (by simp)
              · rfl
            rw [hid, hev]
            simp only
            rw [evOp_fix hid_own hid hev]
        unfold dRes
        rw [hgv]
        simp only
        cases hop : o.op <;> rw [hop] at hcase hnc <;> first | exact hcase | (simp [notCall] at hnc; done)
      have hinv : ∀ k, N ≤ k → h1 k ≠ none → ∃ m ∈ (if makes o.op then i :: made else made), k = N + m := by
        intro k hk hne
        by_cases hki : k = N + i
        · rw [if_pos (hmk k hk hne hki)]
          exact ⟨i, by simp, hki⟩
        · obtain ⟨m, h3, h4⟩ := hN k hk (fun h0 => hne (evOp_none hev h0 hki))
          refine ⟨m, ?_, h4⟩
          split
          · simp [h3]
          · exact h3
      obtain ⟨e', h', h2, h3⟩ := Wsuf_run hbl (N := N) (rs := rs) r (i + 1) _ (put o.dst d e) h1 K hdr hokr hw1 hinv (by
        intro m hm2
        split at hm2
        · rcases List.mem_cons.1 hm2 with rfl | hm2
          · omega
          · have := hm m hm2; omega
        · have := hm m hm2; omega)
      refine ⟨e', h', ?_, h3⟩
      simp only [List.length_cons, List.range'_succ, dRun, hoi, hbi, hres]
      rw [← get_put]
      exact h2
    simp only [Wops, Wins, hg, runIns] at hw
    split at hw
    · rename_i hop
      rw [hop] at hnc
      simp [notCall] at hnc
    · split at hw
      · rename_i hmk
        have h1 := hw (N + i) hkey
        split at h1
        · rename_i d h' hev
          exact key d h' hev h1 (fun _ _ _ _ => hmk)
        · exact h1.elim
      · rename_i hmk
        have hmk : makes o.op = false := by simpa using hmk
        split at hw
        · rename_i d h' hev
          rw [key_any hmk 0 (N + i)] at hev
          refine key d h' hev hw (fun k hk hne hki => ?_)
          subst hki
          rw [key_any hmk (N + i) (N + i + 1)] at hev
          exact absurd (evOp_none hev hkey (by omega)) hne
        · obtain ⟨⟨g, x, sz, c, hop, _⟩, _⟩ := hw
          rw [hop] at hnc
          simp [notCall] at hnc
theorem W_dregM {P : Program} {Q : X → St → Prop} {e : Env} {h : Heap} {pre suf ops : List AIns} {bef : List (List Nat)} {keep : List Nat} (hs : pre ++ suf = ops) (hbl : bef.length = ops.length) (hro : pre.all readsOnly = true) (hok : okS bef [] pre.length suf = true)
    (hw : ∀ K : Env → Heap → Prop, (∀ e1 h1 e2, norm keep e1 = e2 → Q .normal ⟨e2, h1⟩ → K e1 h1) → WdR P pre e h fun e' => Wops P suf e' h K) : W P (.dreg ops bef keep) Q ⟨e, h⟩ := by
  refine Or.inl ?_
  subst hs
  obtain ⟨rs, e', h2, hr⟩ := WdR_run (ops := pre ++ suf) hbl pre 0 ⟨suf, by simp⟩ hro e h _ (hw (fun e' h' => Q .normal ⟨norm keep e', h'⟩) fun _ _ _ h1 h2 => by rw [h1]; exact h2)
  refine ⟨rs, fun N hN => ?_⟩
  have hN : ∀ k, N ≤ k → h k = none := hN
  have h1 := hr N hN
  obtain ⟨e2, h', h3, h4⟩ := Wsuf_run (ops := pre ++ suf) hbl (N := N) (rs := rs) suf pre.length [] e' h _ (by simp) hok h2 (fun k hk hne => absurd (hN k hk) hne) (by simp)
  refine ⟨(get e2, h'), ?_, ?_⟩
  · rw [List.length_append, List.range_eq_range', ← List.range'_append_1, dRun_append]
    rw [List.length_append] at h1 h3
    rw [h1]
    simp only [Option.bind_some, Nat.zero_add]
    exact h3
  · rw [norm_get] at h4
    exact h4

/-! ### A drawn region that reads, then calls something whose result it owns, then reads older memory, then makes and writes -/
def readsQ (o : AIns) : Bool := o.guard.isNone && (cls o.op == 0 || cls o.op == 1)
theorem unhide_eq {hf : Nat → Bool} {h g : Heap} (hh : ∀ k, hf k = false → h k = g k) : unhide hf g h = g := by
  funext k
  simp only [unhide]
  split
  · rfl
  · rename_i hk
    exact hh k (by simpa using hk)
theorem WdR_mid {P : Program} {ops : List AIns} {bef : List (List Nat)} (hbl : bef.length = ops.length) {N idx : Nat} {rs : Nat → D} {h full : Heap} (hN : ∀ k, N ≤ k → h k = none) (hf : ∀ k, k ≠ N + idx → full k = h k) : ∀ (l : List AIns) (i : Nat), idx < i → (∃ tail, ops.drop i = l ++ tail) → l.all readsQ = true → ∀ (e : Env) (K : Env → Prop), WdR P l e h K →
    ∃ e', dRun P N ops.length rs ops bef (List.range' i l.length) (get e) full = some (get e', full) ∧ K e'
  | [], i, _, _, _, e, K, hw => ⟨e, by simp [dRun], hw⟩
  | o :: r, i, hidx, ⟨tail, hd⟩, hro, e, K, hw => by
    have hoi : ops[i]? = some o := by
      have : (ops.drop i)[0]? = some o := by rw [hd]; rfl
      rw [List.getElem?_drop] at this
      simpa using this
    have hil : i < ops.length := by
      rcases Nat.lt_or_ge i ops.length with h' | h'
      · exact h'
      · simp [List.getElem?_eq_none h'] at hoi
    have hbi : bef[i]? = some (befAt bef i) := by
      unfold befAt
      have : i < bef.length := by omega
      simp [this]
    have hdr : ∃ tail, ops.drop (i + 1) = r ++ tail := ⟨tail, by rw [← List.drop_drop, hd]; rfl⟩
    simp only [List.all_cons, Bool.and_eq_true] at hro
    obtain ⟨⟨hg, hc⟩, hro⟩ : (o.guard.isNone = true ∧ (cls o.op == 0 || cls o.op == 1) = true) ∧ r.all readsQ = true := ⟨by simpa [readsQ] using hro.1, hro.2⟩
    have hg : o.guard = none := by simpa using hg
    have hc : cls o.op = 0 ∨ cls o.op = 1 := by simpa using hc
    have hnc : ∀ f a, o.op ≠ .call f a := fun f a h => by rw [h] at hc; simp [cls] at hc
    simp only [WdR, hg] at hw
    have hwi : ∃ d, evOp (get e) h (N + i) o.op = some (d, h) ∧ WdR P r (put o.dst d e) h K := by
      unfold WdI at hw
      split at hw
      · rename_i f args hop; exact absurd hop (hnc f args)
      · split at hw
        · rename_i d h' hev
          rcases hc with hc | hc
          · obtain ⟨rfl, h2⟩ := cls0 hc hev
            exact ⟨d, h2 _ _, hw⟩
          · obtain ⟨rfl, h2⟩ := cls1 hc hev
            exact ⟨d, h2 _, hw⟩
        · exact hw.elim
    obtain ⟨d, hev, hw⟩ := hwi
    have hres : dRes P N ops.length rs i (befAt bef i) o (get e) full = some (d, full) := by
      have hcase : (match evOp (get e) (hide (hidF N ops.length (befAt bef i) i) full) (N + i) o.op with | some (d, h1) => some (d, unhide (hidF N ops.length (befAt bef i) i) full h1) | none => none) = some (d, full) := by
        cases hx : hidF N ops.length (befAt bef i) i (N + idx) with
        | true =>
          have e1 : hide (hidF N ops.length (befAt bef i) i) full = h := by
            funext k
            simp only [hide]
            split
            · rename_i hk
              simp only [hidF, Bool.and_eq_true, decide_eq_true_eq] at hk
              exact (hN k hk.1.1.1).symm
            · rename_i hk
              exact hf k (fun h2 => by rw [h2, hx] at hk; exact hk rfl)
          rw [e1, hev]
          simp only
          rw [unhide_eq (fun k hk => (hf k (fun h2 => by rw [h2, hx] at hk; cases hk)).symm)]
        | false =>
          have e1 : hide (hidF N ops.length (befAt bef i) i) full = full := by
            funext k
            simp only [hide]
            split
            · rename_i hk
              have hk2 := hk
              simp only [hidF, Bool.and_eq_true, decide_eq_true_eq] at hk2
              rw [hf k (fun h2 => by rw [h2, hx] at hk; cases hk), hN k hk2.1.1.1]
            · rfl
          have e2 : hide (fun j => j == N + idx) full = h := by
            funext k
            simp only [hide]
            split
            · rename_i hk
              rw [hN k (by have := beq_iff_eq.1 hk; omega)]
            · rename_i hk
              exact hf k (fun h2 => hk (by simpa using h2))
          have := evOp_hide (hf := fun j => j == N + idx) (h := full) (k := N + i) (by simp; omega) (by rw [e2]; exact hev)
          rw [e1, this]
          simp only
          rw [unhide_eq (h := h) (g := full) (fun k hk => (hf k (fun h2 => by simp [h2] at hk)).symm)]
          rw [unhide_eq (fun k _ => rfl)]
      have hgv : guardV o.guard (get e) = some true := by rw [hg]; rfl
      unfold dRes
      rw [hgv]
      simp only
      cases hop : o.op <;> rw [hop] at hcase <;> first | exact hcase | exact absurd hop (hnc _ _)
    obtain ⟨e', h1, h2⟩ := WdR_mid hbl hN hf r (i + 1) (by omega) hdr hro _ K hw
    refine ⟨e', ?_, h2⟩
    simp only [List.length_cons, List.range'_succ, dRun, hoi, hbi, hres]
    rw [← get_put]
    exact h1
def WdC (P : Program) (c : AIns) (mid suf : List AIns) (e : Env) (h : Heap) (K : Env → Heap → Prop) : Prop :=
  match c.op with
  | .call f args => match evO (get e) f, evOs (get e) args with
    | some (.fn g fst caps), some ds => ∃ r, PC P h (fst ++ ds ++ caps) g r ∧ ∀ k, h k = none → WdR P mid (put c.dst (thaw k r) e) h fun e3 => Wops P suf e3 (thawH k r h) K
    | _, _ => False
  | _ => False
theorem W_dregC {P : Program} {Q : X → St → Prop} {e : Env} {h : Heap} {pre mid suf ops : List AIns} {c : AIns} {bef : List (List Nat)} {keep : List Nat} (hs : pre ++ (c :: (mid ++ suf)) = ops) (hbl : bef.length = ops.length) (hro : pre.all readsOnly = true) (hcg : c.guard = none) (hmid : mid.all readsQ = true) (hok : okS bef [pre.length] (pre.length + 1 + mid.length) suf = true)
    (hw : ∀ K : Env → Heap → Prop, (∀ e1 h1 e2, norm keep e1 = e2 → Q .normal ⟨e2, h1⟩ → K e1 h1) → WdR P pre e h fun e' => WdC P c mid suf e' h K) : W P (.dreg ops bef keep) Q ⟨e, h⟩ := by
  refine Or.inl ?_
  subst hs
  obtain ⟨rs0, e1, hc, hr⟩ := WdR_run (ops := pre ++ (c :: (mid ++ suf))) hbl pre 0 ⟨c :: (mid ++ suf), by simp⟩ hro e h _ (hw (fun e' h' => Q .normal ⟨norm keep e', h'⟩) fun _ _ _ h1 h2 => by rw [h1]; exact h2)
  unfold WdC at hc
  split at hc
  · rename_i f args hop
    split at hc
    · rename_i g fst caps ds hf ha
      obtain ⟨r, hpc, hk⟩ := hc
      refine ⟨fun j => if j = pre.length then r else rs0 j, fun N hN => ?_⟩
      have hN : ∀ k, N ≤ k → h k = none := hN
      have hlen : (pre ++ (c :: (mid ++ suf))).length = pre.length + (1 + (mid.length + suf.length)) := by simp; omega
      have h1 := hr N hN
      rw [dRun_congr (rs' := fun j => if j = pre.length then r else rs0 j) _ _ _ (fun j hj => by have := List.mem_range'_1.1 hj; show rs0 j = if j = pre.length then r else rs0 j; rw [if_neg (by omega)])] at h1
      generalize hrs : (fun j => if j = pre.length then r else rs0 j) = rs at *
      have hrsi : rs pre.length = r := by rw [← hrs]; simp
      have hci : (pre ++ (c :: (mid ++ suf)))[pre.length]? = some c := by simp
      have hbi : bef[pre.length]? = some (befAt bef pre.length) := by
        unfold befAt
        have : pre.length < bef.length := by omega
        simp [this]
      have hres : dRes P N (pre ++ (c :: (mid ++ suf))).length rs pre.length (befAt bef pre.length) c (get e1) h = some (thaw (N + pre.length) r, thawH (N + pre.length) r h) := by
        unfold dRes
        rw [hcg, hop]
        simp only [guardV, hf, ha, hrsi]
        rw [hide_id hN, if_pos (by rw [hrsi]; exact hpc)]
      have hfull : ∀ k, k ≠ N + pre.length → thawH (N + pre.length) r h k = h k := by
        intro k hk
        cases how : owOf r with
        | none => rw [thawH_none how]
        | some c0 => rw [thawH_some how]; exact upd_ne hk
      obtain ⟨e3, h3, h4⟩ := WdR_mid (ops := pre ++ (c :: (mid ++ suf))) hbl (rs := rs) hN hfull mid (pre.length + 1) (by omega) ⟨suf, by rw [← List.drop_drop]; simp⟩ hmid _ _ (hk (N + pre.length) (hN _ (by omega)))
      obtain ⟨e4, h', h5, h6⟩ := Wsuf_run (ops := pre ++ (c :: (mid ++ suf))) hbl (N := N) (rs := rs) suf (pre.length + 1 + mid.length) [pre.length] e3 _ _ (by
          have : (pre ++ (c :: (mid ++ suf))) = (pre ++ (c :: mid)) ++ suf := by simp
          rw [this, List.drop_append_of_le_length (by simp; omega)]
          rw [List.drop_eq_nil_of_le (by simp; omega)]; rfl) hok h4 (fun k hk hne => ⟨pre.length, by simp, Classical.byContradiction fun h0 => hne (by rw [hfull k h0]; exact hN k hk)⟩) (by intro m hm; simp at hm; omega)
      refine ⟨(get e4, h'), ?_, ?_⟩
      · rw [hlen, List.range_eq_range', ← List.range'_append_1, dRun_append]
        rw [hlen] at h1 h3 h5 hres
        rw [h1]
        simp only [Option.bind_some, Nat.zero_add]
        rw [← List.range'_append_1, dRun_append]
        have hr1 : List.range' pre.length 1 = [pre.length] := rfl
        rw [hr1]
        simp only [dRun, hci, hbi, hres, Option.bind_some]
        rw [← get_put, ← List.range'_append_1, dRun_append, h3]
        simp only [Option.bind_some]
        exact h5
      · rw [norm_get] at h6
        exact h6
    · exact hc.elim
  · exact hc.elim
theorem d_nilO {P : Program} {e : Env} {h h2 : Heap} {l : List AIns} {K : Env → Heap → Prop} (hw : Wops P l e h2 K) : WdR P [] e h (fun e' => Wops P l e' h2 K) := hw
theorem d_nilC {P : Program} {c : AIns} {mid suf : List AIns} {e : Env} {h : Heap} {K : Env → Heap → Prop} (hw : WdC P c mid suf e h K) : WdR P [] e h (fun e' => WdC P c mid suf e' h K) := hw
theorem d_own {P : Program} {mid suf : List AIns} {e : Env} {h : Heap} {K : Env → Heap → Prop} {t : Nat} {args : List O} {g : Nat} {gd : Option (Nat × Bool)} {ds ds' : List D} {r : D} (h2 : evOs (get e) args = some ds) (hp : PCon P g ds' r) (hr : All2 (Rd h) ds ds')
    (hk : ∀ k, h k = none → WdR P mid ((t, thaw k r) :: e) h fun e3 => Wops P suf e3 (thawH k r h) K) : WdC P ⟨some t, .call (.fnc g) args, gd⟩ mid suf e h K := by
  simp only [WdC, evO, h2]
  exact ⟨r, .inl ⟨ds', by simpa using hr, hp⟩, hk⟩
theorem Rd_vn {h : Heap} {sz len : Nat} {c : List D} : Rd h (.vn sz c len) (.vs sz c len) := fun s v H hv => hv.inv_vn.mono fun b hb => ⟨H.fl b hb, rfl⟩
end Go.AM
