/- Rows that change; first places. -/
import Derived.Test.YtmelmpaiplmjmaaAmY
set_option linter.unusedSimpArgs false
set_option linter.unusedVariables false
namespace Go.AM
open Go

theorem fm_set {α : Type} {f : α → List D} {w : Nat} (hf : ∀ a, (f a).length = w) {l : List α} {i j : Nat} {d : D} {b : α} (hi : i < l.length) (hj : j < w) (hb : f b = (f l[i]).set j d) :
    (l.flatMap f).set (i * w + j) d = (l.set i b).flatMap f := by
  induction l generalizing i with
  | nil => simp at hi
  | cons a r ih =>
    cases i with
    | zero =>
      simp only [Nat.zero_mul, Nat.zero_add, List.set_cons_zero, List.flatMap_cons]
      rw [List.set_append_left _ _ (by rw [hf]; exact hj)]
      simp only [List.getElem_cons_zero] at hb
      rw [hb]
    | succ i =>
      simp only [List.set_cons_succ, List.flatMap_cons]
      simp only [List.length_cons] at hi
      rw [List.set_append_right _ _ (by rw [hf, Nat.succ_mul]; omega), hf, ← ih (by omega) (by simpa using hb)]
      congr 2
      rw [Nat.succ_mul]; omega
theorem fm_st {α : Type} {f : α → List D} {w : Nat} (hf : ∀ a, (f a).length = w) {l : List α} {i j : Nat} {d : D} {b : α} (hi : i < l.length) (hj : j < w) (hb : f b = (f l[i]).set j d) :
    List.take (i * w + j) (l.flatMap f) ++ [d] ++ List.drop (i * w + j + 1) (l.flatMap f) = (l.set i b).flatMap f := by
  have h1 : i * w + w ≤ l.length * w := by rw [← Nat.succ_mul]; exact Nat.mul_le_mul_right w hi
  rw [set_form (by rw [fm_len hf]; omega), fm_set hf hi hj hb]
theorem rep_zero {k : IntKind} {xs : List Int} {n : Nat} (hl : xs.length = n) (h : ∀ x ∈ xs, x = 0) : rep n [D.int k 0] = xs.map (.int k) := by
  subst hl
  simp only [rep, List.flatten_replicate_singleton]
  apply List.ext_getElem (by simp)
  intro j h1 h2
  rw [List.getElem_replicate, List.getElem_map, h _ (List.getElem_mem _)]
theorem map_st {k : IntKind} {xs ys : List Int} {i : Nat} {v : Int} (hi : i < xs.length) (hs : xs.set i v = ys) : List.take i (xs.map (D.int k)) ++ [D.int k v] ++ List.drop (i + 1) (xs.map (D.int k)) = ys.map (.int k) := by
  rw [set_form (by simpa using hi), ← List.map_set, hs]
theorem map_g {k : IntKind} {xs : List Int} {i : Nat} (hi : i < xs.length) : (xs.map (D.int k))[i]? = some (.int k (xs.getD i 0)) := by
  rw [List.getElem?_map, List.getD_eq_getElem?_getD, List.getElem?_eq_getElem hi]; rfl

/-! ### Reading by value, one level more -/
theorem own_cellsR {s : Sg} {h : Heap} (H : RHo s h) {k : Nat} {c c' : List D} (hk : h k = some c) (hr : All2 (Rd h) c c') {b n : Nat} (hb : s.ρ k = some (some b, n)) :
    b < s.w.heap.size ∧ ∃ cs e, s.w.heap[b]? = some (.cells cs e (0, 0)) ∧ c'.length ≤ cs.size ∧ CellsAt s.w b 0 (cs.toList.take c'.length) ∧ All2 (RPc s.w (below s.w.heap.size)) (cs.toList.take c'.length) c' := by
  have hlen := hr.1
  obtain ⟨_, x, hx, _, hq⟩ := H.own k c hk
  rw [hb] at hx
  injection hx with hx; injection hx with h1 h2
  subst h1
  obtain ⟨_, cs, e, hh, hl, hall⟩ := hq b rfl
  rw [hlen] at hl hall
  refine ⟨?_, cs, e, hh, hl, ?_, by rw [hall.1, hlen], fun i v d hv hd => ?_⟩
  · rcases Nat.lt_or_ge b s.w.heap.size with h' | h'
    · exact h'
    · simp [Array.getElem?_eq_none h'] at hh
  · have := (cellsAt_block hh).sub 0 c'.length
    simp only [Nat.add_zero, List.drop_zero] at this
    exact this
  · have hlt : i < c.length := by
      rcases Nat.lt_or_ge i c.length with h' | h'
      · exact h'
      · rw [List.getElem?_eq_none (by omega)] at hd; cases hd
    have hci := List.getElem?_eq_getElem hlt
    have h3 := hall.2 i v _ hv hci
    exact ⟨hr.2 i _ _ hci hd s v H h3.1, h3.2⟩
/-- A pointer to an own block, whose cells are read by value. -/
theorem Rd_ptR {h : Heap} {k off : Nat} {c c' : List D} (hk : h k = some c) (hr : All2 (Rd h) c c') (hne : c' ≠ []) : Rd h (.pt k off) (.vp c' off) := by
  intro s v H hv
  obtain ⟨_, b, rfl, hq⟩ := hv.inv_pt
  obtain ⟨_, x, hx, hxn, _⟩ := H.own k c hk
  have hxb := hq x _ hx
  subst hxb
  obtain ⟨hbl, cs2, e2, hh, hl2, hat, hall⟩ := own_cellsR H hk hr hx
  have := RP.vp (w := s.w) (prot := below s.w.heap.size) b off 0 c' (cs2.toList.take c'.length) hbl hall.1 ?_ hat (fun i v d hv' hd => (hall.2 i v d hv' hd).1)
  · simpa using this
  · intro v hv'
    obtain ⟨i, hi⟩ := List.mem_iff_getElem?.1 hv'
    have hlt : i < c'.length := by
      rcases Nat.lt_or_ge i (cs2.toList.take c'.length).length with h' | h'
      · rw [hall.1] at h'; exact h'
      · simp [List.getElem?_eq_none h'] at hi
    exact (hall.2 i v _ hi (List.getElem?_eq_getElem hlt)).2
/-- An own slice, whose cells are read by value. -/
theorem Rd_slR {h : Heap} {k sz len : Nat} {c c' : List D} (hk : h k = some c) (hr : All2 (Rd h) c c') (hl : c'.length = len * sz) : Rd h (.sl k sz 0 len) (.vs sz c' len) := by
  intro s v H hv
  obtain ⟨_, ad, cap, rfl, hna, hlc, hq⟩ := hv.inv_sl
  obtain ⟨_, x, hx, hxn, _⟩ := H.own k c hk
  obtain ⟨hcc, hcap⟩ := hq x _ hx
  have hlen := hr.1
  rcases hcap with h0 | ⟨b, cs, e, rfl, rfl, hb, hs⟩
  · obtain rfl : len = 0 := by omega
    rw [Nat.zero_mul] at hl
    rw [List.length_eq_zero_iff.1 hl]
    exact RP.vs0 ad cap sz
  · obtain ⟨hbl, cs2, e2, hh, hl2, hat, hall⟩ := own_cellsR H hk hr hx
    refine .vs b 0 cap sz len _ (cs2.toList.take c'.length) hl hlc hbl hall.1 ?_ hat ?_
    · intro v hv'
      obtain ⟨i, hi⟩ := List.mem_iff_getElem?.1 hv'
      have hlt : i < c'.length := by
        rcases Nat.lt_or_ge i (cs2.toList.take c'.length).length with h' | h'
        · rw [hall.1] at h'; exact h'
        · simp [List.getElem?_eq_none h'] at hi
      exact (hall.2 i v _ hi (List.getElem?_eq_getElem hlt)).2
    · intro i v d hv' hd
      exact (hall.2 i v d hv' hd).1
theorem Rd_fnR {h : Heap} {f : Nat} {a a' c c' : List D} (ha : All2 (Rd h) a a') (hc : All2 (Rd h) c c') : Rd h (.fn f a c) (.fn f a' c') := by
  intro s v H hv
  obtain ⟨as, bs, rfl, h1, h2⟩ := hv.inv_fn
  refine .fn f as bs a' c' (h1.1.trans ha.1) (h2.1.trans hc.1) (fun i v d hv hd => ?_) (fun i v d hv hd => ?_)
  · have hlt : i < a.length := by
      rcases Nat.lt_or_ge i a.length with h' | h'
      · exact h'
      · rw [List.getElem?_eq_none (by rw [← ha.1]; exact h')] at hd; cases hd
    have hci := List.getElem?_eq_getElem hlt
    exact ha.2 i _ _ hci hd s v H (h1.2 i v _ hv hci)
  · have hlt : i < c.length := by
      rcases Nat.lt_or_ge i c.length with h' | h'
      · exact h'
      · rw [List.getElem?_eq_none (by rw [← hc.1]; exact h')] at hd; cases hd
    have hci := List.getElem?_eq_getElem hlt
    exact hc.2 i _ _ hci hd s v H (h2.2 i v _ hv hci)
theorem d_callt {P : Program} {e : Env} {h : Heap} {r : List AIns} {K : Env → Prop} {dst : Option Nat} {tf : Nat} {args : List O} {g : Nat} {fst caps ds ds0 ds' : List D} {r0 : D} (h1 : get e tf = some (.fn g fst caps)) (h2 : evOs (get e) args = some ds) (hd : fst ++ ds ++ caps = ds0) (hp : PCon P g ds' r0) (hr : All2 (Rd h) ds0 ds') (hw : WdR P r (put dst (unow r0) e) h K) : WdR P (⟨dst, .call (.tmp tf) args, none⟩ :: r) e h K := by
  subst hd
  simp only [WdR, WdI, evO, h1, h2]
  exact ⟨ds', r0, hr, hp, hw⟩
theorem k_dcallt {P : Program} {n : Nat} {l : List O} {dst : Option Nat} {r : List AIns} {e : Env} {h : Heap} {K : Env → Prop} (hw : WdR P (⟨dst, .call (.tmp n) l, none⟩ :: r) e h K) : WdR P (⟨dst, .call (.tmp n) l, none⟩ :: r) e h K := hw
end Go.AM
