import Derived.Test.YthblalidmmbcoaaI2qbad588
import Derived.Test.YthblalidmmbcoaaAmZ3qbd265f
section
/- min -/
/- slices.Insert at []api.Cached: its contract. -/
set_option linter.unusedSimpArgs false
set_option linter.unusedVariables false
namespace Go.Proofs.Ythblalidmmbcoaa
open Go.AM Classical
set_option maxRecDepth 100000
set_option maxHeartbeats 4000000
theorem setCells_blk (b : Nat) : ∀ (vs : List Value) (o : Nat) (w : World) (cs : Array Value) (e : Nat) (f : Nat × Nat), w.heap[b]? = some (.cells cs e f) →
    (∃ cs', (w.setCells b o vs).heap[b]? = some (.cells cs' e f) ∧ cs'.size = cs.size) ∧ (∀ b', b' ≠ b → (w.setCells b o vs).heap[b']? = w.heap[b']?) ∧ (w.setCells b o vs).heap.size = w.heap.size ∧ SameO w (w.setCells b o vs)
  | [], o, w, cs, e, f, h => ⟨⟨cs, h, rfl⟩, fun _ _ => rfl, rfl, .refl _⟩
  | v :: r, o, w, cs, e, f, h => by
    have h1 : (w.setCell ⟨b, o, none⟩ v).heap[b]? = some (.cells (cs.setIfInBounds o v) e f) := by
      simp [World.setCell, Array.getElem?_modify, h]
    obtain ⟨⟨cs', h2, h3⟩, h4, h5, h6⟩ := setCells_blk b r (o + 1) _ _ e f h1
    refine ⟨⟨cs', h2, by rw [h3]; simp⟩, fun b' hb' => ?_, by show ((w.setCell ⟨b, o, none⟩ v).setCells b (o + 1) r).heap.size = _; rw [h5]; simp, ?_⟩
    · show ((w.setCell ⟨b, o, none⟩ v).setCells b (o + 1) r).heap[b']? = _
      rw [h4 b' hb']
      simp only [World.setCell, Array.getElem?_modify]
      rw [if_neg (fun e => hb' e.symm)]
    · exact SameO.trans (b := w.setCell ⟨b, o, none⟩ v) ⟨rfl, rfl, rfl⟩ h6
theorem cell_at {w : World} {b : Nat} {cs : Array Value} {e : Nat} {f : Nat × Nat} (h : w.heap[b]? = some (.cells cs e f)) (j : Nat) : w.cell? ⟨b, j, none⟩ = cs[j]? := by
  simp [World.cell?, h]
theorem frozen_at {w : World} {b : Nat} {cs : Array Value} {e : Nat} (h : w.heap[b]? = some (.cells cs e (0, 0))) (j : Nat) : w.frozen? ⟨b, j, none⟩ = false := by
  simp [World.frozen?, h]
theorem heap_push {w w' : World} {o : Obj} (hs : w'.heap.size = w.heap.size + 1) (ho : ∀ b, b < w.heap.size → w'.heap[b]? = w.heap[b]?) (hn : w'.heap[w.heap.size]? = some o) : w'.heap = w.heap.push o := by
  apply Array.ext_getElem?
  intro i
  rw [Array.getElem?_push]
  rcases Nat.lt_trichotomy i w.heap.size with h | h | h
  · rw [if_neg (by omega)]; exact ho i h
  · subst h; rw [if_pos rfl]; exact hn
  · rw [if_neg (by omega), Array.getElem?_eq_none (by omega), Array.getElem?_eq_none (by omega)]
theorem ins_all {s : Sg} {old mid : List Value} {cs vs : List D} {row : List Value} {p : Nat} (h1 : All2 (RC s) old cs) (h2 : All2 (RC s) mid vs) (hp : p ≤ cs.length)
    (hl : cs.length + vs.length ≤ row.length)
    (ha : ∀ j, j < p → row[j]? = old[j]?) (hb : ∀ j, j < vs.length → row[p + j]? = mid[j]?) (hc : ∀ j, p + j < cs.length → row[p + vs.length + j]? = old[p + j]?) :
    All2 (RC s) (row.take (cs.take p ++ vs ++ cs.drop p).length) (cs.take p ++ vs ++ cs.drop p) := by
  have hlen : (cs.take p ++ vs ++ cs.drop p).length = cs.length + vs.length := by simp; omega
  have hr : row.take (cs.length + vs.length) = old.take p ++ mid ++ old.drop p := by
    have e1 := h1.1
    have e2 := h2.1
    apply List.ext_getElem?
    intro j
    rw [List.getElem?_take]
    by_cases q1 : j < p
    · rw [if_pos (by omega), ha j q1, List.append_assoc, List.getElem?_append_left (by rw [List.length_take]; omega), List.getElem?_take, if_pos q1]
    · rw [List.append_assoc, List.getElem?_append_right (by rw [List.length_take]; omega), show (old.take p).length = p by rw [List.length_take]; omega]
      by_cases q2 : j - p < vs.length
      · have := hb (j - p) q2
        rw [show p + (j - p) = j by omega] at this
        rw [if_pos (by omega), this, List.getElem?_append_left (by omega)]
      · rw [List.getElem?_append_right (by omega), List.getElem?_drop]
        by_cases q3 : j < cs.length + vs.length
        · have := hc (j - p - vs.length) (by omega)
          rw [show p + vs.length + (j - p - vs.length) = j by omega] at this
          rw [if_pos q3, this, e2]
        · rw [if_neg q3, List.getElem?_eq_none (by omega)]
  rw [hlen, hr]
  exact ((h1.take p).append h2).append (h1.drop p)
theorem ins_con {h : Heap} {k kv : Nat} {cs vs : List D} {n i : Nat} (hk : h k = some cs) (hcl : cs.length = n * 2) (hv : h kv = some vs) (hvl : vs.length = 2) (hne : kv ≠ k) (hi : i < n) (hn : n ≤ 900) {Q : D → Heap → Prop}
    (hQ : ∀ kk, h kk = none → Q (.sl kk 2 0 (n + 1)) (upd (del h k) kk (cs.take (i * 2) ++ vs ++ cs.drop (i * 2)))) :
    Con Try.prog 75 [.sl k 2 0 n, .int .i64 i, .sl kv 2 0 1] h Q := by
  refine ⟨A75k, fun s args H A => ?_⟩
  obtain ⟨args⟩ := args
  match args, A.1 with
  | [x1, x2, x3], _ =>
    have r1 := A.2 0 x1 _ rfl rfl
    have r2 := (A.2 1 x2 _ rfl rfl).inv_int
    have r3 := A.2 2 x3 _ rfl rfl
    obtain ⟨ad, cap, rfl, q1, q2, q3⟩ := sl_live H r1 hk
    obtain ⟨adv, capv, rfl, p1, p2, p3⟩ := sl_live H r3 hv
    subst r2
    obtain ⟨b, row, e, t1, rfl, t3, t4⟩ := q3.resolve_left (by omega)
    obtain ⟨vb, rowv, ev, u1, rfl, u3, u4⟩ := p3.resolve_left (by omega)
    obtain ⟨_, _, row', e', t3', t5, t6⟩ := H.block hk t1
    rw [t3] at t3'; injection t3' with t3'; injection t3' with z1 z2; subst z1; subst z2
    obtain ⟨_, _, rowv', ev', u3', u5, u6⟩ := H.block hv u1
    rw [u3] at u3'; injection u3' with u3'; injection u3' with z1 z2; subst z1; subst z2
    have hvb : vb ≠ b := fun e => hne (H.inj kv k b _ _ (e ▸ u1) t1)
    have hkn : ¬ s.used s.next := H.next_free
    have hfr : h s.next = none := H.fresh hkn
    obtain ⟨old, hold⟩ : ∃ old, old = row.toList.take cs.length := ⟨_, rfl⟩
    obtain ⟨mid, hmid⟩ : ∃ mid, mid = rowv.toList.take vs.length := ⟨_, rfl⟩
    rw [← hold] at t6
    rw [← hmid] at u6
    have ho1 : ∀ j, j < cs.length → old[j]? = row[j]? := fun j hj => by rw [hold, List.getElem?_take, if_pos hj]; simp
    have hm1 : ∀ j, j < vs.length → mid[j]? = rowv[j]? := fun j hj => by rw [hmid, List.getElem?_take, if_pos hj]; simp
    have hol : old.length = n * 2 := by rw [t6.1, hcl]
    have hml : mid.length = 2 := by rw [u6.1, hvl]
    have hc1 : ∀ j v, old[j]? = some v → s.w.cell? ⟨b, j, none⟩ = some v := fun j v hj => by
      have : j < old.length := by
        rcases Nat.lt_or_ge j old.length with h' | h'
        · exact h'
        · rw [List.getElem?_eq_none h'] at hj; cases hj
      rw [cell_at t3, ← ho1 j (by omega)]; exact hj
    have hv1 : ∀ j v, mid[j]? = some v → s.w.cell? ⟨vb, j, none⟩ = some v := fun j v hj => by
      have : j < mid.length := by
        rcases Nat.lt_or_ge j mid.length with h' | h'
        · exact h'
        · rw [List.getElem?_eq_none h'] at hj; cases hj
      rw [cell_at u3, ← hm1 j (by omega)]; exact hj
    have hone : ∀ {l : List Value} {ds : List D}, All2 (RC s) l ds → ∀ v ∈ l, v.oneCell' = true := fun {l ds} ha v hv => by
      obtain ⟨j, hj⟩ := List.mem_iff_getElem?.1 hv
      have hlt : j < l.length := by
        rcases Nat.lt_or_ge j l.length with h' | h'
        · exact h'
        · rw [List.getElem?_eq_none h'] at hj; cases hj
      exact (ha.2 j v _ hj (List.getElem?_eq_getElem (by rw [← ha.1]; exact hlt))).2
    have hdl : (old.drop (i * 2)).length = (n - i) * 2 := by rw [List.length_drop, hol]; omega
    by_cases hfit : n + 1 ≤ cap
    · refine (ins_shift b n cap i vb capv old mid s.w hi hfit (by omega) hvb hol hml hc1 (fun j hj => by rw [cell_at t3, Array.getElem?_eq_getElem (by omega)]; rfl) (frozen_at t3) hv1 (hone t6) (hone u6) ev e rowv.size row.size (by simp [World.shape?, u3]) (by simp [World.shape?, t3]) (by omega) (frozen_at u3 _) (frozen_at u3 _)).mono ?_
      rintro e' w' ⟨rfl, hw'⟩
      have g3 : s.w.drew.heap[b]? = some (.cells row e (0, 0)) := t3
      obtain ⟨⟨row1, a1, a2⟩, a3, a4, a5⟩ := setCells_blk b (old.drop (i * 2)) ((i + 1) * 2) s.w.drew row e (0, 0) g3
      obtain ⟨⟨row2, b1, b2⟩, b3, b4, b5⟩ := setCells_blk b mid (i * 2) _ row1 e (0, 0) a1
      rw [← hw'] at b1 b3 b4 b5
      have some0 : ∀ j, j < (n + 1) * 2 → (s.w.drew.cell? ⟨b, j, none⟩).isSome = true := fun j hj => by rw [cell_at g3, Array.getElem?_eq_getElem (by omega)]; rfl
      have some1 : ∀ j, j < (n + 1) * 2 → ((s.w.drew.setCells b ((i + 1) * 2) (old.drop (i * 2))).cell? ⟨b, j, none⟩).isSome = true := fun j hj => by rw [cell_at a1, Array.getElem?_eq_getElem (by omega)]; rfl
      have hrow : ∀ j, row2.toList[j]? = w'.cell? ⟨b, j, none⟩ := fun j => by rw [cell_at b1]; simp
      have hr2 : row2.toList.length = row2.size := Array.length_toList
      obtain ⟨s', c1, c2, c3, c4, c5, _⟩ := H.rekey hk t1 t3 (cs' := row2) (by rw [b2, a2]) w' (by rw [b4, a4]; rfl) b1 (fun b' hb' => by rw [b3 b' hb', a3 b' hb']; rfl) s.next hkn (cs.take (i * 2) ++ vs ++ cs.drop (i * 2)) (by simp; omega)
        (ins_all t6 u6 (by omega) (by omega)
          (fun j hj => by rw [hrow, hw', World.cell?_setCells_out b _ _ _ _ (fun _ _ => .inl hj), World.cell?_setCells_out b _ _ _ _ (fun _ _ => .inl (by show j < (i + 1) * 2; omega)), cell_at g3, ho1 j (by omega)])
          (fun j hj => by rw [hrow, hw', World.cell?_setCells_in b _ _ _ (fun j hj => some1 _ (by omega)) j (by omega), List.getElem?_eq_getElem (by omega)])
          (fun j hj => by
            rw [hrow, hw', World.cell?_setCells_out b _ _ _ _ (fun _ _ => .inr (by show i * 2 + mid.length ≤ i * 2 + vs.length + j; omega)), show i * 2 + vs.length + j = (i + 1) * 2 + j by omega,
              World.cell?_setCells_in b _ _ _ (fun j hj => some0 _ (by omega)) j (by omega), List.getElem_drop, List.getElem?_eq_getElem (by omega)]))
        (SameO.trans (SameO.trans (b := s.w.drew) ⟨rfl, rfl, rfl⟩ a5) b5)
      refine ⟨_, _, _, s', rfl, c1, c2, c3, ?_, hQ s.next hfr⟩
      refine .sl _ s.next 2 0 (n + 1) cap c4 (by simp) hfit ?_
      intro x' m hx'
      rw [c5] at hx'
      injection hx' with hx'; injection hx' with h8 h9
      subst h8; subst h9
      exact ⟨by simp; omega, .inr ⟨b, row2, e, rfl, rfl, by rw [c1]; exact b1, by omega⟩⟩
    · refine (ins_grow b n cap i vb capv old mid s.w hi q1 (by omega) (by omega) hol hml hc1 hv1 (hone t6) (hone u6)).mono ?_
      rintro e' w' ⟨rfl, hw'⟩
      obtain ⟨G, hG⟩ : ∃ G, G = grownCap s.w (n + 1) cap 95 := ⟨_, rfl⟩
      have hGn : n + 1 ≤ G := by rw [hG]; exact grownCap_ge s.w _ _ _
      rw [← hG] at hw' ⊢
      obtain ⟨R0, hR0⟩ : ∃ R0 : Array Value, R0 = (old.take (i * 2)).toArray ++ Builtin.zeroCells zCa.cells (n + 1 - i) ++ Builtin.zeroCells zCa.cells (G - (n + 1)) := ⟨_, rfl⟩
      rw [← hR0] at hw'
      have hRs : R0.size = G * 2 := by
        rw [hR0, Array.size_append, Array.size_append, zCa_size, zCa_size]
        simp
        omega
      have hRo : ∀ j, j < i * 2 → R0[j]? = old[j]? := fun j hj => by
        rw [hR0, Array.append_assoc, Array.getElem?_append_left (by simp; omega), List.getElem?_toArray, List.getElem?_take, if_pos hj]
      obtain ⟨W0, hW0⟩ : ∃ W0, W0 = (s.w.alloc (.cells R0 95)).drew := ⟨_, rfl⟩
      have g3 : W0.heap[s.w.heap.size]? = some (.cells R0 95 (0, 0)) := by rw [hW0]; show (s.w.heap.push _)[s.w.heap.size]? = _; simp
      have g4 : ∀ b, b < s.w.heap.size → W0.heap[b]? = s.w.heap[b]? := fun b hb => by rw [hW0]; show (s.w.heap.push _)[b]? = _; rw [Array.getElem?_push, if_neg (by omega)]
      have g5 : W0.heap.size = s.w.heap.size + 1 := by rw [hW0]; simp
      have g6 : SameO s.w W0 := by rw [hW0]; exact ⟨rfl, rfl, rfl⟩
      rw [← hW0] at hw'
      obtain ⟨⟨row1, a1, a2⟩, a3, a4, a5⟩ := setCells_blk s.w.heap.size mid (i * 2) W0 R0 _ (0, 0) g3
      have a1' : (W0.setCells s.w.heap.size (i * 2) mid).drew.heap[s.w.heap.size]? = some (.cells row1 95 (0, 0)) := a1
      obtain ⟨⟨row2, b1, b2⟩, b3, b4, b5⟩ := setCells_blk s.w.heap.size (old.drop (i * 2)) ((i + 1) * 2) _ row1 _ (0, 0) a1'
      rw [← hw'] at b1 b3 b4 b5
      have some0 : ∀ j, j < (n + 1) * 2 → (W0.cell? ⟨s.w.heap.size, j, none⟩).isSome = true := fun j hj => by rw [cell_at g3, Array.getElem?_eq_getElem (by omega)]; rfl
      have some1 : ∀ j, j < (n + 1) * 2 → ((W0.setCells s.w.heap.size (i * 2) mid).drew.cell? ⟨s.w.heap.size, j, none⟩).isSome = true := fun j hj => by rw [cell_at a1', Array.getElem?_eq_getElem (by omega)]; rfl
      have hrow : ∀ j, row2.toList[j]? = w'.cell? ⟨s.w.heap.size, j, none⟩ := fun j => by rw [cell_at b1]; simp
      have hr2 : row2.toList.length = row2.size := Array.length_toList
      have hall := ins_all (row := row2.toList) t6 u6 (p := i * 2) (by omega) (by omega)
          (fun j hj => by
            rw [hrow, hw', World.cell?_setCells_out _ _ _ _ _ (fun _ _ => .inl (by show j < (i + 1) * 2; omega))]
            show (W0.setCells s.w.heap.size (i * 2) mid).cell? _ = _
            rw [World.cell?_setCells_out _ _ _ _ _ (fun _ _ => .inl hj), cell_at g3, hRo j hj])
          (fun j hj => by
            rw [hrow, hw', World.cell?_setCells_out _ _ _ _ _ (fun _ _ => .inl (by show i * 2 + j < (i + 1) * 2; omega))]
            show (W0.setCells s.w.heap.size (i * 2) mid).cell? _ = _
            rw [World.cell?_setCells_in _ _ _ _ (fun j hj => some0 _ (by omega)) j (by omega), List.getElem?_eq_getElem (by omega)])
          (fun j hj => by
            rw [hrow, hw', show i * 2 + vs.length + j = (i + 1) * 2 + j by omega,
              World.cell?_setCells_in _ _ _ _ (fun j hj => some1 _ (by omega)) j (by omega), List.getElem_drop, List.getElem?_eq_getElem (by omega)])
      have hph : w'.heap = s.w.heap.push (.cells row2 95 (0, 0)) := heap_push (by rw [b4]; show (W0.setCells s.w.heap.size (i * 2) mid).heap.size = _; rw [a4, g5])
        (fun b' hb' => by rw [b3 b' (by omega)]; show (W0.setCells s.w.heap.size (i * 2) mid).heap[b']? = _; rw [a3 b' (by omega), g4 b' hb']) b1
      have hso : SameO s.w w' := SameO.trans (SameO.trans g6 a5) (SameO.trans (b := (W0.setCells s.w.heap.size (i * 2) mid).drew) ⟨rfl, rfl, rfl⟩ b5)
      obtain ⟨s1, d1, d2, d3, d4⟩ := H.drop k
      have hkk1 : ¬ s1.used s.next := by rw [d4]; exact hkn
      obtain ⟨s', e1, e2, e3, _, e5, _⟩ := new_block d3 hkk1 95 row2.toList (cs.take (i * 2) ++ vs ++ cs.drop (i * 2)) (hall.mono fun _ _ h => h.mono d2) w' (by rw [Array.toArray_toList, d1]; exact hph) (by rw [d1]; exact hso)
      refine ⟨_, _, _, s', rfl, e1, d2.trans e2, e3, ?_, hQ s.next hfr⟩
      have hh := e5 2 (n + 1) G hGn (by simp; omega) (by omega)
      rw [d1] at hh
      exact hh
end Go.Proofs.Ythblalidmmbcoaa
end
section
/- min -/
/- A device: New, Submit. -/
set_option linter.unusedSimpArgs false
set_option linter.unusedVariables false
namespace Go.Proofs.Ythblalidmmbcoaa
open Go.AM Classical
set_option maxRecDepth 100000
set_option maxHeartbeats 4000000
theorem Rn_ag {h : Heap} {ds rs : List D} (hr : All2 (Rn h) ds rs) : Rn h (.agg ds) (.agg rs) := by
  intro s base v H hb hv
  obtain ⟨cs, rfl, hall⟩ := hv.inv_agg
  refine .agg cs rs (hall.1.trans hr.1) ?_ (fun i v d' hv hd => ?_)
  · intro u hu
    obtain ⟨i, hi⟩ := List.mem_iff_getElem?.1 hu
    have hlt : i < ds.length := by
      rcases Nat.lt_or_ge i ds.length with h' | h'
      · exact h'
      · rw [← hall.1] at h'; simp [List.getElem?_eq_none h'] at hi
    exact (hall.2 i u _ hi (List.getElem?_eq_getElem hlt)).2
  · have hlt : i < ds.length := by
      rcases Nat.lt_or_ge i ds.length with h' | h'
      · exact h'
      · rw [List.getElem?_eq_none (by rw [← hr.1]; exact h')] at hd; cases hd
    have hdi := List.getElem?_eq_getElem hlt
    exact hr.2 i _ d' hdi hd s base v H hb (hall.2 i v _ hv hdi).1
theorem All2_map {α β : Type} {R : α → β → Prop} {γ : Type} {f : γ → α} {g : γ → β} : ∀ {l : List γ}, (∀ x, R (f x) (g x)) → All2 R (l.map f) (l.map g)
  | [], _ => All2.nil
  | x :: r, h => All2.cons (h x) (All2_map h)
theorem All2_fm {R : D → D → Prop} {γ : Type} {f g : γ → List D} : ∀ {l : List γ}, (∀ x, All2 R (f x) (g x)) → All2 R (l.flatMap f) (l.flatMap g)
  | [], _ => All2.nil
  | x :: r, h => by rw [List.flatMap_cons, List.flatMap_cons]; exact (h x).append (All2_fm h)
theorem Ca.rn {h : Heap} (c : Ca) : All2 (Rn h) c.vn c.cells := All2.cons (Rn_scal rfl) (All2.cons Rn_vn All2.nil)
theorem Rq.rn {h : Heap} (c : Rq) : All2 (Rn h) c.vn c.cells := All2.cons (Rn_scal rfl) (All2.cons (Rn_scal rfl) (All2.cons (Rn_scal rfl) (All2.cons Rn_vn All2.nil)))
theorem dv_rn {h : Heap} {d : Dv} {db dc dq : D} (ob : SlOwn h db 1 (d.blocks.map nD) d.blocks.length) (oc : SlOwn h dc 2 (d.cache.flatMap Ca.vn) d.cache.length) (oq : SlOwn h dq 4 (d.queue.flatMap Rq.vn) d.queue.length) :
    Rn h (.agg [.int .i64 d.depth, .int .i64 d.next, db, dc, dq]) (dvD d) :=
  Rn_ag (All2.cons (Rn_scal rfl) (All2.cons (Rn_scal rfl) (All2.cons (Rn_so ob (All2_map fun _ => Rn_vn)) (All2.cons (Rn_so oc (All2_fm Ca.rn)) (All2.cons (Rn_so oq (All2_fm Rq.rn)) All2.nil)))))
def Nv (d d' : D) : Prop := ∀ (s : Sg) (v : Value), RV s v d → RV s v d'
theorem Nv.same {d : D} : Nv d d := fun _ _ h => h
theorem Nv.nil {sz : Nat} : Nv .nil (.vs sz [] 0) := fun s v h => by rw [h.inv_nil]; exact .pure (.vs0 _ _ _)
theorem Nv.agg {ds rs : List D} (hr : All2 Nv ds rs) : Nv (.agg ds) (.agg rs) := fun s v hv => by
  obtain ⟨cs, rfl, hall⟩ := hv.inv_agg
  refine .agg cs rs (hall.1.trans hr.1) ?_ (fun i v d' hv hd => ?_)
  · intro u hu
    obtain ⟨i, hi⟩ := List.mem_iff_getElem?.1 hu
    have hlt : i < ds.length := by
      rcases Nat.lt_or_ge i ds.length with h' | h'
      · exact h'
      · rw [← hall.1] at h'; simp [List.getElem?_eq_none h'] at hi
    exact (hall.2 i u _ hi (List.getElem?_eq_getElem hlt)).2
  · have hlt : i < ds.length := by
      rcases Nat.lt_or_ge i ds.length with h' | h'
      · exact h'
      · rw [List.getElem?_eq_none (by rw [← hr.1]; exact h')] at hd; cases hd
    have hdi := List.getElem?_eq_getElem hlt
    exact hr.2 i _ d' hdi hd s v (hall.2 i v _ hv hdi).1
theorem con_nv {P : Program} {f : Nat} {ds ds1 : List D} {h : Heap} {Q : D → Heap → Prop} (hr : All2 Nv ds ds1) (hc : Con P f ds1 h Q) : Con P f ds h Q := by
  refine ⟨hc.1, fun s args H A => hc.2 s args H ⟨A.1.trans hr.1, fun i v d' hv hd => ?_⟩⟩
  have hlt : i < ds.length := by
    rcases Nat.lt_or_ge i ds.length with h' | h'
    · exact h'
    · rw [hr.1] at h'; simp [List.getElem?_eq_none h'] at hd
  have hdi := List.getElem?_eq_getElem hlt
  exact hr.2 i _ d' hdi hd s v (A.2 i v _ hv hdi)
theorem so_put {h : Heap} {d : D} {sz n k : Nat} {cs c : List D} (ho : SlOwn h d sz cs n) (hf : Fr d k) : SlOwn (upd h k c) d sz cs n :=
  so_mv ho fun j s o m e c hc => by rw [upd_ne (fun e2 => hf s o m (by rw [e, e2]))]; exact hc
theorem CL.rn {h h2 : Heap} {d : Dv} {db dc dq : D} (H : CL h h2 d db dc dq) {k : Nat} {c0 : List D} (hk : h k = some c0) (c : List D) : Rn (upd h2 k c) (.agg [.int .i64 d.depth, .int .i64 d.next, db, dc, dq]) (dvD d) := by
  obtain ⟨_, a, b, e⟩ := H.old k c0 hk
  exact dv_rn (so_put H.ob a) (so_put H.oc b) (so_put H.oq e)
theorem new_c (B : List Bs) (hB : 1 ≤ B.length ∧ B.length ≤ 256) (h32 : ∀ b ∈ B, b.length = 32) : PCon Try.prog 56 [.int .i64 4, bsD B] (.tup [dvD ⟨4, 0, B, [], []⟩, .int .i64 0]) := by
  have ok : DvOk ⟨4, 0, B, [], []⟩ := ⟨by simp, by simp, hB, h32, fun i h => by simp at h, by simp, by simp, by simp, by simp, fun i h => by simp at h⟩
  have c1 := dcheck_d _ ok
  have c2 := fun h {Q} => @clone_k _ ok h Q
  refine A56p (by simp [A56]) ?_
  simp only [A56, argEnv]
  simp only [dvD, dvL, casD, rqsD, List.flatMap_nil, List.length_nil] at c1 c2
  have hr : ∀ h : Heap, Rd h (.agg [.int .i64 4, .int .i64 0, bsD B, .nil, .nil]) (.agg [.int .i64 4, .int .i64 0, bsD B, .vs 2 [] 0, .vs 4 [] 0]) := fun h => Rd_ag (All2.cons Rd_int (All2.cons Rd_int (All2.cons Rd_vs (All2.cons Rd_nil (All2.cons Rd_nil All2.nil)))))
  have hn : Nv (.agg [.int .i64 4, .int .i64 0, bsD B, .nil, .nil]) (.agg [.int .i64 4, .int .i64 0, bsD B, .vs 2 [] 0, .vs 4 [] 0]) := Nv.agg (All2.cons Nv.same (All2.cons Nv.same (All2.cons Nv.same (All2.cons Nv.nil (All2.cons Nv.nil All2.nil)))))
  repeat' (first | (with_reducible first | refine W_seq ?_ | refine then_n ?_ | refine W_skip ?_) | ((with_reducible refine s_reg ?_); intro K hK) | ((with_reducible refine k_nil ?_); (with_reducible apply s_nil hK); (· exact nmX); clear hK; clear K) | ((with_reducible refine k_cond ?_); (((with_reducible apply s_condF); (· rfl); (· exact nmX)))) | ((with_reducible refine k_mv ?_); (refine s_mv rfl ?_)) | ((with_reducible refine k_neq ?_); ((refine s_neq rfl rfl ?_))) | ((with_reducible refine k_loadA ?_); (((with_reducible apply s_loadAP); (· rfl); (· (exact hpX)); (· (exact Nat.le_of_ble_eq_true rfl))))) | ((with_reducible refine k_store ?_); ((with_reducible apply s_store0); (· rfl); (· rfl); (· rfl); (· (exact hpX)); (· (exact ⟨rfl, by exact Nat.le_of_ble_eq_true rfl⟩)); (· ((exact liL))); (· (exact upd_upd)))) | ((with_reducible refine k_alloc (dst := some 4) ?_); ((with_reducible apply s_alloc); intro k4 hk4; (try simp only [upd_none] at hk4))) | ((with_reducible refine k_alloc (dst := some 6) ?_); ((with_reducible apply s_alloc); intro k6 hk6; (try simp only [upd_none] at hk6))) | ((with_reducible refine k_build ?_); ((with_reducible apply s_build); (· rfl); (· rfl))) | ((with_reducible refine k_callF ?_); (((with_reducible apply s_call1); (· rfl)))) | ((with_reducible refine k_con ?_); (first | ((with_reducible apply con_val (c1)); (· (repeat (first | exact All2.nil | (apply All2.cons; (· first | exact hr _))))); (· rfl); (· exact fun _ => rfl)) | (refine con_nv (All2.cons hn All2.nil) (c2 _ ?_); intro h2 db dc dq H))) | ((with_reducible refine k_br ?_); ((refine Br_t (by with_reducible rfl) ?_))) | (((with_reducible apply q_eqL)); (exact liL)))
  have g4 := (H.old k4 _ (by rw [upd_ne hk6.1.symm]; exact upd_self)).1
  repeat' (first | (with_reducible first | refine then_n ?_ | refine W_ret ?_) | ((with_reducible refine k_nil ?_); (with_reducible apply s_nil hK); (· exact nmX); clear hK; clear K) | ((with_reducible refine k_mv ?_); (refine s_mv rfl ?_)) | ((with_reducible refine k_store ?_); ((with_reducible apply s_store0); (· rfl); (· rfl); (· rfl); (· (exact hpX)); (· (exact ⟨rfl, by exact Nat.le_of_ble_eq_true rfl⟩)); (· ((exact liL))); (· (rfl)))))
  exact Fin_tupN trivial (by simp [resD, resL, AM.get, upd_self, memAt, ldD]) (All2.cons (H.rn (by rw [upd_ne hk6.1.symm]; exact upd_self) _) (All2.cons (Rn_scal rfl) All2.nil)) rfl
theorem rd_rq {h : Heap} {a b c : Int} {k k' k2 : IntKind} {sz n : Nat} {cs : List D} : Rd h (.agg [.int k a, .int k' b, .int k2 c, .vn sz cs n]) (.agg [.int k a, .int k' b, .int k2 c, .vs sz cs n]) := Rd_ag (All2.cons Rd_int (All2.cons Rd_int (All2.cons Rd_int (All2.cons Rd_vn All2.nil))))
def subD (d : Dv) (k b : Int) (c : Bs) : Dv := { d with next := d.next + 1, queue := d.queue ++ [⟨d.next, k, b, c⟩] }
theorem sub_rn {h : Heap} {d : Dv} {db dc : D} {ka : Nat} {row : List D} (q : Rq) (ob : SlOwn h db 1 (d.blocks.map nD) d.blocks.length) (oc : SlOwn h dc 2 (d.cache.flatMap Ca.vn) d.cache.length) (hq : h ka = some (d.queue.flatMap Rq.vn ++ row)) (hl : row.length = 4) (hr : All2 (Rn h) row q.cells) :
    Rn h (.agg [.int .i64 d.depth, .int .i64 (d.next + 1), db, dc, .sl ka 4 0 (d.queue.length + 1)]) (dvD { d with next := d.next + 1, queue := d.queue ++ [q] }) := by
  have hlen : (d.queue ++ [q]).length = d.queue.length + 1 := by simp
  refine Rn_ag (All2.cons (Rn_scal rfl) (All2.cons (Rn_scal rfl) (All2.cons (Rn_so ob (All2_map fun _ => Rn_vn)) (All2.cons (Rn_so oc (All2_fm Ca.rn)) (All2.cons ?_ All2.nil)))))
  show Rn h _ (.vs 4 ((d.queue ++ [q]).flatMap Rq.cells) (d.queue ++ [q]).length)
  rw [hlen]
  refine Rn_so (SlOwn.sl hq (by rw [List.length_append, fm_len Rq.vn_len, hl]; omega)) ?_
  rw [List.flatMap_append]
  exact (All2_fm Rq.rn).append (by simpa using hr)
theorem submit_c (d : Dv) (ok : DvOk d) (k b : Int) (c : Bs) (hq : rqOk d.blocks.length ⟨d.next, k, b, c⟩) (hn : d.next < 1099511627776) :
    PCon Try.prog 57 [dvD d, .int .i64 k, .int .i64 b, bD c] (.tup [if (d.queue.length : Int) = d.depth then dvD ⟨0, 0, [], [], []⟩ else dvD (subD d k b c), .int .i64 (if (d.queue.length : Int) = d.depth then 0 else d.next), .int .i64 (if (d.queue.length : Int) = d.depth then 8 else 0)]) := by
  have c1 := dcheck_d _ ok
  have c2 := fun h {Q} => @clone_k _ ok h Q
  have c3 := request_d d _ hq
  have c4 := bclone_v c (by
    obtain ⟨_, _, _, a4, a5⟩ := hq
    by_cases a6 : k = 2
    · have := a4 a6; dsimp only at this; omega
    · have := a5 a6; dsimp only at this; omega)
  obtain ⟨k1, k2, k3, k4, k5, k55, k6, k7, k8, k9⟩ := ok
  have hq4 : k ≠ 2 → c.length = 0 := hq.2.2.2.2
  obtain ⟨depth, next, B, C, Qu⟩ := d
  dsimp only [subD, Rq.cells] at *
  refine A57p (by simp [A57]) ?_
  simp only [A57, argEnv]
  repeat' (first | (with_reducible first | refine W_seq ?_ | refine then_n ?_ | refine W_block ?_ | refine blk_n ?_ | refine W_skip ?_ | refine W_ret ?_ | refine then_r ?_) | ((with_reducible refine s_reg ?_); intro K hK) | ((with_reducible refine k_nil ?_); (with_reducible apply s_nil hK); (· exact nmX); clear hK; clear K) | ((with_reducible refine k_cond ?_); (first | ((with_reducible apply s_condT); (· rfl); (· exact nmX)) | ((with_reducible apply s_condF); (· rfl); (· exact nmX)))) | ((with_reducible refine k_mv ?_); (refine s_mv rfl ?_)) | ((with_reducible refine k_len ?_); ((refine s_len rfl rfl ?_))) | ((with_reducible refine k_eql ?_); ((refine s_eql rfl rfl ?_))) | ((with_reducible refine k_neq ?_); ((refine s_neq rfl rfl ?_))) | ((with_reducible refine k_load ?_); (((with_reducible apply s_loadP); (· rfl); (· (exact hpX))))) | ((with_reducible refine k_loadA ?_); (((with_reducible apply s_loadAP); (· rfl); (· (exact hpX)); (· (exact Nat.le_of_ble_eq_true rfl))))) | ((with_reducible refine k_store ?_); ((with_reducible apply s_store0); (· rfl); (· rfl); (· rfl); (· (exact hpX)); (· (exact ⟨rfl, by exact Nat.le_of_ble_eq_true rfl⟩)); (· ((exact liL))); (· (first | exact upd_upd | rfl)))) | ((with_reducible refine k_faddr ?_); (((with_reducible apply s_faddrP); (· rfl); (· rfl)))) | ((with_reducible refine k_alloc (dst := some 8) ?_); ((with_reducible apply s_alloc); intro k8 hk8; (try simp only [upd_none] at hk8))) | ((with_reducible refine k_alloc (dst := some 11) ?_); ((with_reducible apply s_alloc); intro k11 hk11; (try simp only [upd_none] at hk11))) | ((with_reducible refine k_box (dst := some 4) ?_); ((with_reducible apply s_box); (· rfl); (· rfl); intro k4 hk4; (try simp only [upd_none] at hk4))) | ((with_reducible refine k_build ?_); ((with_reducible apply s_build); (· rfl); (· rfl))) | ((with_reducible refine k_callF ?_); (((with_reducible apply s_call1); (· rfl)))) | ((with_reducible refine k_con ?_); (first | ((with_reducible apply con_val (c1)); (· (repeat (first | exact All2.nil | (apply All2.cons; (· first | exact Rd_dv))))); (· rfl); (· exact fun _ => rfl)) | ((with_reducible apply con_val (c3)); (· (repeat (first | exact All2.nil | (apply All2.cons; (· first | exact Rd_dv | exact rd_rq))))); (· rfl); (· exact fun _ => rfl)) | (refine c2 _ ?_; intro h2 db dc dq H))) | ((with_reducible refine k_dreg ?_); refine W_dregM (pre := A57d2a) (suf := A57d2b) rfl rfl rfl rfl ?_; intro K hK) | (with_reducible refine d_nilS ?_) | ((with_reducible refine k_dcall ?_); (((with_reducible apply d_callN); (· rfl); (· exact c4); (· (repeat (first | exact All2.nil | (apply All2.cons; (· first | exact rdX))))); simp only [unow, unowC, List.map, vnw, vnC, vnC1]))) | ((with_reducible refine k_dop ?_); refine d_step (by first | exact Or.inl rfl | exact Or.inr rfl) ?_) | (with_reducible refine d_back ?_) | ((with_reducible refine k_br ?_); (first | (refine Br_t (by with_reducible rfl) ?_) | (refine Br_f (by omega) ?_) | (with_reducible apply Br_s <;> intro hbr))) | ((first | (with_reducible apply q_eqL) | (with_reducible apply q_eqO)); (first | exact liL | exact liO)))
  all_goals first | (exfalso; omega) | skip
  · rw [if_pos hbr, if_pos hbr, if_pos hbr]
    refine Fin_tupN trivial (by simp [resD, resL, AM.get, upd_self, memAt, ldD]) (All2.cons (dv_rn (d := ⟨0, 0, [], [], []⟩) SlOwn.nil SlOwn.nil SlOwn.nil) (All2.cons (Rn_scal rfl) (All2.cons (Rn_scal rfl) All2.nil))) rfl
  obtain ⟨g8, i8b, i8c, i8q⟩ := H.old k8 _ (by rw [upd_ne hk11.1.symm]; exact upd_self)
  obtain ⟨g11, i11b, i11c, i11q⟩ := H.old k11 _ upd_self
  repeat' (first | (with_reducible first | refine W_seq ?_ | refine then_n ?_ | refine W_skip ?_) | ((with_reducible refine s_reg ?_); intro K hK) | ((with_reducible refine k_nil ?_); (with_reducible apply s_nil hK); (· exact nmX); clear hK; clear K) | ((with_reducible refine k_cond ?_); (first | ((with_reducible apply s_condT); (· rfl); (· exact nmX)) | ((with_reducible apply s_condF); (· rfl); (· exact nmX)))) | ((with_reducible refine k_len ?_); ((refine s_lenN rfl ?_))) | ((with_reducible refine k_eql ?_); ((refine s_eql rfl rfl ?_))) | ((with_reducible refine k_load ?_); (((with_reducible apply s_loadP); (· rfl); (· (exact hpX))))) | ((with_reducible refine k_loadA ?_); (((with_reducible apply s_loadAP); (· rfl); (· (exact hpX)); (· (exact Nat.le_of_ble_eq_true rfl))))) | ((with_reducible refine k_store ?_); ((with_reducible apply s_store0); (· rfl); (· rfl); (· rfl); (· (exact hpX)); (· (exact ⟨rfl, by exact Nat.le_of_ble_eq_true rfl⟩)); (· ((exact liL))); (· (first | exact upd_upd | rfl)))) | ((with_reducible refine k_faddr ?_); (((with_reducible apply s_faddrP); (· rfl); (· rfl)))) | ((with_reducible refine k_alloc (dst := some 13) ?_); ((with_reducible apply s_alloc); intro k13 hk13; (try simp only [upd_none] at hk13))) | ((with_reducible refine k_br ?_); ((with_reducible apply Br_s <;> intro hbr))) | ((first | (with_reducible apply q_eqL) | (with_reducible apply q_eqO)); (first | exact liL | exact liO)))
  all_goals first | (exfalso; omega) | skip
  · have hll : (Qu.flatMap Rq.vn).length = Qu.length * 4 := fm_len Rq.vn_len Qu
    have n1 : k13 ≠ k11 := fun e => by rw [← e, hk13] at g11; cases g11
    have n2 : k13 ≠ k8 := fun e => by rw [← e, hk13] at g8; cases g8
    have e8 : (upd (upd h2 k13 [.int .i64 depth, .int .i64 next, db, dc, dq]) k11 [.int .i64 next, .int .i64 k, .int .i64 b, .nil]) k8 = some [.int .i64 0, .int .i64 0, .nil, .nil, .nil] := by rw [upd_ne hk11.1.symm, upd_ne n2.symm]; exact g8
    have e11 : (upd (upd h2 k13 [.int .i64 depth, .int .i64 next, db, dc, dq]) k11 [.int .i64 next, .int .i64 k, .int .i64 b, .nil]) k11 = some [.int .i64 next, .int .i64 k, .int .i64 b, .nil] := upd_self
    have e13 : (upd (upd h2 k13 [.int .i64 depth, .int .i64 next, db, dc, dq]) k11 [.int .i64 next, .int .i64 k, .int .i64 b, .nil]) k13 = some [.int .i64 depth, .int .i64 next, db, dc, dq] := by rw [upd_ne n1]; exact upd_self
    have ho : SlOwn (upd (upd h2 k13 [.int .i64 depth, .int .i64 next, db, dc, dq]) k11 [.int .i64 next, .int .i64 k, .int .i64 b, .nil]) dq 4 (Qu.flatMap Rq.vn) Qu.length := so_put (slSub H.oq (upd_sub hk13)) i11q
    have fr : Fr dq k13 := fun s o n e => by obtain ⟨c', hc'⟩ := so_live H.oq e; rw [hk13] at hc'; cases hc'
    have n3 := hk11.1
    have frb : Fr db k13 := fun s o n e => by obtain ⟨c', hc'⟩ := so_live H.ob e; rw [hk13] at hc'; cases hc'
    have frc : Fr dc k13 := fun s o n e => by obtain ⟨c', hc'⟩ := so_live H.oc e; rw [hk13] at hc'; cases hc'
    have hob := H.ob
    have hoc := H.oc
    replace hob : SlOwn (upd (upd h2 k13 [.int .i64 depth, .int .i64 next, db, dc, dq]) k11 [.int .i64 next, .int .i64 k, .int .i64 b, .nil]) db 1 (B.map nD) B.length := so_put (slSub hob (upd_sub hk13)) i11b
    replace hoc : SlOwn (upd (upd h2 k13 [.int .i64 depth, .int .i64 next, db, dc, dq]) k11 [.int .i64 next, .int .i64 k, .int .i64 b, .nil]) dc 2 (C.flatMap Ca.vn) C.length := so_put (slSub hoc (upd_sub hk13)) i11c
    have bq := fun k s o n e => (H.bc k s o n e).2
    have cq := H.cq
    clear H c1 c2 c3 c4 hk13 g8 g11 hk11 hk8
    generalize upd (upd h2 k13 [.int .i64 depth, .int .i64 next, db, dc, dq]) k11 [.int .i64 next, .int .i64 k, .int .i64 b, .nil] = hA at *
    generalize hL : Qu.flatMap Rq.vn = L at *
    have q16 : Qu.length ≤ 16 := by omega
    repeat' (first | ((with_reducible refine k_faddr ?_); (((with_reducible apply s_faddrP); (· rfl); (· rfl)))) | ((with_reducible refine k_buildS (dst := some 56) ?_); ((with_reducible apply s_buildS); (· rfl); (· (exact ⟨rfl, by decide⟩)); (· ((simp only [fillB, rep, splice, List.reduceReplicate, List.flatten_cons, List.flatten_nil, List.cons_append, List.nil_append, List.append_nil, List.length_cons, List.length_nil, Nat.reduceAdd, Nat.reduceMul, Nat.reduceLeDiff, Nat.reduceEqDiff, eq_self, Nat.le_refl, Nat.zero_add, and_self, and_true, true_and, if_true, List.take_zero, List.take_succ_cons, List.drop_zero, List.drop_succ_cons, List.drop_nil, List.take_nil]; rfl))); intro k56 hk56; (try simp only [upd_none] at hk56))) | ((with_reducible refine k_append (dst := some 57) ?_); ((with_reducible apply s_app2); (· rfl); (· rfl); (· first | ((repeat' (first | assumption | (with_reducible apply SlOwn.upd))); done)); (· rfl); (· first | exact srcD_sl upd_self rfl); (· exact ⟨by rfl, by decide, by decide⟩); (· first | (rw [room_n]; omega)); intro ka57 ha57 hn57 hk57 hoth57)))
    all_goals first | (exfalso; omega) | skip
    have m13 := hoth57 k13 _ (upd_sub hk56 _ _ e13) fr
    have m11 := hoth57 k11 _ (upd_sub hk56 _ _ e11) i11q
    have m8 := hoth57 k8 _ (upd_sub hk56 _ _ e8) i8q
    replace hob : SlOwn ha57 db 1 (B.map nD) B.length := so_mv hob fun k' s o n e c' hc' => hoth57 k' _ (upd_sub hk56 _ _ hc') (bq _ _ _ _ e)
    replace hoc : SlOwn ha57 dc 2 (C.flatMap Ca.vn) C.length := so_mv hoc fun k' s o n e c' hc' => hoth57 k' _ (upd_sub hk56 _ _ hc') (cq _ _ _ _ e)
    have p1 : ka57 ≠ k13 := fun e => by rw [e, upd_sub hk56 _ _ e13] at hn57; cases hn57
    have p2 : ka57 ≠ k8 := fun e => by rw [e, upd_sub hk56 _ _ e8] at hn57; cases hn57
    clear hoth57 e13 e11 e8 hn57 hk56
    repeat' (first | (with_reducible first | refine W_seq ?_ | refine then_n ?_ | refine W_ret ?_) | ((with_reducible refine s_reg ?_); intro K hK) | ((with_reducible refine k_nil ?_); (with_reducible apply s_nil hK); (· exact nmX); clear hK; clear K) | ((with_reducible refine k_mv ?_); (refine s_mv rfl ?_)) | ((with_reducible refine k_load ?_); (((with_reducible apply s_loadP); (· rfl); (· (exact hpX))))) | ((with_reducible refine k_loadA ?_); (((with_reducible apply s_loadAP); (· rfl); (· (exact hpX)); (· (exact Nat.le_of_ble_eq_true rfl))))) | ((with_reducible refine k_add ?_); ((with_reducible apply s_add); (· rfl); (· rfl))) | ((with_reducible refine k_store ?_); ((with_reducible apply s_store0); (· rfl); (· rfl); (· rfl); (· (exact hpX)); (· (exact ⟨rfl, by exact Nat.le_of_ble_eq_true rfl⟩)); (· ((exact liL))); (· (first | exact upd_upd | rfl)))) | ((with_reducible refine k_faddr ?_); (((with_reducible apply s_faddrP); (· rfl); (· rfl)))) | (with_reducible refine o_step ?_) | (with_reducible exact o_nil) | ((with_reducible apply o_end hK); (· exact nmX); clear hK; (try clear hR); clear K) | ((with_reducible refine k_oreg ?_); refine s_oreg (ops := A57o21) (n := 6) (rm := [0, 1, 2, 3, 4, 5]) rfl rfl ?_; intro K hK hR) | ((with_reducible refine k_any ?_); (refine o_pure (ops := A57o21) (i := 1) hR rfl rfl (by (simp only [List.filter_cons, List.filter_nil, Nat.reduceBEq, beq_self_eq_true, Bool.not_true, Bool.not_false, Bool.false_eq_true, if_true, if_false, ↓reduceIte]; rfl)) rfl ?_)) | ((with_reducible refine k_any ?_); (refine o_pure (ops := A57o21) (i := 4) hR rfl rfl (by (simp only [List.filter_cons, List.filter_nil, Nat.reduceBEq, beq_self_eq_true, Bool.not_true, Bool.not_false, Bool.false_eq_true, if_true, if_false, ↓reduceIte]; rfl)) rfl ?_)) | ((with_reducible refine k_any ?_); (refine o_pure (ops := A57o21) (i := 5) hR rfl rfl (by (simp only [List.filter_cons, List.filter_nil, Nat.reduceBEq, beq_self_eq_true, Bool.not_true, Bool.not_false, Bool.false_eq_true, if_true, if_false, ↓reduceIte]; rfl)) rfl ?_)) | (with_reducible refine o_node ?_) | (refine o_skip rfl ?_) | ((with_reducible apply o_cons); (· rfl); (· (simp only [List.filter_cons, List.filter_nil, Nat.reduceBEq, beq_self_eq_true, Bool.not_true, Bool.not_false, Bool.false_eq_true, if_true, if_false, ↓reduceIte]; rfl))) | (((with_reducible apply q_eqI)); (exact nuI)) | ((first | (with_reducible apply q_eqL) | (with_reducible apply q_eqO)); (first | exact liL | exact liO)))
    all_goals first | (exfalso; omega) | skip
    all_goals
      rw [if_neg (by assumption), if_neg (by assumption), if_neg (by assumption)]
      refine Fin_tupN trivial (by simp [resD, resL, AM.get, upd_self, memAt, ldD] <;> rfl) (All2.cons (sub_rn (ka := ka57) (d := ⟨depth, next, B, C, Qu⟩) (row := [.int .i64 next, .int .i64 k, .int .i64 b, .nil]) ⟨next, k, b, c⟩ (so_put (so_put hob frb) i8b) (so_put (so_put hoc frc) i8c) (by rw [upd_ne p2, upd_ne p1, hL]; exact hk57) rfl ?_) (All2.cons (Rn_scal rfl) (All2.cons (Rn_scal rfl) All2.nil))) rfl
      exact All2.cons (Rn_scal rfl) (All2.cons (Rn_scal rfl) (All2.cons (Rn_scal rfl) (All2.cons (by rw [show c = [] from List.length_eq_zero_iff.1 (by omega)]; exact Rn_nil) All2.nil)))
  · have hll : (Qu.flatMap Rq.vn).length = Qu.length * 4 := fm_len Rq.vn_len Qu
    have n1 : k13 ≠ k11 := fun e => by rw [← e, hk13] at g11; cases g11
    have n2 : k13 ≠ k8 := fun e => by rw [← e, hk13] at g8; cases g8
    have e8 : (upd h2 k13 [.int .i64 depth, .int .i64 next, db, dc, dq]) k8 = some [.int .i64 0, .int .i64 0, .nil, .nil, .nil] := by rw [upd_ne n2.symm]; exact g8
    have e11 : (upd h2 k13 [.int .i64 depth, .int .i64 next, db, dc, dq]) k11 = some [.int .i64 next, .int .i64 k, .int .i64 b, nD c] := by rw [upd_ne n1.symm]; exact g11
    have e13 : (upd h2 k13 [.int .i64 depth, .int .i64 next, db, dc, dq]) k13 = some [.int .i64 depth, .int .i64 next, db, dc, dq] := upd_self
    have ho : SlOwn (upd h2 k13 [.int .i64 depth, .int .i64 next, db, dc, dq]) dq 4 (Qu.flatMap Rq.vn) Qu.length := slSub H.oq (upd_sub hk13)
    have fr : Fr dq k13 := fun s o n e => by obtain ⟨c', hc'⟩ := so_live H.oq e; rw [hk13] at hc'; cases hc'
    have n3 := hk11.1
    have frb : Fr db k13 := fun s o n e => by obtain ⟨c', hc'⟩ := so_live H.ob e; rw [hk13] at hc'; cases hc'
    have frc : Fr dc k13 := fun s o n e => by obtain ⟨c', hc'⟩ := so_live H.oc e; rw [hk13] at hc'; cases hc'
    have hob := H.ob
    have hoc := H.oc
    replace hob : SlOwn (upd h2 k13 [.int .i64 depth, .int .i64 next, db, dc, dq]) db 1 (B.map nD) B.length := slSub hob (upd_sub hk13)
    replace hoc : SlOwn (upd h2 k13 [.int .i64 depth, .int .i64 next, db, dc, dq]) dc 2 (C.flatMap Ca.vn) C.length := slSub hoc (upd_sub hk13)
    have bq := fun k s o n e => (H.bc k s o n e).2
    have cq := H.cq
    clear H c1 c2 c3 c4 hk13 g8 g11 hk11 hk8
    generalize upd h2 k13 [.int .i64 depth, .int .i64 next, db, dc, dq] = hA at *
    generalize hL : Qu.flatMap Rq.vn = L at *
    have q16 : Qu.length ≤ 16 := by omega
    repeat' (first | ((with_reducible refine k_faddr ?_); (((with_reducible apply s_faddrP); (· rfl); (· rfl)))) | ((with_reducible refine k_buildS (dst := some 56) ?_); ((with_reducible apply s_buildS); (· rfl); (· (exact ⟨rfl, by decide⟩)); (· ((simp only [fillB, rep, splice, List.reduceReplicate, List.flatten_cons, List.flatten_nil, List.cons_append, List.nil_append, List.append_nil, List.length_cons, List.length_nil, Nat.reduceAdd, Nat.reduceMul, Nat.reduceLeDiff, Nat.reduceEqDiff, eq_self, Nat.le_refl, Nat.zero_add, and_self, and_true, true_and, if_true, List.take_zero, List.take_succ_cons, List.drop_zero, List.drop_succ_cons, List.drop_nil, List.take_nil]; rfl))); intro k56 hk56; (try simp only [upd_none] at hk56))) | ((with_reducible refine k_append (dst := some 57) ?_); ((with_reducible apply s_app2); (· rfl); (· rfl); (· first | ((repeat' (first | assumption | (with_reducible apply SlOwn.upd))); done)); (· rfl); (· first | exact srcD_sl upd_self rfl); (· exact ⟨by rfl, by decide, by decide⟩); (· first | (rw [room_n]; omega)); intro ka57 ha57 hn57 hk57 hoth57)))
    all_goals first | (exfalso; omega) | skip
    have m13 := hoth57 k13 _ (upd_sub hk56 _ _ e13) fr
    have m11 := hoth57 k11 _ (upd_sub hk56 _ _ e11) i11q
    have m8 := hoth57 k8 _ (upd_sub hk56 _ _ e8) i8q
    replace hob : SlOwn ha57 db 1 (B.map nD) B.length := so_mv hob fun k' s o n e c' hc' => hoth57 k' _ (upd_sub hk56 _ _ hc') (bq _ _ _ _ e)
    replace hoc : SlOwn ha57 dc 2 (C.flatMap Ca.vn) C.length := so_mv hoc fun k' s o n e c' hc' => hoth57 k' _ (upd_sub hk56 _ _ hc') (cq _ _ _ _ e)
    have p1 : ka57 ≠ k13 := fun e => by rw [e, upd_sub hk56 _ _ e13] at hn57; cases hn57
    have p2 : ka57 ≠ k8 := fun e => by rw [e, upd_sub hk56 _ _ e8] at hn57; cases hn57
    clear hoth57 e13 e11 e8 hn57 hk56
    repeat' (first | (with_reducible first | refine W_seq ?_ | refine then_n ?_ | refine W_ret ?_) | ((with_reducible refine s_reg ?_); intro K hK) | ((with_reducible refine k_nil ?_); (with_reducible apply s_nil hK); (· exact nmX); clear hK; clear K) | ((with_reducible refine k_mv ?_); (refine s_mv rfl ?_)) | ((with_reducible refine k_load ?_); (((with_reducible apply s_loadP); (· rfl); (· (exact hpX))))) | ((with_reducible refine k_loadA ?_); (((with_reducible apply s_loadAP); (· rfl); (· (exact hpX)); (· (exact Nat.le_of_ble_eq_true rfl))))) | ((with_reducible refine k_add ?_); ((with_reducible apply s_add); (· rfl); (· rfl))) | ((with_reducible refine k_store ?_); ((with_reducible apply s_store0); (· rfl); (· rfl); (· rfl); (· (exact hpX)); (· (exact ⟨rfl, by exact Nat.le_of_ble_eq_true rfl⟩)); (· ((exact liL))); (· (first | exact upd_upd | rfl)))) | ((with_reducible refine k_faddr ?_); (((with_reducible apply s_faddrP); (· rfl); (· rfl)))) | (with_reducible refine o_step ?_) | (with_reducible exact o_nil) | ((with_reducible apply o_end hK); (· exact nmX); clear hK; (try clear hR); clear K) | ((with_reducible refine k_oreg ?_); refine s_oreg (ops := A57o21) (n := 6) (rm := [0, 1, 2, 3, 4, 5]) rfl rfl ?_; intro K hK hR) | ((with_reducible refine k_any ?_); (refine o_pure (ops := A57o21) (i := 1) hR rfl rfl (by (simp only [List.filter_cons, List.filter_nil, Nat.reduceBEq, beq_self_eq_true, Bool.not_true, Bool.not_false, Bool.false_eq_true, if_true, if_false, ↓reduceIte]; rfl)) rfl ?_)) | ((with_reducible refine k_any ?_); (refine o_pure (ops := A57o21) (i := 4) hR rfl rfl (by (simp only [List.filter_cons, List.filter_nil, Nat.reduceBEq, beq_self_eq_true, Bool.not_true, Bool.not_false, Bool.false_eq_true, if_true, if_false, ↓reduceIte]; rfl)) rfl ?_)) | ((with_reducible refine k_any ?_); (refine o_pure (ops := A57o21) (i := 5) hR rfl rfl (by (simp only [List.filter_cons, List.filter_nil, Nat.reduceBEq, beq_self_eq_true, Bool.not_true, Bool.not_false, Bool.false_eq_true, if_true, if_false, ↓reduceIte]; rfl)) rfl ?_)) | (with_reducible refine o_node ?_) | (refine o_skip rfl ?_) | ((with_reducible apply o_cons); (· rfl); (· (simp only [List.filter_cons, List.filter_nil, Nat.reduceBEq, beq_self_eq_true, Bool.not_true, Bool.not_false, Bool.false_eq_true, if_true, if_false, ↓reduceIte]; rfl))) | (((with_reducible apply q_eqI)); (exact nuI)) | ((first | (with_reducible apply q_eqL) | (with_reducible apply q_eqO)); (first | exact liL | exact liO)))
    all_goals first | (exfalso; omega) | skip
    all_goals
      rw [if_neg (by assumption), if_neg (by assumption), if_neg (by assumption)]
      refine Fin_tupN trivial (by simp [resD, resL, AM.get, upd_self, memAt, ldD] <;> rfl) (All2.cons (sub_rn (ka := ka57) (d := ⟨depth, next, B, C, Qu⟩) (row := [.int .i64 next, .int .i64 k, .int .i64 b, nD c]) ⟨next, k, b, c⟩ (so_put (so_put hob frb) i8b) (so_put (so_put hoc frc) i8c) (by rw [upd_ne p2, upd_ne p1, hL]; exact hk57) rfl ?_) (All2.cons (Rn_scal rfl) (All2.cons (Rn_scal rfl) All2.nil))) rfl
      exact All2.cons (Rn_scal rfl) (All2.cons (Rn_scal rfl) (All2.cons (Rn_scal rfl) (All2.cons Rn_vn All2.nil)))
end Go.Proofs.Ythblalidmmbcoaa
end
section
/- min -/
/- Where a block lies in the cache. -/
set_option linter.unusedSimpArgs false
set_option linter.unusedVariables false
namespace Go.Proofs.Ythblalidmmbcoaa
open Go.AM Classical
set_option maxRecDepth 100000
set_option maxHeartbeats 4000000
theorem find1_c (c : Ca) (b : Int) (hc : 0 ≤ c.block ∧ c.block < 256) (hb : 0 ≤ b ∧ b < 256) : PCon Try.prog 81 [.agg c.cells, .int .i64 b] (.int .i64 (c.block - b)) := by
  refine A81p (by simp [A81]) ?_
  obtain ⟨cb, cd⟩ := c
  simp only [A81, argEnv, Ca.cells]
  dsimp only at *
  repeat' (first | (with_reducible first | refine W_seq ?_ | refine then_n ?_ | refine W_ret ?_) | ((with_reducible refine s_reg ?_); intro K hK) | ((with_reducible refine k_nil ?_); (with_reducible apply s_nil hK); (· exact nmX); clear hK; clear K) | ((with_reducible refine k_mv ?_); (refine s_mv rfl ?_)) | ((with_reducible refine k_load ?_); (((with_reducible apply s_loadP); (· rfl); (· (exact hpX))))) | ((with_reducible refine k_sub ?_); ((with_reducible apply s_sub); (· rfl); (· rfl))) | ((with_reducible refine k_faddr ?_); (((with_reducible apply s_faddrP); (· rfl); (· rfl)))) | ((with_reducible refine k_box (dst := some 2) ?_); ((with_reducible apply s_box); (· rfl); (· rfl); intro k2 hk2; (try simp only [upd_none] at hk2))) | (((with_reducible apply q_eqI)); (exact nuI)) | (((with_reducible apply q_eqO)); (exact liO)))
  all_goals first | (exfalso; omega) | (first | exact Fin_flat trivial rfl rfl | (refine Fin_tup trivial rfl ?_ (Nat.le_of_ble_eq_true rfl); (repeat (first | exact All2.nil | (apply All2.cons; (· first | exact exc_n | exact exc_e | exact exc_v rfl rfl | exact exc_o upd_self rfl rfl)))); done) | (refine Fin_own trivial rfl upd_self ?_ (Nat.le_of_ble_eq_true rfl); (repeat (first | exact All2.nil | (apply All2.cons; (· first | exact exc_n | exact exc_e | exact exc_v rfl rfl | exact exc_o upd_self rfl rfl)))); done) | exact Fin_nil trivial rfl | exact Fin_sl trivial rfl upd_self rfl rfl)
def lbC : List Ca → Int → Nat
  | [], _ => 0
  | c :: r, b => if c.block < b then lbC r b + 1 else 0
theorem lbC_le : ∀ (l : List Ca) (b : Int), lbC l b ≤ l.length
  | [], _ => Nat.le_refl _
  | c :: r, b => by unfold lbC; have := lbC_le r b; split <;> simp <;> omega
theorem lbC_eq : ∀ (l : List Ca) (b : Int) (i : Nat), i ≤ l.length → (∀ m (h : m < l.length), m < i → l[m].block < b) → (∀ (h : i < l.length), b ≤ l[i].block) → lbC l b = i
  | [], _, i, h, _, _ => by simp at h; rw [h]; rfl
  | c :: r, b, 0, _, _, h2 => by
    have := h2 (by simp)
    unfold lbC
    rw [if_neg (by simpa using this)]
  | c :: r, b, i + 1, h, h1, h2 => by
    unfold lbC
    rw [if_pos (show c.block < b from h1 0 (by simp) (by omega))]
    rw [lbC_eq r b i (by simpa using h) (fun m hm hi => h1 (m + 1) (by simpa using hm) (by omega)) (fun hh => h2 (by simpa using hh))]
theorem cas_lt {l : List Ca} {n : Int} (ho : ∀ i (h : i < l.length), preC l i < l[i].block ∧ l[i].block < n) : ∀ (i j : Nat) (hi : i < l.length) (hj : j < l.length), i < j → l[i].block < l[j].block
  | i, 0, hi, hj, h => by omega
  | i, j + 1, hi, hj, h => by
    have h1 := (ho (j + 1) hj).1
    rw [preC_s (by omega : j < l.length)] at h1
    rcases Nat.lt_or_ge i j with h2 | h2
    · have := cas_lt ho i j hi (by omega) h2
      omega
    · have : i = j := by omega
      subst this
      exact h1
theorem cas_ge {l : List Ca} {n : Int} (ho : ∀ i (h : i < l.length), preC l i < l[i].block ∧ l[i].block < n) (i : Nat) (h : i < l.length) : 0 ≤ l[i].block := by
  have h1 := (ho i h).1
  match i with
  | 0 => have : preC l 0 = -1 := rfl; omega
  | i + 1 =>
    have h2 := cas_ge ho i (by omega)
    rw [preC_s (by omega : i < l.length)] at h1
    omega
theorem rd_ca {h : Heap} {a : Int} {k : IntKind} {sz n : Nat} {cs : List D} : Rd h (.agg [.int k a, .vs sz cs n]) (.agg [.int k a, .vs sz cs n]) := Rd_ag (All2.cons Rd_int (All2.cons Rd_vs All2.nil))
theorem bsf_c (C : List Ca) (n : Int) (hn : n ≤ 256) (ho : ∀ i (h : i < C.length), preC C i < C[i].block ∧ C[i].block < n) (hl : C.length ≤ 256) (b : Int) (hb : 0 ≤ b ∧ b < 256) :
    PCon Try.prog 80 [casD C, .int .i64 b, .fn 81 [] []] (.tup [.int .i64 (lbC C b), .bool (match C[lbC C b]? with | some c => decide (c.block = b) | none => false)]) := by
  refine A80p (by simp [A80]) ?_
  have hC := cas_len C
  have hlt := cas_lt ho
  have hge := cas_ge ho
  have hc : ∀ i (h : i < C.length), PCon Try.prog 81 [.agg C[i].cells, .int .i64 b] (.int .i64 (C[i].block - b)) := fun i h => find1_c _ b ⟨hge i h, by have := (ho i h).2; omega⟩ hb
  simp only [A80, argEnv]
  repeat' (first | (with_reducible first | refine W_seq ?_ | refine then_n ?_ | refine W_block ?_) | ((with_reducible refine s_reg ?_); intro K hK) | ((with_reducible refine k_nil ?_); (with_reducible apply s_nil hK); (· exact nmX); clear hK; clear K) | ((with_reducible refine k_mv ?_); (refine s_mv rfl ?_)) | ((with_reducible refine k_len ?_); ((refine s_len rfl rfl ?_))))
  all_goals first | (exfalso; omega) | skip
  refine W_loop (fun st => ∃ i j h', st = ⟨[(0, casD C), (1, .int .i64 b), (2, .fn 81 [] []), (8, .int .i64 C.length), (9, .int .i64 (i : Nat)), (10, .int .i64 (j : Nat))], h'⟩ ∧ i ≤ j ∧ j ≤ C.length ∧ (∀ m (h : m < C.length), m < i → C[m].block < b) ∧ (∀ m (h : m < C.length), j ≤ m → b ≤ C[m].block)) (fun st => match AM.get st.env 9, AM.get st.env 10 with | some (.int _ i), some (.int _ j) => (j - i).toNat | _, _ => 0)
    ⟨0, C.length, _, rfl, Nat.zero_le _, Nat.le_refl _, fun m h h2 => by omega, fun m h h2 => by omega⟩ ?_
  rintro e' h' ⟨i, j, h1, he, hij, hj, hi1, hj1⟩
  cases he
  rcases Nat.lt_or_ge i j with hlt2 | hlt2
  · repeat' (first | (with_reducible first | refine W_seq ?_ | refine then_n ?_ | refine W_block ?_ | refine W_skip ?_) | ((with_reducible refine s_reg ?_); intro K hK) | ((with_reducible refine k_nil ?_); (with_reducible apply s_nil hK); (· exact nmX); clear hK; clear K) | ((with_reducible refine k_cond ?_); (((with_reducible apply s_condT); (· rfl); (· exact nmX)))) | ((with_reducible refine k_mv ?_); (refine s_mv rfl ?_)) | ((with_reducible refine k_lss ?_); (refine s_lss rfl rfl ?_)) | ((with_reducible refine k_add ?_); ((with_reducible apply s_add); (· rfl); (· rfl))) | ((with_reducible refine k_shr ?_); ((with_reducible apply s_shr); (· rfl); (· rfl); (· omega))) | ((with_reducible refine k_conv ?_); ((with_reducible apply s_conv); (· rfl))) | ((with_reducible refine k_br ?_); ((refine Br_t (by omega) ?_))) | (((with_reducible apply q_eqI)); (exact nuI)))
    all_goals first | (exfalso; omega) | skip
    obtain ⟨m, hm⟩ : ∃ m : Nat, ((i : Int) + j) / 2 = m := ⟨((i + j) / 2 : Nat), by omega⟩
    rw [hm]
    have h1 : i ≤ m := by omega
    have h2 : m < j := by omega
    have h3 : m < C.length := by omega
    have hrow := car h3
    have c1 := hc m h3
    have h5 := (ho m h3).2
    have h6 := hge m h3
    have hl1 : C[m].block < b → ∀ t (h : t < C.length), t < m + 1 → C[t].block < b := fun hb t ht hlt' => by
      rcases Nat.lt_or_ge t m with q | q
      · have := hlt t m ht h3 q; omega
      · have e : t = m := by omega
        subst e; exact hb
    have hl2 : ¬ C[m].block < b → ∀ t (h : t < C.length), m ≤ t → b ≤ C[t].block := fun hb t ht hle => by
      rcases Nat.lt_or_ge m t with q | q
      · have := hlt m t h3 ht q; omega
      · have e : t = m := by omega
        subst e; omega
    clear hm
    generalize C[m] = c at *
    obtain ⟨cb, cd⟩ := c
    dsimp only [Ca.cells] at *
    repeat' (first | (with_reducible first | refine then_n ?_ | refine blk_n ?_) | ((with_reducible refine s_reg ?_); intro K hK) | ((with_reducible refine k_nil ?_); (with_reducible apply s_nil hK); (· exact nmX); clear hK; clear K) | ((with_reducible refine k_cond ?_); (first | ((with_reducible apply s_condT); (· rfl); (· exact nmX)) | ((with_reducible apply s_condF); (· rfl); (· exact nmX)))) | ((with_reducible refine k_mv ?_); (refine s_mv rfl ?_)) | ((with_reducible refine k_lss ?_); (refine s_lss rfl rfl ?_)) | ((with_reducible refine k_iaddr ?_); (((with_reducible apply s_iaddrV); (· rfl); (· rfl); (· (omega))))) | ((with_reducible refine k_loadA ?_); (((with_reducible apply s_loadAV); (· rfl); (· (omega))))) | ((with_reducible refine k_add ?_); ((with_reducible apply s_add); (· rfl); (· rfl))) | ((with_reducible refine k_callT ?_); ((with_reducible apply s_callt); (· rfl); (· rfl); (· rfl))) | ((with_reducible refine k_con ?_); (((with_reducible apply con_val (c1)); (· (repeat (first | exact All2.nil | (apply All2.cons; (· first | exact rd_ca | exact rdX))))); (· rfl); (· exact fun _ => rfl)))) | ((with_reducible refine k_br ?_); ((with_reducible apply Br_s <;> intro hbr))) | ((first | (with_reducible apply q_eqI) | (with_reducible apply q_eqN)); ((simp (disch := omega) only [w64, wu8, wu16, wu32, wu64, tm_nn, td_nn, fd_nn, Int.reduceAdd, Int.reduceSub, Int.reduceMul, Int.reduceDiv, Int.reduceMod, Int.reduceNeg, Int.reduceToNat, Int.toNat_natCast, Int.toNat_zero, Int.zero_add, Int.add_zero, Int.one_mul, Int.reducePow, Nat.mul_one, Nat.zero_add, Nat.add_zero, Nat.zero_mul, Nat.reduceAdd, Nat.reduceMul, Nat.reduceSub, Nat.min_eq_left, IntKind.bits, Nat.sub_zero, hrow, Int.toNat_natCast]; try rfl; done))) | (((with_reducible apply q_eqL)); ((simp (disch := omega) only [upd_self, upd_ne, upd_upd, rep, splice, List.take_succ_cons, List.take_zero, List.drop_succ_cons, List.drop_zero, List.cons_append, List.nil_append, List.append_nil, List.length_cons, List.length_nil, List.reduceReplicate, List.flatten_cons, List.flatten_nil, Nat.reduceAdd, Nat.reduceMul, Nat.reduceSub, Nat.zero_add, Nat.add_zero, List.getElem?_cons_zero, List.getElem?_cons_succ, hrow, Int.toNat_natCast]; try rfl; done))))
    all_goals first | (exfalso; omega) | skip
    · exact ⟨⟨m + 1, j, _, rfl, by omega, hj, hl1 (by omega), hj1⟩, by simp [AM.get]; omega⟩
    · exact ⟨⟨i, m, _, rfl, by omega, by omega, hi1, hl2 (by omega)⟩, by simp [AM.get]; omega⟩
  have e0 : i = j := by omega
  subst e0
  have e1 : lbC C b = i := lbC_eq C b i hj hi1 (fun h => hj1 i h (Nat.le_refl _))
  rw [e1]
  rcases Nat.lt_or_ge i C.length with h3 | h3
  · rw [List.getElem?_eq_getElem h3]
    have hrow := car h3
    have c1 := hc i h3
    have h5 := (ho i h3).2
    have h6 := hge i h3
    clear hi1 hj1
    generalize C[i] = c at *
    obtain ⟨cb, cd⟩ := c
    dsimp only [Ca.cells] at *
    repeat' (first | (with_reducible first | refine W_seq ?_ | refine then_n ?_ | refine blk_e ?_ | refine W_ret ?_ | refine W_exit ?_ | refine then_e ?_) | ((with_reducible refine s_reg ?_); intro K hK) | ((with_reducible refine k_nil ?_); (with_reducible apply s_nil hK); (· exact nmX); clear hK; clear K) | ((with_reducible refine k_cond ?_); (((with_reducible apply s_condF); (· rfl); (· exact nmX)))) | ((with_reducible refine k_guard ?_); ((refine s_gt rfl ?_))) | ((with_reducible refine k_mv ?_); (refine s_mv rfl ?_)) | ((with_reducible refine k_pick ?_); ((refine s_pickT rfl rfl ?_))) | ((with_reducible refine k_eql ?_); ((refine s_eql rfl rfl ?_))) | ((with_reducible refine k_lss ?_); (refine s_lss rfl rfl ?_)) | ((with_reducible refine k_iaddr ?_); (((with_reducible apply s_iaddrV); (· rfl); (· rfl); (· (omega))))) | ((with_reducible refine k_loadA ?_); (((with_reducible apply s_loadAV); (· rfl); (· (omega))))) | ((with_reducible refine k_callT ?_); ((with_reducible apply s_callt); (· rfl); (· rfl); (· rfl))) | ((with_reducible refine k_con ?_); (((with_reducible apply con_val (c1)); (· (repeat (first | exact All2.nil | (apply All2.cons; (· first | exact rd_ca | exact rdX))))); (· rfl); (· exact fun _ => rfl)))) | ((with_reducible refine k_br ?_); (first | (refine Br_t (by omega) ?_) | (refine Br_f (by omega) ?_) | (with_reducible apply Br_s <;> intro hbr))) | (((with_reducible apply q_eqN)); ((simp (disch := omega) only [w64, wu8, wu16, wu32, wu64, tm_nn, td_nn, fd_nn, Int.reduceAdd, Int.reduceSub, Int.reduceMul, Int.reduceDiv, Int.reduceMod, Int.reduceNeg, Int.reduceToNat, Int.toNat_natCast, Int.toNat_zero, Int.zero_add, Int.add_zero, Int.one_mul, Int.reducePow, Nat.mul_one, Nat.zero_add, Nat.add_zero, Nat.zero_mul, Nat.reduceAdd, Nat.reduceMul, Nat.reduceSub, Nat.min_eq_left, IntKind.bits, Nat.sub_zero, hrow, Int.toNat_natCast]; try rfl; done))) | (((with_reducible apply q_eqL)); ((simp (disch := omega) only [upd_self, upd_ne, upd_upd, rep, splice, List.take_succ_cons, List.take_zero, List.drop_succ_cons, List.drop_zero, List.cons_append, List.nil_append, List.append_nil, List.length_cons, List.length_nil, List.reduceReplicate, List.flatten_cons, List.flatten_nil, Nat.reduceAdd, Nat.reduceMul, Nat.reduceSub, Nat.zero_add, Nat.add_zero, List.getElem?_cons_zero, List.getElem?_cons_succ, hrow, Int.toNat_natCast]; try rfl; done))))
    all_goals first | (exfalso; omega) | skip
    · rw [decide_eq_true (show cb = b by omega)]; first | exact Fin_flat trivial rfl rfl | (refine Fin_tup trivial rfl ?_ (Nat.le_of_ble_eq_true rfl); (repeat (first | exact All2.nil | (apply All2.cons; (· first | exact exc_n | exact exc_e | exact exc_v rfl rfl | exact exc_o upd_self rfl rfl)))); done) | (refine Fin_own trivial rfl upd_self ?_ (Nat.le_of_ble_eq_true rfl); (repeat (first | exact All2.nil | (apply All2.cons; (· first | exact exc_n | exact exc_e | exact exc_v rfl rfl | exact exc_o upd_self rfl rfl)))); done) | exact Fin_nil trivial rfl | exact Fin_sl trivial rfl upd_self rfl rfl
    · rw [decide_eq_false (show ¬ cb = b by omega)]; first | exact Fin_flat trivial rfl rfl | (refine Fin_tup trivial rfl ?_ (Nat.le_of_ble_eq_true rfl); (repeat (first | exact All2.nil | (apply All2.cons; (· first | exact exc_n | exact exc_e | exact exc_v rfl rfl | exact exc_o upd_self rfl rfl)))); done) | (refine Fin_own trivial rfl upd_self ?_ (Nat.le_of_ble_eq_true rfl); (repeat (first | exact All2.nil | (apply All2.cons; (· first | exact exc_n | exact exc_e | exact exc_v rfl rfl | exact exc_o upd_self rfl rfl)))); done) | exact Fin_nil trivial rfl | exact Fin_sl trivial rfl upd_self rfl rfl
  · rw [List.getElem?_eq_none (by omega)]
    repeat' (first | (with_reducible first | refine W_seq ?_ | refine then_n ?_ | refine blk_e ?_ | refine W_ret ?_ | refine W_exit ?_ | refine then_e ?_) | ((with_reducible refine s_reg ?_); intro K hK) | ((with_reducible refine k_nil ?_); (with_reducible apply s_nil hK); (· exact nmX); clear hK; clear K) | ((with_reducible refine k_cond ?_); (((with_reducible apply s_condF); (· rfl); (· exact nmX)))) | ((with_reducible refine k_guard ?_); ((refine s_gf1 rfl ?_))) | ((with_reducible refine k_mv ?_); (refine s_mv rfl ?_)) | ((with_reducible refine k_pick ?_); ((refine s_pickF rfl rfl ?_))) | ((with_reducible refine k_lss ?_); (refine s_lss rfl rfl ?_)) | ((with_reducible refine k_br ?_); ((refine Br_f (by omega) ?_))))
    all_goals first | (exfalso; omega) | (first | exact Fin_flat trivial rfl rfl | (refine Fin_tup trivial rfl ?_ (Nat.le_of_ble_eq_true rfl); (repeat (first | exact All2.nil | (apply All2.cons; (· first | exact exc_n | exact exc_e | exact exc_v rfl rfl | exact exc_o upd_self rfl rfl)))); done) | (refine Fin_own trivial rfl upd_self ?_ (Nat.le_of_ble_eq_true rfl); (repeat (first | exact All2.nil | (apply All2.cons; (· first | exact exc_n | exact exc_e | exact exc_v rfl rfl | exact exc_o upd_self rfl rfl)))); done) | exact Fin_nil trivial rfl | exact Fin_sl trivial rfl upd_self rfl rfl)
def hasC (l : List Ca) (b : Int) : Bool := match l[lbC l b]? with | some c => decide (c.block = b) | none => false
theorem find_w (d : Dv) (hn : d.blocks.length ≤ 256) (ho : ∀ i (h : i < d.cache.length), preC d.cache i < d.cache[i].block ∧ d.cache[i].block < d.blocks.length) (hl : d.cache.length ≤ 256) (b : Int) (hb : 0 ≤ b ∧ b < 256) : PCon Try.prog 74 [dvD d, .int .i64 b] (.tup [.int .i64 (lbC d.cache b), .bool (hasC d.cache b)]) := by
  have c1 := bsf_c d.cache d.blocks.length (by omega) ho hl b hb
  refine A74p (by simp [A74]) ?_
  obtain ⟨depth, next, B, C, Qu⟩ := d
  have : hasC C b = (match C[lbC C b]? with | some c => decide (c.block = b) | none => false) := rfl
  dsimp only at *
  rw [← this] at c1
  simp only [A74, argEnv]
  repeat' (first | (with_reducible first | refine W_seq ?_ | refine then_n ?_ | refine W_ret ?_) | ((with_reducible refine s_reg ?_); intro K hK) | ((with_reducible refine k_nil ?_); (with_reducible apply s_nil hK); (· exact nmX); clear hK; clear K) | ((with_reducible refine k_mv ?_); (refine s_mv rfl ?_)) | ((with_reducible refine k_extract ?_); (refine s_extract rfl rfl ?_)) | ((with_reducible refine k_load ?_); (((with_reducible apply s_loadP); (· rfl); (· (exact hpX))))) | ((with_reducible refine k_faddr ?_); (((with_reducible apply s_faddrP); (· rfl); (· rfl)))) | ((with_reducible refine k_box (dst := some 2) ?_); ((with_reducible apply s_box); (· rfl); (· rfl); intro k2 hk2; (try simp only [upd_none] at hk2))) | ((with_reducible refine k_callF ?_); (((with_reducible apply s_call1); (· rfl)))) | ((with_reducible refine k_con ?_); (((with_reducible apply con_val (c1)); (· (exact agX)); (· rfl); (· exact fun _ => rfl)))) | (((with_reducible apply q_eqO)); (exact liO)))
  all_goals first | (exfalso; omega) | (first | exact Fin_flat trivial rfl rfl | (refine Fin_tup trivial rfl ?_ (Nat.le_of_ble_eq_true rfl); (repeat (first | exact All2.nil | (apply All2.cons; (· first | exact exc_n | exact exc_e | exact exc_v rfl rfl | exact exc_o upd_self rfl rfl)))); done) | (refine Fin_own trivial rfl upd_self ?_ (Nat.le_of_ble_eq_true rfl); (repeat (first | exact All2.nil | (apply All2.cons; (· first | exact exc_n | exact exc_e | exact exc_v rfl rfl | exact exc_o upd_self rfl rfl)))); done) | exact Fin_nil trivial rfl | exact Fin_sl trivial rfl upd_self rfl rfl)
theorem hasC_t {l : List Ca} {b : Int} (h : hasC l b = true) : ∃ h : lbC l b < l.length, l[lbC l b].block = b := by
  unfold hasC at h
  rcases Nat.lt_or_ge (lbC l b) l.length with h1 | h1
  · rw [List.getElem?_eq_getElem h1] at h
    exact ⟨h1, of_decide_eq_true h⟩
  · rw [List.getElem?_eq_none h1] at h; cases h
def conD (d : Dv) (b : Nat) : Bs := if hasC d.cache b then (match d.cache[lbC d.cache b]? with | some c => c.data | none => []) else (match d.blocks[b]? with | some x => x | none => [])
def choN (d : Dv) : Nat := d.cache.length + (d.queue.filter fun q => decide (q.kind = 2)).length
theorem Choices_c (d : Dv) (ok : DvOk d) : PCon Try.prog 35 [dvD d] (.int .i64 (choN d)) := by
  have c2 := dcheck_d d ok
  have hq := ok.full
  have hd := ok.depth
  have hcs := ok.csmall
  refine A35p (by simp [A35]) ?_
  obtain ⟨depth, next, B, C, Qu⟩ := d
  dsimp only at *
  have hQl := rqs_len Qu
  simp only [A35, argEnv]
  repeat' (first | (with_reducible first | refine W_seq ?_ | refine then_n ?_ | refine W_block ?_ | refine W_skip ?_) | ((with_reducible refine s_reg ?_); intro K hK) | ((with_reducible refine k_nil ?_); (with_reducible apply s_nil hK); (· exact nmX); clear hK; clear K) | ((with_reducible refine k_cond ?_); (((with_reducible apply s_condF); (· rfl); (· exact nmX)))) | ((with_reducible refine k_mv ?_); (refine s_mv rfl ?_)) | ((with_reducible refine k_len ?_); ((refine s_len rfl rfl ?_))) | ((with_reducible refine k_neq ?_); ((refine s_neq rfl rfl ?_))) | ((with_reducible refine k_load ?_); (((with_reducible apply s_loadP); (· rfl); (· (exact hpX))))) | ((with_reducible refine k_loadA ?_); (((with_reducible apply s_loadAP); (· rfl); (· (exact hpX)); (· (exact Nat.le_of_ble_eq_true rfl))))) | ((with_reducible refine k_faddr ?_); (((with_reducible apply s_faddrP); (· rfl); (· rfl)))) | ((with_reducible refine k_box (dst := some 1) ?_); ((with_reducible apply s_box); (· rfl); (· rfl); intro k1 hk1; (try simp only [upd_none] at hk1))) | ((with_reducible refine k_callF ?_); (((with_reducible apply s_call1); (· rfl)))) | ((with_reducible refine k_con ?_); (((with_reducible apply con_val (c2)); (· (repeat (first | exact All2.nil | (apply All2.cons; (· first | exact Rd_dv))))); (· rfl); (· exact fun _ => rfl)))) | ((with_reducible refine k_br ?_); ((refine Br_t (by with_reducible rfl) ?_))) | ((first | (with_reducible apply q_eqL) | (with_reducible apply q_eqO)); (first | exact liL | exact liO)))
  all_goals first | (exfalso; omega) | skip
  have ht : ∀ i (h : i < Qu.length), ((Qu.take (i + 1)).filter fun q => decide (q.kind = 2)).length = ((Qu.take i).filter fun q => decide (q.kind = 2)).length + (if Qu[i].kind = 2 then 1 else 0) := fun i h => by
    rw [take_s h, List.filter_append, List.length_append]
    congr 1
    simp only [List.filter_cons, List.filter_nil, decide_eq_true_eq]
    split <;> rfl
  have hle : ∀ i, ((Qu.take i).filter fun q => decide (q.kind = 2)).length ≤ Qu.length := fun i => Nat.le_trans (List.length_filter_le _ _) (by rw [List.length_take]; omega)
  refine W_for Qu.length (fun i st => ∃ h', st = ⟨[(3, .int .i64 (C.length + ((Qu.take i).filter fun q => decide (q.kind = 2)).length : Nat)), (13, rqsD Qu), (14, .int .i64 Qu.length), (15, .int .i64 i)], h'⟩) ⟨_, rfl⟩ ?_ ?_
  · rintro i e' h' hi ⟨h1, he⟩
    cases he
    have hrow := rqr hi
    have h4 := hle i
    rw [ht i hi]
    generalize ((Qu.take i).filter fun q => decide (q.kind = 2)).length = t at *
    generalize Qu[i] = q at *
    obtain ⟨q1, q2, q3, q4⟩ := q
    dsimp only [Rq.cells] at *
    repeat' (first | (with_reducible first | refine W_seq ?_ | refine then_n ?_ | refine W_block ?_ | refine blk_n ?_ | refine W_skip ?_) | ((with_reducible refine s_reg ?_); intro K hK) | ((with_reducible refine k_nil ?_); (with_reducible apply s_nil hK); (· exact nmX); clear hK; clear K) | ((with_reducible refine k_cond ?_); (first | ((with_reducible apply s_condT); (· rfl); (· exact nmX)) | ((with_reducible apply s_condF); (· rfl); (· exact nmX)))) | ((with_reducible refine k_mv ?_); (refine s_mv rfl ?_)) | ((with_reducible refine k_eql ?_); ((refine s_eql rfl rfl ?_))) | ((with_reducible refine k_lss ?_); (refine s_lss rfl rfl ?_)) | ((with_reducible refine k_iaddr ?_); (((with_reducible apply s_iaddrV); (· rfl); (· rfl); (· (omega))))) | ((with_reducible refine k_load ?_); (((with_reducible apply s_loadP); (· rfl); (· (exact hpX))))) | ((with_reducible refine k_loadA ?_); (((with_reducible apply s_loadAV); (· rfl); (· (omega))))) | ((with_reducible refine k_add ?_); ((with_reducible apply s_add); (· rfl); (· rfl))) | ((with_reducible refine k_store ?_); ((with_reducible apply s_store0); (· rfl); (· rfl); (· rfl); (· (exact hpX)); (· (exact ⟨rfl, by exact Nat.le_of_ble_eq_true rfl⟩)); (· (((simp (disch := omega) only [upd_self, upd_ne, upd_upd, rep, splice, List.take_succ_cons, List.take_zero, List.drop_succ_cons, List.drop_zero, List.cons_append, List.nil_append, List.append_nil, List.length_cons, List.length_nil, List.reduceReplicate, List.flatten_cons, List.flatten_nil, Nat.reduceAdd, Nat.reduceMul, Nat.reduceSub, Nat.zero_add, Nat.add_zero, List.getElem?_cons_zero, List.getElem?_cons_succ, hrow, Int.toNat_natCast]; try rfl; done)))); (· (exact upd_upd)))) | ((with_reducible refine k_faddr ?_); (((with_reducible apply s_faddrP); (· rfl); (· rfl)))) | ((with_reducible refine k_alloc (dst := some 5) ?_); ((with_reducible apply s_alloc); intro k5 hk5; (try simp only [upd_none] at hk5))) | ((with_reducible refine k_br ?_); (first | (refine Br_t (by omega) ?_) | (with_reducible apply Br_s <;> intro hbr))) | ((first | (with_reducible apply q_eqI) | (with_reducible apply q_eqN)); ((simp (disch := omega) only [w64, wu8, wu16, wu32, wu64, tm_nn, td_nn, fd_nn, Int.reduceAdd, Int.reduceSub, Int.reduceMul, Int.reduceDiv, Int.reduceMod, Int.reduceNeg, Int.reduceToNat, Int.toNat_natCast, Int.toNat_zero, Int.zero_add, Int.add_zero, Int.one_mul, Int.reducePow, Nat.mul_one, Nat.zero_add, Nat.add_zero, Nat.zero_mul, Nat.reduceAdd, Nat.reduceMul, Nat.reduceSub, Nat.min_eq_left, IntKind.bits, Nat.sub_zero, hrow, Int.toNat_natCast]; try rfl; done))) | ((first | (with_reducible apply q_eqL) | (with_reducible apply q_eqO)); ((simp (disch := omega) only [upd_self, upd_ne, upd_upd, rep, splice, List.take_succ_cons, List.take_zero, List.drop_succ_cons, List.drop_zero, List.cons_append, List.nil_append, List.append_nil, List.length_cons, List.length_nil, List.reduceReplicate, List.flatten_cons, List.flatten_nil, Nat.reduceAdd, Nat.reduceMul, Nat.reduceSub, Nat.zero_add, Nat.add_zero, List.getElem?_cons_zero, List.getElem?_cons_succ, hrow, Int.toNat_natCast]; try rfl; done))))
    all_goals first | (exfalso; omega) | skip
    · rw [if_pos hbr]; exact ⟨_, rfl⟩
    · rw [if_neg hbr]; exact ⟨_, rfl⟩
  rintro e' h' ⟨h1, he⟩
  cases he
  rw [List.take_length]
  repeat' (first | (with_reducible first | refine W_seq ?_ | refine then_n ?_ | refine blk_e ?_ | refine W_ret ?_ | refine W_exit ?_ | refine then_e ?_) | ((with_reducible refine s_reg ?_); intro K hK) | ((with_reducible refine k_nil ?_); (with_reducible apply s_nil hK); (· exact nmX); clear hK; clear K) | ((with_reducible refine k_cond ?_); (((with_reducible apply s_condF); (· rfl); (· exact nmX)))) | ((with_reducible refine k_mv ?_); (refine s_mv rfl ?_)) | ((with_reducible refine k_lss ?_); (refine s_lss rfl rfl ?_)) | ((with_reducible refine k_br ?_); ((refine Br_f (by omega) ?_))))
  all_goals first | (exfalso; omega) | (first | exact Fin_flat trivial rfl rfl | (refine Fin_tup trivial rfl ?_ (Nat.le_of_ble_eq_true rfl); (repeat (first | exact All2.nil | (apply All2.cons; (· first | exact exc_n | exact exc_e | exact exc_v rfl rfl | exact exc_o upd_self rfl rfl)))); done) | (refine Fin_own trivial rfl upd_self ?_ (Nat.le_of_ble_eq_true rfl); (repeat (first | exact All2.nil | (apply All2.cons; (· first | exact exc_n | exact exc_e | exact exc_v rfl rfl | exact exc_o upd_self rfl rfl)))); done) | exact Fin_nil trivial rfl | exact Fin_sl trivial rfl upd_self rfl rfl)
end Go.Proofs.Ythblalidmmbcoaa
end
section
/- min -/
/- slices.Insert at []api.Cached: at any place. -/
set_option linter.unusedSimpArgs false
set_option linter.unusedVariables false
namespace Go.Proofs.Ythblalidmmbcoaa
open Go.AM Classical
set_option maxRecDepth 100000
set_option maxHeartbeats 4000000
theorem ins_end {h : Heap} {d : D} {kv : Nat} {cs : List D} {a b : D} {n : Nat} (ho : SlOwn h d 2 cs n) (hv : h kv = some [a, b]) (hne : Fr d kv) (hn : n ≤ 900) {Q : D → Heap → Prop}
    (hQ : ∀ kk h2, h kk = none → h2 kk = some (cs ++ [a, b]) → (∀ j c, h j = some c → Fr d j → h2 j = some c) → Q (.sl kk 2 0 (n + 1)) h2) :
    Con Try.prog 75 [d, .int .i64 n, .sl kv 2 0 1] h Q := by
  refine con_of_W mixed Try.func75 A75k A75c (by simp [A75]) ?_
  have hcl := ho.1
  simp only [A75, argEnv]
  rcases ho.2 with ⟨h0, rfl | rfl⟩ | ⟨k, rfl, hk⟩
  · subst h0
    have hcs : cs = [] := List.length_eq_zero_iff.1 (by omega)
    subst hcs
    repeat' (first | (with_reducible first | refine W_seq ?_ | refine then_n ?_ | refine W_skip ?_ | refine W_ret ?_ | refine then_r ?_) | ((with_reducible refine s_reg ?_); intro K hK) | ((with_reducible refine k_nil ?_); (with_reducible apply s_nil hK); (· exact nmX); clear hK; clear K) | ((with_reducible refine k_cond ?_); (first | ((with_reducible apply s_condT); (· rfl); (· exact nmX)) | ((with_reducible apply s_condF); (· rfl); (· exact nmX)))) | ((with_reducible refine k_mv ?_); (refine s_mv rfl ?_)) | ((with_reducible refine k_len ?_); ((refine s_len rfl rfl ?_))) | ((with_reducible refine k_eql ?_); ((refine s_eql rfl rfl ?_))) | ((with_reducible refine k_slice ?_); (((with_reducible apply s_sliceN); (· rfl); (· ((apply b_some; (· rfl); (· omega); (· (exact nuN))))); (· (exact b_none)); (· (omega))))) | ((with_reducible refine k_append (dst := some 25) ?_); ((with_reducible apply s_app2); (· rfl); (· rfl); (· first | assumption); (· rfl); (· first | ((apply srcD_sl); (· (exact hpX)); (· rfl))); (· exact ⟨by rfl, by decide, by decide⟩); (· first | (rw [room_n]; omega)); intro ka25 ha25 hn25 hk25 hoth25)) | ((with_reducible refine k_br ?_); (first | (refine Br_t (by with_reducible rfl) ?_) | (refine Br_f (by omega) ?_))))
    all_goals first | (exfalso; omega) | skip
    refine ⟨trivial, _, rfl, hQ _ _ hn25 hk25 fun j c hj hf => hoth25 j c hj hf⟩
  · subst h0
    have hcs : cs = [] := List.length_eq_zero_iff.1 (by omega)
    subst hcs
    repeat' (first | (with_reducible first | refine W_seq ?_ | refine then_n ?_) | ((with_reducible refine s_reg ?_); intro K hK) | ((with_reducible refine k_nil ?_); (with_reducible apply s_nil hK); (· exact nmX); clear hK; clear K) | ((with_reducible refine k_mv ?_); (refine s_mv rfl ?_)))
    all_goals first | (exfalso; omega) | skip
    refine s_sliceE rfl (b_some rfl (by omega) rfl) b_none (by decide) ?_
    repeat' (first | (with_reducible first | refine W_seq ?_ | refine then_n ?_ | refine W_skip ?_ | refine W_ret ?_ | refine then_r ?_) | ((with_reducible refine s_reg ?_); intro K hK) | ((with_reducible refine k_nil ?_); (with_reducible apply s_nil hK); (· exact nmX); clear hK; clear K) | ((with_reducible refine k_cond ?_); (first | ((with_reducible apply s_condT); (· rfl); (· exact nmX)) | ((with_reducible apply s_condF); (· rfl); (· exact nmX)))) | ((with_reducible refine k_mv ?_); (refine s_mv rfl ?_)) | ((with_reducible refine k_len ?_); ((refine s_len rfl rfl ?_))) | ((with_reducible refine k_eql ?_); ((refine s_eql rfl rfl ?_))) | ((with_reducible refine k_append (dst := some 25) ?_); ((with_reducible apply s_app2); (· rfl); (· rfl); (· first | assumption); (· rfl); (· first | ((apply srcD_sl); (· (exact hpX)); (· rfl))); (· exact ⟨by rfl, by decide, by decide⟩); (· first | (rw [room_n]; omega)); intro ka25 ha25 hn25 hk25 hoth25)) | ((with_reducible refine k_br ?_); (first | (refine Br_t (by with_reducible rfl) ?_) | (refine Br_f (by omega) ?_))))
    all_goals first | (exfalso; omega) | skip
    refine ⟨trivial, _, rfl, hQ _ _ hn25 hk25 fun j c hj hf => hoth25 j c hj hf⟩
  · repeat' (first | (with_reducible first | refine W_seq ?_ | refine then_n ?_ | refine W_skip ?_ | refine W_ret ?_ | refine then_r ?_) | ((with_reducible refine s_reg ?_); intro K hK) | ((with_reducible refine k_nil ?_); (with_reducible apply s_nil hK); (· exact nmX); clear hK; clear K) | ((with_reducible refine k_cond ?_); (first | ((with_reducible apply s_condT); (· rfl); (· exact nmX)) | ((with_reducible apply s_condF); (· rfl); (· exact nmX)))) | ((with_reducible refine k_mv ?_); (refine s_mv rfl ?_)) | ((with_reducible refine k_len ?_); ((refine s_len rfl rfl ?_))) | ((with_reducible refine k_eql ?_); ((refine s_eql rfl rfl ?_))) | ((with_reducible refine k_slice ?_); (((with_reducible apply s_sliceO); (· rfl); (· ((apply b_some; (· rfl); (· omega); (· (exact nuN))))); (· (exact b_none)); (· (omega))))) | ((with_reducible refine k_append (dst := some 25) ?_); ((with_reducible apply s_app2); (· rfl); (· rfl); (· first | assumption); (· rfl); (· first | ((apply srcD_sl); (· (exact hpX)); (· rfl))); (· exact ⟨by rfl, by decide, by decide⟩); (· first | (rw [room_n]; omega)); intro ka25 ha25 hn25 hk25 hoth25)) | ((with_reducible refine k_br ?_); (first | (refine Br_t (by with_reducible rfl) ?_) | (refine Br_f (by omega) ?_))) | (((with_reducible apply q_eqN)); (exact nuN)))
    all_goals first | (exfalso; omega) | skip
    refine ⟨trivial, _, rfl, hQ _ _ hn25 hk25 fun j c hj hf => hoth25 j c hj hf⟩
theorem ins_any {h : Heap} {d : D} {kv : Nat} {cs : List D} {a b : D} {n i : Nat} (ho : SlOwn h d 2 cs n) (hv : h kv = some [a, b]) (hne : Fr d kv) (hi : i ≤ n) (hn : n ≤ 900) {Q : D → Heap → Prop}
    (hQ : ∀ kk h2, h kk = none → h2 kk = some (cs.take (i * 2) ++ [a, b] ++ cs.drop (i * 2)) → (∀ j c, h j = some c → Fr d j → h2 j = some c) → Q (.sl kk 2 0 (n + 1)) h2) :
    Con Try.prog 75 [d, .int .i64 i, .sl kv 2 0 1] h Q := by
  rcases Nat.lt_or_ge i n with h1 | h1
  · rcases ho.2 with ⟨h0, _⟩ | ⟨k, rfl, hk⟩
    · omega
    · refine ins_con hk ho.1 hv rfl (fun e => hne 2 0 n (by rw [e])) h1 hn fun kk hkk => hQ kk _ hkk upd_self fun j c hj hf => ?_
      rw [upd_ne (fun e => by rw [e, hkk] at hj; cases hj)]
      exact del_get (fun e => hf 2 0 n (by rw [e])) hj
  · have e : i = n := by omega
    subst e
    refine ins_end ho hv hne hn fun kk h2 h3 h4 h5 => hQ kk h2 h3 ?_ h5
    rw [List.take_of_length_le (by rw [ho.1]; omega), List.drop_of_length_le (by rw [ho.1]; omega), List.append_nil]
    exact h4
end Go.Proofs.Ythblalidmmbcoaa
end
section
/- min -/
/- slices.Delete at []api.Request. -/
set_option linter.unusedSimpArgs false
set_option linter.unusedVariables false
namespace Go.Proofs.Ythblalidmmbcoaa
open Go.AM Classical
set_option maxRecDepth 100000
set_option maxHeartbeats 4000000
theorem con_cut {P : Program} {f : Nat} {ds : List D} {h : Heap} {Q : D → Heap → Prop}
    (hc : Con P f ds h fun d h' => ∃ k sz m c2, d = .sl k sz 0 m ∧ h' k = some c2 ∧ m * sz ≤ c2.length ∧ (∀ kk, h' kk = none → Q (.sl kk sz 0 m) (upd (del h' k) kk (c2.take (m * sz)))) ∧ (c2 = [] → Q d h')) : Con P f ds h Q := by
  refine ⟨hc.1, fun s args H A => (hc.2 s args H A).mono ?_⟩
  rintro e w' ⟨v, d, h', s', h1, h2, h3, h4, h5, k, sz, m, c2, rfl, q2, q3, q4, q5⟩
  obtain ⟨ad, cap, rfl, p1, p2, p3⟩ := sl_live h4 h5 q2
  rcases p3 with p3 | ⟨b, row, el, t1, rfl, t3, t4⟩
  · exact ⟨_, _, _, s', h1, h2, h3, h4, h5, q5 (List.length_eq_zero_iff.1 (by rw [p3] at p2; omega))⟩
  · obtain ⟨_, _, row', e', t3', t5, t6⟩ := h4.block q2 t1
    rw [t3] at t3'; injection t3' with t3'; injection t3' with z1 z2; subst z1; subst z2
    have hkn : ¬ s'.used s'.next := h4.next_free
    have hl : (c2.take (m * sz)).length = m * sz := by rw [List.length_take]; omega
    have hm : m * sz ≤ cap * sz := Nat.mul_le_mul_right _ p1
    obtain ⟨s2, c1, c2', c3, c4, c5, _⟩ := h4.rekey q2 t1 t3 (cs' := row) rfl s'.w rfl t3 (fun _ _ => rfl) s'.next hkn (c2.take (m * sz)) (by omega)
      (by have := t6.take (m * sz)
          rw [List.take_take, Nat.min_eq_left q3] at this
          rw [hl]; exact this) (.refl _)
    refine ⟨_, _, _, s2, h1, c1.trans h2, h3.trans c2', c3, ?_, q4 s'.next (h4.fresh hkn)⟩
    refine .sl _ s'.next sz 0 m cap c4 (by simp) p1 ?_
    intro x' n hx'
    rw [c5] at hx'
    injection hx' with hx'; injection hx' with h8 h9
    subst h8; subst h9
    exact ⟨by rw [hl]; omega, .inr ⟨b, row, el, rfl, rfl, by rw [c1]; exact t3, t4⟩⟩
theorem s_appIq {P : Program} {e : Env} {h : Heap} {r : List AIns} {K : Env → Heap → Prop} {t : Nat} {sz bytes n m n' k off : Nat} {x y : O} {dy : D} {c c' new : List D} (h1 : evO (AM.get e) x = some (.sl k sz off n)) (h2 : evO (AM.get e) y = some dy) (hk : h k = some c) (hy : lenA dy = some m) (hs : srcD h sz m dy = some new) (hb : off + (n + m) * sz ≤ c.length) (hl : new.length = m * sz) (hc : splice c (off + n * sz) new = c') (hn : n + m = n') (hw : Wops P r ((t, .sl k sz off n') :: e) (AM.upd h k c') K) : Wops P (⟨some t, .append sz bytes x y, none⟩ :: r) e h K := by
  subst hn
  refine s_append h1 h2 fun kk _ => ?_
  by_cases hm : m = 0
  · subst hm
    refine ⟨.sl k sz off n, h, ?_, ?_⟩
    · simp [appD, hy, hs, hk]
    · have e1 : AM.upd h k c' = h := by
        have hn0 : new = [] := List.length_eq_zero_iff.1 (by rw [hl]; simp)
        subst hc hn0
        funext j
        unfold AM.upd splice
        split
        · rename_i hj; subst hj; simp [hk]
        · rfl
      rw [e1] at hw
      simpa using hw
  · refine ⟨_, _, ?_, hw⟩
    simp [appD, hy, hs, hk, hm, hb, hc]
theorem fm_takeq {α : Type} {f : α → List D} {w : Nat} (hf : ∀ a, (f a).length = w) {l : List α} {i : Nat} (hi : i ≤ l.length) : (l.flatMap f).take (i * w) = (l.take i).flatMap f := by
  have h1 : l = l.take i ++ l.drop i := (List.take_append_drop i l).symm
  have h2 : ((l.take i).flatMap f).length = i * w := by rw [fm_len hf, List.length_take, Nat.min_eq_left hi]
  conv => lhs; rw [h1, List.flatMap_append]
  rw [List.take_append_of_le_length (by omega), List.take_of_length_le (by omega)]
theorem rqs_erase {q : List Rq} {i : Nat} (hi : i < q.length) : (q.eraseIdx i).flatMap Rq.vn = (q.flatMap Rq.vn).take (i * 4) ++ (q.flatMap Rq.vn).drop ((i + 1) * 4) := by
  rw [List.eraseIdx_eq_take_drop_succ, List.flatMap_append, fm_takeq Rq.vn_len (by omega), fm_drop Rq.vn_len]
theorem eraseq_take {q : List Rq} {i : Nat} (hi : i < q.length) {c1 : List D} (hc : splice (q.flatMap Rq.vn) (0 + i * 4) (((q.flatMap Rq.vn).drop ((i + 1) * 4)).take ((q.length - (i + 1)) * 4)) = c1) : c1.length = q.length * 4 ∧ c1.take ((q.length - 1) * 4) = (q.eraseIdx i).flatMap Rq.vn := by
  have hal := fm_len Rq.vn_len q
  have hnl : (((q.flatMap Rq.vn).drop ((i + 1) * 4)).take ((q.length - (i + 1)) * 4)) = (q.flatMap Rq.vn).drop ((i + 1) * 4) := List.take_of_length_le (by rw [List.length_drop]; omega)
  rw [hnl] at hc
  subst hc
  constructor
  · rw [length_splice (by rw [List.length_drop]; omega), hal]
  · rw [rqs_erase hi]
    unfold splice
    rw [Nat.zero_add]
    rw [List.take_append_of_le_length (by simp [hal]; omega), List.take_of_length_le (by simp [hal]; omega)]
theorem delq_con {q : List Rq} {i : Nat} (hi : i < q.length) (hl : q.length ≤ 1000000) {h : Heap} {k : Nat} (hk : h k = some (q.flatMap Rq.vn)) {Q : D → Heap → Prop}
    (hQ : ∀ kk, h kk = none → Q (.sl kk 4 0 (q.length - 1)) (upd (del h k) kk ((q.eraseIdx i).flatMap Rq.vn))) :
    Con Try.prog 73 [.sl k 4 0 q.length, .int .i64 i, .int .i64 ((i : Int) + 1)] h Q := by
  refine con_cut ?_
  refine con_of_W mixed Try.func73 A73k A73c (by simp [A73]) ?_
  simp only [A73, argEnv]
  have hal := fm_len Rq.vn_len q
  rw [show ((i : Int) + 1) = ((i + 1 : Nat) : Int) from rfl]
  repeat' (first | (with_reducible first | refine W_seq ?_ | refine then_n ?_ | refine W_skip ?_) | ((with_reducible refine s_reg ?_); intro K hK) | ((with_reducible refine k_nil ?_); (with_reducible apply s_nil hK); (· exact nmX); clear hK; clear K) | ((with_reducible refine k_cond ?_); (((with_reducible apply s_condF); (· rfl); (· exact nmX)))) | ((with_reducible refine k_mv ?_); (refine s_mv rfl ?_)) | ((with_reducible refine k_len ?_); ((refine s_len rfl rfl ?_))) | ((with_reducible refine k_eql ?_); ((refine s_eql rfl rfl ?_))) | ((with_reducible refine k_slice3 ?_); ((with_reducible apply s_slice3); (· rfl); (· ((apply b_some; (· rfl); (· omega); (· (exact nuN))))); (· ((apply b_some; (· rfl); (· omega); (· (exact nuN))))); (· ((apply b_some; (· rfl); (· omega); (· (exact nuN))))); (· (exact ⟨by omega, by omega, by omega⟩)))) | ((with_reducible refine k_slice ?_); (((with_reducible apply s_sliceO); (· rfl); (· (first | exact b_none | (apply b_some; (· rfl); (· omega); (· (exact nuN))))); (· (first | exact b_none | (apply b_some; (· rfl); (· omega); (· (exact nuN))))); (· (omega))))) | ((with_reducible refine k_dreg ?_); refine W_dregM (pre := A73d6a) (suf := A73d6b) rfl rfl rfl rfl ?_; intro K hK) | (with_reducible refine d_nilS ?_) | ((with_reducible refine k_dop ?_); refine d_step (by exact Or.inl rfl) ?_) | (with_reducible refine d_back ?_) | ((with_reducible refine k_br ?_); ((refine Br_f (by omega) ?_))) | (((with_reducible apply q_eqN)); (exact nuN)))
  all_goals first | (exfalso; omega) | skip
  obtain ⟨c1, hc1⟩ : ∃ c1, splice (q.flatMap Rq.vn) (0 + i * 4) (((q.flatMap Rq.vn).drop ((i + 1) * 4)).take ((q.length - (i + 1)) * 4)) = c1 := ⟨_, rfl⟩
  obtain ⟨e1, e2⟩ := eraseq_take hi hc1
  refine s_appIq (n' := q.length - 1) rfl rfl hk rfl (new := ((q.flatMap Rq.vn).drop ((i + 1) * 4)).take ((q.length - (i + 1)) * 4)) ?_ (by omega) (by rw [List.length_take, List.length_drop, hal]; omega) hc1 (by omega) ?_
  · simp only [srcD, hk, true_and]
    rw [if_pos (Nat.le_refl _), if_pos (by omega)]
  repeat' (first | (with_reducible first | refine W_seq ?_ | refine then_n ?_ | refine W_ret ?_) | ((with_reducible refine s_reg ?_); intro K hK) | ((with_reducible refine k_nil ?_); (with_reducible apply s_nil hK); (· exact nmX); clear hK; clear K) | ((with_reducible refine k_mv ?_); (refine s_mv rfl ?_)) | ((with_reducible refine k_len ?_); ((refine s_len rfl rfl ?_))) | ((with_reducible refine k_sliceM ?_); ((with_reducible apply s_sliceM); (· rfl); (· (exact hpX)); (· ((apply b_some; (· rfl); (· omega); (· (exact nuN))))); (· ((apply b_some; (· rfl); (· omega); (· (exact nuN))))); (· (exact ⟨by decide, by omega, by omega⟩)))) | ((with_reducible refine k_clear ?_); ((with_reducible apply s_clear); (· rfl); (· (exact hpX)); (· (omega)); (· ((exact liL))); (· (exact upd_upd)))) | (((with_reducible apply q_eqN)); (exact nuN)))
  all_goals first | (exfalso; omega) | skip
  have hz : q.length - (q.length - 1) = 1 := by omega
  rw [hz]
  have hel : ((q.eraseIdx i).flatMap Rq.vn).length = (q.length - 1) * 4 := by rw [fm_len Rq.vn_len, List.length_eraseIdx_of_lt hi]
  refine ⟨trivial, _, rfl, k, 4, q.length - 1, _, rfl, upd_self, ?_, ?_, ?_⟩
  · rw [e2, List.append_assoc, List.length_append, hel]; omega
  · intro kk hkk
    dsimp only at hkk ⊢
    have hne : kk ≠ k := fun e => by rw [e, upd_self] at hkk; cases hkk
    rw [upd_ne hne] at hkk
    have ed : ∀ c : List D, del (upd h k c) k = del h k := fun c => by
      funext j
      unfold del upd
      split <;> simp_all
    rw [ed, List.append_assoc, List.take_append_of_le_length (by rw [e2, hel]; omega), List.take_take, Nat.min_self, e2]
    exact hQ kk hkk
  · intro h0
    have := congrArg List.length h0
    simp at this
end Go.Proofs.Ythblalidmmbcoaa
end
section
/- min -/
/- A request that completes. -/
set_option linter.unusedSimpArgs false
set_option linter.unusedVariables false
namespace Go.Proofs.Ythblalidmmbcoaa
open Go.AM Classical
set_option maxRecDepth 100000
set_option maxHeartbeats 4000000
theorem delq_k {q : List Rq} {i : Nat} (hi : i < q.length) (hl : q.length ≤ 1000000) {h : Heap} {k : Nat} (hk : h k = some (q.flatMap Rq.vn)) {Q : D → Heap → Prop}
    (hQ : ∀ kk h2, h kk = none → h2 kk = some ((q.eraseIdx i).flatMap Rq.vn) → (∀ j c, h j = some c → k ≠ j → h2 j = some c) → Q (.sl kk 4 0 (q.length - 1)) h2) :
    Con Try.prog 73 [.sl k 4 0 q.length, .int .i64 i, .int .i64 ((i : Int) + 1)] h Q :=
  delq_con hi hl hk fun kk hkk => hQ kk _ hkk upd_self fun j c hj hne => by
    rw [upd_ne (fun e => by rw [e, hkk] at hj; cases hj)]
    exact del_get (Ne.symm hne) hj
theorem rqv {l : List Rq} {i : Nat} (h : i < l.length) : ((l.flatMap Rq.vn).drop (i * 4)).take 4 = [.int .i64 l[i].id, .int .i64 l[i].kind, .int .i64 l[i].block, nD l[i].data] := fm_row Rq.vn_len h
theorem rn_rq {h : Heap} {q : Rq} : Rn h (.agg q.vn) (.agg q.cells) := Rn_ag q.rn
def erD (d : Dv) (p : Nat) : Dv := { d with queue := d.queue.eraseIdx p }
def setC (C : List Ca) (b : Int) (x : Bs) : List Ca := if hasC C b = true then C.set (lbC C b) ⟨b, x⟩ else C.take (lbC C b) ++ [⟨b, x⟩] ++ C.drop (lbC C b)
def fluB : List Bs → List Ca → List Bs
  | B, [] => B
  | B, c :: r => fluB (B.set c.block.toNat c.data) r
def comD (d : Dv) (p : Nat) (q : Rq) (ok : Bool) : Dv :=
  if ok = false then erD d p
  else if q.kind = 2 then { erD d p with cache := setC d.cache q.block q.data }
  else { erD d p with blocks := fluB d.blocks d.cache, cache := [] }
theorem Rd_sov {h : Heap} {d : D} {sz n : Nat} {cs cs' : List D} (ho : SlOwn h d sz cs n) (hr : All2 (Rd h) cs cs') : Rd h d (.vs sz cs' n) := by
  obtain ⟨hl, ⟨rfl, hd⟩ | ⟨k, rfl, hk⟩⟩ := ho
  · have h0 : cs = [] := List.length_eq_zero_iff.1 (by simpa using hl)
    subst h0
    have h1 : cs' = [] := List.length_eq_zero_iff.1 (by have := hr.1; simpa using this.symm)
    subst h1
    rcases hd with rfl | rfl
    · exact Rd_nil
    · exact Rd_emp
  · exact Rd_slR hk hr (by rw [← hr.1]; exact hl)
theorem Ca.rd {h : Heap} (c : Ca) : All2 (Rd h) c.vn c.cells := All2.cons Rd_int (All2.cons Rd_vn All2.nil)
theorem Rq.rd {h : Heap} (c : Rq) : All2 (Rd h) c.vn c.cells := All2.cons Rd_int (All2.cons Rd_int (All2.cons Rd_int (All2.cons Rd_vn All2.nil)))
theorem rd_dvo {h : Heap} {d : Dv} {db dc dq : D} {n : Nat} (ob : SlOwn h db 1 (d.blocks.map nD) d.blocks.length) (oc : SlOwn h dc 2 (d.cache.flatMap Ca.vn) d.cache.length) (oq : SlOwn h dq 4 (d.queue.flatMap Rq.vn) n) (hn : d.queue.length = n) :
    Rd h (.agg [.int .i64 d.depth, .int .i64 d.next, db, dc, dq]) (dvD d) := by
  subst hn
  exact Rd_ag (All2.cons Rd_int (All2.cons Rd_int (All2.cons (Rd_sov ob (All2_map fun _ => Rd_vn)) (All2.cons (Rd_sov oc (All2_fm Ca.rd)) (All2.cons (Rd_sov oq (All2_fm Rq.rd)) All2.nil)))))
theorem dv_rn' {h : Heap} {d : Dv} {db dc dq : D} {n : Nat} (ob : SlOwn h db 1 (d.blocks.map nD) d.blocks.length) (oc : SlOwn h dc 2 (d.cache.flatMap Ca.vn) d.cache.length) (oq : SlOwn h dq 4 (d.queue.flatMap Rq.vn) n) (hn : d.queue.length = n) :
    Rn h (.agg [.int .i64 d.depth, .int .i64 d.next, db, dc, dq]) (dvD d) := by
  subst hn
  exact dv_rn ob oc oq
theorem com_fin {hF : Heap} {k6 k7 k10 k11 : Nat} {db dc dq : D} {d : Dv} {q : Rq} {n : Nat} (b6 : hF k6 = some [.int .i64 0, .int .i64 0, .nil, .nil, .nil]) (b7 : hF k7 = some [.int .i64 0, .int .i64 0, .int .i64 0, .nil])
    (b10 : hF k10 = some [.int .i64 d.depth, .int .i64 d.next, db, dc, dq]) (b11 : hF k11 = some q.vn) (n76 : k7 ≠ k6) (m6 : k6 ≠ k10 ∧ k6 ≠ k11) (m7 : k7 ≠ k10 ∧ k7 ≠ k11)
    (ob : SlOwn hF db 1 (d.blocks.map nD) d.blocks.length) (oc : SlOwn hF dc 2 (d.cache.flatMap Ca.vn) d.cache.length) (oq : SlOwn hF dq 4 (d.queue.flatMap Rq.vn) n) (hn : d.queue.length = n)
    (fb : Fr db k6 ∧ Fr db k7) (fc : Fr dc k6 ∧ Fr dc k7) (fq : Fr dq k6 ∧ Fr dq k7) :
    W Try.prog (.oreg A58o36 [[], [], [0], [0, 1, 2], [0, 1, 2, 3]] [6, 7, 8]) (X.then (W Try.prog .ret (AM.Fin [.cell 6 true 5, .cell 7 true 4, .tmp 8] (.tup [dvD d, .agg q.cells, .int .i64 0]))) (AM.Fin [.cell 6 true 5, .cell 7 true 4, .tmp 8] (.tup [dvD d, .agg q.cells, .int .i64 0])))
      ⟨[(6, .pt k6 0), (7, .pt k7 0), (10, .pt k10 0), (11, .pt k11 0)], hF⟩ := by
  dsimp only [Rq.vn] at b11
  have n1 := m6.1
  have n2 := m6.2
  have n3 := m7.1
  have n4 := m7.2
  repeat' (first | (with_reducible first | refine then_n ?_ | refine W_ret ?_) | ((with_reducible refine k_mv ?_); (refine s_mv rfl ?_)) | ((with_reducible refine k_loadA ?_); (((with_reducible apply s_loadAP); (· rfl); (· (exact hpX)); (· (exact Nat.le_of_ble_eq_true rfl))))) | ((with_reducible refine k_store ?_); ((with_reducible apply s_store0); (· rfl); (· rfl); (· rfl); (· (exact hpX)); (· (exact ⟨rfl, by exact Nat.le_of_ble_eq_true rfl⟩)); (· ((exact liL))); (· (rfl)))) | (with_reducible refine o_step ?_) | (with_reducible exact o_nil) | ((with_reducible apply o_end hK); (· exact nmX); clear hK; (try clear hR); clear K) | ((with_reducible refine k_oreg ?_); refine s_oreg (ops := A58o36) (n := 5) (rm := [0, 1, 2, 3, 4]) rfl rfl ?_; intro K hK hR) | ((with_reducible refine k_any ?_); (refine o_pure (ops := A58o36) (i := 4) hR rfl rfl (by (simp only [List.filter_cons, List.filter_nil, Nat.reduceBEq, beq_self_eq_true, Bool.not_true, Bool.not_false, Bool.false_eq_true, if_true, if_false, ↓reduceIte]; rfl)) rfl ?_)) | (with_reducible refine o_node ?_) | (refine o_skip rfl ?_) | ((with_reducible apply o_cons); (· rfl); (· (simp only [List.filter_cons, List.filter_nil, Nat.reduceBEq, beq_self_eq_true, Bool.not_true, Bool.not_false, Bool.false_eq_true, if_true, if_false, ↓reduceIte]; rfl))) | (((with_reducible apply q_eqL)); (exact liL)))
  all_goals first | (exfalso; omega) | skip
  all_goals
    refine Fin_tupN trivial (by simp [resD, resL, AM.get, upd_self, upd_ne n76.symm, memAt, ldD] <;> rfl) (All2.cons (dv_rn' (so_put (so_put ob fb.1) fb.2) (so_put (so_put oc fc.1) fc.2) (so_put (so_put oq fq.1) fq.2) hn) (All2.cons rn_rq (All2.cons (Rn_scal rfl) All2.nil))) rfl
theorem cas_set {C : List Ca} {i : Nat} (hi : i < C.length) (c : Ca) : (C.flatMap Ca.vn).take (i * 2) ++ c.vn ++ (C.flatMap Ca.vn).drop (i * 2 + 2) = (C.set i c).flatMap Ca.vn := by
  rw [fm_takeq Ca.vn_len (by omega), show i * 2 + 2 = (i + 1) * 2 by omega, fm_drop Ca.vn_len, List.set_eq_take_append_cons_drop, if_pos hi]
  simp
theorem cas_ins {C : List Ca} {i : Nat} (hi : i ≤ C.length) (c : Ca) : (C.flatMap Ca.vn).take (i * 2) ++ c.vn ++ (C.flatMap Ca.vn).drop (i * 2) = (C.take i ++ [c] ++ C.drop i).flatMap Ca.vn := by
  rw [fm_takeq Ca.vn_len hi, fm_drop Ca.vn_len]
  simp
theorem ins_len {C : List Ca} {i : Nat} (hi : i ≤ C.length) (c : Ca) : (C.take i ++ [c] ++ C.drop i).length = C.length + 1 := by simp; omega
theorem fluB_len : ∀ (B : List Bs) (C : List Ca), (fluB B C).length = B.length
  | B, [] => rfl
  | B, c :: r => by show (fluB (B.set c.block.toNat c.data) r).length = _; rw [fluB_len]; simp
theorem fluB_app : ∀ (B : List Bs) (C : List Ca) (c : Ca), fluB B (C ++ [c]) = (fluB B C).set c.block.toNat c.data
  | B, [], c => rfl
  | B, a :: r, c => fluB_app (B.set a.block.toNat a.data) r c
theorem flu_step {B : List Bs} {C : List Ca} {i : Nat} (hi : i < C.length) : fluB B (C.take (i + 1)) = (fluB B (C.take i)).set C[i].block.toNat C[i].data := by
  rw [take_s hi, fluB_app]
theorem cav {l : List Ca} {i : Nat} (h : i < l.length) : ((l.flatMap Ca.vn).drop (i * 2)).take 2 = [.int .i64 l[i].block, nD l[i].data] := fm_row Ca.vn_len h
theorem set_map {B : List Bs} {n : Nat} {x : Bs} (h : n < B.length) : (B.map nD).take n ++ [nD x] ++ (B.map nD).drop (n + 1) = (B.set n x).map nD := by
  rw [List.map_set, List.set_eq_take_append_cons_drop, if_pos (by simpa using h)]
  simp
theorem complete_c (d : Dv) (ok : DvOk d) (p : Nat) (hp : p < d.queue.length) (hk23 : d.queue[p].kind = 2 ∨ d.queue[p].kind = 3) (o : Bool) :
    PCon Try.prog 58 [dvD d, .int .i64 p, .bool o] (.tup [dvD (comD d p d.queue[p] o), .agg d.queue[p].cells, .int .i64 0]) := by
  have c1 := dcheck_d _ ok
  have c2 := fun h {Q} => @clone_k _ ok h Q
  have hq := ok.req _ (List.getElem_mem hp)
  have hrow := rqv hp
  have hQl := fm_len Rq.vn_len d.queue
  have hfull := ok.full
  have hdep := ok.depth
  generalize hqe : d.queue[p] = q at *
  obtain ⟨depth, next, B, C, Qu⟩ := d
  obtain ⟨q1, q2, q3, q4⟩ := q
  dsimp only [comD, erD] at *
  replace hp : p < Qu.length := hp
  refine A58p (by simp [A58]) ?_
  simp only [A58, argEnv]
  repeat' (first | (with_reducible first | refine W_seq ?_ | refine then_n ?_ | refine W_skip ?_) | ((with_reducible refine s_reg ?_); intro K hK) | ((with_reducible refine k_nil ?_); (with_reducible apply s_nil hK); (· exact nmX); clear hK; clear K) | ((with_reducible refine k_cond ?_); (((with_reducible apply s_condF); (· rfl); (· exact nmX)))) | ((with_reducible refine k_guard ?_); ((refine s_gt rfl ?_))) | ((with_reducible refine k_mv ?_); (refine s_mv rfl ?_)) | ((with_reducible refine k_len ?_); ((refine s_len rfl rfl ?_))) | ((with_reducible refine k_pick ?_); ((refine s_pickF rfl rfl ?_))) | ((with_reducible refine k_neq ?_); ((refine s_neq rfl rfl ?_))) | ((with_reducible refine k_lss ?_); (refine s_lss rfl rfl ?_)) | ((with_reducible refine k_geq ?_); (refine s_geq rfl rfl ?_)) | ((with_reducible refine k_load ?_); (((with_reducible apply s_loadP); (· rfl); (· (exact hpX))))) | ((with_reducible refine k_loadA ?_); (((with_reducible apply s_loadAP); (· rfl); (· (exact hpX)); (· (exact Nat.le_of_ble_eq_true rfl))))) | ((with_reducible refine k_store ?_); ((with_reducible apply s_store0); (· rfl); (· rfl); (· rfl); (· (exact hpX)); (· (exact ⟨rfl, by exact Nat.le_of_ble_eq_true rfl⟩)); (· ((exact liL))); (· (exact upd_upd)))) | ((with_reducible refine k_faddr ?_); (((with_reducible apply s_faddrP); (· rfl); (· rfl)))) | ((with_reducible refine k_alloc (dst := some 6) ?_); ((with_reducible apply s_alloc); intro k6 hk6; (try simp only [upd_none] at hk6))) | ((with_reducible refine k_alloc (dst := some 7) ?_); ((with_reducible apply s_alloc); intro k7 hk7; (try simp only [upd_none] at hk7))) | ((with_reducible refine k_alloc (dst := some 10) ?_); ((with_reducible apply s_alloc); intro k10 hk10; (try simp only [upd_none] at hk10))) | ((with_reducible refine k_box (dst := some 3) ?_); ((with_reducible apply s_box); (· rfl); (· rfl); intro k3 hk3; (try simp only [upd_none] at hk3))) | ((with_reducible refine k_callF ?_); (((with_reducible apply s_call1); (· rfl)))) | ((with_reducible refine k_con ?_); (first | ((with_reducible apply con_val (c1)); (· (repeat (first | exact All2.nil | (apply All2.cons; (· first | exact Rd_dv))))); (· rfl); (· exact fun _ => rfl)) | (refine c2 _ ?_; intro h2 db dc dq H))) | ((with_reducible refine k_br ?_); (first | (refine Br_t (by with_reducible rfl) ?_) | (refine Br_f (by omega) ?_))) | ((first | (with_reducible apply q_eqL) | (with_reducible apply q_eqO)); (first | exact liL | exact liO)))
  all_goals first | (exfalso; omega) | skip
  obtain ⟨g6, i6b, i6c, i6q⟩ := H.old k6 _ (by rw [upd_ne hk7.1.symm]; exact upd_self)
  obtain ⟨g7, i7b, i7c, i7q⟩ := H.old k7 _ upd_self
  have n76 := hk7.1
  obtain ⟨_, ⟨h0, _⟩ | ⟨kq, rfl, hkq⟩⟩ := H.oq
  · dsimp only at h0; omega
  have hob := H.ob
  have hoc := H.oc
  have fqb : Fr db kq := fun s o n e => H.bc _ _ _ _ e |>.2 _ _ _ rfl
  have fqc : Fr dc kq := fun s o n e => H.cq _ _ _ _ e _ _ _ rfl
  have fbc : ∀ k s o n, db = .sl k s o n → Fr dc k := fun k s o n e => (H.bc k s o n e).1
  dsimp only at hob hoc hkq
  clear H c1 c2 hk7 hk6
  repeat' (first | (with_reducible first | refine W_seq ?_ | refine then_n ?_) | ((with_reducible refine s_reg ?_); intro K hK) | ((with_reducible refine k_nil ?_); (with_reducible apply s_nil hK); (· exact nmX); clear hK; clear K) | ((with_reducible refine k_mv ?_); (refine s_mv rfl ?_)) | ((with_reducible refine k_iaddr ?_); (((with_reducible apply s_iaddrO); (· rfl); (· rfl); (· (omega)); (· (exact hpX))))) | ((with_reducible refine k_load ?_); (((with_reducible apply s_loadP); (· rfl); (· (exact hpX))))) | ((with_reducible refine k_loadA ?_); (((with_reducible apply s_loadAP); (· rfl); (· (exact hpX)); (· (omega))))) | ((with_reducible refine k_store ?_); ((with_reducible apply s_store0); (· rfl); (· rfl); (· rfl); (· (exact hpX)); (· (exact ⟨rfl, by exact Nat.le_of_ble_eq_true rfl⟩)); (· (((simp (disch := omega) only [upd_self, upd_ne, upd_upd, rep, splice, List.take_succ_cons, List.take_zero, List.drop_succ_cons, List.drop_zero, List.cons_append, List.nil_append, List.append_nil, List.length_cons, List.length_nil, List.reduceReplicate, List.flatten_cons, List.flatten_nil, Nat.reduceAdd, Nat.reduceMul, Nat.reduceSub, Nat.zero_add, Nat.add_zero, List.getElem?_cons_zero, List.getElem?_cons_succ, hrow, Int.toNat_natCast]; try rfl; done)))); (· (exact upd_upd)))) | ((with_reducible refine k_faddr ?_); (((with_reducible apply s_faddrP); (· rfl); (· rfl)))) | ((with_reducible refine k_alloc (dst := some 11) ?_); ((with_reducible apply s_alloc); intro k11 hk11; (try simp only [upd_none] at hk11))) | (((with_reducible apply q_eqN)); ((simp (disch := omega) only [w64, wu8, wu16, wu32, wu64, tm_nn, td_nn, fd_nn, Int.reduceAdd, Int.reduceSub, Int.reduceMul, Int.reduceDiv, Int.reduceMod, Int.reduceNeg, Int.reduceToNat, Int.toNat_natCast, Int.toNat_zero, Int.zero_add, Int.add_zero, Int.one_mul, Int.reducePow, Nat.mul_one, Nat.zero_add, Nat.add_zero, Nat.zero_mul, Nat.reduceAdd, Nat.reduceMul, Nat.reduceSub, Nat.min_eq_left, IntKind.bits, Nat.sub_zero, hrow, Int.toNat_natCast]; try rfl; done))) | ((first | (with_reducible apply q_eqL) | (with_reducible apply q_eqO)); ((simp (disch := omega) only [upd_self, upd_ne, upd_upd, rep, splice, List.take_succ_cons, List.take_zero, List.drop_succ_cons, List.drop_zero, List.cons_append, List.nil_append, List.append_nil, List.length_cons, List.length_nil, List.reduceReplicate, List.flatten_cons, List.flatten_nil, Nat.reduceAdd, Nat.reduceMul, Nat.reduceSub, Nat.zero_add, Nat.add_zero, List.getElem?_cons_zero, List.getElem?_cons_succ, hrow, Int.toNat_natCast]; try rfl; done))))
  all_goals first | (exfalso; omega) | skip
  dsimp only at *
  have q16 : Qu.length ≤ 16 := by omega
  obtain ⟨n1110, hk11⟩ := hk11
  have fresh : ∀ {x : Nat} {c : List D}, h2 x = some c → x ≠ k10 ∧ x ≠ k11 := fun {x c} hx => ⟨(fun e => by rw [e, hk10] at hx; cases hx), (fun e => by rw [e, hk11] at hx; cases hx)⟩
  have sub : ∀ {x : Nat} {c : List D}, h2 x = some c → (upd (upd h2 k10 [.int .i64 depth, .int .i64 next, db, dc, .sl kq 4 0 Qu.length]) k11 [.int .i64 q1, .int .i64 q2, .int .i64 q3, nD q4]) x = some c := fun {x c} hx => by rw [upd_ne (fresh hx).2, upd_ne (fresh hx).1]; exact hx
  have e10 : (upd (upd h2 k10 [.int .i64 depth, .int .i64 next, db, dc, .sl kq 4 0 Qu.length]) k11 [.int .i64 q1, .int .i64 q2, .int .i64 q3, nD q4]) k10 = some [.int .i64 depth, .int .i64 next, db, dc, .sl kq 4 0 Qu.length] := by rw [upd_ne n1110.symm]; exact upd_self
  have e11 : (upd (upd h2 k10 [.int .i64 depth, .int .i64 next, db, dc, .sl kq 4 0 Qu.length]) k11 [.int .i64 q1, .int .i64 q2, .int .i64 q3, nD q4]) k11 = some [.int .i64 q1, .int .i64 q2, .int .i64 q3, nD q4] := upd_self
  have e6 := sub g6
  have e7 := sub g7
  have eq := sub hkq
  have eob := so_mv (h2 := upd (upd h2 k10 [.int .i64 depth, .int .i64 next, db, dc, .sl kq 4 0 Qu.length]) k11 [.int .i64 q1, .int .i64 q2, .int .i64 q3, nD q4]) hob fun k s o m e c hc => sub hc
  have eoc := so_mv (h2 := upd (upd h2 k10 [.int .i64 depth, .int .i64 next, db, dc, .sl kq 4 0 Qu.length]) k11 [.int .i64 q1, .int .i64 q2, .int .i64 q3, nD q4]) hoc fun k s o m e c hc => sub hc
  have f10 : Fr db k10 := fun s o n e => by obtain ⟨c', hc'⟩ := so_live hob e; rw [hk10] at hc'; cases hc'
  have f11 : Fr db k11 := fun s o n e => by obtain ⟨c', hc'⟩ := so_live hob e; rw [hk11] at hc'; cases hc'
  have h10 : Fr dc k10 := fun s o n e => by obtain ⟨c', hc'⟩ := so_live hoc e; rw [hk10] at hc'; cases hc'
  have h11 : Fr dc k11 := fun s o n e => by obtain ⟨c', hc'⟩ := so_live hoc e; rw [hk11] at hc'; cases hc'
  have m6 := fresh g6
  have m7 := fresh g7
  have mq := fresh hkq
  have nq6 : kq ≠ k6 := fun e => i6q _ _ _ (by rw [e])
  have nq7 : kq ≠ k7 := fun e => i7q _ _ _ (by rw [e])
  clear sub fresh hob hoc g6 g7 hkq hk10 hk11
  generalize upd (upd h2 k10 [.int .i64 depth, .int .i64 next, db, dc, .sl kq 4 0 Qu.length]) k11 [.int .i64 q1, .int .i64 q2, .int .i64 q3, nD q4] = hA at *
  repeat' (first | ((with_reducible refine k_add ?_); ((with_reducible apply s_add); (· rfl); (· rfl))) | ((with_reducible refine k_faddr ?_); (((with_reducible apply s_faddrP); (· rfl); (· rfl)))) | ((with_reducible refine k_callF ?_); (((with_reducible apply s_call1); (· rfl)))) | ((with_reducible refine k_con ?_); ((refine delq_k hp (by omega) eq ?_; intro kd hB hkd ekd sB))) | (((with_reducible apply q_eqI)); (exact nuI)))
  all_goals first | (exfalso; omega) | skip
  have lq : (Qu.eraseIdx p).length = Qu.length - 1 := List.length_eraseIdx_of_lt hp
  have b10 := sB _ _ e10 mq.1
  have b11 := sB _ _ e11 mq.2
  have b6 := sB _ _ e6 nq6
  have b7 := sB _ _ e7 nq7
  have bob := so_mv (h2 := hB) eob fun k s o m e c hc => sB _ _ hc fun e2 => fqb s o m (by rw [e, e2])
  have boc := so_mv (h2 := hB) eoc fun k s o m e c hc => sB _ _ hc fun e2 => fqc s o m (by rw [e, e2])
  have fdb : Fr db kd := fun s o n e => by obtain ⟨c', hc'⟩ := so_live eob e; rw [hkd] at hc'; cases hc'
  have fdc : Fr dc kd := fun s o n e => by obtain ⟨c', hc'⟩ := so_live eoc e; rw [hkd] at hc'; cases hc'
  have d10 : kd ≠ k10 := fun e => by rw [e, e10] at hkd; cases hkd
  have d11 : kd ≠ k11 := fun e => by rw [e, e11] at hkd; cases hkd
  have d6 : kd ≠ k6 := fun e => by rw [e, e6] at hkd; cases hkd
  have d7 : kd ≠ k7 := fun e => by rw [e, e7] at hkd; cases hkd
  clear sB e10 e11 e6 e7 eq eob eoc hkd i6q i7q fqb fqc nq6 nq7 mq hA
  repeat' (first | (with_reducible first | refine W_seq ?_ | refine then_n ?_) | ((with_reducible refine s_reg ?_); intro K hK) | ((with_reducible refine k_nil ?_); (with_reducible apply s_nil hK); (· exact nmX); clear hK; clear K) | ((with_reducible refine k_mv ?_); (refine s_mv rfl ?_)) | ((with_reducible refine k_store ?_); ((with_reducible apply s_store0); (· rfl); (· rfl); (· rfl); (· (exact hpX)); (· (exact ⟨rfl, by exact Nat.le_of_ble_eq_true rfl⟩)); (· ((exact liL))); (· (rfl)))))
  all_goals first | (exfalso; omega) | skip
  have boq : SlOwn (upd hB k10 [.int .i64 depth, .int .i64 next, db, dc, .sl kd 4 0 (Qu.length - 1)]) (.sl kd 4 0 (Qu.length - 1)) 4 ((Qu.eraseIdx p).flatMap Rq.vn) (Qu.length - 1) := so_put (SlOwn.sl ekd (by rw [fm_len Rq.vn_len, lq])) (Fr.sl d10)
  replace bob := so_put (c := [.int .i64 depth, .int .i64 next, db, dc, .sl kd 4 0 (Qu.length - 1)]) bob f10
  replace boc := so_put (c := [.int .i64 depth, .int .i64 next, db, dc, .sl kd 4 0 (Qu.length - 1)]) boc h10
  replace b11 : upd hB k10 [.int .i64 depth, .int .i64 next, db, dc, .sl kd 4 0 (Qu.length - 1)] k11 = _ := (upd_ne n1110).trans b11
  replace b6 : upd hB k10 [.int .i64 depth, .int .i64 next, db, dc, .sl kd 4 0 (Qu.length - 1)] k6 = _ := (upd_ne m6.1).trans b6
  replace b7 : upd hB k10 [.int .i64 depth, .int .i64 next, db, dc, .sl kd 4 0 (Qu.length - 1)] k7 = _ := (upd_ne m7.1).trans b7
  replace b10 : upd hB k10 [.int .i64 depth, .int .i64 next, db, dc, .sl kd 4 0 (Qu.length - 1)] k10 = _ := upd_self
  clear ekd
  generalize upd hB k10 [.int .i64 depth, .int .i64 next, db, dc, .sl kd 4 0 (Qu.length - 1)] = h at *
  cases o with
  | false =>
    repeat' (first | (with_reducible first | refine W_seq ?_ | refine then_n ?_ | refine W_ret ?_ | refine then_r ?_) | ((with_reducible refine k_nil ?_); (with_reducible apply s_nil hK); (· exact nmX); clear hK; clear K) | ((with_reducible refine k_cond ?_); (((with_reducible apply s_condT); (· rfl); (· exact nmX)))) | ((with_reducible refine k_mv ?_); (refine s_mv rfl ?_)) | ((with_reducible refine k_not ?_); (refine s_not rfl (by exact Bool.not_false) ?_)) | ((with_reducible refine k_loadA ?_); (((with_reducible apply s_loadAP); (· rfl); (· (exact hpX)); (· (exact Nat.le_of_ble_eq_true rfl))))) | ((with_reducible refine k_store ?_); ((with_reducible apply s_store0); (· rfl); (· rfl); (· rfl); (· (exact hpX)); (· (exact ⟨rfl, by exact Nat.le_of_ble_eq_true rfl⟩)); (· ((exact liL))); (· (rfl)))) | (with_reducible refine o_step ?_) | (with_reducible exact o_nil) | ((with_reducible apply o_end hK); (· exact nmX); clear hK; (try clear hR); clear K) | ((with_reducible refine k_oreg ?_); refine s_oreg (ops := A58o11) (n := 5) (rm := [0, 1, 2, 3, 4]) rfl rfl ?_; intro K hK hR) | ((with_reducible refine k_any ?_); (refine o_pure (ops := A58o11) (i := 4) hR rfl rfl (by (simp only [List.filter_cons, List.filter_nil, Nat.reduceBEq, beq_self_eq_true, Bool.not_true, Bool.not_false, Bool.false_eq_true, if_true, if_false, ↓reduceIte]; rfl)) rfl ?_)) | (with_reducible refine o_node ?_) | (refine o_skip rfl ?_) | ((with_reducible apply o_cons); (· rfl); (· (simp only [List.filter_cons, List.filter_nil, Nat.reduceBEq, beq_self_eq_true, Bool.not_true, Bool.not_false, Bool.false_eq_true, if_true, if_false, ↓reduceIte]; rfl))) | (((with_reducible apply q_eqL)); (exact liL)))
    all_goals first | (exfalso; omega) | skip
    all_goals
      rw [if_pos rfl]
      refine Fin_tupN trivial (by simp [resD, resL, AM.get, upd_self, upd_ne n76.symm, memAt, ldD] <;> rfl) (All2.cons (dv_rn' (d := ⟨depth, next, B, C, Qu.eraseIdx p⟩) (so_put (so_put bob i6b) i7b) (so_put (so_put boc i6c) i7c) (so_put (so_put boq (Fr.sl d6)) (Fr.sl d7)) lq) (All2.cons rn_rq (All2.cons (Rn_scal rfl) All2.nil))) rfl
  | true =>
    rcases hk23 with rfl | rfl
    · have hq3 := hq.2.2.1 (show ((2 : Int) ≠ 3) by decide)
      have hq4 : q4.length = 32 := hq.2.2.2.1 rfl
      have hbl := ok.blocks
      have hcs := ok.csmall
      dsimp only at hq3 hbl hcs
      have c3 := find_w ⟨depth, next, B, C, Qu.eraseIdx p⟩ hbl.2 ok.ord ok.csmall q3 (by omega)
      have c4 := bclone_v q4 (by omega)
      have hle := lbC_le C q3
      dsimp only at c3
      obtain ⟨i, hie⟩ : ∃ i, lbC C q3 = i := ⟨_, rfl⟩
      cases hh : hasC C q3 with
      | true =>
        obtain ⟨hlt, _⟩ := hasC_t hh
        rw [hh, hie] at c3
        rw [hie] at hlt hle
        obtain ⟨_, ⟨h0, _⟩ | ⟨kc, rfl, hkc⟩⟩ := boc
        · omega
        repeat' (first | (with_reducible first | refine W_seq ?_ | refine then_n ?_ | refine W_block ?_ | refine blk_n ?_ | refine W_skip ?_) | ((with_reducible refine s_reg ?_); intro K hK) | ((with_reducible refine k_nil ?_); (with_reducible apply s_nil hK); (· exact nmX); clear hK; clear K) | ((with_reducible refine k_cond ?_); (first | ((with_reducible apply s_condT); (· rfl); (· exact nmX)) | ((with_reducible apply s_condF); (· rfl); (· exact nmX)))) | ((with_reducible refine k_mv ?_); (refine s_mv rfl ?_)) | ((with_reducible refine k_extract ?_); (refine s_extract rfl rfl ?_)) | ((with_reducible refine k_not ?_); (refine s_not rfl (by exact Bool.not_true) ?_)) | ((with_reducible refine k_eql ?_); ((refine s_eql rfl rfl ?_))) | ((with_reducible refine k_iaddr ?_); (((with_reducible apply s_iaddrO); (· rfl); (· rfl); (· (omega)); (· (exact hpX))))) | ((with_reducible refine k_load ?_); (((with_reducible apply s_loadP); (· rfl); (· (exact hpX))))) | ((with_reducible refine k_loadA ?_); (((with_reducible apply s_loadAP); (· rfl); (· (exact hpX)); (· (exact Nat.le_of_ble_eq_true rfl))))) | ((with_reducible refine k_store ?_); ((with_reducible apply s_store0); (· rfl); (· rfl); (· rfl); (· (exact hpX)); (· (exact ⟨rfl, by first | exact Nat.le_of_ble_eq_true rfl | omega⟩)); (· ((exact liL))); (· (first | exact upd_upd | rfl)))) | ((with_reducible refine k_faddr ?_); (((with_reducible apply s_faddrP); (· rfl); (· rfl)))) | ((with_reducible refine k_alloc (dst := some 12) ?_); ((with_reducible apply s_alloc); intro k12 hk12; (try simp only [upd_none] at hk12))) | ((with_reducible refine k_build ?_); ((with_reducible apply s_build); (· rfl); (· rfl))) | ((with_reducible refine k_callF ?_); (((with_reducible apply s_call1); (· rfl)))) | ((with_reducible refine k_con ?_); (((with_reducible apply con_val (c3)); (· (repeat (first | exact All2.nil | (apply All2.cons; (· first | exact rd_dvo (d := ⟨depth, next, B, C, Qu.eraseIdx p⟩) (slSub bob (upd_sub hk12)) (slSub (SlOwn.sl hkc (by assumption)) (upd_sub hk12)) (slSub boq (upd_sub hk12)) lq | exact rdX))))); (· rfl); (· exact fun _ => rfl)))) | ((with_reducible refine k_dreg ?_); refine W_dregM (pre := A58d17a) (suf := A58d17b) rfl rfl rfl rfl ?_; intro K hK) | (with_reducible refine d_nilS ?_) | ((with_reducible refine k_dcall ?_); (((with_reducible apply d_callN); (· rfl); (· exact c4); (· (repeat (first | exact All2.nil | (apply All2.cons; (· first | exact rdX))))); simp only [unow, unowC, List.map, vnw, vnC, vnC1]))) | ((with_reducible refine k_dop ?_); refine d_step (by first | exact Or.inl rfl | exact Or.inr rfl) ?_) | (with_reducible refine d_back ?_) | ((with_reducible refine k_br ?_); (first | (refine Br_t (by with_reducible rfl) ?_) | (refine Br_f (by omega) ?_))) | (((with_reducible apply q_eqN)); (exact nuN)) | ((first | (with_reducible apply q_eqL) | (with_reducible apply q_eqO)); (first | exact liL | exact liO)))
        all_goals first | (exfalso; omega) | skip
        have nk6 : kc ≠ k6 := fun e => i6c _ _ _ (by rw [e])
        have nk7 : kc ≠ k7 := fun e => i7c _ _ _ (by rw [e])
        have nk10 : kc ≠ k10 := fun e => h10 _ _ _ (by rw [e])
        have nk11 : kc ≠ k11 := fun e => h11 _ _ _ (by rw [e])
        have nkd : kc ≠ kd := fun e => fdc _ _ _ (by rw [e])
        have fkb : Fr db kc := fun s o n e => fbc _ _ _ _ e _ _ _ rfl
        have sub : ∀ {x : Nat} {c : List D} (y : List D), kc ≠ x → h x = some c → (upd (upd h k12 [.int .i64 q3, nD q4]) kc y) x = some c := fun {x c} y hne hx => by rw [upd_ne (Ne.symm hne)]; exact upd_sub hk12 _ _ hx
        rw [if_neg (by simp), if_pos rfl, show setC C q3 q4 = C.set i ⟨q3, q4⟩ by unfold setC; rw [if_pos hh, hie]]
        refine com_fin (d := ⟨depth, next, B, C.set i ⟨q3, q4⟩, Qu.eraseIdx p⟩) (q := ⟨q1, 2, q3, q4⟩) (sub _ nk6 b6) (sub _ nk7 b7) (sub _ nk10 b10) (sub _ nk11 b11) n76 m6 m7 (so_put (slSub bob (upd_sub hk12)) fkb) ?_ (so_put (slSub boq (upd_sub hk12)) (Fr.sl nkd.symm)) lq ⟨i6b, i7b⟩ ⟨i6c, i7c⟩ ⟨Fr.sl d6, Fr.sl d7⟩
        have hset := cas_set hlt ⟨q3, q4⟩
        dsimp only [Ca.vn] at hset
        dsimp only
        rw [hset, show C.length = (C.set i ⟨q3, q4⟩).length by simp]
        exact SlOwn.sl upd_self (fm_len Ca.vn_len _)
      | false =>
        rw [hh, hie] at c3
        rw [hie] at hle
        repeat' (first | (with_reducible first | refine W_seq ?_ | refine then_n ?_ | refine W_block ?_ | refine W_skip ?_) | ((with_reducible refine s_reg ?_); intro K hK) | ((with_reducible refine k_nil ?_); (with_reducible apply s_nil hK); (· exact nmX); clear hK; clear K) | ((with_reducible refine k_cond ?_); (first | ((with_reducible apply s_condT); (· rfl); (· exact nmX)) | ((with_reducible apply s_condF); (· rfl); (· exact nmX)))) | ((with_reducible refine k_mv ?_); (refine s_mv rfl ?_)) | ((with_reducible refine k_extract ?_); (refine s_extract rfl rfl ?_)) | ((with_reducible refine k_not ?_); (refine s_not rfl (by exact Bool.not_true) ?_)) | ((with_reducible refine k_eql ?_); ((refine s_eql rfl rfl ?_))) | ((with_reducible refine k_load ?_); (((with_reducible apply s_loadP); (· rfl); (· (exact hpX))))) | ((with_reducible refine k_loadA ?_); (((with_reducible apply s_loadAP); (· rfl); (· (exact hpX)); (· (exact Nat.le_of_ble_eq_true rfl))))) | ((with_reducible refine k_store ?_); ((with_reducible apply s_store0); (· rfl); (· rfl); (· rfl); (· (exact hpX)); (· (exact ⟨rfl, by exact Nat.le_of_ble_eq_true rfl⟩)); (· ((exact liL))); (· (exact upd_upd)))) | ((with_reducible refine k_faddr ?_); (((with_reducible apply s_faddrP); (· rfl); (· rfl)))) | ((with_reducible refine k_alloc (dst := some 12) ?_); ((with_reducible apply s_alloc); intro k12 hk12; (try simp only [upd_none] at hk12))) | ((with_reducible refine k_build ?_); ((with_reducible apply s_build); (· rfl); (· rfl))) | ((with_reducible refine k_buildS (dst := some 87) ?_); ((with_reducible apply s_buildS); (· rfl); (· (exact ⟨rfl, by decide⟩)); (· ((simp only [fillB, rep, splice, List.reduceReplicate, List.flatten_cons, List.flatten_nil, List.cons_append, List.nil_append, List.append_nil, List.length_cons, List.length_nil, Nat.reduceAdd, Nat.reduceMul, Nat.reduceLeDiff, Nat.reduceEqDiff, eq_self, Nat.le_refl, Nat.zero_add, and_self, and_true, true_and, if_true, List.take_zero, List.take_succ_cons, List.drop_zero, List.drop_succ_cons, List.drop_nil, List.take_nil]; rfl))); intro k87 hk87; (try simp only [upd_none] at hk87))) | ((with_reducible refine k_callF ?_); (((with_reducible apply s_call1); (· rfl)))) | ((with_reducible refine k_con ?_); (((with_reducible apply con_val (c3)); (· (repeat (first | exact All2.nil | (apply All2.cons; (· first | exact rd_dvo (d := ⟨depth, next, B, C, Qu.eraseIdx p⟩) (slSub bob (upd_sub hk12)) (slSub boc (upd_sub hk12)) (slSub boq (upd_sub hk12)) lq | exact rdX))))); (· rfl); (· exact fun _ => rfl)))) | ((with_reducible refine k_dreg ?_); refine W_dregM (pre := A58d17a) (suf := A58d17b) rfl rfl rfl rfl ?_; intro K hK) | (with_reducible refine d_nilS ?_) | ((with_reducible refine k_dcall ?_); (((with_reducible apply d_callN); (· rfl); (· exact c4); (· (repeat (first | exact All2.nil | (apply All2.cons; (· first | exact rdX))))); simp only [unow, unowC, List.map, vnw, vnC, vnC1]))) | ((with_reducible refine k_dop ?_); refine d_step (by first | exact Or.inl rfl | exact Or.inr rfl) ?_) | (with_reducible refine d_back ?_) | ((with_reducible refine k_br ?_); (first | (refine Br_t (by with_reducible rfl) ?_) | (refine Br_f (by omega) ?_))) | ((first | (with_reducible apply q_eqL) | (with_reducible apply q_eqO)); (first | exact liL | exact liO)))
        all_goals first | (exfalso; omega) | skip
        have hk87' : upd h k12 [.int .i64 q3, nD q4] k87 = none := by rw [upd_ne hk87.1]; exact hk87.2
        have s12 : ∀ {x : Nat} {c : List D}, h x = some c → (upd (upd h k12 [.int .i64 q3, nD q4]) k87 [.int .i64 q3, nD q4]) x = some c := fun {x c} hx => upd_sub hk87' _ _ (upd_sub hk12 _ _ hx)
        have fcv : Fr dc k87 := fun s o n e => by obtain ⟨c', hc'⟩ := so_live boc e; rw [hk87.2] at hc'; cases hc'
        refine ins_any (so_mv boc fun _ _ _ _ _ _ hc => s12 hc) upd_self fcv hle (by omega) fun kk hC hkk ekk sC => ?_
        have sC' : ∀ {x : Nat} {c : List D}, h x = some c → Fr dc x → hC x = some c := fun {x c} hx hf => sC _ _ (s12 hx) hf
        have e6 := sC' b6 i6c
        have e7 := sC' b7 i7c
        have e10 := sC' b10 h10
        have e11 := sC' b11 h11
        have eob := so_mv (h2 := hC) bob fun k s o m e c hc => sC' hc (fbc _ _ _ _ e)
        have eoq := so_mv (h2 := hC) boq fun k s o m e c hc => sC' hc (by injection e with e; subst e; exact fdc)
        have live : ∀ {x : Nat} {c : List D}, h x = some c → kk ≠ x := fun {x c} hx e => by rw [← e] at hx; rw [s12 hx] at hkk; cases hkk
        have v6 := live b6
        have v7 := live b7
        have v10 := live b10
        have vb : Fr db kk := fun s o n e => by obtain ⟨c', hc'⟩ := so_live bob e; exact live hc' rfl
        have vq : kd ≠ kk := fun e => by obtain ⟨c', hc'⟩ := so_live boq rfl; exact live hc' e.symm
        have hset := cas_ins hle ⟨q3, q4⟩
        dsimp only [Ca.vn] at hset
        rw [hset] at ekk
        clear sC sC' s12 live hk87 hk87' hkk b6 b7 b10 b11 bob boc boq c3 c4
        repeat' (first | (with_reducible first | refine W_seq ?_ | refine then_n ?_ | refine blk_n ?_) | ((with_reducible refine k_nil ?_); (with_reducible apply s_nil hK); (· exact nmX); clear hK; clear K) | ((with_reducible refine k_store ?_); ((with_reducible apply s_store0); (· rfl); (· rfl); (· rfl); (· (exact hpX)); (· (exact ⟨rfl, by exact Nat.le_of_ble_eq_true rfl⟩)); (· ((exact liL))); (· (rfl)))) | ((with_reducible refine k_faddr ?_); (((with_reducible apply s_faddrP); (· rfl); (· rfl)))))
        rw [if_neg (by simp), if_pos rfl, show setC C q3 q4 = C.take i ++ [(⟨q3, q4⟩ : Ca)] ++ C.drop i by unfold setC; rw [if_neg (by simp [hh]), hie]]
        have r6 : (upd hC k10 [.int .i64 depth, .int .i64 next, db, .sl kk 2 0 (C.length + 1), .sl kd 4 0 (Qu.length - 1)]) k6 = some [.int .i64 0, .int .i64 0, .nil, .nil, .nil] := by rw [upd_ne m6.1]; exact e6
        have r7 : (upd hC k10 [.int .i64 depth, .int .i64 next, db, .sl kk 2 0 (C.length + 1), .sl kd 4 0 (Qu.length - 1)]) k7 = some [.int .i64 0, .int .i64 0, .int .i64 0, .nil] := by rw [upd_ne m7.1]; exact e7
        have r11 : (upd hC k10 [.int .i64 depth, .int .i64 next, db, .sl kk 2 0 (C.length + 1), .sl kd 4 0 (Qu.length - 1)]) k11 = some [.int .i64 q1, .int .i64 2, .int .i64 q3, nD q4] := by rw [upd_ne n1110]; exact e11
        have r10 : (upd hC k10 [.int .i64 depth, .int .i64 next, db, .sl kk 2 0 (C.length + 1), .sl kd 4 0 (Qu.length - 1)]) k10 = some [.int .i64 depth, .int .i64 next, db, .sl kk 2 0 (C.length + 1), .sl kd 4 0 (Qu.length - 1)] := upd_self
        have rob := so_put (c := [.int .i64 depth, .int .i64 next, db, .sl kk 2 0 (C.length + 1), .sl kd 4 0 (Qu.length - 1)]) eob f10
        have roq := so_put (c := [.int .i64 depth, .int .i64 next, db, .sl kk 2 0 (C.length + 1), .sl kd 4 0 (Qu.length - 1)]) eoq (Fr.sl d10)
        have roc : SlOwn (upd hC k10 [.int .i64 depth, .int .i64 next, db, .sl kk 2 0 (C.length + 1), .sl kd 4 0 (Qu.length - 1)]) (.sl kk 2 0 (C.length + 1)) 2 ((C.take i ++ [(⟨q3, q4⟩ : Ca)] ++ C.drop i).flatMap Ca.vn) (C.take i ++ [(⟨q3, q4⟩ : Ca)] ++ C.drop i).length := by
          refine so_put ?_ (Fr.sl v10)
          have hl := ins_len hle ⟨q3, q4⟩
          rw [hl]
          exact SlOwn.sl ekk (by rw [fm_len Ca.vn_len, hl])
        generalize upd hC k10 [.int .i64 depth, .int .i64 next, db, .sl kk 2 0 (C.length + 1), .sl kd 4 0 (Qu.length - 1)] = hD at *
        exact com_fin (d := ⟨depth, next, B, C.take i ++ [(⟨q3, q4⟩ : Ca)] ++ C.drop i, Qu.eraseIdx p⟩) (q := ⟨q1, 2, q3, q4⟩) r6 r7 r10 r11 n76 m6 m7 rob roc roq lq ⟨i6b, i7b⟩ ⟨Fr.sl v6, Fr.sl v7⟩ ⟨Fr.sl d6, Fr.sl d7⟩
    · have hbl := ok.blocks
      have hcs := ok.csmall
      have hge := cas_ge ok.ord
      have hlt : ∀ i (h : i < C.length), C[i].block < B.length := fun i h => (ok.ord i h).2
      dsimp only at hbl hcs hge
      repeat' (first | (with_reducible first | refine W_seq ?_ | refine then_n ?_ | refine W_block ?_ | refine W_skip ?_) | ((with_reducible refine s_reg ?_); intro K hK) | ((with_reducible refine k_nil ?_); (with_reducible apply s_nil hK); (· exact nmX); clear hK; clear K) | ((with_reducible refine k_cond ?_); (first | ((with_reducible apply s_condT); (· rfl); (· exact nmX)) | ((with_reducible apply s_condF); (· rfl); (· exact nmX)))) | ((with_reducible refine k_mv ?_); (refine s_mv rfl ?_)) | ((with_reducible refine k_len ?_); (((with_reducible apply s_len); (· rfl); (· exact SlOwn.len (by assumption))))) | ((with_reducible refine k_not ?_); (refine s_not rfl (by exact Bool.not_true) ?_)) | ((with_reducible refine k_eql ?_); ((refine s_eql rfl rfl ?_))) | ((with_reducible refine k_load ?_); (((with_reducible apply s_loadP); (· rfl); (· (exact hpX))))) | ((with_reducible refine k_faddr ?_); (((with_reducible apply s_faddrP); (· rfl); (· rfl)))) | ((with_reducible refine k_br ?_); (first | (refine Br_t (by with_reducible rfl) ?_) | (refine Br_f (by omega) ?_))) | (((with_reducible apply q_eqO)); (exact liO)))
      obtain ⟨_, ⟨h0, _⟩ | ⟨kb, rfl, hkb⟩⟩ := bob
      · exfalso; have := hbl.1; omega
      have nb6 : kb ≠ k6 := fun e => i6b _ _ _ (by rw [e])
      have nb7 : kb ≠ k7 := fun e => i7b _ _ _ (by rw [e])
      have nb10 : kb ≠ k10 := fun e => f10 _ _ _ (by rw [e])
      have nb11 : kb ≠ k11 := fun e => f11 _ _ _ (by rw [e])
      have nbd : kb ≠ kd := fun e => fdb _ _ _ (by rw [e])
      have fcb := fbc _ _ _ _ rfl
      have hfl : ∀ i, (fluB B (C.take i)).length = B.length := fun i => fluB_len _ _
      refine W_for C.length (fun i st => ∃ h', st = ⟨[(6, .pt k6 0), (7, .pt k7 0), (10, .pt k10 0), (11, .pt k11 0), (93, dc), (94, .int .i64 C.length), (95, .int .i64 i)], h'⟩ ∧ h' k6 = some [.int .i64 0, .int .i64 0, .nil, .nil, .nil] ∧ h' k7 = some [.int .i64 0, .int .i64 0, .int .i64 0, .nil] ∧ h' k10 = some [.int .i64 depth, .int .i64 next, .sl kb 1 0 B.length, dc, .sl kd 4 0 (Qu.length - 1)] ∧ h' k11 = some [.int .i64 q1, .int .i64 3, .int .i64 q3, nD q4] ∧ h' kb = some ((fluB B (C.take i)).map nD) ∧ SlOwn h' dc 2 (C.flatMap Ca.vn) C.length ∧ SlOwn h' (.sl kd 4 0 (Qu.length - 1)) 4 ((Qu.eraseIdx p).flatMap Rq.vn) (Qu.length - 1))
        ⟨_, rfl, b6, b7, b10, b11, hkb, boc, boq⟩ ?_ ?_
      · rintro i e' h' hi ⟨h1, he, t6, t7, t10, t11, tb, tc, tq⟩
        cases he
        have hrow := cav hi
        have g1 := hge i hi
        have g2 := hlt i hi
        have hfi := hfl i
        rw [flu_step hi]
        generalize C[i] = c at *
        obtain ⟨cb, cd⟩ := c
        dsimp only at *
        generalize fluB B (C.take i) = B' at *
        clear b10 b6 b7 b11 boc boq hge hlt hfl ok hkb
        have hCl := fm_len Ca.vn_len C
        repeat' (first | (with_reducible first | refine W_seq ?_ | refine then_n ?_ | refine W_block ?_ | refine blk_n ?_ | refine W_skip ?_) | ((with_reducible refine s_reg ?_); intro K hK) | ((with_reducible refine k_nil ?_); (with_reducible apply s_nil hK); (· exact nmX); clear hK; clear K) | ((with_reducible refine k_cond ?_); (((with_reducible apply s_condT); (· rfl); (· exact nmX)))) | ((with_reducible refine k_mv ?_); (refine s_mv rfl ?_)) | ((with_reducible refine k_lss ?_); (refine s_lss rfl rfl ?_)) | ((with_reducible refine k_iaddr ?_); (first | ((with_reducible apply s_iaddrO); (· rfl); (· rfl); (· (omega)); (· (exact hpX))) | ((with_reducible apply s_iaddrSO); (· rfl); (· assumption); (· rfl); (· (omega)); (· ((simp (disch := omega) only [w64, wu8, wu16, wu32, wu64, tm_nn, td_nn, fd_nn, Int.reduceAdd, Int.reduceSub, Int.reduceMul, Int.reduceDiv, Int.reduceMod, Int.reduceNeg, Int.reduceToNat, Int.toNat_natCast, Int.toNat_zero, Int.zero_add, Int.add_zero, Int.one_mul, Int.reducePow, Nat.mul_one, Nat.zero_add, Nat.add_zero, Nat.zero_mul, Nat.reduceAdd, Nat.reduceMul, Nat.reduceSub, Nat.min_eq_left, IntKind.bits, Nat.sub_zero, hrow, Int.toNat_natCast]; try rfl; done))); intro ks hks))) | ((with_reducible refine k_load ?_); (((with_reducible apply s_loadP); (· rfl); (· (exact hpX))))) | ((with_reducible refine k_loadA ?_); (((with_reducible apply s_loadAP); (· rfl); (· (exact hpX)); (· (omega))))) | ((with_reducible refine k_add ?_); ((with_reducible apply s_add); (· rfl); (· rfl))) | ((with_reducible refine k_store ?_); ((with_reducible apply s_store0); (· rfl); (· rfl); (· rfl); (· (exact hpX)); (· (exact ⟨rfl, by first | exact Nat.le_of_ble_eq_true rfl | (simp [hrow, Int.toNat_natCast]; omega)⟩)); (· (((simp (disch := omega) only [upd_self, upd_ne, upd_upd, rep, splice, List.take_succ_cons, List.take_zero, List.drop_succ_cons, List.drop_zero, List.cons_append, List.nil_append, List.append_nil, List.length_cons, List.length_nil, List.reduceReplicate, List.flatten_cons, List.flatten_nil, Nat.reduceAdd, Nat.reduceMul, Nat.reduceSub, Nat.zero_add, Nat.add_zero, List.getElem?_cons_zero, List.getElem?_cons_succ, hrow, Int.toNat_natCast]; try rfl; done)))); (· (first | exact upd_upd | rfl)))) | ((with_reducible refine k_faddr ?_); (((with_reducible apply s_faddrP); (· rfl); (· rfl)))) | ((with_reducible refine k_alloc (dst := some 16) ?_); ((with_reducible apply s_alloc); intro k16 hk16; (try simp only [upd_none] at hk16))) | ((with_reducible refine k_br ?_); ((refine Br_t (by omega) ?_))) | ((first | (with_reducible apply q_eqI) | (with_reducible apply q_eqN)); ((simp (disch := omega) only [w64, wu8, wu16, wu32, wu64, tm_nn, td_nn, fd_nn, Int.reduceAdd, Int.reduceSub, Int.reduceMul, Int.reduceDiv, Int.reduceMod, Int.reduceNeg, Int.reduceToNat, Int.toNat_natCast, Int.toNat_zero, Int.zero_add, Int.add_zero, Int.one_mul, Int.reducePow, Nat.mul_one, Nat.zero_add, Nat.add_zero, Nat.zero_mul, Nat.reduceAdd, Nat.reduceMul, Nat.reduceSub, Nat.min_eq_left, IntKind.bits, Nat.sub_zero, hrow, Int.toNat_natCast]; try rfl; done))) | ((first | (with_reducible apply q_eqL) | (with_reducible apply q_eqO)); ((simp (disch := omega) only [upd_self, upd_ne, upd_upd, rep, splice, List.take_succ_cons, List.take_zero, List.drop_succ_cons, List.drop_zero, List.cons_append, List.nil_append, List.append_nil, List.length_cons, List.length_nil, List.reduceReplicate, List.flatten_cons, List.flatten_nil, Nat.reduceAdd, Nat.reduceMul, Nat.reduceSub, Nat.zero_add, Nat.add_zero, List.getElem?_cons_zero, List.getElem?_cons_succ, hrow, Int.toNat_natCast]; try rfl; done))))
        have sub : ∀ {x : Nat} {c : List D} (y : List D), kb ≠ x → h' x = some c → (upd (upd h' k16 [.int .i64 cb, nD cd]) kb y) x = some c := fun {x c} y hne hx => by rw [upd_ne (Ne.symm hne)]; exact upd_sub hk16 _ _ hx
        have hset : (B'.map nD).take cb.toNat ++ [nD cd] ++ (B'.map nD).drop (cb.toNat + 1) = (B'.set cb.toNat cd).map nD := set_map (by omega)
        rw [← hset]
        exact ⟨_, rfl, sub _ nb6 t6, sub _ nb7 t7, sub _ nb10 t10, sub _ nb11 t11, upd_self, so_put (slSub tc (upd_sub hk16)) fcb, so_put (slSub tq (upd_sub hk16)) (Fr.sl nbd.symm)⟩
      · rintro e' h' ⟨h1, he, t6, t7, t10, t11, tb, tc, tq⟩
        cases he
        rw [List.take_length] at tb
        clear b10 b6 b7 b11 boc boq hge hlt hfl hkb
        repeat' (first | (with_reducible first | refine W_seq ?_ | refine then_n ?_ | refine blk_n ?_ | refine blk_e ?_ | refine W_exit ?_ | refine then_e ?_) | ((with_reducible refine s_reg ?_); intro K hK) | ((with_reducible refine k_nil ?_); (with_reducible apply s_nil hK); (· exact nmX); clear hK; clear K) | ((with_reducible refine k_cond ?_); (((with_reducible apply s_condF); (· rfl); (· exact nmX)))) | ((with_reducible refine k_lss ?_); (refine s_lss rfl rfl ?_)) | ((with_reducible refine k_store ?_); ((with_reducible apply s_store0); (· rfl); (· rfl); (· rfl); (· (exact hpX)); (· (exact ⟨rfl, by exact Nat.le_of_ble_eq_true rfl⟩)); (· ((exact liL))); (· (rfl)))) | ((with_reducible refine k_faddr ?_); (((with_reducible apply s_faddrP); (· rfl); (· rfl)))) | ((with_reducible refine k_br ?_); ((refine Br_f (by omega) ?_))))
        rw [if_neg (by simp), if_neg (by decide)]
        have r6 : (upd h' k10 [.int .i64 depth, .int .i64 next, .sl kb 1 0 B.length, .nil, .sl kd 4 0 (Qu.length - 1)]) k6 = some [.int .i64 0, .int .i64 0, .nil, .nil, .nil] := by rw [upd_ne m6.1]; exact t6
        have r7 : (upd h' k10 [.int .i64 depth, .int .i64 next, .sl kb 1 0 B.length, .nil, .sl kd 4 0 (Qu.length - 1)]) k7 = some [.int .i64 0, .int .i64 0, .int .i64 0, .nil] := by rw [upd_ne m7.1]; exact t7
        have r11 : (upd h' k10 [.int .i64 depth, .int .i64 next, .sl kb 1 0 B.length, .nil, .sl kd 4 0 (Qu.length - 1)]) k11 = some [.int .i64 q1, .int .i64 3, .int .i64 q3, nD q4] := by rw [upd_ne n1110]; exact t11
        have r10 : (upd h' k10 [.int .i64 depth, .int .i64 next, .sl kb 1 0 B.length, .nil, .sl kd 4 0 (Qu.length - 1)]) k10 = some [.int .i64 depth, .int .i64 next, .sl kb 1 0 B.length, .nil, .sl kd 4 0 (Qu.length - 1)] := upd_self
        have rob : SlOwn (upd h' k10 [.int .i64 depth, .int .i64 next, .sl kb 1 0 B.length, .nil, .sl kd 4 0 (Qu.length - 1)]) (.sl kb 1 0 B.length) 1 ((fluB B C).map nD) (fluB B C).length := by
          rw [fluB_len]
          exact so_put (SlOwn.sl tb (by rw [List.length_map, fluB_len]; omega)) (Fr.sl nb10)
        have roq := so_put (c := [.int .i64 depth, .int .i64 next, .sl kb 1 0 B.length, .nil, .sl kd 4 0 (Qu.length - 1)]) tq (Fr.sl d10)
        generalize upd h' k10 [.int .i64 depth, .int .i64 next, .sl kb 1 0 B.length, .nil, .sl kd 4 0 (Qu.length - 1)] = hD at *
        exact com_fin (d := ⟨depth, next, fluB B C, [], Qu.eraseIdx p⟩) (q := ⟨q1, 3, q3, q4⟩) r6 r7 r10 r11 n76 m6 m7 rob SlOwn.nil roq lq ⟨i6b, i7b⟩ ⟨Fr.nil, Fr.nil⟩ ⟨Fr.sl d6, Fr.sl d7⟩
end Go.Proofs.Ythblalidmmbcoaa
end
section
/- min -/
/- A crash. -/
set_option linter.unusedSimpArgs false
set_option linter.unusedVariables false
namespace Go.Proofs.Ythblalidmmbcoaa
open Go.AM Classical
set_option maxRecDepth 100000
set_option maxHeartbeats 4000000
abbrev bsl (p : List Bool) : D := .vs 1 (p.map .bool) p.length
def pk (p : List Bool) (n : Nat) : Bool := match p[n]? with | some b => b | none => false
theorem keep_con {h : Heap} {p : List Bool} {n b : Nat} {x : Bs} {kn kp kd kb : Nat} {depth next : Int} {dc dq : D} {B : List Bs} (hn : h kn = some [.int .i64 n]) (hp : h kp = some [bsl p])
    (hd : h kd = some [.int .i64 depth, .int .i64 next, .sl kb 1 0 B.length, dc, dq]) (hb : h kb = some (B.map nD)) (hlt : b < B.length) (hB : B.length ≤ 256) (hx : x.length = 32) (hnn : n ≤ 1000) (e1 : kb ≠ kn) {Q : D → Heap → Prop}
    (hQ : ∀ d, Q d (upd (if pk p n = true then upd h kb ((B.set b x).map nD) else h) kn [.int .i64 (n + 1 : Nat)])) :
    Con Try.prog 62 [.int .i64 b, bD x, .pt kn 0, .pt kp 0, .pt kd 0] h Q := by
  refine con_of_W mixed Try.func62 A62k A62c (by simp [A62]) ?_
  simp only [A62, argEnv]
  have c1 := bclone_v x (by omega)
  have hpl : (p.map D.bool).length = p.length := by simp
  have hset : (B.map nD).take b ++ [nD x] ++ (B.map nD).drop (b + 1) = (B.set b x).map nD := set_map hlt
  rcases Nat.lt_or_ge n p.length with h1 | h1
  · have hg : (p.map D.bool)[n]? = some (.bool p[n]) := by rw [List.getElem?_map, List.getElem?_eq_getElem h1]; rfl
    have hpk : pk p n = p[n] := by unfold pk; rw [List.getElem?_eq_getElem h1]
    cases hpn : p[n] with
    | true =>
      rw [hpn] at hg hpk
      rw [if_pos hpk] at hQ
      repeat' (first | (with_reducible first | refine W_seq ?_ | refine then_n ?_) | ((with_reducible refine s_reg ?_); intro K hK) | ((with_reducible refine k_nil ?_); (with_reducible apply s_nil hK); (· exact nmX); clear hK; clear K) | ((with_reducible refine k_cond ?_); (((with_reducible apply s_condT); (· rfl); (· exact nmX)))) | ((with_reducible refine k_guard ?_); ((refine s_gt rfl ?_))) | ((with_reducible refine k_mv ?_); (refine s_mv rfl ?_)) | ((with_reducible refine k_len ?_); ((refine s_len rfl rfl ?_))) | ((with_reducible refine k_pick ?_); ((refine s_pickT rfl rfl ?_))) | ((with_reducible refine k_lss ?_); (refine s_lss rfl rfl ?_)) | ((with_reducible refine k_iaddr ?_); (first | ((with_reducible apply s_iaddrV); (· rfl); (· rfl); (· (omega))) | ((with_reducible apply s_iaddrO); (· rfl); (· rfl); (· (omega)); (· (exact hpX))))) | ((with_reducible refine k_load ?_); (first | ((with_reducible apply s_loadV); (· rfl)) | ((with_reducible apply s_loadP); (· rfl); (· (exact hpX))))) | ((with_reducible refine k_add ?_); ((with_reducible apply s_add); (· rfl); (· rfl))) | ((with_reducible refine k_store ?_); ((with_reducible apply s_store0); (· rfl); (· rfl); (· rfl); (· (exact hpX)); (· (exact ⟨rfl, by first | exact Nat.le_of_ble_eq_true rfl | (simp [hg, Int.toNat_natCast]; omega)⟩)); (· (((simp (disch := omega) only [upd_self, upd_ne, upd_upd, rep, splice, List.take_succ_cons, List.take_zero, List.drop_succ_cons, List.drop_zero, List.cons_append, List.nil_append, List.append_nil, List.length_cons, List.length_nil, List.reduceReplicate, List.flatten_cons, List.flatten_nil, Nat.reduceAdd, Nat.reduceMul, Nat.reduceSub, Nat.zero_add, Nat.add_zero, List.getElem?_cons_zero, List.getElem?_cons_succ, hg, Int.toNat_natCast]; try rfl; done)))); (· (rfl)))) | ((with_reducible refine k_faddr ?_); (((with_reducible apply s_faddrP); (· rfl); (· rfl)))) | ((with_reducible refine k_dreg ?_); refine s_dregS (pre := A62d2p) rfl rfl rfl ?_; intro K hK) | (with_reducible refine d_nilS ?_) | ((with_reducible refine k_dcall ?_); (((with_reducible apply d_callN); (· rfl); (· exact c1); (· (repeat (first | exact All2.nil | (apply All2.cons; (· first | exact rdX))))); simp only [unow, unowC, List.map, vnw, vnC, vnC1]))) | ((with_reducible refine k_dop ?_); refine d_step (by first | exact Or.inl rfl | exact Or.inr rfl) ?_) | (with_reducible refine d_back ?_) | ((with_reducible refine k_br ?_); ((refine Br_t (by omega) ?_))) | ((first | (with_reducible apply q_eqI) | (with_reducible apply q_eqN)); ((simp (disch := omega) only [w64, wu8, wu16, wu32, wu64, tm_nn, td_nn, fd_nn, Int.reduceAdd, Int.reduceSub, Int.reduceMul, Int.reduceDiv, Int.reduceMod, Int.reduceNeg, Int.reduceToNat, Int.toNat_natCast, Int.toNat_zero, Int.zero_add, Int.add_zero, Int.one_mul, Int.reducePow, Nat.mul_one, Nat.zero_add, Nat.add_zero, Nat.zero_mul, Nat.reduceAdd, Nat.reduceMul, Nat.reduceSub, Nat.min_eq_left, IntKind.bits, Nat.sub_zero, hg, Int.toNat_natCast]; try rfl; done))) | (((with_reducible apply q_eqO)); ((simp (disch := omega) only [upd_self, upd_ne, upd_upd, rep, splice, List.take_succ_cons, List.take_zero, List.drop_succ_cons, List.drop_zero, List.cons_append, List.nil_append, List.append_nil, List.length_cons, List.length_nil, List.reduceReplicate, List.flatten_cons, List.flatten_nil, Nat.reduceAdd, Nat.reduceMul, Nat.reduceSub, Nat.zero_add, Nat.add_zero, List.getElem?_cons_zero, List.getElem?_cons_succ, hg, Int.toNat_natCast]; try rfl; done))))
      refine hK _ _ _ rfl ⟨trivial, _, rfl, ?_⟩
      rw [hset]
      exact hQ _
    | false =>
      rw [hpn] at hg hpk
      rw [if_neg (by simp [hpk])] at hQ
      repeat' (first | (with_reducible first | refine W_seq ?_ | refine then_n ?_ | refine W_skip ?_) | ((with_reducible refine s_reg ?_); intro K hK) | ((with_reducible refine k_nil ?_); (with_reducible apply s_nil hK); (· exact nmX); clear hK; clear K) | ((with_reducible refine k_cond ?_); (((with_reducible apply s_condF); (· rfl); (· exact nmX)))) | ((with_reducible refine k_guard ?_); ((refine s_gt rfl ?_))) | ((with_reducible refine k_mv ?_); (refine s_mv rfl ?_)) | ((with_reducible refine k_len ?_); ((refine s_len rfl rfl ?_))) | ((with_reducible refine k_pick ?_); ((refine s_pickT rfl rfl ?_))) | ((with_reducible refine k_lss ?_); (refine s_lss rfl rfl ?_)) | ((with_reducible refine k_iaddr ?_); (((with_reducible apply s_iaddrV); (· rfl); (· rfl); (· (omega))))) | ((with_reducible refine k_load ?_); (first | ((with_reducible apply s_loadV); (· rfl)) | ((with_reducible apply s_loadP); (· rfl); (· (exact hpX))))) | ((with_reducible refine k_add ?_); ((with_reducible apply s_add); (· rfl); (· rfl))) | ((with_reducible refine k_store ?_); ((with_reducible apply s_store0); (· rfl); (· rfl); (· rfl); (· (exact hpX)); (· (exact ⟨rfl, by exact Nat.le_of_ble_eq_true rfl⟩)); (· (((simp (disch := omega) only [upd_self, upd_ne, upd_upd, rep, splice, List.take_succ_cons, List.take_zero, List.drop_succ_cons, List.drop_zero, List.cons_append, List.nil_append, List.append_nil, List.length_cons, List.length_nil, List.reduceReplicate, List.flatten_cons, List.flatten_nil, Nat.reduceAdd, Nat.reduceMul, Nat.reduceSub, Nat.zero_add, Nat.add_zero, List.getElem?_cons_zero, List.getElem?_cons_succ, hg, Int.toNat_natCast]; try rfl; done)))); (· (rfl)))) | (with_reducible refine d_back ?_) | ((with_reducible refine k_br ?_); ((refine Br_t (by omega) ?_))) | ((first | (with_reducible apply q_eqI) | (with_reducible apply q_eqN)); ((simp (disch := omega) only [w64, wu8, wu16, wu32, wu64, tm_nn, td_nn, fd_nn, Int.reduceAdd, Int.reduceSub, Int.reduceMul, Int.reduceDiv, Int.reduceMod, Int.reduceNeg, Int.reduceToNat, Int.toNat_natCast, Int.toNat_zero, Int.zero_add, Int.add_zero, Int.one_mul, Int.reducePow, Nat.mul_one, Nat.zero_add, Nat.add_zero, Nat.zero_mul, Nat.reduceAdd, Nat.reduceMul, Nat.reduceSub, Nat.min_eq_left, IntKind.bits, Nat.sub_zero, hg, Int.toNat_natCast]; try rfl; done))) | (((with_reducible apply q_eqO)); ((simp (disch := omega) only [upd_self, upd_ne, upd_upd, rep, splice, List.take_succ_cons, List.take_zero, List.drop_succ_cons, List.drop_zero, List.cons_append, List.nil_append, List.append_nil, List.length_cons, List.length_nil, List.reduceReplicate, List.flatten_cons, List.flatten_nil, Nat.reduceAdd, Nat.reduceMul, Nat.reduceSub, Nat.zero_add, Nat.add_zero, List.getElem?_cons_zero, List.getElem?_cons_succ, hg, Int.toNat_natCast]; try rfl; done))))
      exact hK _ _ _ rfl ⟨trivial, _, rfl, hQ _⟩
  · have hpk : pk p n = false := by unfold pk; rw [List.getElem?_eq_none h1]
    rw [if_neg (by simp [hpk])] at hQ
    repeat' (first | (with_reducible first | refine W_seq ?_ | refine then_n ?_ | refine W_skip ?_) | ((with_reducible refine s_reg ?_); intro K hK) | ((with_reducible refine k_nil ?_); (with_reducible apply s_nil hK); (· exact nmX); clear hK; clear K) | ((with_reducible refine k_cond ?_); (((with_reducible apply s_condF); (· rfl); (· exact nmX)))) | ((with_reducible refine k_guard ?_); ((refine s_gf1 rfl ?_))) | ((with_reducible refine k_mv ?_); (refine s_mv rfl ?_)) | ((with_reducible refine k_len ?_); ((refine s_len rfl rfl ?_))) | ((with_reducible refine k_pick ?_); ((refine s_pickF rfl rfl ?_))) | ((with_reducible refine k_lss ?_); (refine s_lss rfl rfl ?_)) | ((with_reducible refine k_load ?_); (((with_reducible apply s_loadP); (· rfl); (· (exact hpX))))) | ((with_reducible refine k_add ?_); ((with_reducible apply s_add); (· rfl); (· rfl))) | ((with_reducible refine k_store ?_); ((with_reducible apply s_store0); (· rfl); (· rfl); (· rfl); (· (exact hpX)); (· (exact ⟨rfl, by exact Nat.le_of_ble_eq_true rfl⟩)); (· (((simp (disch := omega) only [upd_self, upd_ne, upd_upd, rep, splice, List.take_succ_cons, List.take_zero, List.drop_succ_cons, List.drop_zero, List.cons_append, List.nil_append, List.append_nil, List.length_cons, List.length_nil, List.reduceReplicate, List.flatten_cons, List.flatten_nil, Nat.reduceAdd, Nat.reduceMul, Nat.reduceSub, Nat.zero_add, Nat.add_zero, List.getElem?_cons_zero, List.getElem?_cons_succ, Int.toNat_natCast]; try rfl; done)))); (· (rfl)))) | (with_reducible refine d_back ?_) | ((with_reducible refine k_br ?_); ((refine Br_f (by omega) ?_))) | (((with_reducible apply q_eqI)); ((simp (disch := omega) only [w64, wu8, wu16, wu32, wu64, tm_nn, td_nn, fd_nn, Int.reduceAdd, Int.reduceSub, Int.reduceMul, Int.reduceDiv, Int.reduceMod, Int.reduceNeg, Int.reduceToNat, Int.toNat_natCast, Int.toNat_zero, Int.zero_add, Int.add_zero, Int.one_mul, Int.reducePow, Nat.mul_one, Nat.zero_add, Nat.add_zero, Nat.zero_mul, Nat.reduceAdd, Nat.reduceMul, Nat.reduceSub, Nat.min_eq_left, IntKind.bits, Nat.sub_zero, Int.toNat_natCast]; try rfl; done))) | (((with_reducible apply q_eqO)); ((simp (disch := omega) only [upd_self, upd_ne, upd_upd, rep, splice, List.take_succ_cons, List.take_zero, List.drop_succ_cons, List.drop_zero, List.cons_append, List.nil_append, List.append_nil, List.length_cons, List.length_nil, List.reduceReplicate, List.flatten_cons, List.flatten_nil, Nat.reduceAdd, Nat.reduceMul, Nat.reduceSub, Nat.zero_add, Nat.add_zero, List.getElem?_cons_zero, List.getElem?_cons_succ, Int.toNat_natCast]; try rfl; done))))
    exact hK _ _ _ rfl ⟨trivial, _, rfl, hQ _⟩
def crS (p : List Bool) (B : List Bs) (n : Nat) (w : Nat × Bs) : List Bs := if pk p n = true then B.set w.1 w.2 else B
def crF (p : List Bool) : List Bs → Nat → List (Nat × Bs) → List Bs
  | B, _, [] => B
  | B, n, w :: r => crF p (crS p B n w) (n + 1) r
theorem crF_app (p : List Bool) : ∀ (B : List Bs) (n : Nat) (l : List (Nat × Bs)) (w : Nat × Bs), crF p B n (l ++ [w]) = crS p (crF p B n l) (n + l.length) w
  | B, n, [], w => rfl
  | B, n, a :: r, w => by
    show crF p (crS p B n a) (n + 1) (r ++ [w]) = _
    rw [crF_app p _ (n + 1) r w, List.length_cons, show n + 1 + r.length = n + (r.length + 1) by omega]
    rfl
theorem crS_len (p : List Bool) (B : List Bs) (n : Nat) (w : Nat × Bs) : (crS p B n w).length = B.length := by unfold crS; split <;> simp
theorem crF_len (p : List Bool) : ∀ (B : List Bs) (n : Nat) (l : List (Nat × Bs)), (crF p B n l).length = B.length
  | B, n, [] => rfl
  | B, n, a :: r => by show (crF p (crS p B n a) (n + 1) r).length = _; rw [crF_len p _ _ r, crS_len]
def caW (C : List Ca) : List (Nat × Bs) := C.map fun c => (c.block.toNat, c.data)
def quW (Qu : List Rq) : List (Nat × Bs) := (Qu.filter fun q => decide (q.kind = 2)).map fun q => (q.block.toNat, q.data)
structure CrN (k2 k3 k4 k7 k8 kb : Nat) : Prop where
  b2 : kb ≠ k2
  b3 : kb ≠ k3
  b4 : kb ≠ k4
  b7 : kb ≠ k7
  b8 : kb ≠ k8
  e2 : k8 ≠ k2
  e3 : k8 ≠ k3
  e4 : k8 ≠ k4
  e7 : k8 ≠ k7
structure CrI (d : Dv) (p : List Bool) (k2 k3 k4 k7 k8 kb : Nat) (dc dq : D) (h : Heap) (n : Nat) (B : List Bs) : Prop where
  a2 : h k2 = some (dvL d)
  a3 : h k3 = some [bsl p]
  a4 : h k4 = some [.int .i64 0, .int .i64 0, .nil, .nil, .nil]
  a7 : h k7 = some [.int .i64 d.depth, .int .i64 d.next, .sl kb 1 0 d.blocks.length, dc, dq]
  a8 : h k8 = some [.int .i64 n]
  ab : h kb = some (B.map nD)
theorem CrI.fresh {d : Dv} {p : List Bool} {k2 k3 k4 k7 k8 kb : Nat} {dc dq : D} {h : Heap} {n : Nat} {B : List Bs} (I : CrI d p k2 k3 k4 k7 k8 kb dc dq h n B) {k : Nat} (hk : h k = none) (c : List D) : CrI d p k2 k3 k4 k7 k8 kb dc dq (upd h k c) n B :=
  ⟨upd_sub hk _ _ I.a2, upd_sub hk _ _ I.a3, upd_sub hk _ _ I.a4, upd_sub hk _ _ I.a7, upd_sub hk _ _ I.a8, upd_sub hk _ _ I.ab⟩
theorem CrI.keep {d : Dv} {p : List Bool} {k2 k3 k4 k7 k8 kb : Nat} {dc dq : D} {h : Heap} {n : Nat} {B : List Bs} (I : CrI d p k2 k3 k4 k7 k8 kb dc dq h n B) (N : CrN k2 k3 k4 k7 k8 kb) (b : Nat) (x : Bs) :
    CrI d p k2 k3 k4 k7 k8 kb dc dq (upd (if pk p n = true then upd h kb ((B.set b x).map nD) else h) k8 [.int .i64 (n + 1 : Nat)]) (n + 1) (crS p B n (b, x)) := by
  unfold crS
  split
  · exact ⟨by rw [upd_ne N.e2.symm, upd_ne N.b2.symm]; exact I.a2, by rw [upd_ne N.e3.symm, upd_ne N.b3.symm]; exact I.a3, by rw [upd_ne N.e4.symm, upd_ne N.b4.symm]; exact I.a4, by rw [upd_ne N.e7.symm, upd_ne N.b7.symm]; exact I.a7, upd_self, by rw [upd_ne N.b8]; exact upd_self⟩
  · exact ⟨by rw [upd_ne N.e2.symm]; exact I.a2, by rw [upd_ne N.e3.symm]; exact I.a3, by rw [upd_ne N.e4.symm]; exact I.a4, by rw [upd_ne N.e7.symm]; exact I.a7, upd_self, by rw [upd_ne N.b8]; exact I.ab⟩
theorem caW_s {C : List Ca} {i : Nat} (h : i < C.length) : caW (C.take (i + 1)) = caW (C.take i) ++ [(C[i].block.toNat, C[i].data)] := by
  unfold caW; rw [take_s h, List.map_append]; rfl
theorem caW_len (C : List Ca) : (caW C).length = C.length := by unfold caW; simp
theorem quW_s {Q : List Rq} {i : Nat} (h : i < Q.length) : quW (Q.take (i + 1)) = quW (Q.take i) ++ (if Q[i].kind = 2 then [(Q[i].block.toNat, Q[i].data)] else []) := by
  unfold quW
  rw [take_s h, List.filter_append, List.map_append]
  congr 1
  simp only [List.filter_cons, List.filter_nil, decide_eq_true_eq]
  split <;> rfl
theorem quW_len (Q : List Rq) (i : Nat) : (quW (Q.take i)).length ≤ Q.length := by
  unfold quW
  rw [List.length_map]
  exact Nat.le_trans (List.length_filter_le _ _) (by rw [List.length_take]; omega)
theorem crash_c (d : Dv) (ok : DvOk d) (p : List Bool) : PCon Try.prog 36 [dvD d, bsl p] (.tup [dvD ⟨d.depth, d.next, crF p d.blocks 0 (caW d.cache ++ quW d.queue), [], []⟩, .int .i64 0]) := by
  have c1 := dcheck_d _ ok
  have c2 := fun h {Q} => @clone_k _ ok h Q
  have hbl := ok.blocks
  have hge := cas_ge ok.ord
  have hlt : ∀ i (h : i < d.cache.length), d.cache[i].block < d.blocks.length := fun i h => (ok.ord i h).2
  have hcp := ok.cpage
  have hcs := ok.csmall
  have hrq := ok.req
  have hfull := ok.full
  have hdep := ok.depth
  have hCl := cas_len d.cache
  have hQl := rqs_len d.queue
  obtain ⟨depth, next, B, C, Qu⟩ := d
  dsimp only at *
  refine A36p (by simp [A36]) ?_
  simp only [A36, argEnv]
  repeat' (first | (with_reducible first | refine W_seq ?_ | refine then_n ?_ | refine W_skip ?_) | ((with_reducible refine s_reg ?_); intro K hK) | ((with_reducible refine k_nil ?_); (with_reducible apply s_nil hK); (· exact nmX); clear hK; clear K) | ((with_reducible refine k_cond ?_); (((with_reducible apply s_condF); (· rfl); (· exact nmX)))) | ((with_reducible refine k_mv ?_); (refine s_mv rfl ?_)) | ((with_reducible refine k_neq ?_); ((refine s_neq rfl rfl ?_))) | ((with_reducible refine k_loadA ?_); (((with_reducible apply s_loadAP); (· rfl); (· (exact hpX)); (· (exact Nat.le_of_ble_eq_true rfl))))) | ((with_reducible refine k_store ?_); ((with_reducible apply s_store0); (· rfl); (· rfl); (· rfl); (· (exact hpX)); (· (exact ⟨rfl, by exact Nat.le_of_ble_eq_true rfl⟩)); (· ((exact liL))); (· (exact upd_upd)))) | ((with_reducible refine k_alloc (dst := some 4) ?_); ((with_reducible apply s_alloc); intro k4 hk4; (try simp only [upd_none] at hk4))) | ((with_reducible refine k_alloc (dst := some 7) ?_); ((with_reducible apply s_alloc); intro k7 hk7; (try simp only [upd_none] at hk7))) | ((with_reducible refine k_box (dst := some 2) ?_); ((with_reducible apply s_box); (· rfl); (· rfl); intro k2 hk2; (try simp only [upd_none] at hk2))) | ((with_reducible refine k_box (dst := some 3) ?_); ((with_reducible apply s_box); (· rfl); (· rfl); intro k3 hk3; (try simp only [upd_none] at hk3))) | ((with_reducible refine k_callF ?_); (((with_reducible apply s_call1); (· rfl)))) | ((with_reducible refine k_con ?_); (first | ((with_reducible apply con_val (c1)); (· (repeat (first | exact All2.nil | (apply All2.cons; (· first | exact Rd_dv))))); (· rfl); (· exact fun _ => rfl)) | (refine c2 _ ?_; intro h2 db dc dq H))) | ((with_reducible refine k_br ?_); ((refine Br_t (by with_reducible rfl) ?_))) | (((with_reducible apply q_eqL)); (exact liL)))
  obtain ⟨g2, i2b, _, _⟩ := H.old k2 (dvL ⟨depth, next, B, C, Qu⟩) (by rw [upd_ne hk4.2.1.symm, upd_ne hk3.1.symm]; exact upd_self)
  obtain ⟨g3, i3b, _, _⟩ := H.old k3 [bsl p] (by rw [upd_ne hk4.1.symm]; exact upd_self)
  obtain ⟨g4, i4b, _, _⟩ := H.old k4 _ upd_self
  obtain ⟨_, ⟨h0, _⟩ | ⟨kb, rfl, hkb⟩⟩ := H.ob
  · exfalso; dsimp only at h0; have := hbl.1; omega
  dsimp only at hkb
  have n34 := hk4.1
  have n24 := hk4.2.1
  have n23 := hk3.1
  have nb2 : kb ≠ k2 := fun e => i2b _ _ _ (by rw [e])
  have nb3 : kb ≠ k3 := fun e => i3b _ _ _ (by rw [e])
  have nb4 : kb ≠ k4 := fun e => i4b _ _ _ (by rw [e])
  clear H c1 c2 i2b i3b i4b hk4 hk3
  repeat' (first | (with_reducible first | refine W_seq ?_ | refine then_n ?_ | refine W_block ?_) | ((with_reducible refine s_reg ?_); intro K hK) | ((with_reducible refine k_nil ?_); (with_reducible apply s_nil hK); (· exact nmX); clear hK; clear K) | ((with_reducible refine k_mv ?_); (refine s_mv rfl ?_)) | ((with_reducible refine k_len ?_); ((refine s_len rfl rfl ?_))) | ((with_reducible refine k_load ?_); (((with_reducible apply s_loadP); (· rfl); (· (exact hpX))))) | ((with_reducible refine k_store ?_); ((with_reducible apply s_store0); (· rfl); (· rfl); (· rfl); (· (exact hpX)); (· (exact ⟨rfl, by exact Nat.le_of_ble_eq_true rfl⟩)); (· ((exact liL))); (· (exact upd_upd)))) | ((with_reducible refine k_faddr ?_); (((with_reducible apply s_faddrP); (· rfl); (· rfl)))) | ((with_reducible refine k_alloc (dst := some 8) ?_); ((with_reducible apply s_alloc); intro k8 hk8; (try simp only [upd_none] at hk8))) | ((with_reducible refine k_mkfn ?_); ((with_reducible apply s_mkfn); (· rfl); (· rfl))) | (((with_reducible apply q_eqO)); (exact liO)))
  obtain ⟨n87, hk8⟩ := hk8
  have live : ∀ {x : Nat} {c : List D}, h2 x = some c → k7 ≠ x ∧ k8 ≠ x := fun {x c} hx => ⟨(fun e => by rw [← e, hk7] at hx; cases hx), (fun e => by rw [← e, hk8] at hx; cases hx)⟩
  have N : CrN k2 k3 k4 k7 k8 kb := ⟨nb2, nb3, nb4, (live hkb).1.symm, (live hkb).2.symm, (live g2).2, (live g3).2, (live g4).2, n87⟩
  have s78 : ∀ {x : Nat} {c : List D} (y z : List D), h2 x = some c → upd (upd h2 k7 y) k8 z x = some c := fun {x c} y z hx => by rw [upd_ne (live hx).2.symm, upd_ne (live hx).1.symm]; exact hx
  have I0 : CrI ⟨depth, next, B, C, Qu⟩ p k2 k3 k4 k7 k8 kb dc dq (upd (upd h2 k7 [.int .i64 depth, .int .i64 next, .sl kb 1 0 B.length, dc, dq]) k8 [.int .i64 0]) 0 B :=
    ⟨s78 _ _ g2, s78 _ _ g3, s78 _ _ g4, by rw [upd_ne n87.symm]; exact upd_self, upd_self, s78 _ _ hkb⟩
  have n74 := (live g4).1
  clear s78 live g2 g3 g4 hkb hk7 hk8
  dsimp only at *
  refine W_for C.length (fun i st => ∃ h', st = ⟨[(2, .pt k2 0), (4, .pt k4 0), (7, .pt k7 0), (9, .fn 62 [] [.pt k8 0, .pt k3 0, .pt k7 0]), (24, casD C), (25, .int .i64 C.length), (26, .int .i64 i)], h'⟩ ∧ CrI ⟨depth, next, B, C, Qu⟩ p k2 k3 k4 k7 k8 kb dc dq h' i (crF p B 0 (caW (C.take i))))
    ⟨_, rfl, I0⟩ ?_ ?_
  · rintro i e' h' hi ⟨h1, he, I⟩
    cases he
    have hrow := car hi
    have q1 := hge i hi
    have q2 := hlt i hi
    have q3 := hcp _ (List.getElem_mem hi)
    rw [caW_s hi, crF_app, caW_len, List.length_take, Nat.min_eq_left (Nat.le_of_lt hi), Nat.zero_add]
    have hBl := crF_len p B 0 (caW (C.take i))
    generalize crF p B 0 (caW (C.take i)) = B' at *
    generalize C[i] = c at *
    obtain ⟨cb, cd⟩ := c
    dsimp only at *
    obtain ⟨m, rfl⟩ : ∃ m : Nat, cb = m := ⟨cb.toNat, by omega⟩
    clear hge hlt hcp hrq I0
    repeat' (first | (with_reducible first | refine W_seq ?_ | refine then_n ?_ | refine W_block ?_ | refine W_skip ?_) | ((with_reducible refine s_reg ?_); intro K hK) | ((with_reducible refine k_nil ?_); (with_reducible apply s_nil hK); (· exact nmX); clear hK; clear K) | ((with_reducible refine k_cond ?_); (((with_reducible apply s_condT); (· rfl); (· exact nmX)))) | ((with_reducible refine k_mv ?_); (refine s_mv rfl ?_)) | ((with_reducible refine k_lss ?_); (refine s_lss rfl rfl ?_)) | ((with_reducible refine k_iaddr ?_); (((with_reducible apply s_iaddrV); (· rfl); (· rfl); (· (omega))))) | ((with_reducible refine k_load ?_); (((with_reducible apply s_loadP); (· rfl); (· (exact hpX))))) | ((with_reducible refine k_loadA ?_); (((with_reducible apply s_loadAV); (· rfl); (· (omega))))) | ((with_reducible refine k_store ?_); ((with_reducible apply s_store0); (· rfl); (· rfl); (· rfl); (· (exact hpX)); (· (exact ⟨rfl, by exact Nat.le_of_ble_eq_true rfl⟩)); (· (((simp (disch := omega) only [upd_self, upd_ne, upd_upd, rep, splice, List.take_succ_cons, List.take_zero, List.drop_succ_cons, List.drop_zero, List.cons_append, List.nil_append, List.append_nil, List.length_cons, List.length_nil, List.reduceReplicate, List.flatten_cons, List.flatten_nil, Nat.reduceAdd, Nat.reduceMul, Nat.reduceSub, Nat.zero_add, Nat.add_zero, List.getElem?_cons_zero, List.getElem?_cons_succ, hrow, Int.toNat_natCast]; try rfl; done)))); (· (exact upd_upd)))) | ((with_reducible refine k_faddr ?_); (((with_reducible apply s_faddrP); (· rfl); (· rfl)))) | ((with_reducible refine k_alloc (dst := some 11) ?_); ((with_reducible apply s_alloc); intro k11 hk11; (try simp only [upd_none] at hk11))) | ((with_reducible refine k_callT ?_); ((with_reducible apply s_callt); (· rfl); (· rfl); (· rfl))) | ((with_reducible refine k_br ?_); ((refine Br_t (by omega) ?_))) | (((with_reducible apply q_eqN)); ((simp (disch := omega) only [w64, wu8, wu16, wu32, wu64, tm_nn, td_nn, fd_nn, Int.reduceAdd, Int.reduceSub, Int.reduceMul, Int.reduceDiv, Int.reduceMod, Int.reduceNeg, Int.reduceToNat, Int.toNat_natCast, Int.toNat_zero, Int.zero_add, Int.add_zero, Int.one_mul, Int.reducePow, Nat.mul_one, Nat.zero_add, Nat.add_zero, Nat.zero_mul, Nat.reduceAdd, Nat.reduceMul, Nat.reduceSub, Nat.min_eq_left, IntKind.bits, Nat.sub_zero, hrow, Int.toNat_natCast]; try rfl; done))) | ((first | (with_reducible apply q_eqL) | (with_reducible apply q_eqO)); ((simp (disch := omega) only [upd_self, upd_ne, upd_upd, rep, splice, List.take_succ_cons, List.take_zero, List.drop_succ_cons, List.drop_zero, List.cons_append, List.nil_append, List.append_nil, List.length_cons, List.length_nil, List.reduceReplicate, List.flatten_cons, List.flatten_nil, Nat.reduceAdd, Nat.reduceMul, Nat.reduceSub, Nat.zero_add, Nat.add_zero, List.getElem?_cons_zero, List.getElem?_cons_succ, hrow, Int.toNat_natCast]; try rfl; done))))
    have J := I.fresh hk11 [.int .i64 m, bD cd]
    have a7 : upd h' k11 [.int .i64 m, bD cd] k7 = some [.int .i64 depth, .int .i64 next, .sl kb 1 0 B'.length, dc, dq] := by rw [hBl]; exact J.a7
    have J2 := J.keep N m cd
    refine keep_con (depth := depth) (next := next) J.a8 J.a3 a7 J.ab (by omega) (by omega) q3 (by omega) N.b8 (fun d => ?_)
    generalize upd (if pk p i = true then upd (upd h' k11 [.int .i64 m, bD cd]) kb ((B'.set m cd).map nD) else upd h' k11 [.int .i64 m, bD cd]) k8 [.int .i64 (i + 1 : Nat)] = hE at *
    clear I J a7 hk11
    repeat' (first | (with_reducible first | refine then_n ?_ | refine blk_n ?_) | ((with_reducible refine s_reg ?_); intro K hK) | ((with_reducible refine k_nil ?_); (with_reducible apply s_nil hK); (· exact nmX); clear hK; clear K) | ((with_reducible refine k_mv ?_); (refine s_mv rfl ?_)) | ((with_reducible refine k_add ?_); ((with_reducible apply s_add); (· rfl); (· rfl))) | (((with_reducible apply q_eqI)); (exact nuI)))
    exact ⟨_, rfl, J2⟩
  · rintro e' h' ⟨h1, he, I⟩
    cases he
    rw [List.take_length] at I
    clear hge hlt hcp I0
    have a2 := I.a2
    repeat' (first | (with_reducible first | refine W_seq ?_ | refine then_n ?_ | refine W_block ?_ | refine blk_e ?_ | refine W_exit ?_ | refine then_e ?_) | ((with_reducible refine s_reg ?_); intro K hK) | ((with_reducible refine k_nil ?_); (with_reducible apply s_nil hK); (· exact nmX); clear hK; clear K) | ((with_reducible refine k_cond ?_); (((with_reducible apply s_condF); (· rfl); (· exact nmX)))) | ((with_reducible refine k_mv ?_); (refine s_mv rfl ?_)) | ((with_reducible refine k_len ?_); ((refine s_len rfl rfl ?_))) | ((with_reducible refine k_lss ?_); (refine s_lss rfl rfl ?_)) | ((with_reducible refine k_load ?_); (((with_reducible apply s_loadP); (· rfl); (· (exact hpX))))) | ((with_reducible refine k_faddr ?_); (((with_reducible apply s_faddrP); (· rfl); (· rfl)))) | ((with_reducible refine k_br ?_); ((refine Br_f (by omega) ?_))) | (((with_reducible apply q_eqO)); (exact liO)))
    clear a2
    refine W_for Qu.length (fun i st => ∃ h', st = ⟨[(4, .pt k4 0), (7, .pt k7 0), (9, .fn 62 [] [.pt k8 0, .pt k3 0, .pt k7 0]), (38, rqsD Qu), (39, .int .i64 Qu.length), (40, .int .i64 i)], h'⟩ ∧ CrI ⟨depth, next, B, C, Qu⟩ p k2 k3 k4 k7 k8 kb dc dq h' (C.length + (quW (Qu.take i)).length) (crF p B 0 (caW C ++ quW (Qu.take i))))
      ⟨_, rfl, by simpa [quW] using I⟩ ?_ ?_
    · clear I
      rintro i e' h' hi ⟨h1, he, I⟩
      cases he
      have hrow := rqr hi
      have q1 := hrq _ (List.getElem_mem hi)
      have hql := quW_len Qu i
      rw [quW_s hi]
      have hBl := crF_len p B 0 (caW C ++ quW (Qu.take i))
      by_cases h2k : Qu[i].kind = 2
      · rw [if_pos h2k, ← List.append_assoc, crF_app, List.length_append, List.length_append, caW_len, Nat.zero_add]
        generalize crF p B 0 (caW C ++ quW (Qu.take i)) = B' at *
        generalize (quW (Qu.take i)).length = t at *
        generalize Qu[i] = c at *
        obtain ⟨c1, c2, cb, cd⟩ := c
        dsimp only at *
        subst h2k
        have q2 := q1.2.2.1 (show ((2 : Int) ≠ 3) by decide)
        have q3 : cd.length = 32 := q1.2.2.2.1 rfl
        dsimp only at q2
        obtain ⟨m, rfl⟩ : ∃ m : Nat, cb = m := ⟨cb.toNat, by omega⟩
        clear hrq
        repeat' (first | (with_reducible first | refine W_seq ?_ | refine then_n ?_ | refine W_block ?_ | refine W_skip ?_) | ((with_reducible refine s_reg ?_); intro K hK) | ((with_reducible refine k_nil ?_); (with_reducible apply s_nil hK); (· exact nmX); clear hK; clear K) | ((with_reducible refine k_cond ?_); (((with_reducible apply s_condT); (· rfl); (· exact nmX)))) | ((with_reducible refine k_mv ?_); (refine s_mv rfl ?_)) | ((with_reducible refine k_eql ?_); ((refine s_eql rfl rfl ?_))) | ((with_reducible refine k_lss ?_); (refine s_lss rfl rfl ?_)) | ((with_reducible refine k_iaddr ?_); (((with_reducible apply s_iaddrV); (· rfl); (· rfl); (· (omega))))) | ((with_reducible refine k_load ?_); (((with_reducible apply s_loadP); (· rfl); (· (exact hpX))))) | ((with_reducible refine k_loadA ?_); (((with_reducible apply s_loadAV); (· rfl); (· (omega))))) | ((with_reducible refine k_store ?_); ((with_reducible apply s_store0); (· rfl); (· rfl); (· rfl); (· (exact hpX)); (· (exact ⟨rfl, by exact Nat.le_of_ble_eq_true rfl⟩)); (· (((simp (disch := omega) only [upd_self, upd_ne, upd_upd, rep, splice, List.take_succ_cons, List.take_zero, List.drop_succ_cons, List.drop_zero, List.cons_append, List.nil_append, List.append_nil, List.length_cons, List.length_nil, List.reduceReplicate, List.flatten_cons, List.flatten_nil, Nat.reduceAdd, Nat.reduceMul, Nat.reduceSub, Nat.zero_add, Nat.add_zero, List.getElem?_cons_zero, List.getElem?_cons_succ, hrow, Int.toNat_natCast]; try rfl; done)))); (· (exact upd_upd)))) | ((with_reducible refine k_faddr ?_); (((with_reducible apply s_faddrP); (· rfl); (· rfl)))) | ((with_reducible refine k_alloc (dst := some 13) ?_); ((with_reducible apply s_alloc); intro k13 hk13; (try simp only [upd_none] at hk13))) | ((with_reducible refine k_callT ?_); ((with_reducible apply s_callt); (· rfl); (· rfl); (· rfl))) | ((with_reducible refine k_br ?_); ((refine Br_t (by first | with_reducible rfl | omega) ?_))) | (((with_reducible apply q_eqN)); ((simp (disch := omega) only [w64, wu8, wu16, wu32, wu64, tm_nn, td_nn, fd_nn, Int.reduceAdd, Int.reduceSub, Int.reduceMul, Int.reduceDiv, Int.reduceMod, Int.reduceNeg, Int.reduceToNat, Int.toNat_natCast, Int.toNat_zero, Int.zero_add, Int.add_zero, Int.one_mul, Int.reducePow, Nat.mul_one, Nat.zero_add, Nat.add_zero, Nat.zero_mul, Nat.reduceAdd, Nat.reduceMul, Nat.reduceSub, Nat.min_eq_left, IntKind.bits, Nat.sub_zero, hrow, Int.toNat_natCast]; try rfl; done))) | ((first | (with_reducible apply q_eqL) | (with_reducible apply q_eqO)); ((simp (disch := omega) only [upd_self, upd_ne, upd_upd, rep, splice, List.take_succ_cons, List.take_zero, List.drop_succ_cons, List.drop_zero, List.cons_append, List.nil_append, List.append_nil, List.length_cons, List.length_nil, List.reduceReplicate, List.flatten_cons, List.flatten_nil, Nat.reduceAdd, Nat.reduceMul, Nat.reduceSub, Nat.zero_add, Nat.add_zero, List.getElem?_cons_zero, List.getElem?_cons_succ, hrow, Int.toNat_natCast]; try rfl; done))))
        have J := I.fresh hk13 [.int .i64 c1, .int .i64 2, .int .i64 m, bD cd]
        have a7 : upd h' k13 [.int .i64 c1, .int .i64 2, .int .i64 m, bD cd] k7 = some [.int .i64 depth, .int .i64 next, .sl kb 1 0 B'.length, dc, dq] := by rw [hBl]; exact J.a7
        have J2 := J.keep N m cd
        refine keep_con (depth := depth) (next := next) J.a8 J.a3 a7 J.ab (by omega) (by omega) q3 (by omega) N.b8 (fun d => ?_)
        generalize upd (if pk p (C.length + t) = true then upd (upd h' k13 [.int .i64 c1, .int .i64 2, .int .i64 m, bD cd]) kb ((B'.set m cd).map nD) else upd h' k13 [.int .i64 c1, .int .i64 2, .int .i64 m, bD cd]) k8 [.int .i64 (C.length + t + 1 : Nat)] = hE at *
        clear I J a7 hk13
        repeat' (first | (with_reducible first | refine then_n ?_ | refine blk_n ?_) | ((with_reducible refine s_reg ?_); intro K hK) | ((with_reducible refine k_nil ?_); (with_reducible apply s_nil hK); (· exact nmX); clear hK; clear K) | ((with_reducible refine k_mv ?_); (refine s_mv rfl ?_)) | ((with_reducible refine k_add ?_); ((with_reducible apply s_add); (· rfl); (· rfl))) | (((with_reducible apply q_eqI)); (exact nuI)))
        exact ⟨_, rfl, J2⟩
      · rw [if_neg h2k, List.append_nil]
        generalize crF p B 0 (caW C ++ quW (Qu.take i)) = B' at *
        generalize (quW (Qu.take i)).length = t at *
        generalize Qu[i] = c at *
        obtain ⟨c1, c2, cb, cd⟩ := c
        dsimp only at *
        clear hrq
        repeat' (first | (with_reducible first | refine W_seq ?_ | refine then_n ?_ | refine W_block ?_ | refine blk_n ?_ | refine W_skip ?_) | ((with_reducible refine s_reg ?_); intro K hK) | ((with_reducible refine k_nil ?_); (with_reducible apply s_nil hK); (· exact nmX); clear hK; clear K) | ((with_reducible refine k_cond ?_); (first | ((with_reducible apply s_condT); (· rfl); (· exact nmX)) | ((with_reducible apply s_condF); (· rfl); (· exact nmX)))) | ((with_reducible refine k_mv ?_); (refine s_mv rfl ?_)) | ((with_reducible refine k_eql ?_); ((refine s_eql rfl rfl ?_))) | ((with_reducible refine k_lss ?_); (refine s_lss rfl rfl ?_)) | ((with_reducible refine k_iaddr ?_); (((with_reducible apply s_iaddrV); (· rfl); (· rfl); (· (omega))))) | ((with_reducible refine k_load ?_); (((with_reducible apply s_loadP); (· rfl); (· (exact hpX))))) | ((with_reducible refine k_loadA ?_); (((with_reducible apply s_loadAV); (· rfl); (· (omega))))) | ((with_reducible refine k_add ?_); ((with_reducible apply s_add); (· rfl); (· rfl))) | ((with_reducible refine k_store ?_); ((with_reducible apply s_store0); (· rfl); (· rfl); (· rfl); (· (exact hpX)); (· (exact ⟨rfl, by exact Nat.le_of_ble_eq_true rfl⟩)); (· (((simp (disch := omega) only [upd_self, upd_ne, upd_upd, rep, splice, List.take_succ_cons, List.take_zero, List.drop_succ_cons, List.drop_zero, List.cons_append, List.nil_append, List.append_nil, List.length_cons, List.length_nil, List.reduceReplicate, List.flatten_cons, List.flatten_nil, Nat.reduceAdd, Nat.reduceMul, Nat.reduceSub, Nat.zero_add, Nat.add_zero, List.getElem?_cons_zero, List.getElem?_cons_succ, hrow, Int.toNat_natCast]; try rfl; done)))); (· (exact upd_upd)))) | ((with_reducible refine k_faddr ?_); (((with_reducible apply s_faddrP); (· rfl); (· rfl)))) | ((with_reducible refine k_alloc (dst := some 13) ?_); ((with_reducible apply s_alloc); intro k13 hk13; (try simp only [upd_none] at hk13))) | ((with_reducible refine k_br ?_); (first | (refine Br_t (by omega) ?_) | (refine Br_f (by omega) ?_))) | ((first | (with_reducible apply q_eqI) | (with_reducible apply q_eqN)); ((simp (disch := omega) only [w64, wu8, wu16, wu32, wu64, tm_nn, td_nn, fd_nn, Int.reduceAdd, Int.reduceSub, Int.reduceMul, Int.reduceDiv, Int.reduceMod, Int.reduceNeg, Int.reduceToNat, Int.toNat_natCast, Int.toNat_zero, Int.zero_add, Int.add_zero, Int.one_mul, Int.reducePow, Nat.mul_one, Nat.zero_add, Nat.add_zero, Nat.zero_mul, Nat.reduceAdd, Nat.reduceMul, Nat.reduceSub, Nat.min_eq_left, IntKind.bits, Nat.sub_zero, hrow, Int.toNat_natCast]; try rfl; done))) | ((first | (with_reducible apply q_eqL) | (with_reducible apply q_eqO)); ((simp (disch := omega) only [upd_self, upd_ne, upd_upd, rep, splice, List.take_succ_cons, List.take_zero, List.drop_succ_cons, List.drop_zero, List.cons_append, List.nil_append, List.append_nil, List.length_cons, List.length_nil, List.reduceReplicate, List.flatten_cons, List.flatten_nil, Nat.reduceAdd, Nat.reduceMul, Nat.reduceSub, Nat.zero_add, Nat.add_zero, List.getElem?_cons_zero, List.getElem?_cons_succ, hrow, Int.toNat_natCast]; try rfl; done))))
        all_goals first | exact absurd (by assumption) h2k | skip
        exact ⟨_, rfl, I.fresh hk13 _⟩
    · clear I
      rintro e' h' ⟨h1, he, I⟩
      cases he
      rw [List.take_length] at I
      have a4 := I.a4
      have a7 := I.a7
      have hBl := crF_len p B 0 (caW C ++ quW Qu)
      generalize crF p B 0 (caW C ++ quW Qu) = B' at *
      dsimp only at a7
      have n1 := n74.symm
      repeat' (first | (with_reducible first | refine W_seq ?_ | refine then_n ?_ | refine blk_e ?_ | refine W_ret ?_ | refine W_exit ?_ | refine then_e ?_) | ((with_reducible refine s_reg ?_); intro K hK) | ((with_reducible refine k_nil ?_); (with_reducible apply s_nil hK); (· exact nmX); clear hK; clear K) | ((with_reducible refine k_cond ?_); (((with_reducible apply s_condF); (· rfl); (· exact nmX)))) | ((with_reducible refine k_mv ?_); (refine s_mv rfl ?_)) | ((with_reducible refine k_lss ?_); (refine s_lss rfl rfl ?_)) | ((with_reducible refine k_loadA ?_); (((with_reducible apply s_loadAP); (· rfl); (· (exact hpX)); (· (exact Nat.le_of_ble_eq_true rfl))))) | ((with_reducible refine k_store ?_); ((with_reducible apply s_store0); (· rfl); (· rfl); (· rfl); (· (exact hpX)); (· (exact ⟨rfl, by exact Nat.le_of_ble_eq_true rfl⟩)); (· ((exact liL))); (· (first | exact upd_upd | rfl)))) | ((with_reducible refine k_faddr ?_); (((with_reducible apply s_faddrP); (· rfl); (· rfl)))) | ((with_reducible refine k_br ?_); ((refine Br_f (by omega) ?_))) | (((with_reducible apply q_eqL)); (exact liL)))
      refine Fin_tupN trivial (by simp [resD, resL, AM.get, upd_self, memAt, ldD] <;> rfl) (All2.cons (dv_rn (d := ⟨depth, next, B', [], []⟩) ?_ SlOwn.nil SlOwn.nil) (All2.cons (Rn_scal rfl) All2.nil)) rfl
      dsimp only
      rw [hBl]
      exact so_put (so_put (SlOwn.sl I.ab (by rw [List.length_map, hBl]; omega)) (Fr.sl N.b7)) (Fr.sl nb4)
end Go.Proofs.Ythblalidmmbcoaa
end
section
/- min -/
/- What has happened. -/
set_option linter.unusedSimpArgs false
set_option linter.unusedVariables false
namespace Go.Proofs.Ythblalidmmbcoaa
open Go.AM Classical
set_option maxRecDepth 100000
set_option maxHeartbeats 4000000
def Ev.hv (x : Ev) : List D := [.int .i64 x.kind, .int .i64 x.id, .int .i64 x.block, if x.kind = 1 then nD x.data else .nil]
theorem Ev.hv_len (x : Ev) : x.hv.length = 4 := rfl
theorem evh {l : List Ev} {i : Nat} (h : i < l.length) : ((l.flatMap Ev.hv).drop (i * 4)).take 4 = [.int .i64 l[i].kind, .int .i64 l[i].id, .int .i64 l[i].block, if l[i].kind = 1 then nD l[i].data else .nil] := fm_row Ev.hv_len h
theorem evh0 {l : List Ev} {i : Nat} (h : i < l.length) : (l.flatMap Ev.hv)[i * 4]? = some (.int .i64 l[i].kind) := fm_cell (j := 0) Ev.hv_len h (by omega)
theorem evh1 {l : List Ev} {i : Nat} (h : i < l.length) : (l.flatMap Ev.hv)[i * 4 + 1]? = some (.int .i64 l[i].id) := fm_cell (j := 1) Ev.hv_len h (by omega)
def hapF (l : List Ev) (q : Rq) (o : Bool) : List Ev :=
  if q.kind = 3 ∧ o = true then l ++ [⟨3, 0, 0, []⟩]
  else if q.kind ≠ 2 then l
  else if o = true then l ++ [⟨2, q.id, 0, []⟩]
  else l.filter fun e => decide (e.kind ≠ 1 ∨ e.id ≠ q.id)
theorem hap_con {h : Heap} {d : D} {l : List Ev} (ho : SlOwn h d 4 (l.flatMap Ev.hv) l.length) (hl : l.length ≤ 1000) (q : Rq) (hk : q.kind = 2 ∨ q.kind = 3) (o : Bool) {Q : D → Heap → Prop}
    (hQ : ∀ d' h2, SlOwn h2 d' 4 ((hapF l q o).flatMap Ev.hv) (hapF l q o).length → (∀ j c, h j = some c → Fr d j → h2 j = some c ∧ Fr d' j) → Q d' h2) :
    Con Try.prog 59 [d, .agg q.vn, .bool o] h Q := by
  refine con_of_W mixed Try.func59 A59k A59c (by simp [A59]) ?_
  obtain ⟨q1, q2, q3, q4⟩ := q
  dsimp only at hk
  simp only [A59, argEnv, Rq.vn]
  have hll := fm_len Ev.hv_len l
  have app : ∀ (e : Ev) (x1 x2 : Nat) (y1 y2 : List D) (ka : Nat) (ha : Heap), h x1 = none → x2 ≠ x1 ∧ h x2 = none → upd (upd h x1 y1) x2 y2 ka = none → ha ka = some (l.flatMap Ev.hv ++ e.hv) →
      (∀ j c, upd (upd h x1 y1) x2 y2 j = some c → (∀ sz off n, d ≠ .sl j sz off n) → ha j = some c) → SlOwn ha (.sl ka 4 0 (l.length + 1)) 4 ((l ++ [e]).flatMap Ev.hv) (l ++ [e]).length ∧ (∀ j c, h j = some c → Fr d j → ha j = some c ∧ Fr (.sl ka 4 0 (l.length + 1)) j) :=
    fun e x1 x2 y1 y2 ka ha h1 h2 h3 h4 h5 => by
      have s : ∀ j c, h j = some c → upd (upd h x1 y1) x2 y2 j = some c := fun j c hj => upd_sub (by rw [upd_ne h2.1]; exact h2.2) _ _ (upd_sub h1 _ _ hj)
      refine ⟨?_, fun j c hj hf => ⟨h5 j c (s j c hj) hf, Fr.sl (fun e => by rw [e, s j c hj] at h3; cases h3)⟩⟩
      rw [show (l ++ [e]).length = l.length + 1 by simp, List.flatMap_append]
      exact SlOwn.sl (by rw [h4]; simp) (by simp [hll, Ev.hv_len]; omega)
  cases o with
  | true =>
    rcases hk with rfl | rfl
    · repeat' (first | (with_reducible first | refine W_seq ?_ | refine then_n ?_ | refine W_skip ?_ | refine W_ret ?_ | refine then_r ?_) | ((with_reducible refine s_reg ?_); intro K hK) | ((with_reducible refine k_nil ?_); (with_reducible apply s_nil hK); (· exact nmX); clear hK; clear K) | ((with_reducible refine k_cond ?_); (first | ((with_reducible apply s_condT); (· rfl); (· exact nmX)) | ((with_reducible apply s_condF); (· rfl); (· exact nmX)))) | ((with_reducible refine k_guard ?_); ((refine s_gf1 rfl ?_))) | ((with_reducible refine k_mv ?_); (refine s_mv rfl ?_)) | ((with_reducible refine k_pick ?_); ((refine s_pickF rfl rfl ?_))) | ((with_reducible refine k_eql ?_); ((refine s_eql rfl rfl ?_))) | ((with_reducible refine k_neq ?_); ((refine s_neq rfl rfl ?_))) | ((with_reducible refine k_load ?_); (((with_reducible apply s_loadP); (· rfl); (· (exact hpX))))) | ((with_reducible refine k_faddr ?_); (((with_reducible apply s_faddrP); (· rfl); (· rfl)))) | ((with_reducible refine k_box (dst := some 4) ?_); ((with_reducible apply s_box); (· rfl); (· rfl); intro k4 hk4; (try simp only [upd_none] at hk4))) | ((with_reducible refine k_build ?_); ((with_reducible apply s_build); (· rfl); (· rfl))) | ((with_reducible refine k_buildS (dst := some 28) ?_); ((with_reducible apply s_buildS); (· rfl); (· (exact ⟨rfl, by decide⟩)); (· ((simp only [fillB, rep, splice, List.reduceReplicate, List.flatten_cons, List.flatten_nil, List.cons_append, List.nil_append, List.append_nil, List.length_cons, List.length_nil, Nat.reduceAdd, Nat.reduceMul, Nat.reduceLeDiff, Nat.reduceEqDiff, eq_self, Nat.le_refl, Nat.zero_add, and_self, and_true, true_and, if_true, List.take_zero, List.take_succ_cons, List.drop_zero, List.drop_succ_cons, List.drop_nil, List.take_nil]; rfl))); intro k28 hk28; (try simp only [upd_none] at hk28))) | ((with_reducible refine k_append (dst := some 29) ?_); ((with_reducible apply s_app2); (· rfl); (· rfl); (· first | ((repeat' (first | assumption | (with_reducible apply SlOwn.upd) | (simp only [upd_none]; assumption))); done)); (· rfl); (· first | exact srcD_sl upd_self rfl); (· exact ⟨by rfl, by decide, by decide⟩); (· first | (rw [room_n]; omega)); intro ka29 ha29 hn29 hk29 hoth29)) | ((with_reducible refine k_br ?_); (first | (refine Br_t (by with_reducible rfl) ?_) | (refine Br_f (by omega) ?_))) | (((with_reducible apply q_eqO)); (exact liO)))
      obtain ⟨a1, a2⟩ := app ⟨2, q1, 0, []⟩ _ _ _ _ _ _ hk4 hk28 hn29 hk29 hoth29
      exact ⟨trivial, _, rfl, hQ _ _ (by simpa [hapF] using a1) a2⟩
    · repeat' (first | (with_reducible first | refine W_seq ?_ | refine then_n ?_ | refine W_ret ?_ | refine then_r ?_) | ((with_reducible refine s_reg ?_); intro K hK) | ((with_reducible refine k_nil ?_); (with_reducible apply s_nil hK); (· exact nmX); clear hK; clear K) | ((with_reducible refine k_cond ?_); (((with_reducible apply s_condT); (· rfl); (· exact nmX)))) | ((with_reducible refine k_guard ?_); ((refine s_gt rfl ?_))) | ((with_reducible refine k_mv ?_); (refine s_mv rfl ?_)) | ((with_reducible refine k_pick ?_); ((refine s_pickT rfl rfl ?_))) | ((with_reducible refine k_eql ?_); ((refine s_eql rfl rfl ?_))) | ((with_reducible refine k_load ?_); (((with_reducible apply s_loadP); (· rfl); (· (exact hpX))))) | ((with_reducible refine k_faddr ?_); (((with_reducible apply s_faddrP); (· rfl); (· rfl)))) | ((with_reducible refine k_box (dst := some 4) ?_); ((with_reducible apply s_box); (· rfl); (· rfl); intro k4 hk4; (try simp only [upd_none] at hk4))) | ((with_reducible refine k_build ?_); ((with_reducible apply s_build); (· rfl); (· rfl))) | ((with_reducible refine k_buildS (dst := some 17) ?_); ((with_reducible apply s_buildS); (· rfl); (· (exact ⟨rfl, by decide⟩)); (· ((simp only [fillB, rep, splice, List.reduceReplicate, List.flatten_cons, List.flatten_nil, List.cons_append, List.nil_append, List.append_nil, List.length_cons, List.length_nil, Nat.reduceAdd, Nat.reduceMul, Nat.reduceLeDiff, Nat.reduceEqDiff, eq_self, Nat.le_refl, Nat.zero_add, and_self, and_true, true_and, if_true, List.take_zero, List.take_succ_cons, List.drop_zero, List.drop_succ_cons, List.drop_nil, List.take_nil]; rfl))); intro k17 hk17; (try simp only [upd_none] at hk17))) | ((with_reducible refine k_append (dst := some 18) ?_); ((with_reducible apply s_app2); (· rfl); (· rfl); (· first | ((repeat' (first | assumption | (with_reducible apply SlOwn.upd) | (simp only [upd_none]; assumption))); done)); (· rfl); (· first | exact srcD_sl upd_self rfl); (· exact ⟨by rfl, by decide, by decide⟩); (· first | (rw [room_n]; omega)); intro ka18 ha18 hn18 hk18 hoth18)) | ((with_reducible refine k_br ?_); ((refine Br_t (by with_reducible rfl) ?_))) | (((with_reducible apply q_eqO)); (exact liO)))
      obtain ⟨a1, a2⟩ := app ⟨3, 0, 0, []⟩ _ _ _ _ _ _ hk4 hk17 hn18 hk18 hoth18
      exact ⟨trivial, _, rfl, hQ _ _ (by simpa [hapF] using a1) a2⟩
  | false =>
    rcases hk with rfl | rfl
    · repeat' (first | (with_reducible first | refine W_seq ?_ | refine then_n ?_ | refine W_block ?_ | refine W_skip ?_) | ((with_reducible refine s_reg ?_); intro K hK) | ((with_reducible refine k_nil ?_); (with_reducible apply s_nil hK); (· exact nmX); clear hK; clear K) | ((with_reducible refine k_cond ?_); (((with_reducible apply s_condF); (· rfl); (· exact nmX)))) | ((with_reducible refine k_guard ?_); ((refine s_gf1 rfl ?_))) | ((with_reducible refine k_mv ?_); (refine s_mv rfl ?_)) | ((with_reducible refine k_pick ?_); ((refine s_pickF rfl rfl ?_))) | ((with_reducible refine k_eql ?_); ((refine s_eql rfl rfl ?_))) | ((with_reducible refine k_neq ?_); ((refine s_neq rfl rfl ?_))) | ((with_reducible refine k_load ?_); (((with_reducible apply s_loadP); (· rfl); (· (exact hpX))))) | ((with_reducible refine k_faddr ?_); (((with_reducible apply s_faddrP); (· rfl); (· rfl)))) | ((with_reducible refine k_box (dst := some 4) ?_); ((with_reducible apply s_box); (· rfl); (· rfl); intro k4 hk4; (try simp only [upd_none] at hk4))) | ((with_reducible refine k_br ?_); (first | (refine Br_t (by with_reducible rfl) ?_) | (refine Br_f (by omega) ?_))) | (((with_reducible apply q_eqO)); (exact liO)))
      have hh : hapF l ⟨q1, 2, q3, q4⟩ false = l.filter fun e => decide (e.kind ≠ 1 ∨ e.id ≠ q1) := by simp [hapF]
      rw [hh] at hQ
      clear app hh
      have hc4 : upd h k4 [.int .i64 q1, .int .i64 2, .int .i64 q3, nD q4] k4 = some [.int .i64 q1, .int .i64 2, .int .i64 q3, nD q4] := upd_self
      have hs : ∀ j c, h j = some c → upd h k4 [.int .i64 q1, .int .i64 2, .int .i64 q3, nD q4] j = some c := fun j c hj => upd_sub hk4 _ _ hj
      clear hk4
      generalize upd h k4 [.int .i64 q1, .int .i64 2, .int .i64 q3, nD q4] = hA at *
      refine W_for l.length (fun i st => ∃ d7 h', st = ⟨[(0, d), (4, .pt k4 0), (7, d7), (8, .int .i64 i)], h'⟩ ∧ SlOwn h' d7 4 (((l.take i).filter fun e => decide (e.kind ≠ 1 ∨ e.id ≠ q1)).flatMap Ev.hv) ((l.take i).filter fun e => decide (e.kind ≠ 1 ∨ e.id ≠ q1)).length ∧ ∀ j c, hA j = some c → h' j = some c ∧ Fr d7 j)
        ⟨_, _, rfl, SlOwn.nil, fun j c hj => ⟨hj, Fr.nil⟩⟩ ?_ ?_
      · rintro i e' h' hi ⟨d7, h1, he, o7, hk⟩
        cases he
        obtain ⟨g4, f4⟩ := hk _ _ hc4
        have od : SlOwn h' d 4 (l.flatMap Ev.hv) l.length := so_mv ho fun k s o m e c hc => (hk _ _ (hs _ _ hc)).1
        have hrow := evh hi
        have e0 := evh0 hi
        have e1 := evh1 hi
        have hfl : ((l.take i).filter fun e => decide (e.kind ≠ 1 ∨ e.id ≠ q1)).length ≤ i := Nat.le_trans (List.length_filter_le _ _) (by rw [List.length_take]; omega)
        rw [take_s hi, List.filter_append, List.flatMap_append, List.length_append, List.filter_cons, List.filter_nil]
        have hrl := fm_len Ev.hv_len ((l.take i).filter fun e => decide (e.kind ≠ 1 ∨ e.id ≠ q1))
        generalize (l.take i).filter (fun e => decide (e.kind ≠ 1 ∨ e.id ≠ q1)) = l7 at *
        generalize l[i] = x at *
        obtain ⟨x1, x2, x3, x4⟩ := x
        dsimp only at *
        repeat' (first | (with_reducible first | refine W_seq ?_ | refine then_n ?_ | refine W_block ?_ | refine blk_n ?_ | refine W_skip ?_) | ((with_reducible refine s_reg ?_); intro K hK) | ((with_reducible refine k_nil ?_); (with_reducible apply s_nil hK); (· exact nmX); clear hK; clear K) | ((with_reducible refine k_cond ?_); (first | ((with_reducible apply s_condT); (· rfl); (· exact nmX)) | ((with_reducible apply s_condF); (· rfl); (· exact nmX)))) | ((with_reducible refine k_mv ?_); (refine s_mv rfl ?_)) | ((with_reducible refine k_len ?_); (((with_reducible apply s_len); (· rfl); (· exact SlOwn.len (by assumption))))) | ((with_reducible refine k_pick ?_); (first | (refine s_pickT rfl rfl ?_) | (refine s_pickF rfl rfl ?_))) | ((with_reducible refine k_neq ?_); ((refine s_neq rfl rfl ?_))) | ((with_reducible refine k_lss ?_); (refine s_lss rfl rfl ?_)) | ((with_reducible refine k_iaddr ?_); (((with_reducible apply s_iaddrSO); (· rfl); (· assumption); (· rfl); (· (omega)); (· ((simp (disch := omega) only [w64, wu8, wu16, wu32, wu64, tm_nn, td_nn, fd_nn, Int.reduceAdd, Int.reduceSub, Int.reduceMul, Int.reduceDiv, Int.reduceMod, Int.reduceNeg, Int.reduceToNat, Int.toNat_natCast, Int.toNat_zero, Int.zero_add, Int.add_zero, Int.one_mul, Int.reducePow, Nat.mul_one, Nat.zero_add, Nat.add_zero, Nat.zero_mul, Nat.reduceAdd, Nat.reduceMul, Nat.reduceSub, Nat.min_eq_left, IntKind.bits, Nat.sub_zero, hrow, e0, e1, Int.toNat_natCast]; try rfl; done))); intro ks hks))) | ((with_reducible refine k_load ?_); (((with_reducible apply s_loadP); (· rfl); (· (exact hpX))))) | ((with_reducible refine k_loadA ?_); (((with_reducible apply s_loadAP); (· rfl); (· (exact hpX)); (· (omega))))) | ((with_reducible refine k_add ?_); ((with_reducible apply s_add); (· rfl); (· rfl))) | ((with_reducible refine k_faddr ?_); (((with_reducible apply s_faddrP); (· rfl); (· rfl)))) | ((with_reducible refine k_buildS (dst := some 57) ?_); ((with_reducible apply s_buildS); (· rfl); (· (exact ⟨rfl, by decide⟩)); (· ((simp only [fillB, rep, splice, List.reduceReplicate, List.flatten_cons, List.flatten_nil, List.cons_append, List.nil_append, List.append_nil, List.length_cons, List.length_nil, Nat.reduceAdd, Nat.reduceMul, Nat.reduceLeDiff, Nat.reduceEqDiff, eq_self, Nat.le_refl, Nat.zero_add, and_self, and_true, true_and, if_true, List.take_zero, List.take_succ_cons, List.drop_zero, List.drop_succ_cons, List.drop_nil, List.take_nil]; rfl))); intro k57 hk57; (try simp only [upd_none] at hk57))) | ((with_reducible refine k_append (dst := some 58) ?_); ((with_reducible apply s_app2); (· rfl); (· rfl); (· first | ((repeat' (first | assumption | (with_reducible apply SlOwn.upd))); done)); (· rfl); (· first | exact srcD_sl upd_self rfl); (· exact ⟨by rfl, by decide, by decide⟩); (· first | (rw [room_n]; omega)); intro ka58 ha58 hn58 hk58 hoth58)) | ((with_reducible refine k_dreg ?_); refine s_dreg rfl rfl ?_; intro K hK) | ((with_reducible refine k_dnil ?_); (with_reducible apply d_nil hK); (· exact nmX); clear hK; clear K) | ((with_reducible refine k_dguard ?_); (first | (refine d_gt rfl ?_) | (refine d_gf rfl ?_))) | ((with_reducible refine k_dop ?_); refine d_step (by first | exact Or.inl rfl | exact Or.inr rfl) ?_) | (with_reducible refine d_back ?_) | ((with_reducible refine k_br ?_); (first | (refine Br_t (by omega) ?_) | (with_reducible apply Br_s <;> intro hbr))) | (((with_reducible apply q_eqI)); ((simp (disch := omega) only [w64, wu8, wu16, wu32, wu64, tm_nn, td_nn, fd_nn, Int.reduceAdd, Int.reduceSub, Int.reduceMul, Int.reduceDiv, Int.reduceMod, Int.reduceNeg, Int.reduceToNat, Int.toNat_natCast, Int.toNat_zero, Int.zero_add, Int.add_zero, Int.one_mul, Int.reducePow, Nat.mul_one, Nat.zero_add, Nat.add_zero, Nat.zero_mul, Nat.reduceAdd, Nat.reduceMul, Nat.reduceSub, Nat.min_eq_left, IntKind.bits, Nat.sub_zero, hrow, e0, e1, Int.toNat_natCast]; try rfl; done))) | ((first | (with_reducible apply q_eqL) | (with_reducible apply q_eqO)); ((simp (disch := omega) only [upd_self, upd_ne, upd_upd, rep, splice, List.take_succ_cons, List.take_zero, List.drop_succ_cons, List.drop_zero, List.cons_append, List.nil_append, List.append_nil, List.length_cons, List.length_nil, List.reduceReplicate, List.flatten_cons, List.flatten_nil, Nat.reduceAdd, Nat.reduceMul, Nat.reduceSub, Nat.zero_add, Nat.add_zero, List.getElem?_cons_zero, List.getElem?_cons_succ, hrow, e0, e1, Int.toNat_natCast]; try rfl; done))))
        · rw [if_neg (by simp; omega)]
          exact ⟨_, _, rfl, by simpa using o7, hk⟩
        · rw [if_pos (by simp; omega)]
          refine ⟨_, _, rfl, SlOwn.sl (by simpa [Ev.hv] using hk58) (by simp [hrl, Ev.hv_len]; omega), fun j c hj => ?_⟩
          obtain ⟨a1, a2⟩ := hk j c hj
          have a3 := upd_sub (x := [.int .i64 x1, .int .i64 x2, .int .i64 x3, if x1 = 1 then nD x4 else .nil]) hk57 _ _ a1
          exact ⟨hoth58 j c a3 a2, Fr.sl fun e => by rw [e, a3] at hn58; cases hn58⟩
        · rw [if_pos (by simp; omega)]
          refine ⟨_, _, rfl, SlOwn.sl (by simpa [Ev.hv] using hk58) (by simp [hrl, Ev.hv_len]; omega), fun j c hj => ?_⟩
          obtain ⟨a1, a2⟩ := hk j c hj
          have a3 := upd_sub (x := [.int .i64 x1, .int .i64 x2, .int .i64 x3, if x1 = 1 then nD x4 else .nil]) hk57 _ _ a1
          exact ⟨hoth58 j c a3 a2, Fr.sl fun e => by rw [e, a3] at hn58; cases hn58⟩
      · rintro e' h' ⟨d7, h1, he, o7, hk⟩
        cases he
        rw [List.take_length] at o7
        have od : SlOwn h' d 4 (l.flatMap Ev.hv) l.length := so_mv ho fun k s o m e c hc => (hk _ _ (hs _ _ hc)).1
        repeat' (first | (with_reducible first | refine W_seq ?_ | refine then_n ?_ | refine blk_e ?_ | refine W_ret ?_ | refine W_exit ?_ | refine then_e ?_) | ((with_reducible refine s_reg ?_); intro K hK) | ((with_reducible refine k_nil ?_); (with_reducible apply s_nil hK); (· exact nmX); clear hK; clear K) | ((with_reducible refine k_cond ?_); (((with_reducible apply s_condF); (· rfl); (· exact nmX)))) | ((with_reducible refine k_mv ?_); (refine s_mv rfl ?_)) | ((with_reducible refine k_len ?_); (((with_reducible apply s_len); (· rfl); (· exact SlOwn.len (by assumption))))) | ((with_reducible refine k_lss ?_); (refine s_lss rfl rfl ?_)) | ((with_reducible refine k_br ?_); ((refine Br_f (by omega) ?_))))
        exact ⟨trivial, _, rfl, hQ _ _ o7 fun j c hj _ => hk j c (hs j c hj)⟩
    · repeat' (first | (with_reducible first | refine W_seq ?_ | refine then_n ?_ | refine W_skip ?_ | refine W_ret ?_ | refine then_r ?_) | ((with_reducible refine s_reg ?_); intro K hK) | ((with_reducible refine k_nil ?_); (with_reducible apply s_nil hK); (· exact nmX); clear hK; clear K) | ((with_reducible refine k_cond ?_); (first | ((with_reducible apply s_condT); (· rfl); (· exact nmX)) | ((with_reducible apply s_condF); (· rfl); (· exact nmX)))) | ((with_reducible refine k_guard ?_); ((refine s_gt rfl ?_))) | ((with_reducible refine k_mv ?_); (refine s_mv rfl ?_)) | ((with_reducible refine k_pick ?_); ((refine s_pickT rfl rfl ?_))) | ((with_reducible refine k_eql ?_); ((refine s_eql rfl rfl ?_))) | ((with_reducible refine k_neq ?_); ((refine s_neq rfl rfl ?_))) | ((with_reducible refine k_load ?_); (((with_reducible apply s_loadP); (· rfl); (· (exact hpX))))) | ((with_reducible refine k_faddr ?_); (((with_reducible apply s_faddrP); (· rfl); (· rfl)))) | ((with_reducible refine k_box (dst := some 4) ?_); ((with_reducible apply s_box); (· rfl); (· rfl); intro k4 hk4; (try simp only [upd_none] at hk4))) | ((with_reducible refine k_br ?_); (first | (refine Br_t (by with_reducible rfl) ?_) | (refine Br_f (by omega) ?_))) | (((with_reducible apply q_eqO)); (exact liO)))
      exact ⟨trivial, _, rfl, hQ _ _ (by simpa [hapF] using slSub ho (upd_sub hk4)) fun j c hj hf => ⟨upd_sub hk4 _ _ hj, hf⟩⟩
end Go.Proofs.Ythblalidmmbcoaa
end
section
/- A device stays valid. -/
set_option linter.unusedSimpArgs false
set_option linter.unusedVariables false
namespace Go.Proofs.Ythblalidmmbcoaa
open Go.AM Classical
theorem ordC_iff {C : List Ca} {n : Int} : (∀ i (h : i < C.length), preC C i < C[i].block ∧ C[i].block < n) ↔ C.Pairwise (fun a b => a.block < b.block) ∧ ∀ c ∈ C, 0 ≤ c.block ∧ c.block < n := by
  constructor
  · intro ho
    refine ⟨List.pairwise_iff_getElem.2 fun i j hi hj h => cas_lt ho i j hi hj h, fun c hc => ?_⟩
    obtain ⟨i, hi, rfl⟩ := List.mem_iff_getElem.1 hc
    exact ⟨cas_ge ho i hi, (ho i hi).2⟩
  · rintro ⟨hp, hb⟩ i hi
    refine ⟨?_, (hb _ (List.getElem_mem hi)).2⟩
    match i with
    | 0 => have h1 := (hb _ (List.getElem_mem hi)).1; have : preC C 0 = -1 := rfl; omega
    | i + 1 => rw [preC_s (by omega : i < C.length)]; exact List.pairwise_iff_getElem.1 hp i (i + 1) (by omega) hi (by omega)
theorem qus_lt {l : List Rq} {n : Int} (ho : ∀ i (h : i < l.length), preQ l i < l[i].id ∧ l[i].id < n) : ∀ (i j : Nat) (hi : i < l.length) (hj : j < l.length), i < j → l[i].id < l[j].id
  | i, 0, hi, hj, h => by omega
  | i, j + 1, hi, hj, h => by
    have h1 := (ho (j + 1) hj).1
    rw [preQ_s (by omega : j < l.length)] at h1
    rcases Nat.lt_or_ge i j with h2 | h2
    · have := qus_lt ho i j hi (by omega) h2
      omega
    · have : i = j := by omega
      subst this
      exact h1
theorem qus_ge {l : List Rq} {n : Int} (ho : ∀ i (h : i < l.length), preQ l i < l[i].id ∧ l[i].id < n) (i : Nat) (h : i < l.length) : 0 ≤ l[i].id := by
  have h1 := (ho i h).1
  match i with
  | 0 => have : preQ l 0 = -1 := rfl; omega
  | i + 1 =>
    have h2 := qus_ge ho i (by omega)
    rw [preQ_s (by omega : i < l.length)] at h1
    omega
theorem ordQ_iff {C : List Rq} {n : Int} : (∀ i (h : i < C.length), preQ C i < C[i].id ∧ C[i].id < n) ↔ C.Pairwise (fun a b => a.id < b.id) ∧ ∀ c ∈ C, 0 ≤ c.id ∧ c.id < n := by
  constructor
  · intro ho
    refine ⟨List.pairwise_iff_getElem.2 fun i j hi hj h => qus_lt ho i j hi hj h, fun c hc => ?_⟩
    obtain ⟨i, hi, rfl⟩ := List.mem_iff_getElem.1 hc
    exact ⟨qus_ge ho i hi, (ho i hi).2⟩
  · rintro ⟨hp, hb⟩ i hi
    refine ⟨?_, (hb _ (List.getElem_mem hi)).2⟩
    match i with
    | 0 => have h1 := (hb _ (List.getElem_mem hi)).1; have : preQ C 0 = -1 := rfl; omega
    | i + 1 => rw [preQ_s (by omega : i < C.length)]; exact List.pairwise_iff_getElem.1 hp i (i + 1) (by omega) hi (by omega)
theorem sub_ok {d : Dv} (ok : DvOk d) {k b : Int} {c : Bs} (hq : rqOk d.blocks.length ⟨d.next, k, b, c⟩) (hn : d.next < 1099511627776) (hf : (d.queue.length : Int) < d.depth) : DvOk (subD d k b c) := by
  obtain ⟨h1, h2⟩ := ordQ_iff.1 ok.qord
  refine ⟨ok.depth, ?_, ok.blocks, ok.page, ok.ord, ok.csmall, ok.cpage, ?_, ?_, ?_⟩
  · have := ok.next
    show 0 ≤ d.next + 1 ∧ d.next + 1 ≤ _
    omega
  · show (((d.queue ++ [_]).length : Nat) : Int) ≤ d.depth
    rw [List.length_append, List.length_singleton]
    omega
  · intro q hq'
    rcases List.mem_append.1 hq' with h | h
    · exact ok.req q h
    · rw [List.mem_singleton.1 h]; exact hq
  · refine ordQ_iff.2 ⟨?_, ?_⟩
    · show (d.queue ++ [_]).Pairwise _
      rw [List.pairwise_append]
      refine ⟨h1, by simp, fun a ha x hx => ?_⟩
      rw [List.mem_singleton.1 hx]
      exact (h2 a ha).2
    · intro q hq'
      have := ok.next
      rcases List.mem_append.1 hq' with h | h
      · have := h2 q h
        show 0 ≤ q.id ∧ q.id < d.next + 1
        omega
      · rw [List.mem_singleton.1 h]
        show 0 ≤ d.next ∧ d.next < d.next + 1
        omega
theorem er_ok {d : Dv} (ok : DvOk d) (p : Nat) : DvOk (erD d p) := by
  obtain ⟨h1, h2⟩ := ordQ_iff.1 ok.qord
  have hs := List.eraseIdx_sublist d.queue p
  refine ⟨ok.depth, ok.next, ok.blocks, ok.page, ok.ord, ok.csmall, ok.cpage, ?_, fun q hq => ok.req q (hs.subset hq), ?_⟩
  · have := hs.length_le
    have := ok.full
    show (((d.queue.eraseIdx p).length : Nat) : Int) ≤ d.depth
    omega
  · exact ordQ_iff.2 ⟨h1.sublist hs, fun c hc => h2 c (hs.subset hc)⟩
theorem lbC_lt : ∀ {l : List Ca} {b : Int} (m : Nat) (h : m < l.length), m < lbC l b → l[m].block < b
  | [], b, m, h, hm => by simp at h
  | c :: r, b, 0, h, hm => by
    unfold lbC at hm
    split at hm
    · assumption
    · omega
  | c :: r, b, m + 1, h, hm => by
    unfold lbC at hm
    split at hm
    · exact lbC_lt (l := r) m (by simpa using h) (by omega)
    · omega
theorem lbC_ge : ∀ {l : List Ca} {b : Int} (h : lbC l b < l.length), b ≤ l[lbC l b].block
  | [], b, h => by simp at h
  | c :: r, b, h => by
    by_cases hb : c.block < b
    · have e : lbC (c :: r) b = lbC r b + 1 := if_pos hb
      have h2 : lbC r b < r.length := by rw [e] at h; simpa using h
      have := lbC_ge (l := r) h2
      simp only [e, List.getElem_cons_succ]
      exact this
    · have e : lbC (c :: r) b = 0 := if_neg hb
      simp only [e, List.getElem_cons_zero]
      omega
theorem hasC_f {l : List Ca} {b : Int} (h : hasC l b = false) (h1 : lbC l b < l.length) : l[lbC l b].block ≠ b := by
  unfold hasC at h
  rw [List.getElem?_eq_getElem h1] at h
  exact of_decide_eq_false h
theorem setC_ok {C : List Ca} {n : Int} {b : Int} {x : Bs} (hp : C.Pairwise (fun a b => a.block < b.block)) (hc : ∀ c ∈ C, 0 ≤ c.block ∧ c.block < n) (hb : 0 ≤ b ∧ b < n) :
    (setC C b x).Pairwise (fun a b => a.block < b.block) ∧ ∀ c ∈ setC C b x, 0 ≤ c.block ∧ c.block < n := by
  unfold setC
  split
  · rename_i h
    obtain ⟨h1, h2⟩ := hasC_t h
    have hm : (C.set (lbC C b) ⟨b, x⟩).map Ca.block = C.map Ca.block := by
      rw [List.map_set]
      apply List.ext_getElem (by simp)
      intro i hi hi2
      rw [List.getElem_set]
      split
      · rename_i e; subst e; simp [h2]
      · rfl
    refine ⟨?_, fun c hc' => ?_⟩
    · have : ((C.set (lbC C b) ⟨b, x⟩).map Ca.block).Pairwise (· < ·) := by rw [hm]; exact List.pairwise_map.2 hp
      exact List.pairwise_map.1 this
    · rcases List.mem_or_eq_of_mem_set hc' with h' | rfl
      · exact hc c h'
      · exact hb
  · rename_i h
    have h : hasC C b = false := by simpa using h
    have hle := lbC_le C b
    have ht : ∀ a ∈ C.take (lbC C b), a.block < b := fun a ha => by
      obtain ⟨i, hi, rfl⟩ := List.mem_iff_getElem.1 ha
      rw [List.length_take] at hi
      rw [List.getElem_take]
      exact lbC_lt i (by omega) (by omega)
    have hd : ∀ a ∈ C.drop (lbC C b), b < a.block := fun a ha => by
      obtain ⟨i, hi, rfl⟩ := List.mem_iff_getElem.1 ha
      rw [List.length_drop] at hi
      rw [List.getElem_drop]
      have h1 : lbC C b < C.length := by omega
      have h2 := lbC_ge h1
      have h3 := hasC_f h h1
      rcases Nat.eq_zero_or_pos i with rfl | hi0
      · simp only [Nat.add_zero]; omega
      · have := List.pairwise_iff_getElem.1 hp (lbC C b) (lbC C b + i) h1 (by omega) (by omega)
        omega
    refine ⟨?_, fun c hc' => ?_⟩
    · rw [List.append_assoc, List.pairwise_append]
      refine ⟨hp.sublist (List.take_sublist _ _), ?_, fun a ha c hc' => ?_⟩
      · rw [List.singleton_append, List.pairwise_cons]
        exact ⟨fun a ha => hd a ha, hp.sublist (List.drop_sublist _ _)⟩
      · have h1 := ht a ha
        rcases List.mem_append.1 hc' with h' | h'
        · rw [List.mem_singleton.1 h']; exact h1
        · have := hd c h'; omega
    · simp only [List.mem_append, List.mem_singleton] at hc'
      rcases hc' with (h' | rfl) | h'
      · exact hc c (List.mem_of_mem_take h')
      · exact hb
      · exact hc c (List.mem_of_mem_drop h')
theorem cas_idx {C : List Ca} (hp : C.Pairwise (fun a b => a.block < b.block)) (hc : ∀ c ∈ C, 0 ≤ c.block) : ∀ (i : Nat) (h : i < C.length), (i : Int) ≤ C[i].block
  | 0, h => hc _ (List.getElem_mem h)
  | i + 1, h => by
    have h1 := cas_idx hp hc i (by omega)
    have h2 := List.pairwise_iff_getElem.1 hp i (i + 1) (by omega) h (by omega)
    omega
theorem cas_few {C : List Ca} {n : Nat} (hp : C.Pairwise (fun a b => a.block < b.block)) (hc : ∀ c ∈ C, 0 ≤ c.block ∧ c.block < n) : C.length ≤ n := by
  rcases Nat.eq_zero_or_pos C.length with h | h
  · omega
  · have h1 := cas_idx hp (fun c hc' => (hc c hc').1) (C.length - 1) (by omega)
    have h2 := (hc _ (List.getElem_mem (by omega : C.length - 1 < C.length))).2
    omega
theorem setC_mem {C : List Ca} {b : Int} {x : Bs} {c : Ca} (h : c ∈ setC C b x) : c ∈ C ∨ c = ⟨b, x⟩ := by
  unfold setC at h
  split at h
  · exact List.mem_or_eq_of_mem_set h
  · simp only [List.mem_append, List.mem_singleton] at h
    rcases h with (h | h) | h
    · exact .inl (List.mem_of_mem_take h)
    · exact .inr h
    · exact .inl (List.mem_of_mem_drop h)
theorem fluB_mem : ∀ {B : List Bs} {C : List Ca} {b : Bs}, b ∈ fluB B C → b ∈ B ∨ ∃ c ∈ C, c.data = b
  | B, [], b, h => .inl h
  | B, c :: r, b, h => by
    rcases fluB_mem (B := B.set c.block.toNat c.data) (C := r) h with h' | ⟨c', hc', e⟩
    · rcases List.mem_or_eq_of_mem_set h' with h2 | h2
      · exact .inl h2
      · exact .inr ⟨c, by simp, h2.symm⟩
    · exact .inr ⟨c', by simp [hc'], e⟩
theorem com_ok {d : Dv} (ok : DvOk d) {p : Nat} (hp : p < d.queue.length) (hk : d.queue[p].kind = 2 ∨ d.queue[p].kind = 3) (o : Bool) : DvOk (comD d p d.queue[p] o) := by
  have oe := er_ok ok p
  unfold comD
  split
  · exact oe
  · split
    · rename_i h2
      have hq := ok.req _ (List.getElem_mem hp)
      obtain ⟨h3, h4⟩ := ordC_iff.1 ok.ord
      have hb := hq.2.2.1 (by rw [h2]; decide)
      have h5 := setC_ok (x := d.queue[p].data) h3 h4 hb
      have h6 := cas_few h5.1 h5.2
      have h7 := ok.blocks
      exact ⟨oe.depth, oe.next, oe.blocks, oe.page, ordC_iff.2 h5, by show (setC d.cache _ _).length ≤ 256; omega, fun c hc => by
        rcases setC_mem hc with h | h
        · exact ok.cpage c h
        · rw [h]; exact hq.2.2.2.1 h2, oe.full, oe.req, oe.qord⟩
    · have hl : (fluB d.blocks d.cache).length = d.blocks.length := fluB_len _ _
      refine ⟨oe.depth, oe.next, by show 1 ≤ (fluB d.blocks d.cache).length ∧ _; rw [hl]; exact ok.blocks, fun b hb => ?_, fun i h => by simp at h, by simp, by simp, oe.full, ?_, oe.qord⟩
      · rcases fluB_mem hb with h | ⟨c, hc, rfl⟩
        · exact ok.page b h
        · exact ok.cpage c hc
      · intro q hq
        have := oe.req q hq
        show rqOk (fluB d.blocks d.cache).length q
        rw [hl]; exact this
end Go.Proofs.Ythblalidmmbcoaa
end
section
/- A device that is driven: what it comes to. No program. -/
set_option linter.unusedSimpArgs false
set_option linter.unusedVariables false
namespace Go.Proofs.Ythblalidmmbcoaa
open Go.AM Classical
set_option maxRecDepth 100000
set_option maxHeartbeats 4000000
def pg (a : Int) : Bs := List.replicate 32 a
theorem pg_len (a : Int) : (pg a).length = 32 := by simp [pg]
structure Io where
  kind : Nat
  block : Nat
  value : Nat
  at_ : Nat
def Io.cells (x : Io) : List D := [.int .u8 x.kind, .int .u8 x.block, .int .u8 x.value, .int .u8 x.at_]
theorem Io.cells_len (x : Io) : x.cells.length = 4 := rfl
abbrev iosD (l : List Io) : D := .vs 4 (l.flatMap Io.cells) l.length
theorem Io.row {l : List Io} {i : Nat} (h : i < l.length) : ((l.flatMap Io.cells).drop (i * 4)).take 4 = [.int .u8 (l[i].kind : Nat), .int .u8 (l[i].block : Nat), .int .u8 (l[i].value : Nat), .int .u8 (l[i].at_ : Nat)] := fm_row Io.cells_len h
abbrev dvn (d : Dv) : List D := [.int .i64 d.depth, .int .i64 d.next, .vn 1 (d.blocks.map bD) d.blocks.length, .vn 2 (d.cache.flatMap Ca.cells) d.cache.length, .vn 4 (d.queue.flatMap Rq.cells) d.queue.length]
def drvS (s : Dv × List Ev) (o : Io) : Dv × List Ev :=
  if o.kind % 4 = 0 then
    (if s.1.queue.length = 4 then s else (subD s.1 2 (o.block % 3 : Nat) (pg ((1 + o.value % 9 : Nat) : Int)), s.2 ++ [⟨1, s.1.next, (o.block % 3 : Nat), pg ((1 + o.value % 9 : Nat) : Int)⟩]))
  else if o.kind % 4 = 1 then (if s.1.queue.length = 4 then s else (subD s.1 3 0 [], s.2))
  else match s.1.queue[o.at_ % s.1.queue.length]? with
    | none => s
    | some q => (comD s.1 (o.at_ % s.1.queue.length) q (decide (o.kind % 4 = 2)), hapF s.2 q (decide (o.kind % 4 = 2)))
def drv0 : Dv × List Ev := (⟨4, 0, [pg 0, pg 0, pg 0], [], []⟩, [])
def drvF (l : List Io) : Dv × List Ev := l.foldl drvS drv0
theorem Rd_dvn {h : Heap} {d : Dv} : Rd h (.agg (dvn d)) (dvD d) := Rd_ag (All2.cons Rd_int (All2.cons Rd_int (All2.cons Rd_vn (All2.cons Rd_vn (All2.cons Rd_vn All2.nil)))))
structure Dri (n : Nat) (s : Dv × List Ev) : Prop where
  ok : DvOk s.1
  dep : s.1.depth = 4
  bl : s.1.blocks.length = 3
  kd : ∀ q ∈ s.1.queue, q.kind = 2 ∨ q.kind = 3
  nx : s.1.next ≤ n
  el : s.2.length ≤ n
  ev : ∀ x ∈ s.2, x.kind ≠ 1 → x.data = []
theorem Dri.up {n : Nat} {s : Dv × List Ev} (D : Dri n s) : Dri (n + 1) s := ⟨D.ok, D.dep, D.bl, D.kd, by have := D.nx; omega, by have := D.el; omega, D.ev⟩
theorem Dri.q4 {n : Nat} {s : Dv × List Ev} (D : Dri n s) : s.1.queue.length ≤ 4 := by have := D.ok.full; rw [D.dep] at this; omega
theorem rq_w {d : Dv} (h : d.blocks.length = 3) {m : Nat} (hm : m < 3) {c : Bs} (hc : c.length = 32) : rqOk d.blocks.length ⟨d.next, 2, m, c⟩ := by
  rw [h]
  exact ⟨.inr (.inl rfl), fun e => by simp at e, fun _ => ⟨by simp, by show (m : Int) < 3; omega⟩, fun _ => hc, fun e => absurd rfl e⟩
theorem rq_f {d : Dv} : rqOk d.blocks.length ⟨d.next, 3, 0, []⟩ := ⟨.inr (.inr rfl), fun _ => rfl, fun e => absurd rfl e, fun e => by simp at e, fun _ => rfl⟩
theorem com_len {d : Dv} {p : Nat} {q : Rq} {o : Bool} : (comD d p q o).blocks.length = d.blocks.length ∧ (comD d p q o).depth = d.depth ∧ (comD d p q o).next = d.next ∧ (comD d p q o).queue = d.queue.eraseIdx p := by
  unfold comD
  split
  · exact ⟨rfl, rfl, rfl, rfl⟩
  · split
    · exact ⟨rfl, rfl, rfl, rfl⟩
    · exact ⟨fluB_len _ _, rfl, rfl, rfl⟩
theorem drv_ok {n : Nat} {s : Dv × List Ev} (D : Dri n s) (hn : n ≤ 1000) (o : Io) : Dri (n + 1) (drvS s o) := by
  have hnx := D.nx
  have hq4 := D.q4
  have hdep := D.dep
  unfold drvS
  split
  · split
    · exact D.up
    · rename_i h0 h4
      refine ⟨sub_ok D.ok (rq_w D.bl (Nat.mod_lt _ (by decide)) (pg_len _)) (by omega) (by omega), D.dep, D.bl, fun q hq => ?_, by show s.1.next + 1 ≤ _; omega, by have := D.el; simp; omega, fun x hx hk => ?_⟩
      · rcases List.mem_append.1 hq with h | h
        · exact D.kd q h
        · rw [List.mem_singleton.1 h]; exact .inl rfl
      · rcases List.mem_append.1 hx with h | h
        · exact D.ev x h hk
        · rw [List.mem_singleton.1 h] at hk; exact absurd rfl hk
  · split
    · split
      · exact D.up
      · refine ⟨sub_ok D.ok rq_f (by omega) (by omega), D.dep, D.bl, fun q hq => ?_, by show s.1.next + 1 ≤ _; omega, by have := D.el; simp; omega, D.ev⟩
        rcases List.mem_append.1 hq with h | h
        · exact D.kd q h
        · rw [List.mem_singleton.1 h]; exact .inr rfl
    · split
      · exact D.up
      · rename_i q hq
        obtain ⟨hp, rfl⟩ := List.getElem?_eq_some_iff.1 hq
        obtain ⟨c1, c2, c3, c4⟩ := com_len (d := s.1) (p := o.at_ % s.1.queue.length) (q := s.1.queue[o.at_ % s.1.queue.length]) (o := decide (o.kind % 4 = 2))
        have hk := D.kd _ (List.getElem_mem hp)
        refine ⟨com_ok D.ok hp hk _, by rw [c2]; exact D.dep, by rw [c1]; exact D.bl, fun q hq => ?_, by rw [c3]; omega, ?_, fun x hx hkx => ?_⟩
        · rw [c4] at hq
          exact D.kd q (List.mem_of_mem_eraseIdx hq)
        · have := D.el
          show (hapF _ _ _).length ≤ _
          unfold hapF
          split
          · simp; omega
          · split
            · omega
            · split
              · simp; omega
              · exact Nat.le_trans (List.length_filter_le _ _) (by omega)
        · unfold hapF at hx
          split at hx
          · rcases List.mem_append.1 hx with h | h
            · exact D.ev x h hkx
            · rw [List.mem_singleton.1 h]
          · split at hx
            · exact D.ev x hx hkx
            · split at hx
              · rcases List.mem_append.1 hx with h | h
                · exact D.ev x h hkx
                · rw [List.mem_singleton.1 h]
              · exact D.ev x ((List.mem_filter.1 hx).1) hkx
theorem drv_zero : Dri 0 drv0 := ⟨⟨by decide, by decide, by decide, fun b hb => by simp [drv0] at hb; rw [hb]; exact pg_len 0, fun i h => absurd h (Nat.not_lt_zero _), by decide, fun c h => absurd h (by simp [drv0]), by decide, fun c h => absurd h (by simp [drv0]), fun i h => absurd h (Nat.not_lt_zero _)⟩, rfl, rfl, fun q h => absurd h (by simp [drv0]), by decide, by decide, fun x h => absurd h (by simp [drv0])⟩
theorem drv_all : ∀ (l : List Io) {n : Nat} {s : Dv × List Ev}, Dri n s → n + l.length ≤ 1000 → Dri (n + l.length) (l.foldl drvS s)
  | [], n, s, D, _ => D
  | a :: r, n, s, D, h => by
    rw [List.length_cons] at h
    have := drv_all r (drv_ok D (by omega) a) (by omega)
    rw [List.length_cons, show n + (r.length + 1) = n + 1 + r.length by omega]
    exact this
theorem drv_take (l : List Io) (hl : l.length ≤ 20) (i : Nat) (hi : i ≤ l.length) : Dri i (drvF (l.take i)) := by
  have := drv_all (l.take i) drv_zero (by rw [List.length_take]; omega)
  rwa [List.length_take, Nat.min_eq_left hi, Nat.zero_add] at this
theorem drv_s {l : List Io} {i : Nat} (hi : i < l.length) : drvF (l.take (i + 1)) = drvS (drvF (l.take i)) l[i] := by
  unfold drvF
  rw [take_s hi, List.foldl_append]
  rfl
structure DrI (k2 k27 k7 : Nat) (dh : D) (h : Heap) (s : Dv × List Ev) : Prop where
  b2 : h k2 = some [.int .i64 0, .int .i64 0, .nil, .nil, .nil]
  b27 : h k27 = some [nD (pg 0), nD (pg 0), nD (pg 0)]
  b7 : h k7 = some (dvn s.1)
  own : SlOwn h dh 4 (s.2.flatMap Ev.hv) s.2.length
  f2 : Fr dh k2
  f27 : Fr dh k27
  f7 : Fr dh k7
end Go.Proofs.Ythblalidmmbcoaa
end
