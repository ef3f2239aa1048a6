/- The simulation of append and copy. Generic over the program. -/
import Derived.Test.YthblalidmmbcoaaAmI
set_option linter.unusedSimpArgs false
set_option linter.unusedVariables false
namespace Go.AM

/-- An own block gets a new key, and more of its cells count. -/
theorem RH.rekey {s : Sg} {h : Heap} (H : RH s h) {k : Nat} {c : List D} (hk : h k = some c) {b n e : Nat} (hb : s.ρ k = some (some b, n)) {cs cs' : Array Value}
    (hh : s.w.heap[b]? = some (.cells cs e (0, 0))) (hsz : cs'.size = cs.size) (w' : World) (hws : w'.heap.size = s.w.heap.size) (hsame : w'.heap[b]? = some (.cells cs' e (0, 0))) (hoth : ∀ b', b' ≠ b → w'.heap[b']? = s.w.heap[b']?)
    (kk : Nat) (hkk : ¬ s.used kk) (c' : List D) (hcl : c'.length ≤ cs.size) (hc : All2 (RC s) (cs'.toList.take c'.length) c') (hso : SameO s.w w') :
    ∃ s' : Sg, s'.w = w' ∧ Ext s s' ∧ RH s' (upd (del h k) kk c') ∧ s'.used kk ∧ s'.ρ kk = some (some b, c'.length) ∧ (∀ i, s'.used i → s.used i ∨ i = kk) := by
  let s' : Sg := { w := w', ρ := fun i => if i = kk then some (some b, c'.length) else if i = k then none else s.ρ i, μ := fun i => if i = kk then none else s.μ i, prot := s.prot, base := s.base, fr := s.fr, used := fun i => s.used i ∨ i = kk, next := max s.next (kk + 1) }
  obtain ⟨hnl, hnp, _⟩ := H.block hk hb
  have hku : s.used k := H.isUsed hk
  have hρ : ∀ i x, i ≠ kk → s'.ρ i = some x → i ≠ k ∧ s.ρ i = some x := by
    intro i x hi hx
    have hx' : (if i = kk then some (some b, c'.length) else if i = k then none else s.ρ i) = some x := hx
    rw [if_neg hi] at hx'
    by_cases e : i = k
    · rw [if_pos e] at hx'; cases hx'
    · rw [if_neg e] at hx'; exact ⟨e, hx'⟩
  have hnew : s'.ρ kk = some (some b, c'.length) := by show (if kk = kk then _ else _) = _; rw [if_pos rfl]
  have hne : ∀ i, s.used i → i ≠ kk := fun i hi e => hkk (by rw [← e]; exact hi)
  have hmu : ∀ i, s.used i → s'.μ i = s.μ i := fun i hi => by
    show (if i = kk then none else s.μ i) = _
    rw [if_neg (hne i hi)]
  have hmus : ∀ i b, s'.used i → s'.μ i = some b → s.used i ∧ s.μ i = some b := by
    intro i b hi hb
    have hb' : (if i = kk then none else s.μ i) = some b := hb
    by_cases e : i = kk
    · rw [if_pos e] at hb'; cases hb'
    · rw [if_neg e] at hb'; exact ⟨hi.resolve_right e, hb'⟩
  have hx : Ext s s' := by
    refine ⟨Nat.le_max_left _ _, fun _ h => .inl h, by show s.w.heap.size ≤ w'.heap.size; omega, fun b' hb' => ⟨hb', hoth b' (fun h => hnp (h ▸ hb'))⟩, fun i x hi hx => (hρ i x (hne i hi) hx).2, ?_, hso, hmu, rfl, fun b' hb' => ⟨hb', hoth b' (fun h => hnp (h ▸ (H.fp b' hb').1))⟩⟩
    intro k' b' n' cs2 e2 hk' hx' hb'
    have hne : b' ≠ b := by
      rintro rfl
      obtain ⟨h1, h2⟩ := hρ k' _ (hne k' hk') hx'
      exact h1 (H.inj k' k b' _ _ h2 hb)
    exact ⟨cs2, (hoth b' hne).trans hb', rfl⟩
  refine ⟨s', rfl, hx, ⟨?_, ?_, ?_, ?_, ?_, ?_, H.bp, H.fp⟩, .inr rfl, hnew, fun i hi => hi⟩
  · intro b' hb'; have := H.lt b' hb'; show b' < w'.heap.size; omega
  · intro k1 k2 b' n1 n2 h1 h2
    by_cases e1 : k1 = kk <;> by_cases e2 : k2 = kk
    · omega
    · subst e1
      rw [hnew] at h1; injection h1 with h1; injection h1 with h1 _; injection h1 with h1; subst h1
      obtain ⟨h3, h4⟩ := hρ _ _ e2 h2
      exact absurd (H.inj _ _ _ _ _ h4 hb) h3
    · subst e2
      rw [hnew] at h2; injection h2 with h2; injection h2 with h2 _; injection h2 with h2; subst h2
      obtain ⟨h3, h4⟩ := hρ _ _ e1 h1
      exact absurd (H.inj _ _ _ _ _ h4 hb) h3
    · exact H.inj _ _ _ _ _ (hρ _ _ e1 h1).2 (hρ _ _ e2 h2).2
  · intro i hi
    have hi' : (if i = kk then some c' else if i = k then none else h i) = none := hi
    show (if i = kk then _ else if i = k then none else s.ρ i) = none
    by_cases e1 : i = kk
    · rw [if_pos e1] at hi'; cases hi'
    · rw [if_neg e1] at hi' ⊢
      by_cases e2 : i = k
      · rw [if_pos e2]
      · rw [if_neg e2] at hi' ⊢; exact H.dead i hi'
  · intro i hi
    show i < max s.next (kk + 1)
    rcases hi with hi | hi
    · have := H.bound i hi; omega
    · omega
  · intro i c2 hi
    have hi' : (if i = kk then some c' else if i = k then none else h i) = some c2 := hi
    by_cases e1 : i = kk
    · rw [if_pos e1] at hi'
      injection hi' with hi'
      subst hi'; subst e1
      refine ⟨.inr rfl, some b, hnew, by simp, ?_⟩
      intro b' hb'
      injection hb' with hb'
      subst hb'
      exact ⟨hnp, cs', e, hsame, by omega, hc.mono fun _ _ h => h.mono hx⟩
    · rw [if_neg e1] at hi'
      by_cases e2 : i = k
      · rw [if_pos e2] at hi'; cases hi'
      · rw [if_neg e2] at hi'
        obtain ⟨hl, x, hx', hn, hq⟩ := H.own i c2 hi'
        refine ⟨.inl hl, x, by show (if i = kk then _ else if i = k then none else s.ρ i) = _; rw [if_neg e1, if_neg e2]; exact hx', fun h0 => (hn h0).imp id fun ⟨l, b2, h1, h2, h3⟩ => ⟨l, b2, h1, (hmu i hl).trans h2, h3.kept (hoth b2 (fun e => by subst e; exact h3.no_cells hh))⟩, ?_⟩
        intro b2 hb2
        subst hb2
        obtain ⟨hp, cs3, e3, hb3, hl3, hall⟩ := hq b2 rfl
        have hne : b2 ≠ b := by
          rintro rfl
          exact e2 (H.inj i k b2 _ _ hx' hb)
        exact ⟨hp, cs3, e3, (hoth b2 hne).trans hb3, hl3, hall.mono fun _ _ h => h.mono hx⟩
  · intro i b2 hi hb2
    obtain ⟨h1, h2⟩ := hmus i b2 hi hb2
    obtain ⟨⟨h3, h3m⟩, h4, h5⟩ := H.mu i b2 h1 h2
    refine ⟨⟨by show b2 < w'.heap.size; omega, ?_⟩, h4, fun k' hk' hb' => ?_⟩
    · show ∃ es clock, w'.heap[b2]? = _
      rw [hoth b2 (fun e => by obtain ⟨_, _, h6⟩ := h3m; rw [e, hh] at h6; cases h6)]; exact h3m
    obtain ⟨h6, h7⟩ := hmus k' b2 hk' hb'
    exact h5 k' h6 h7

section
variable {P : Program} {s : Sg} {e : Look} {a : Act} {h h' : Heap} {o : Oper} {ao : AOp} {d : D} {kk : Nat}

theorem CellsAt.heap {w w' : World} (hw : w'.heap = w.heap) {b o : Nat} {vs : List Value} (h : CellsAt w b o vs) : CellsAt w' b o vs := by
  intro i v hi
  have := h i v hi
  simpa only [World.cell?, hw] using this

theorem firstCells_zero (sz : Nat) (ad : Option Addr) (len cap : Nat) (w : World) : (Builtin.firstCells sz 0 (.slice ad len cap)).run P w = .ok #[] w := by
  cases ad <;> simp [Builtin.firstCells, loadCells, loadCellsFrom]

theorem srcD_sim (H : RH s h) {v : Value} {x : D} (hv : RV s v x) {sz n : Nat} {new : List D} (hs : srcD h sz n x = some new) :
    new.length = n * sz ∧ ∃ arr : Array Value, All2 (RC s) arr.toList new ∧ ∀ w : World, w.heap = s.w.heap → (Builtin.firstCells sz n v).run P w = .ok arr w := by
  unfold srcD at hs
  split at hs
  · split at hs
    · rename_i h0
      injection hs with hs; subst hs; subst h0
      have := hv.inv_nil; subst this
      exact ⟨by simp, #[], All2.nil, fun w _ => firstCells_zero _ _ _ _ _⟩
    · cases hs
  · split at hs
    · rename_i h0
      injection hs with hs; subst hs; subst h0
      obtain ⟨ad, rfl⟩ := hv.inv_emp
      exact ⟨by simp, #[], All2.nil, fun w _ => firstCells_zero _ _ _ _ _⟩
    · cases hs
  · rename_i sz' cells len
    split at hs
    · rename_i hb
      obtain ⟨rfl, hnl, hcl⟩ := hb
      injection hs with hs; subst hs
      have hle : n * sz' ≤ len * sz' := Nat.mul_le_mul_right _ hnl
      have hi := hv.inv_vs
      cases hi with
      | vs0 ad cap =>
        obtain rfl : n = 0 := by omega
        exact ⟨by simp, #[], by simpa using All2.nil, fun w _ => firstCells_zero _ _ _ _ _⟩
      | vs b off cap sz len cells cs hl hc hb hcs hoo hm hr =>
        have hall : All2 (RC s) cs cells := ⟨hcs, fun i v d h1 h2 => ⟨.pure (hr i v d h1 h2), hoo v (List.mem_of_getElem? h1)⟩⟩
        refine ⟨by simp; omega, (cs.take (n * sz')).toArray, by simpa using hall.take _, fun w hw => ?_⟩
        have hat : CellsAt s.w b off cs := hm
        have := ((hat.sub 0 (n * sz')).heap hw).load (P := P) (n * sz') (by simp; omega)
        simpa [Builtin.firstCells] using this
    · cases hs
  · rename_i k sz' off len
    split at hs
    · rename_i hb
      obtain ⟨rfl, hnl⟩ := hb
      split at hs
      · rename_i c hk
        split at hs
        · rename_i hlen
          injection hs with hs; subst hs
          have hle : n * sz' ≤ len * sz' := Nat.mul_le_mul_right _ hnl
          have hkn := hv.inv_sl.1
          obtain ⟨ad, cap, rfl, hlc, _, hq⟩ := sl_live H hv hk
          refine ⟨by simp; omega, ?_⟩
          rcases hq with h0 | ⟨b, cs, e', hx, rfl, hb, hs⟩
          · obtain rfl : n = 0 := by omega
            exact ⟨#[], by simpa using All2.nil, fun w _ => firstCells_zero _ _ _ _ _⟩
          · obtain ⟨_, _, cs2, e2, hh2, hl2, hall⟩ := H.block hk hx
            rw [hb] at hh2
            injection hh2 with hh2; injection hh2 with h3 _; subst h3
            refine ⟨(((cs.toList.take c.length).drop off).take (n * sz')).toArray, by simpa using All2.slice hall off (n * sz'), fun w hw => ?_⟩
            have hat : CellsAt s.w b 0 (cs.toList.take c.length) := by
              have := (cellsAt_block hb).sub 0 c.length
              simpa using this
            have := ((hat.sub off (n * sz')).heap hw).load (P := P) (n * sz') (by simp; omega)
            simpa [Builtin.firstCells] using this
        · cases hs
      · cases hs
    · cases hs
  · rename_i z
    split at hs
    · rename_i hb
      obtain ⟨rfl, hnl⟩ := hb
      injection hs with hs; subst hs
      have := hv.inv_str; subst this
      have hz : z.data.toList.length = z.size := Array.length_toList
      refine ⟨by rw [List.length_map, List.length_take, hz]; omega, ((z.extract 0 n).data.map fun b => .int .u8 b.toNat), ?_, fun w _ => by simp [Builtin.firstCells]⟩
      have he : (z.extract 0 n).data.toList = z.data.toList.take n := by
        simp [ByteArray.data_extract, Array.toList_extract, List.extract_eq_take_drop]
      rw [Array.toList_map, he]
      refine ⟨by simp, ?_⟩
      intro i v d h1 h2
      rw [List.getElem?_map] at h1 h2
      cases hb : (z.data.toList.take n)[i]? with
      | none => rw [hb] at h1; cases h1
      | some u => rw [hb] at h1 h2; simp at h1 h2; subst h1; subst h2; exact ⟨.pure (.int _ _), rfl⟩
    · cases hs
  · cases hs

/-- The model's append where there is room. -/
theorem append_room {t u el ty : Nat} {i : TypeInfo} (hu : P.underlying t = some (.slice el)) (hi : P.info? el = some i) (hint : ∀ k, P.underlying u ≠ some (.int k)) (hus : (P.underlying u).isSome) {ad : Option Addr} {len cap n : Nat} {x : Value} {w w' : World} {new : Array Value}
    (hn : (Builtin.lenOf x).run P w = .ok n w) (hnew : (Builtin.firstCells i.size n x).run P w = .ok new w) (hroom : len + n ≤ cap)
    (hst : (match ad with | some q => storeCells (q.add (len * i.size)) new.toList | none => pure ()).run P w = .ok () w') :
    (Builtin.append_ #[t, u] ty #[.slice ad len cap, x]).run P w = .ok (.slice ad (len + n) cap) w' := by
  obtain ⟨du, hdu⟩ := Option.isSome_iff_exists.1 hus
  have hti : ∀ w, (typeInfo el).run P w = .ok i w := fun w => by simp [typeInfo, hi]
  have hsz : ∀ w, (sizeOf el).run P w = .ok i.size w := fun w => by simp [sizeOf, hti]
  unfold Builtin.append_
  simp only [List.getElem?_toArray, List.getElem?_cons_zero, List.getElem?_cons_succ, Sem.run_bind, run_underlying hu, Result.andThen_ok, hsz, Sem.run_pure]
  rw [run_underlying hdu]
  cases du
  case int k => exact absurd hdu (hint k)
  all_goals
    simp only [Result.andThen_ok, Bool.false_eq_true, if_false, hn, Bool.not_false, if_true, Sem.run_ite, if_pos hroom, Sem.run_bind, hnew, Sem.run_pure]
    cases ad with
    | none => simp at hst; subst hst; simp
    | some q => simp at hst; simp [hst]

/-- The model's append where it must grow. -/
theorem append_grow {t u el ty : Nat} {i : TypeInfo} {zv : Value} (hu : P.underlying t = some (.slice el)) (hi : P.info? el = some i) (hz0 : i.zero = some zv) (hint : ∀ k, P.underlying u ≠ some (.int k)) (hus : (P.underlying u).isSome)
    {ad : Option Addr} {len cap n : Nat} {x : Value} {w : World} {old new : Array Value}
    (hn : (Builtin.lenOf x).run P w = .ok n w) (hold : ∀ w1 : World, w1.heap = w.heap → (Builtin.firstCells i.size len (.slice ad len cap)).run P w1 = .ok old w1)
    (hnew : ∀ w1 : World, w1.heap = w.heap → (Builtin.firstCells i.size n x).run P w1 = .ok new w1) (hgrow : cap < len + n) (hby : 0 < i.bytes) (hroom : (len + n) * i.bytes ≤ room) :
    ∃ (c : Nat) (w' : World), len + n ≤ c ∧ w'.heap = w.heap.push (.cells (old ++ new ++ Builtin.zeroCells zv.cells (c - (len + n))) el (0, 0)) ∧ SameO w w' ∧
      (Builtin.append_ #[t, u] ty #[.slice ad len cap, x]).run P w = .ok (.slice (some ⟨w.heap.size, 0, none⟩) (len + n) c) w' := by
  obtain ⟨du, hdu⟩ := Option.isSome_iff_exists.1 hus
  let q : Question := .appendCap (len + n) cap el
  let c := q.cut (w.tape w.drawn q)
  let w1 : World := { w with drawn := w.drawn + 1 }
  have hc : len + n ≤ c := by show len + n ≤ len + n + _; exact Nat.le_add_right _ _
  have hfits := growslice_fits hgrow (show (len + n) * i.bytes ≤ 140737488355328 by simpa [room] using hroom)
  have hlen : len + n ≤ (len + n) * i.bytes := Nat.le_mul_of_pos_right _ hby
  have hmax : ¬ (((len + n : Nat) : Int) > IntKind.i64.max ∧ (False ∨ i.bytes = 0)) := by
    intro ⟨_, h2⟩
    rcases h2 with h2 | h2
    · exact h2
    · omega
  refine ⟨c, { w1 with heap := w1.heap.push (.cells (old ++ new ++ Builtin.zeroCells zv.cells (c - (len + n))) el (0, 0)) }, hc, rfl, ⟨rfl, rfl, rfl⟩, ?_⟩
  have hti : ∀ w, (typeInfo el).run P w = .ok i w := fun w => by simp [typeInfo, hi]
  have hsz : ∀ w, (sizeOf el).run P w = .ok i.size w := fun w => by simp [sizeOf, hti]
  unfold Builtin.append_
  simp only [List.getElem?_toArray, List.getElem?_cons_zero, List.getElem?_cons_succ, Sem.run_bind, run_underlying hu, Result.andThen_ok, hsz, Sem.run_pure]
  rw [run_underlying hdu]
  have hb2 : ¬ (Builtin.nextslicecap (len + n) cap * i.bytes > 2 ^ 48) := by simpa using hfits
  have hng : ¬ (len + n ≤ cap) := by omega
  have hq : q.forced = false := rfl
  cases du
  case int k => exact absurd hdu (hint k)
  all_goals
    simp only [Result.andThen_ok, Bool.false_eq_true, if_false, hn, Bool.not_false, if_true, Sem.run_ite, if_neg hng, hti, if_neg hmax, Sem.run_bind, Sem.run_pure, if_neg hb2, run_choose]
    show ((if q.forced = true then _ else _ : Result Nat).andThen _) = _
    rw [hq]
    simp only [Bool.false_eq_true, if_false, Result.andThen_ok, Sem.run_bind, run_askRoom, hti, Sem.run_pure]
    rw [hold w1 rfl]
    simp only [Result.andThen_ok]
    rw [hnew w1 rfl]
    simp only [zeroValue, hti, Sem.run_bind, hz0, Sem.run_pure, Result.andThen_ok, newRow, run_newObj]
    rfl

end
end Go.AM
