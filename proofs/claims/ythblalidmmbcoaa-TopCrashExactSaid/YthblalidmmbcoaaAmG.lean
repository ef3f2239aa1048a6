/- The simulation of single operations, fourth part: addresses, slices, what makes and writes memory. Generic over the program. -/
import Derived.Test.YthblalidmmbcoaaAmF
set_option linter.unusedSimpArgs false
set_option linter.unusedVariables false
namespace Go.AM

section
variable {P : Program} {s : Sg} {e : Look} {a : Act} {h h' : Heap} {o : Oper} {ao : AOp} {d : D} {kk : Nat}

theorem vp_shift {v : Value} {c : List D} {off n : Nat} (hv : RV s v (.vp c off)) : ∃ b oo, v = .pointer (some ⟨b, oo, none⟩) ∧ RV s (.pointer (some ⟨b, oo + n, none⟩)) (.vp c (off + n)) := by
  have hi := hv.inv_vp
  cases hi with
  | vp b off o cells cs hb hcs ho hm hr =>
    refine ⟨b, o + off, rfl, ?_⟩
    rw [Nat.add_assoc]
    exact .pure (.vp b (off + n) o _ cs hb hcs ho hm hr)
theorem pt_shift {v : Value} {k off n : Nat} (hv : RV s v (.pt k off)) : ∃ b oo, v = .pointer (some ⟨b, oo, none⟩) ∧ RV s (.pointer (some ⟨b, oo + n, none⟩)) (.pt k (off + n)) := by
  obtain ⟨hk, b, rfl, hq⟩ := hv.inv_pt
  exact ⟨b, off, rfl, .pt b k (off + n) hk hq⟩

theorem sim_faddr {t i : Nat} {x : Operand} (ho : o.op = .fieldAddr t x i) (hc : cOp P (.fieldAddr t x i) = some ao) (H : RH s h) (E : RE s e a.tmps)
    (hev : evOp e h kk ao = some (d, h')) : Good s kk ((execOp a.eval o).run P s.w) d h' := by
  simp only [cOp] at hc
  split at hc
  · rename_i fs hu
    split at hc
    · rename_i f y hf hy
      split at hc
      · rename_i n hn
        split at hc
        · cases hc
        · rename_i hn0
          injection hc with hc; subst hc
          have hrun : ∀ b oo, a.eval x = .pointer (some ⟨b, oo, none⟩) → (execOp a.eval o).run P s.w = .ok (.value (.pointer (some ⟨b, oo + f.offset, none⟩))) s.w := by
            intro b oo hv
            simp [execOp, ho, Instr.fieldAt, run_underlying hu, hf, hv, Instr.sureAddr, fieldPlace, szOf_run hn, hn0, add_plain]
          simp only [evOp] at hev
          split at hev
          · rename_i c off h2
            injection hev with hev; injection hev with h5 h6; subst h5; subst h6
            obtain ⟨b, oo, hv, hr⟩ := vp_shift (n := f.offset) (cO_sim hy E h2)
            exact Good.same H (hrun b oo hv) hr
          · rename_i k off h2
            injection hev with hev; injection hev with h5 h6; subst h5; subst h6
            obtain ⟨b, oo, hv, hr⟩ := pt_shift (n := f.offset) (cO_sim hy E h2)
            exact Good.same H (hrun b oo hv) hr
          · cases hev
      · cases hc
    · cases hc
  · cases hc

/-- A slice in an own block that lives. -/
theorem sl_live (H : RH s h) {v : Value} {k sz off len : Nat} (hv : RV s v (.sl k sz off len)) {c : List D} (hk : h k = some c) : ∃ ad cap, v = .slice ad len cap ∧ len ≤ cap ∧ c.length ≤ off + cap * sz ∧
    (cap = 0 ∨ ∃ b cs e, s.ρ k = some (some b, c.length) ∧ ad = some ⟨b, off, none⟩ ∧ s.w.heap[b]? = some (.cells cs e (0, 0)) ∧ off + cap * sz ≤ cs.size) := by
  obtain ⟨_, ad, cap, rfl, _, hlc, hq⟩ := hv.inv_sl
  obtain ⟨_, x, hx, _, _⟩ := H.own k c hk
  obtain ⟨h1, h2⟩ := hq x _ hx
  refine ⟨ad, cap, rfl, hlc, h1, h2.imp id ?_⟩
  rintro ⟨b, cs, e, rfl, ha, hb, hs⟩
  exact ⟨b, cs, e, hx, ha, hb, hs⟩

theorem sim_iaddr {t : Nat} {x i : Operand} (ho : o.op = .indexAddr t x i) (hc : cOp P (.indexAddr t x i) = some ao) (H : RH s h) (E : RE s e a.tmps)
    (hev : evOp e h kk ao = some (d, h')) : Good s kk ((execOp a.eval o).run P s.w) d h' := by
  simp only [cOp] at hc
  split at hc
  · rename_i y j hy hj
    split at hc
    · rename_i el hu
      split at hc
      · rename_i n hn
        injection hc with hc; subst hc
        have hrun : ∀ b oo len cap k m, a.eval x = .slice (some ⟨b, oo, none⟩) len cap → a.eval i = .int k m → 0 ≤ m → m < len → (execOp a.eval o).run P s.w = .ok (.value (.pointer (some ⟨b, oo + m.toNat * n, none⟩))) s.w := by
          intro b oo len cap k m hv hi h1 h2
          simp [execOp, ho, Instr.indexAt, hi, asIntOf, run_underlying hu, hv, h1, h2, szOf_run hn, add_plain]
        simp only [evOp] at hev
        split at hev
        · rename_i sz' cells len k m h2 h3
          split at hev
          · rename_i hb
            injection hev with hev; injection hev with h5 h6; subst h5; subst h6
            obtain ⟨rfl, hb1, hb2⟩ := hb
            have hi := (cO_sim hj E h3).inv_int
            have hr := (cO_sim hy E h2).inv_vs
            generalize hv : a.eval x = v at hr
            cases hr with
            | vs0 => omega
            | vs b off cap sz len cells cs hl hc hb hcs hoo hm hr =>
              exact Good.same H (hrun b off len cap k m hv hi hb1 hb2) (.pure (.vp b _ off cells cs hb hcs hoo hm hr))
          · cases hev
        · rename_i kk sz' off len k m h2 h3
          split at hev
          · rename_i hb
            obtain ⟨rfl, hb1, hb2⟩ := hb
            split at hev
            · rename_i c hk
              injection hev with hev; injection hev with h5 h6; subst h5; subst h6
              have hi := (cO_sim hj E h3).inv_int
              have hr := cO_sim hy E h2
              have hkn := (hr.inv_sl).1
              obtain ⟨ad, cap, hv, hlc, _, hq⟩ := sl_live H hr hk
              rcases hq with h0 | ⟨b, cs, e', hx, rfl, hb, hs⟩
              · omega
              · refine Good.same H (hrun b off len cap k m hv hi hb1 hb2) (.pt b kk _ hkn ?_)
                intro x' n' hx'
                rw [hx] at hx'
                injection hx' with hx'
                injection hx' with h7 h8
                exact h7.symm
            · cases hev
          · cases hev
        · cases hev
      · cases hc
    · rename_i alen el hu
      split at hc
      · rename_i n hn
        injection hc with hc; subst hc
        have hrun : ∀ b oo k m, a.eval x = .pointer (some ⟨b, oo, none⟩) → a.eval i = .int k m → 0 ≤ m → m < alen → (execOp a.eval o).run P s.w = .ok (.value (.pointer (some ⟨b, oo + m.toNat * n, none⟩))) s.w := by
          intro b oo k m hv hi h1 h2
          simp [execOp, ho, Instr.indexAt, hi, asIntOf, run_underlying hu, hv, Instr.sureAddr, h1, h2, szOf_run hn, add_plain]
        simp only [evOp] at hev
        split at hev
        · rename_i c off k m h2 h3
          split at hev
          · rename_i hb
            injection hev with hev; injection hev with h5 h6; subst h5; subst h6
            have hi := (cO_sim hj E h3).inv_int
            obtain ⟨b, oo, hv, hr⟩ := vp_shift (n := m.toNat * n) (cO_sim hy E h2)
            exact Good.same H (hrun b oo k m hv hi hb.1 hb.2) hr
          · cases hev
        · rename_i kk off k m h2 h3
          split at hev
          · rename_i hb
            injection hev with hev; injection hev with h5 h6; subst h5; subst h6
            have hi := (cO_sim hj E h3).inv_int
            obtain ⟨b, oo, hv, hr⟩ := pt_shift (n := m.toNat * n) (cO_sim hy E h2)
            exact Good.same H (hrun b oo k m hv hi hb.1 hb.2) hr
          · cases hev
        · cases hev
      · cases hc
    · cases hc
  · cases hc

/-! ### Slices of slices -/
theorem bound_run {lo : Option Operand} {l' : Option O} (hc : cOo lo = some l') (E : RE s e a.tmps) {dflt l : Nat} (hb : bndD e dflt l' = some l) (y : Nat) (hy : l ≤ y) (code : BoundsCode) (w : World) :
    (lo = none ∧ l = dflt) ∨ (∃ x, lo = some x ∧ (Instr.sliceBound (a.eval x) y code).run P w = .ok l w) := by
  cases lo with
  | none => simp [cOo] at hc; subst hc; simp [bndD] at hb; exact .inl ⟨rfl, hb.symm⟩
  | some x =>
    simp only [cOo] at hc
    split at hc
    · rename_i z hz
      injection hc with hc; subst hc
      simp only [bndD] at hb
      split at hb
      · rename_i k n h1
        split at hb
        · rename_i h0
          injection hb with hb
          have hi := (cO_sim hz E h1).inv_int
          refine .inr ⟨x, rfl, ?_⟩
          have : n ≤ (y : Int) := by omega
          simp [Instr.sliceBound, hi, asIntOf, h0, this, hb]
        · cases hb
      · cases hb
    · cases hc

theorem slice_run {t el n : Nat} (hu : P.underlying t = some (.slice el)) (hn : szOf P el = some n) {lo hi : Option Operand} {l' r' : Option O} (hl : cOo lo = some l') (hr : cOo hi = some r') (E : RE s e a.tmps)
    {ad : Option Addr} {len cap l r : Nat} (hlc : len ≤ cap) (h1 : bndD e 0 l' = some l) (h2 : bndD e len r' = some r) (hlr : l ≤ r) (hrl : r ≤ len) (w : World) :
    (Instr.sliceAt t (.slice ad len cap) (lo.map a.eval) (hi.map a.eval) none).run P w = .ok (.slice (if cap = l then ad else ad.map (·.add (l * n))) (r - l) (cap - l)) w := by
  have hh : (match hi.map a.eval with | some v => Instr.sliceBound v cap .sliceAcap | none => pure len).run P w = .ok r w := by
    rcases bound_run (P := P) hr E h2 cap (by omega) .sliceAcap w with ⟨rfl, rfl⟩ | ⟨x, rfl, hx⟩
    · simp
    · simpa using hx
  have hll : (match lo.map a.eval with | some v => Instr.sliceBound v r .sliceB | none => pure 0).run P w = .ok l w := by
    rcases bound_run (P := P) hl E h1 r hlr .sliceB w with ⟨rfl, rfl⟩ | ⟨x, rfl, hx⟩
    · simp
    · simpa using hx
  have hb : (Instr.sliceBounds true len cap (lo.map a.eval) (hi.map a.eval) none).run P w = .ok (l, r, cap) w := by
    cases hi with
    | none =>
      cases lo with
      | none => simp at hh hll; simp [Instr.sliceBounds, hh, hll]
      | some x => simp at hh hll; simp [Instr.sliceBounds, hh, hll]
    | some z =>
      cases lo with
      | none => simp at hh hll; simp [Instr.sliceBounds, hh, hll]
      | some x => simp at hh hll; simp [Instr.sliceBounds, hh, hll]
  simp [Instr.sliceAt, Instr.slice, run_underlying hu, hb, szOf_run hn]

theorem slice_runM {t el n : Nat} (hu : P.underlying t = some (.slice el)) (hn : szOf P el = some n) {lo hi : Operand} {l' r' : O} (hl : cO lo = some l') (hr : cO hi = some r') (E : RE s e a.tmps)
    {ad : Option Addr} {len cap l r : Nat} (h1 : bndD e 0 (some l') = some l) (h2 : bndD e 0 (some r') = some r) (hlr : l ≤ r) (hrl : r ≤ cap) (w : World) :
    (Instr.sliceAt t (.slice ad len cap) (some (a.eval lo)) (some (a.eval hi)) none).run P w = .ok (.slice (if cap = l then ad else ad.map (·.add (l * n))) (r - l) (cap - l)) w := by
  have hl' : cOo (some lo) = some (some l') := by simp [cOo, hl]
  have hr' : cOo (some hi) = some (some r') := by simp [cOo, hr]
  have hh : (Instr.sliceBound (a.eval hi) cap .sliceAcap).run P w = .ok r w := by
    rcases bound_run (P := P) hr' E h2 cap hrl .sliceAcap w with ⟨h, _⟩ | ⟨x, hx, hx2⟩
    · cases h
    · injection hx with hx; subst hx; exact hx2
  have hll : (Instr.sliceBound (a.eval lo) r .sliceB).run P w = .ok l w := by
    rcases bound_run (P := P) hl' E h1 r hlr .sliceB w with ⟨h, _⟩ | ⟨x, hx, hx2⟩
    · cases h
    · injection hx with hx; subst hx; exact hx2
  have hb : (Instr.sliceBounds true len cap (some (a.eval lo)) (some (a.eval hi)) none).run P w = .ok (l, r, cap) w := by
    simp [Instr.sliceBounds, hh, hll]
  simp [Instr.sliceAt, Instr.slice, run_underlying hu, hb, szOf_run hn]
theorem slice_run3 {t el n : Nat} (hu : P.underlying t = some (.slice el)) (hn : szOf P el = some n) {lo : Option Operand} {hi mx : Operand} {l' : Option O} {r' m' : O} (hl : cOo lo = some l') (hr : cO hi = some r') (hm : cO mx = some m') (E : RE s e a.tmps)
    {ad : Option Addr} {len cap l r m : Nat} (h1 : bndD e 0 l' = some l) (h2 : bndD e 0 (some r') = some r) (h3 : bndD e 0 (some m') = some m) (hlr : l ≤ r) (hrm : r ≤ m) (hmc : m ≤ cap) (w : World) :
    ∃ v, (Instr.sliceAt t (.slice ad len cap) (lo.map a.eval) (some (a.eval hi)) (some (a.eval mx))).run P w = .ok v w := by
  have hr' : cOo (some hi) = some (some r') := by simp [cOo, hr]
  have hm' : cOo (some mx) = some (some m') := by simp [cOo, hm]
  have hmm : (Instr.sliceBound (a.eval mx) cap .slice3Acap).run P w = .ok m w := by
    rcases bound_run (P := P) hm' E h3 cap hmc .slice3Acap w with ⟨h, _⟩ | ⟨x, hx, hx2⟩
    · cases h
    · injection hx with hx; subst hx; exact hx2
  have hh : (Instr.sliceBound (a.eval hi) m .slice3B).run P w = .ok r w := by
    rcases bound_run (P := P) hr' E h2 m hrm .slice3B w with ⟨h, _⟩ | ⟨x, hx, hx2⟩
    · cases h
    · injection hx with hx; subst hx; exact hx2
  have hb : (Instr.sliceBounds true len cap (lo.map a.eval) (some (a.eval hi)) (some (a.eval mx))).run P w = .ok (l, r, m) w := by
    rcases bound_run (P := P) hl E h1 r hlr .slice3C w with ⟨rfl, rfl⟩ | ⟨x, rfl, hx⟩
    · simp [Instr.sliceBounds, hmm, hh]
    · simp [Instr.sliceBounds, hmm, hh, hx]
  exact ⟨.slice (if m = l then ad else ad.map (·.add (l * n))) (r - l) (m - l), by simp [Instr.sliceAt, Instr.slice, run_underlying hu, hb, szOf_run hn]⟩

theorem All2.slice {α β : Type} {R : α → β → Prop} {xs : List α} {ys : List β} (h : All2 R xs ys) (i n : Nat) : All2 R ((xs.drop i).take n) ((ys.drop i).take n) := (h.drop i).take n

theorem sim_slice {t : Nat} {x : Operand} {lo hi : Option Operand} (hlh : lo = none ∨ hi = none) (ho : o.op = .slice t x lo hi none) (hc : cOp P (.slice t x lo hi none) = some ao) (H : RH s h) (E : RE s e a.tmps)
    (hev : evOp e h kk ao = some (d, h')) : Good s kk ((execOp a.eval o).run P s.w) d h' := by
  have hc : (match P.underlying t with
    | some (.slice e) => (match szOf P e, cO x, cOo lo, cOo hi with | some n, some y, some l, some r => some (.slice n y l r) | _, _, _, _ => none)
    | _ => none) = some ao := by
    rw [← hc]
    rcases hlh with rfl | rfl
    · cases hi <;> rfl
    · cases lo <;> rfl
  split at hc
  · rename_i el hu
    split at hc
    · rename_i n y l' r' hn hy hl hr
      injection hc with hc; subst hc
      simp only [evOp] at hev
      split at hev
      · rename_i dx len h1 h2
        rw [h1] at h2
        simp only [Option.bind_some] at h2
        split at hev
        · rename_i l r h3 h4
          split at hev
          · rename_i hb
            obtain ⟨hlr, hrl⟩ := hb
            have rx := cO_sim hy E h1
            have hrun : ∀ ad cap, len ≤ cap → a.eval x = .slice ad len cap → (execOp a.eval o).run P s.w = .ok (.value (.slice (if cap = l then ad else ad.map (·.add (l * n))) (r - l) (cap - l))) s.w := by
              intro ad cap hlc hv
              have := slice_run (P := P) (w := s.w) hu hn hl hr E (ad := ad) hlc h3 h4 hlr hrl
              simp only [execOp, ho, hv]
              exact run_v this
            split at hev
            · rename_i sz' cells n'
              split at hev
              · rename_i hsz
                subst hsz
                injection hev with hev; injection hev with h5 h6; subst h5; subst h6
                simp [lenD] at h2
                subst h2
                have hi := rx.inv_vs
                generalize hv : a.eval x = v at hi
                cases hi with
                | vs0 ad cap =>
                  have : r - l = 0 := by omega
                  refine Good.same H (hrun ad cap (by omega) hv) ?_
                  rw [this]
                  simpa using RV.pure (.vs0 _ _ _)
                | vs b off cap sz len cells cs hcl hlc hbp hcs hoo hm hrr =>
                  refine Good.same H (hrun _ cap hlc hv) ?_
                  by_cases h0 : r - l = 0
                  · rw [h0]
                    simpa using RV.pure (.vs0 _ _ _)
                  · rw [if_neg (by omega)]
                    simp only [Option.map_some, add_plain]
                    have hat : CellsAt s.w b off cs := hm
                    have hmul : (r - l) * sz' = r * sz' - l * sz' := Nat.sub_mul _ _ _
                    have hle : r * sz' ≤ n' * sz' := Nat.mul_le_mul_right _ hrl
                    have hle2 : l * sz' ≤ r * sz' := Nat.mul_le_mul_right _ hlr
                    refine .pure (.vs b (off + l * sz') (cap - l) sz' (r - l) _ ((cs.drop (l * sz')).take ((r - l) * sz')) ?_ (by omega) hbp ?_ ?_ ?_ ?_)
                    · simp; omega
                    · simp; omega
                    · intro v hv'; exact hoo v (List.mem_of_mem_drop (List.mem_of_mem_take hv'))
                    · exact hat.sub _ _
                    · exact (All2.slice ⟨hcs, hrr⟩ (l * sz') ((r - l) * sz')).2
              · cases hev
            · rename_i k sz' off n'
              split at hev
              · rename_i hsz
                subst hsz
                injection hev with hev; injection hev with h5 h6; subst h5; subst h6
                simp [lenD] at h2
                subst h2
                obtain ⟨hk, ad, cap, hv, hna, hlc, hq⟩ := rx.inv_sl
                refine Good.same H (hrun ad cap hlc hv) (.sl _ k sz' _ _ _ hk ?_ (by omega) ?_)
                · intro hne
                  have : n' ≠ 0 := by omega
                  have := hna this
                  split
                  · exact this
                  · cases ad with
                    | none => exact absurd rfl this
                    | some _ => simp
                · intro x' m hx
                  obtain ⟨q1, q2⟩ := hq x' m hx
                  have hmul : (cap - l) * sz' = cap * sz' - l * sz' := Nat.sub_mul _ _ _
                  have hle : l * sz' ≤ cap * sz' := Nat.mul_le_mul_right _ (by omega)
                  refine ⟨by omega, ?_⟩
                  by_cases h0 : cap = l
                  · left; omega
                  · right
                    rcases q2 with q2 | ⟨b, cs, e', rfl, rfl, hb, hs⟩
                    · omega
                    · exact ⟨b, cs, e', rfl, by rw [if_neg h0]; simp [add_plain], hb, by omega⟩
              · cases hev
            · injection hev with hev; injection hev with h5 h6; subst h5; subst h6
              simp [lenD] at h2
              subst h2
              have hv := rx.inv_nil
              have : l = 0 := by omega
              subst this
              have : r = 0 := by omega
              subst this
              refine Good.same H (hrun none 0 (by omega) hv) ?_
              simpa using RV.pure .nil
            · injection hev with hev; injection hev with h5 h6; subst h5; subst h6
              simp [lenD] at h2
              subst h2
              obtain ⟨ad, hv⟩ := rx.inv_emp
              have : l = 0 := by omega
              subst this
              have : r = 0 := by omega
              subst this
              refine Good.same H (hrun ad 0 (by omega) hv) ?_
              simpa using RV.pure (.emp _)
            · cases hev
          · cases hev
        · cases hev
      · cases hev
    · cases hc
  · cases hc

theorem sim_slice3 {t : Nat} {x : Operand} {lo : Option Operand} {hi mx : Operand} (ho : o.op = .slice t x lo (some hi) (some mx)) (hc : cOp P (.slice t x lo (some hi) (some mx)) = some ao) (H : RH s h) (E : RE s e a.tmps)
    (hev : evOp e h kk ao = some (d, h')) : Good s kk ((execOp a.eval o).run P s.w) d h' := by
  have hc : (match P.underlying t with
    | some (.slice e) => (match szOf P e, cO x, cOo lo, cO hi, cO mx with | some n, some y, some l, some r, some m => some (.slice3 n y l r m) | _, _, _, _, _ => none)
    | _ => none) = some ao := by
    rw [← hc]; cases lo <;> rfl
  split at hc
  · rename_i el hu
    split at hc
    · rename_i n y l' r' m' hn hy hl hr hm
      injection hc with hc; subst hc
      simp only [evOp] at hev
      split at hev
      · rename_i k sz' off n' h1
        split at hev
        · rename_i l r m h3 h4 h5
          split at hev
          · rename_i hb
            injection hev with hev; injection hev with h6 h7; subst h6; subst h7
            have rx := cO_sim hy E h1
            obtain ⟨hk, ad, cap, hv, hna, hlc, hq⟩ := rx.inv_sl
            obtain ⟨v, hrun⟩ := slice_run3 (P := P) (w := s.w) hu hn hl hr hm E (ad := ad) (len := n') (cap := cap) h3 h4 h5 hb.2.1 hb.2.2.1 (by omega)
            refine Good.same H (v := v) ?_ (.pure (.undef _))
            simp only [execOp, ho, hv]
            exact run_v hrun
          · cases hev
        · cases hev
      · cases hev
    · cases hc
  · cases hc

theorem sim_sliceM {t : Nat} {x lo hi : Operand} (ho : o.op = .slice t x (some lo) (some hi) none) (hc : cOp P (.slice t x (some lo) (some hi) none) = some ao) (H : RH s h) (E : RE s e a.tmps)
    (hev : evOp e h kk ao = some (d, h')) : Good s kk ((execOp a.eval o).run P s.w) d h' := by
  simp only [cOp] at hc
  split at hc
  · rename_i el hu
    split at hc
    · rename_i n y l' r' hn hy hl hr
      injection hc with hc; subst hc
      simp only [evOp] at hev
      split at hev
      · rename_i k sz' off n' h1
        split at hev
        · rename_i c l r hk h3 h4
          split at hev
          · rename_i hb
            obtain ⟨hsz, hpos, hlr, hrl⟩ := hb
            subst hsz
            injection hev with hev; injection hev with h6 h7; subst h6; subst h7
            have rx := cO_sim hy E h1
            obtain ⟨ad, cap, hv, hlc, hcl, hq⟩ := sl_live H rx hk
            have hu2 := H.isUsed hk
            have hrc : r ≤ cap := Nat.le_of_mul_le_mul_right (show r * sz' ≤ cap * sz' by omega) hpos
            have hrun := slice_runM (P := P) (w := s.w) hu hn hl hr E (ad := ad) (len := n') (cap := cap) h3 h4 hlr hrc
            refine Good.same H (v := .slice (if cap = l then ad else ad.map (·.add (l * sz'))) (r - l) (cap - l)) ?_ (.sl _ k sz' _ _ _ hu2 ?_ (by omega) ?_)
            · simp only [execOp, ho, hv]
              exact run_v hrun
            · intro hne
              rcases hq with q2 | ⟨b, cs, e', _, rfl, _, _⟩
              · omega
              · split <;> simp
            · intro x' m hx
              have hmul : (cap - l) * sz' = cap * sz' - l * sz' := Nat.sub_mul _ _ _
              have hle : l * sz' ≤ cap * sz' := Nat.mul_le_mul_right _ (by omega)
              obtain ⟨_, x2, hx2, _, _⟩ := H.own k c hk
              rw [hx] at hx2
              injection hx2 with hx2
              injection hx2 with e1 e2
              subst e1 e2
              refine ⟨by omega, ?_⟩
              by_cases h0 : cap = l
              · left; omega
              · right
                rcases hq with q2 | ⟨b, cs, e', hρ, rfl, hb, hs⟩
                · omega
                · rw [hx] at hρ
                  injection hρ with hρ
                  injection hρ with e3 _
                  exact ⟨b, cs, e', e3, by rw [if_neg h0]; simp [add_plain], hb, by omega⟩
          · cases hev
        · cases hev
      · cases hev
    · cases hc
  · cases hc

end
end Go.AM
