/- The simulation of single operations, last part: literals, append, copy; and all operations together. Generic over the program. -/
import Derived.Test.YthblalidmmbcoaaAmH
set_option linter.unusedSimpArgs false
set_option linter.unusedVariables false
namespace Go.AM

section
variable {P : Program} {s : Sg} {e : Look} {a : Act} {h h' : Heap} {o : Oper} {ao : AOp} {d : D} {kk : Nat}

theorem fill_sim (place : Nat → Option (Nat × Nat)) : ∀ (vs : List (Nat × Value)) (ps : List (Nat × Nat × List D)) (c c' : List D) (cells : Array Value), vs.length = ps.length →
    (∀ (i : Nat) (x : Nat × Value) (p : Nat × Nat × List D), vs[i]? = some x → ps[i]? = some p → place x.1 = some (p.1, p.2.1) ∧ All2 (RC s) x.2.cells.toList p.2.2) →
    fillB c ps = some c' → All2 (RC s) cells.toList c → ∃ cells', Instr.fill place cells vs = some cells' ∧ All2 (RC s) cells'.toList c'
  | [], ps, c, c', cells, hl, _, hf, hc => by
    obtain rfl : ps = [] := List.length_eq_zero_iff.1 (by simpa using hl.symm)
    simp [fillB] at hf
    subst hf
    exact ⟨cells, by simp [Instr.fill], hc⟩
  | (i, v) :: r, [], c, c', cells, hl, _, _, _ => by simp at hl
  | (i, v) :: r, (off, n, x) :: ps, c, c', cells, hl, hp, hf, hc => by
    obtain ⟨hpl, hx⟩ := hp 0 _ _ rfl rfl
    simp only at hpl hx
    simp only [fillB] at hf
    split at hf
    · rename_i hb
      have hvn : v.cells.toList.length = n := by rw [hx.1]; exact hb.1
      have hcs : cells.toList.length = c.length := hc.1
      have hvs : v.cells.size = n := by simpa using hvn
      have hss : cells.size = c.length := by simpa using hcs
      have hfold := fold_splice cells off v.cells.toList (by rw [hvn, hss]; exact hb.2)
      have hnew : All2 (RC s) (v.cells.zipIdx.foldl (fun cs (c, j) => cs.setIfInBounds (off + j) c) cells).toList (splice c off x) := by
        rw [show v.cells = v.cells.toList.toArray by simp]
        rw [hfold]
        have hh := All2.splice (R := RC s) (xs := cells.toList) (vs := v.cells.toList) (ys := c) (new := x) (n := c.length) (off := off) (by rw [← hcs, List.take_length]; exact hc) rfl hx (by rw [hb.1]; exact hb.2)
        rw [List.take_of_length_le (by simp; omega)] at hh
        exact hh
      obtain ⟨cells', h1, h2⟩ := fill_sim place r ps (splice c off x) c' _ (by simpa using hl) (fun j y p hy hpj => hp (j + 1) y p (by simpa using hy) (by simpa using hpj)) hf hnew
      refine ⟨cells', ?_, h2⟩
      have hcond : ¬ (v.cells.size ≠ n ∨ off + v.cells.size > cells.size) := by omega
      simp only [Instr.fill, hpl]
      rw [if_neg (by simpa using hcond)]
      exact h1
    · cases hf

theorem cPartsA_sim {sz : Nat} : ∀ {parts : List (Nat × Operand)} {l : List (Nat × Nat × O)}, cPartsA sz parts = some l → RE s e a.tmps → ∀ {ps : List (Nat × Nat × List D)}, evQ e l = some ps →
    (parts.map fun (i, x) => (i, a.eval x)).length = ps.length ∧ ∀ (i : Nat) (x : Nat × Value) (p : Nat × Nat × List D), (parts.map fun (i, x) => (i, a.eval x))[i]? = some x → ps[i]? = some p → (p.1 = x.1 * sz ∧ p.2.1 = sz) ∧ All2 (RC s) x.2.cells.toList p.2.2
  | [], l, hc, _, ps, he => by simp [cPartsA] at hc; subst hc; simp [evQ] at he; subst he; simp
  | (i0, x) :: r, l, hc, E, ps, he => by
    simp only [cPartsA] at hc
    split at hc
    · rename_i y l' h1 h2
      injection hc with hc; subst hc
      simp only [evQ] at he
      split at he
      · rename_i dd ll h3 h4
        injection he with he; subst he
        obtain ⟨ih1, ih2⟩ := cPartsA_sim h2 E h4
        refine ⟨by simpa using ih1, ?_⟩
        intro i x' p hi hi'
        cases i with
        | zero =>
          simp at hi hi'
          subst hi; subst hi'
          cases h5 : evO e y with
          | none => rw [h5] at h3; cases h3
          | some dy => rw [h5] at h3; exact ⟨⟨rfl, rfl⟩, (cO_sim h1 E h5).cells h3⟩
        | succ i => exact ih2 i x' p (by simpa using hi) (by simpa using hi')
      · cases he
    · cases hc

theorem cPartsF_sim {fs : List Field} : ∀ {parts : List (Nat × Operand)} {l : List (Nat × Nat × O)}, cPartsF P fs parts = some l → RE s e a.tmps → ∀ {ps : List (Nat × Nat × List D)}, evQ e l = some ps →
    (parts.map fun (i, x) => (i, a.eval x)).length = ps.length ∧ ∀ (i : Nat) (x : Nat × Value) (p : Nat × Nat × List D), (parts.map fun (i, x) => (i, a.eval x))[i]? = some x → ps[i]? = some p →
      (∃ f, fs[x.1]? = some f ∧ p.1 = f.offset ∧ szOf P f.type = some p.2.1) ∧ All2 (RC s) x.2.cells.toList p.2.2
  | [], l, hc, _, ps, he => by simp [cPartsF] at hc; subst hc; simp [evQ] at he; subst he; simp
  | (i0, x) :: r, l, hc, E, ps, he => by
    simp only [cPartsF] at hc
    split at hc
    · rename_i f y l' hf h1 h2
      split at hc
      · rename_i n hn
        injection hc with hc; subst hc
        simp only [evQ] at he
        split at he
        · rename_i dd ll h3 h4
          injection he with he; subst he
          obtain ⟨ih1, ih2⟩ := cPartsF_sim h2 E h4
          refine ⟨by simpa using ih1, ?_⟩
          intro i x' p hi hi'
          cases i with
          | zero =>
            simp at hi hi'
            subst hi; subst hi'
            cases h5 : evO e y with
            | none => rw [h5] at h3; cases h3
            | some dy => rw [h5] at h3; exact ⟨⟨f, hf, rfl, hn⟩, (cO_sim h1 E h5).cells h3⟩
          | succ i => exact ih2 i x' p (by simpa using hi) (by simpa using hi')
        · cases he
      · cases hc
    · cases hc

theorem places_run (fs : Array Field) (hs : fs.toList.all (fun f => (szOf P f.type).isSome) = true) (w : World) :
    ∃ pl : Array (Nat × Nat), (fs.mapM fun f => do pure (f.offset, ← sizeOf f.type) : Sem (Array (Nat × Nat))).run P w = .ok pl w ∧ ∀ (i : Nat) (f : Field) (n : Nat), fs[i]? = some f → szOf P f.type = some n → pl[i]? = some (f.offset, n) := by
  rw [Array.mapM_eq_mapM_toList]
  have key : ∀ l : List Field, l.all (fun f => (szOf P f.type).isSome) = true → ∃ pl : List (Nat × Nat), (l.mapM fun f => do pure (f.offset, ← sizeOf f.type) : Sem (List (Nat × Nat))).run P w = .ok pl w ∧
      ∀ (i : Nat) (f : Field) (n : Nat), l[i]? = some f → szOf P f.type = some n → pl[i]? = some (f.offset, n) := by
    intro l
    induction l with
    | nil => intro _; exact ⟨[], by simp, by simp⟩
    | cons f r ih =>
      intro hall
      simp at hall
      obtain ⟨m, hm⟩ := Option.isSome_iff_exists.1 hall.1
      obtain ⟨pl, h1, h2⟩ := ih (by simpa using hall.2)
      refine ⟨(f.offset, m) :: pl, by simp only [List.mapM_cons, Sem.run_bind, szOf_run hm, Result.andThen_ok, Sem.run_pure, h1], ?_⟩
      intro i g n hi hn
      cases i with
      | zero => simp at hi; subst hi; rw [hm] at hn; injection hn with hn; subst hn; rfl
      | succ i => simp at hi ⊢; exact h2 i g n hi hn
  obtain ⟨pl, h1, h2⟩ := key fs.toList hs
  refine ⟨pl.toArray, by simp only [Sem.run_map, h1, Result.andThen_ok], ?_⟩
  intro i f n hi hn
  simpa using h2 i f n (by simpa using hi) hn

theorem sim_build {t : Nat} {parts : Array (Nat × Operand)} (ho : o.op = .build t parts) (hc : cOp P (.build t parts) = some ao) (H : RH s h) (E : RE s e a.tmps) (hev : evOp e h kk ao = some (d, h')) :
    Good s kk ((execOp a.eval o).run P s.w) d h' := by
  simp only [cOp] at hc
  have hmap : (parts.map fun (i, x) => (i, a.eval x)).toList = parts.toList.map fun (i, x) => (i, a.eval x) := by simp
  split at hc
  · rename_i z fs hz hu
    split at hc
    · rename_i hall
      split at hc
      · rename_i l hl
        injection hc with hc; subst hc
        simp only [evOp] at hev
        split at hev
        · rename_i ps h1
          split at hev
          · rename_i c h2
            injection hev with hev; injection hev with h5 h6; subst h5; subst h6
            obtain ⟨zv, hzv, hzs⟩ := zeroOf_run hz s.w
            have hzall := ofScalars_rp hzs s
            obtain ⟨q1, q2⟩ := cPartsF_sim hl E h1
            obtain ⟨pl, hpl, hpl2⟩ := places_run (P := P) fs hall s.w
            obtain ⟨cells', r1, r2⟩ := fill_sim (pl[·]?) _ ps z c zv.cells q1 (fun i x p hx hp => by
              obtain ⟨⟨f, f1, f2, f3⟩, f4⟩ := q2 i x p hx hp
              refine ⟨?_, f4⟩
              rw [hpl2 x.1 f p.2.1 (by simpa using f1) f3, f2]) h2 hzall
            refine Good.same H (v := .agg cells') ?_ (RV.mkagg r2)
            have r1' : Instr.fill (pl[·]?) zv.cells (parts.map fun (i, x) => (i, a.eval x)).toList = some cells' := by rw [hmap]; exact r1
            simp only [execOp, ho]
            refine run_v ?_
            unfold Instr.build
            simp only [Sem.run_bind, hzv, Result.andThen_ok, run_underlying hu, hpl, r1', Sem.run_pure]
          · cases hev
        · cases hev
      · cases hc
    · cases hc
  · rename_i z len el hz hu
    split at hc
    · rename_i n hn
      split at hc
      · rename_i l hl
        injection hc with hc; subst hc
        simp only [evOp] at hev
        split at hev
        · rename_i ps h1
          split at hev
          · rename_i c h2
            injection hev with hev; injection hev with h5 h6; subst h5; subst h6
            obtain ⟨zv, hzv, hzs⟩ := zeroOf_run hz s.w
            have hzall := ofScalars_rp hzs s
            obtain ⟨q1, q2⟩ := cPartsA_sim hl E h1
            obtain ⟨cells', r1, r2⟩ := fill_sim (fun i => some (i * n, n)) _ ps z c zv.cells q1 (fun i x p hx hp => by
              obtain ⟨⟨f2, f3⟩, f4⟩ := q2 i x p hx hp
              exact ⟨by rw [f2, f3], f4⟩) h2 hzall
            refine Good.same H (v := .agg cells') ?_ (RV.mkagg r2)
            have r1' : Instr.fill (fun i => some (i * n, n)) zv.cells (parts.map fun (i, x) => (i, a.eval x)).toList = some cells' := by rw [hmap]; exact r1
            simp only [execOp, ho]
            refine run_v ?_
            unfold Instr.build
            simp only [Sem.run_bind, hzv, Result.andThen_ok, run_underlying hu, szOf_run hn, r1', Sem.run_pure]
          · cases hev
        · cases hev
      · cases hc
    · cases hc
  · cases hc

theorem sim_buildS {t len : Nat} {parts : Array (Nat × Operand)} (ho : o.op = .buildSlice t len parts) (hc : cOp P (.buildSlice t len parts) = some ao) (H : RH s h) (hkk : ¬ s.used kk) (E : RE s e a.tmps) (hev : evOp e h kk ao = some (d, h')) :
    Good s kk ((execOp a.eval o).run P s.w) d h' := by
  simp only [cOp] at hc
  have hmap : (parts.map fun (i, x) => (i, a.eval x)).toList = parts.toList.map fun (i, x) => (i, a.eval x) := by simp
  split at hc
  · rename_i el hu
    split at hc
    · rename_i n z hn hz
      split at hc
      · rename_i hlim
        split at hc
        · rename_i l hl
          injection hc with hc; subst hc
          simp only [evOp] at hev
          split at hev
          · rename_i ps h1
            split at hev
            · rename_i hpos
              obtain ⟨hzl, hpos⟩ := hpos
              split at hev
              · rename_i c h2
                injection hev with hev; injection hev with h5 h6; subst h5; subst h6
                obtain ⟨zv, hzv, hzs⟩ := zeroOf_run hz s.w
                have hzall := ofScalars_rp hzs s
                have hzsz : zv.cells.size = z.length := by simpa using hzall.1
                obtain ⟨q1, q2⟩ := cPartsA_sim hl E h1
                have hzeros := zeros_sim hzall len len (Nat.le_refl _) (by omega)
                have hz0 : All2 (RC s) ((Array.range (len * n)).map (zv.cells[· % zv.cells.size]!)).toList (rep len z) := by
                  rw [List.take_of_length_le (by simp [rep_length])] at hzeros
                  rw [← hzl]
                  exact hzeros
                obtain ⟨cells', r1, r2⟩ := fill_sim (fun i => some (i * n, n)) _ ps (rep len z) c ((Array.range (len * n)).map (zv.cells[· % zv.cells.size]!)) q1 (fun i x p hx hp => by
                  obtain ⟨⟨f2, f3⟩, f4⟩ := q2 i x p hx hp
                  exact ⟨by rw [f2, f3], f4⟩) h2 hz0
                have r1' : Instr.fill (fun i => some (i * n, n)) ((Array.range (len * n)).map (zv.cells[· % zv.cells.size]!)) (parts.map fun (i, x) => (i, a.eval x)).toList = some cells' := by rw [hmap]; exact r1
                have hcl : c.length = len * n := by
                  have hgen : ∀ (ps : List (Nat × Nat × List D)) (c0 c : List D), fillB c0 ps = some c → c.length = c0.length := by
                    intro ps
                    induction ps with
                    | nil => intro c0 c hf; simp [fillB] at hf; rw [hf]
                    | cons p r ih =>
                      intro c0 c hf
                      obtain ⟨off, m, x⟩ := p
                      simp only [fillB] at hf
                      split at hf
                      · rename_i hb
                        rw [ih _ _ hf, length_splice (by omega)]
                      · cases hf
                  rw [hgen ps _ _ h2, rep_length, hzl]
                obtain ⟨s', h3, h4, h5, _, h7, hus⟩ := new_block H hkk el cells'.toList c (by rw [← r2.1, List.take_length]; exact r2) { s.w with heap := s.w.heap.push (.cells cells' el (0, 0)) } (by simp) ⟨rfl, rfl, rfl⟩
                refine ⟨_, s', .inl ?_, h4, h5, h7 n len len (Nat.le_refl _) (by omega) (by rw [r2.1, hcl]; exact Nat.le_refl _), hus⟩
                rw [h3]
                simp only [execOp, ho]
                refine run_v ?_
                unfold Instr.buildSlice
                have hlim' : ¬ (len * n > 2 ^ 24) := by have := hlim.1; omega
                by_cases hl0 : len * n = 0
                · have hlen0 : len = 0 := by
                    rcases Nat.mul_eq_zero.1 hl0 with h | h
                    · exact h
                    · omega
                  have hr0 : (Array.range (len * n)).map (zv.cells[· % zv.cells.size]!) = (Array.range (len * n)).map ((#[] : Array Value)[· % (#[] : Array Value).size]!) := by
                    rw [hl0]; apply Array.ext'; simp
                  rw [hr0] at r1'
                  simp only [Sem.run_bind, run_underlying hu, Result.andThen_ok, szOf_run hn, if_neg hlim', if_pos hl0, Sem.run_pure, r1', newRow, run_newObj]
                · simp only [Sem.run_bind, run_underlying hu, Result.andThen_ok, szOf_run hn, if_neg hlim', if_neg hl0, hzv, Sem.run_pure, r1', newRow, run_newObj]
              · cases hev
            · cases hev
          · cases hev
        · cases hc
      · cases hc
    · cases hc
  · cases hc

end
end Go.AM
