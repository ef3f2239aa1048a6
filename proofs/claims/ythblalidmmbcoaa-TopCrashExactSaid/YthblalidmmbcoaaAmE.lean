/- The simulation of single operations, second part: operators, parts of values, addresses. Generic over the program. -/
import Derived.Test.YthblalidmmbcoaaAmD
set_option linter.unusedSimpArgs false
set_option linter.unusedVariables false
namespace Go.AM

section
variable {P : Program} {s : Sg} {e : Look} {a : Act} {h h' : Heap} {o : Oper} {ao : AOp} {d : D} {kk : Nat}

theorem tagOf_cases {t n : Nat} (ht : tagOf P t = some n) : (n = 0 ∧ P.underlying t = some .bool) ∨ (n = 1 ∧ ∃ k, P.underlying t = some (.int k)) ∨ (n = 2 ∧ P.underlying t = some .string) := by
  unfold tagOf at ht
  split at ht
  · rename_i hu; injection ht with ht; exact .inl ⟨ht.symm, hu⟩
  · rename_i k hu; injection ht with ht; exact .inr (.inl ⟨ht.symm, k, hu⟩)
  · rename_i hu; injection ht with ht; exact .inr (.inr ⟨ht.symm, hu⟩)
  · cases ht

theorem eqD_run {t n : Nat} (ht : tagOf P t = some n) {x y : D} {r : Bool} (hr : eqD n x y = some r) {u v : Value} (hu : RV s u x) (hv : RV s v y) (k : Nat) (w : World) :
    (Op.equalIn (k + 1) t u v).run P w = .ok r w := by
  unfold eqD at hr
  rcases tagOf_cases ht with ⟨rfl, h⟩ | ⟨rfl, kk, h⟩ | ⟨rfl, h⟩
  · split at hr <;> simp_all
    rename_i a b
    have h1 := hu.inv_bool; have h2 := hv.inv_bool
    subst h1; subst h2
    simpa [Op.equalIn, run_underlying h] using hr
  · split at hr <;> simp_all
    rename_i k1 a k2 b
    have h1 := hu.inv_int; have h2 := hv.inv_int
    subst h1; subst h2
    obtain ⟨rfl, hr⟩ := hr
    simpa [Op.equalIn, run_underlying h] using hr
  · split at hr <;> simp_all
    rename_i a b
    have h1 := hu.inv_str; have h2 := hv.inv_str
    subst h1; subst h2
    rw [run_equalIn_string w k t a b h, ← hr]

theorem eqFields_flat : ∀ (fs : List Field) (i : Nat) (tags : List Nat), flatFs P i fs = some tags → ∀ (xs ys : Array Value) (ds es : List D), All2 (RC s) (xs.toList.drop i) ds → All2 (RC s) (ys.toList.drop i) es →
    ∀ (t : Bool), eqL tags ds es = some t → ∀ (k : Nat) (w : World), (Op.eqFields (k + 1) xs ys fs).run P w = .ok t w
  | [], i, tags, hf, xs, ys, ds, es, hx, hy, t, ht, k, w => by
    simp [flatFs] at hf
    subst hf
    unfold eqL at ht
    split at ht <;> simp_all [Op.eqFields]
  | f :: fs, i, tags, hf, xs, ys, ds, es, hx, hy, t, ht, k, w => by
    simp only [flatFs] at hf
    split at hf
    · rename_i hfo
      obtain ⟨hoff, hname⟩ := hfo
      split at hf
      · rename_i tg l h1 h2
        injection hf with hf
        subst hf
        unfold eqL at ht
        split at ht
        · rename_i heq; cases heq
        · rename_i tg' l' d0 ds' e0 es' heq
          injection heq with heq1 heq2
          subst heq1; subst heq2
          split at ht
          · rename_i p q hp hq
            injection ht with ht
            have hxi : ∃ v, xs[i]? = some v ∧ RC s v d0 := by
              obtain ⟨v, hv, hr⟩ := hx.get (i := 0) (y := d0) (by simp)
              exact ⟨v, by simpa [List.getElem?_drop] using hv, hr⟩
            have hyi : ∃ v, ys[i]? = some v ∧ RC s v e0 := by
              obtain ⟨v, hv, hr⟩ := hy.get (i := 0) (y := e0) (by simp)
              exact ⟨v, by simpa [List.getElem?_drop] using hv, hr⟩
            obtain ⟨u, hu, hru⟩ := hxi
            obtain ⟨v, hv, hrv⟩ := hyi
            have hagg : ∀ w, (isAgg f.type).run P w = .ok false w := by
              intro w
              rcases tagOf_cases h1 with ⟨_, h⟩ | ⟨_, kk, h⟩ | ⟨_, h⟩ <;> simp [isAgg, run_underlying h]
            have hpx : ∀ w, (part f.type xs f.offset).run P w = .ok u w := by intro w; simp [part, hagg, hoff, hu]
            have hpy : ∀ w, (part f.type ys f.offset).run P w = .ok v w := by intro w; simp [part, hagg, hoff, hv]
            have hq1 := eqD_run h1 hp hru.1 hrv.1 k w
            have hdrop : ∀ (zs : Array Value) (gs : List D) (g0 : D), All2 (RC s) (zs.toList.drop i) (g0 :: gs) → All2 (RC s) (zs.toList.drop (i + 1)) gs := by
              intro zs gs g0 hz
              have := hz.drop 1
              simpa [List.drop_drop, Nat.add_comm] using this
            have ih := eqFields_flat fs (i + 1) l h2 xs ys ds' es' (hdrop _ _ _ hx) (hdrop _ _ _ hy) q hq k w
            simp only [Op.eqFields, if_pos hname, Sem.run_bind, hpx, hpy, hq1, Result.andThen_ok, Sem.run_ite, ih]
            subst ht
            cases p <;> simp
          · cases ht
        · cases ht
      · cases hf
    · cases hf

theorem eqNil_run (k : Nat) {t te : Nat} (hu : P.underlying t = some (.slice te)) (b : Option Addr) (len cap : Nat) (w : World) :
    (Op.equalIn (k + 1) t (.slice b len cap) (.slice none 0 0)).run P w = .ok b.isNone w := by
  cases b <;> simp [Op.equalIn, run_underlying hu]

theorem run_v {S : Sem Value} {w w' : World} {v : Value} (hS : S.run P w = .ok v w') : (do let x ← S; pure (Next.value x) : Sem Next).run P w = .ok (.value v) w' := by simp [hS]

theorem sim_bin {op : BinOp} {t : Nat} {x y : Operand} {yt : Nat} (ho : o.op = .binOp op t x y yt) (hc : cOp P (.binOp op t x y yt) = some ao) (H : RH s h) (E : RE s e a.tmps)
    (hev : evOp e h kk ao = some (d, h')) : Good s kk ((execOp a.eval o).run P s.w) d h' := by
  have hrun : ∀ v, (do eqGuard op t x y (a.eval x) (a.eval y); Go.binOp op t (a.eval x) (a.eval y) : Sem Value).run P s.w = .ok v s.w → (execOp a.eval o).run P s.w = .ok (.value v) s.w := by
    intro v hv
    simp only [execOp, ho]
    exact run_v hv
  simp only [cOp, cBin] at hc
  split at hc
  · rename_i x' y' hx hy
    -- scalars
    have scalar : ∀ dx dy d1, evO e x' = some dx → evO e y' = some dy → binD op dx dy = some d1 → d = d1 → h' = h → Good s kk ((execOp a.eval o).run P s.w) d h' := by
      intro dx dy d1 h1 h2 h3 h4 h5
      subst h4; subst h5
      have rx := cO_sim hx E h1
      have ry := cO_sim hy E h2
      obtain ⟨v, hv, hr⟩ := binD_run (P := P) rx ry h3 t s.w
      refine Good.same H (hrun v ?_) hr
      have hg : (eqGuard op t x y (a.eval x) (a.eval y)).run P s.w = .ok () s.w := by
        unfold binD at h3
        split at h3
        · have := rx.inv_int
          exact eqGuard_plain (.inl (by rw [this]; simp)) (.inl (by rw [this]; simp)) _
        · have := rx.inv_str
          exact eqGuard_plain (.inl (by rw [this]; simp)) (.inl (by rw [this]; simp)) _
        · cases h3
      simp only [Sem.run_bind, hg, Result.andThen_ok, hv]
    have bool : ∀ neg : Bool, (op = if neg then .neq else .eql) → P.underlying t = some .bool → (match evO e x', evO e y' with | some (.bool a), some (.bool b) => some (D.bool (if neg then !(a == b) else a == b), h) | _, _ => none) = some (d, h') → Good s kk ((execOp a.eval o).run P s.w) d h' := by
      intro neg hop hu h1
      split at h1
      · rename_i p q hp hq
        injection h1 with h1; injection h1 with h2 h3; subst h2; subst h3
        have rx := (cO_sim hx E hp).inv_bool
        have ry := (cO_sim hy E hq).inv_bool
        refine Good.same H (hrun _ ?_) (.pure (.bool _))
        have hg := eqGuard_plain (P := P) (op := op) (t := t) (x := x) (y := y) (u := a.eval x) (v := a.eval y) (.inl (by rw [rx]; simp)) (.inl (by rw [rx]; simp)) s.w
        have he : (Op.equal t (.bool p) (.bool q)).run P s.w = .ok (p == q) s.w := run_equalIn_bool' s.w 9999 t p q hu
        simp only [Sem.run_bind, hg, Result.andThen_ok]
        rw [rx, ry]
        cases neg <;> simp at hop <;> subst hop <;> simp [Go.binOp, he]
      · cases h1
    have aggr : ∀ (neg : Bool) (fs : Array Field) (tags : List Nat), (op = if neg then .neq else .eql) → P.underlying t = some (.struct fs) → flatFs P 0 fs.toList = some tags → P.stoodInHeld t = false → P.eqGuardType P.depth t = false →
        (match evO e x', evO e y' with | some (.agg a), some (.agg b) => (match eqL tags a b with | some t => some (D.bool (if neg then !t else t), h) | none => none) | _, _ => none) = some (d, h') → Good s kk ((execOp a.eval o).run P s.w) d h' := by
      intro neg fs tags hop hu hfl hst hgd h1
      split at h1
      · rename_i p q hp hq
        split at h1
        · rename_i r hr
          injection h1 with h1; injection h1 with h2 h3; subst h2; subst h3
          obtain ⟨cx, rx, ax⟩ := (cO_sim hx E hp).inv_agg
          obtain ⟨cy, ry, ay⟩ := (cO_sim hy E hq).inv_agg
          refine Good.same H (hrun _ ?_) (.pure (.bool _))
          have hfo : P.fieldsOf t = fs := by simp [Program.fieldsOf, hu]
          have he : (Op.equal t (.agg cx) (.agg cy)).run P s.w = .ok r s.w := by
            show (Op.equalIn (9999 + 1) t (.agg cx) (.agg cy)).run P s.w = _
            rw [run_equalIn_struct s.w 9999 t cx cy (by rw [hfo]; exact hu) hst, hfo]
            exact eqFields_flat fs.toList 0 tags hfl cx cy p q (by simpa using ax) (by simpa using ay) r hr 9998 s.w
          have hg : (eqGuard op t x y (a.eval x) (a.eval y)).run P s.w = .ok () s.w := by
            rw [rx, ry]
            cases neg <;> simp at hop <;> subst hop <;> simp [eqGuard, hgd]
          simp only [Sem.run_bind, hg, Result.andThen_ok]
          rw [rx, ry]
          cases neg <;> simp at hop <;> subst hop <;> simp [Go.binOp, he]
        · cases h1
      · cases h1
    have nilc : ∀ (neg : Bool) (te : Nat), (op = if neg then .neq else .eql) → P.underlying t = some (.slice te) → y = .const (.slice none 0 0) →
        (match (evO e x').bind isNilD with | some t => some (D.bool (if neg then !t else t), h) | none => none) = some (d, h') → Good s kk ((execOp a.eval o).run P s.w) d h' := by
      intro neg te hop hu hyn h1
      split at h1
      · rename_i r hr
        injection h1 with h1; injection h1 with h2 h3; subst h2; subst h3
        cases hxe : evO e x' with
        | none => rw [hxe] at hr; cases hr
        | some dx =>
          rw [hxe] at hr
          simp only [Option.bind_some] at hr
          have rx := cO_sim hx E hxe
          have hval : ∃ b len cap, a.eval x = .slice b len cap ∧ r = b.isNone := by
            unfold isNilD at hr
            split at hr
            · injection hr with hr; subst hr; exact ⟨none, 0, 0, rx.inv_nil, rfl⟩
            · split at hr
              · cases hr
              · rename_i hne
                injection hr with hr; subst hr
                have hi := rx.inv_vs
                generalize hv : a.eval x = v at hi
                cases hi with
                | vs0 => exact absurd rfl hne
                | vs b off cap sz len cells cs hl hc hb hcs ho' hm hrr => exact ⟨_, _, _, rfl, rfl⟩
            · split at hr
              · cases hr
              · rename_i k sz off len hne
                injection hr with hr; subst hr
                obtain ⟨hk, b, cap, hv, hna, _, hq⟩ := rx.inv_sl
                cases b with
                | some b => exact ⟨_, _, _, hv, rfl⟩
                | none => exact absurd rfl (hna hne)
            · cases hr
          obtain ⟨b, len, cap, hv, rfl⟩ := hval
          refine Good.same H (hrun _ ?_) (.pure (.bool _))
          have hyv : a.eval y = .slice none 0 0 := by rw [hyn]; rfl
          have he : (Op.equal t (.slice b len cap) (.slice none 0 0)).run P s.w = .ok b.isNone s.w := by
            exact eqNil_run 9999 hu b len cap s.w
          have hg := eqGuard_plain (P := P) (op := op) (t := t) (x := x) (y := y) (u := a.eval x) (v := a.eval y) (.inl (by rw [hv]; simp)) (.inl (by rw [hv]; simp)) s.w
          simp only [Sem.run_bind, hg, Result.andThen_ok]
          rw [hv, hyv]
          cases neg <;> simp at hop <;> subst hop <;> simp [Go.binOp, he]
      · cases h1
    have runbin : ∀ ao', ao' = AOp.bin op x' y' → evOp e h kk ao' = some (d, h') → Good s kk ((execOp a.eval o).run P s.w) d h' := by
      intro ao' h0 hev
      subst h0
      simp only [evOp] at hev
      split at hev
      · rename_i dx dy h1 h2
        split at hev
        · rename_i d1 h3
          injection hev with hev; injection hev with h4 h5
          exact scalar dx dy d1 h1 h2 h3 h4.symm h5.symm
        · cases hev
      · cases hev
    split at hc
    · injection hc with hc; exact runbin ao hc.symm hev
    · injection hc with hc; exact runbin ao hc.symm hev
    · rename_i hu
      split at hc
      · injection hc with hc; subst hc; exact bool false rfl hu hev
      · injection hc with hc; subst hc; exact bool true rfl hu hev
      · cases hc
    · rename_i fs hu
      split at hc
      · rename_i tags htg
        split at hc
        · rename_i hcond
          split at hc
          · injection hc with hc; subst hc; exact aggr false fs tags rfl hu htg hcond.1 hcond.2 hev
          · injection hc with hc; subst hc; exact aggr true fs tags rfl hu htg hcond.1 hcond.2 hev
          · cases hc
        · cases hc
      · cases hc
    · rename_i te hu
      split at hc
      · split at hc
        · injection hc with hc; subst hc; exact nilc false te rfl hu rfl hev
        · injection hc with hc; subst hc; exact nilc true te rfl hu rfl hev
        · cases hc
      · cases hc
    · cases hc
  · cases hc

/-- An empty slice of the caller's against nil: some answer. -/
theorem sim_eqN0 {op : BinOp} {t : Nat} {x y : Operand} {yt : Nat} {neg : Bool} {x0 : O} (ho : o.op = .binOp op t x y yt) (hc : cOp P (.binOp op t x y yt) = some (.eqN neg x0)) (E : RE s e a.tmps) {sz : Nat} {c : List D} (hx0 : evO e x0 = some (.vs sz c 0)) :
    ∃ b : Bool, (execOp a.eval o).run P s.w = .ok (.value (.bool b)) s.w := by
  have hrun : ∀ v, (do eqGuard op t x y (a.eval x) (a.eval y); Go.binOp op t (a.eval x) (a.eval y) : Sem Value).run P s.w = .ok v s.w → (execOp a.eval o).run P s.w = .ok (.value v) s.w := by
    intro v hv
    simp only [execOp, ho]
    exact run_v hv
  simp only [cOp, cBin] at hc
  split at hc
  · rename_i x' y' hx hy
    have nilc : ∀ (ng : Bool) (te : Nat), (op = if ng then .neq else .eql) → P.underlying t = some (.slice te) → y = .const (.slice none 0 0) → x' = x0 → ∃ b : Bool, (execOp a.eval o).run P s.w = .ok (.value (.bool b)) s.w := by
      intro ng te hop hu hyn hxx
      subst hxx
      have rx := cO_sim hx E hx0
      have hval : ∃ b len cap, a.eval x = .slice b len cap := by
        have hi := rx.inv_vs
        generalize a.eval x = v at hi
        cases hi with
        | vs0 => exact ⟨_, _, _, rfl⟩
        | vs b off cap sz len cells cs hl hc hb hcs ho' hm hrr => exact ⟨_, _, _, rfl⟩
      obtain ⟨b, len, cap, hv⟩ := hval
      have hyv : a.eval y = .slice none 0 0 := by rw [hyn]; rfl
      have he : (Op.equal t (.slice b len cap) (.slice none 0 0)).run P s.w = .ok b.isNone s.w := by
        exact eqNil_run 9999 hu b len cap s.w
      have hg := eqGuard_plain (P := P) (op := op) (t := t) (x := x) (y := y) (u := a.eval x) (v := a.eval y) (.inl (by rw [hv]; simp)) (.inl (by rw [hv]; simp)) s.w
      refine ⟨if ng then !b.isNone else b.isNone, hrun _ ?_⟩
      simp only [Sem.run_bind, hg, Result.andThen_ok]
      rw [hv, hyv]
      cases ng <;> simp at hop <;> subst hop <;> simp [Go.binOp, he]
    split at hc
    · injection hc with hc; cases hc
    · injection hc with hc; cases hc
    · (repeat' split at hc) <;> first | (injection hc with hc; cases hc; done) | (cases hc; done)
    · (repeat' split at hc) <;> first | (injection hc with hc; cases hc; done) | (cases hc; done)
    · rename_i te hu
      split at hc
      · split at hc
        · injection hc with hc; injection hc with h1 h2; exact nilc false te rfl hu rfl h2
        · injection hc with hc; injection hc with h1 h2; exact nilc true te rfl hu rfl h2
        · cases hc
      · cases hc
    · cases hc
  · cases hc

end
end Go.AM
