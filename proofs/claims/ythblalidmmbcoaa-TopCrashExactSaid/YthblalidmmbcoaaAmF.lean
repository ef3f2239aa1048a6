/- The simulation of single operations, third part. Generic over the program. -/
import Derived.Test.YthblalidmmbcoaaAmE
set_option linter.unusedSimpArgs false
set_option linter.unusedVariables false
namespace Go.AM

section
variable {P : Program} {s : Sg} {e : Look} {a : Act} {h h' : Heap} {o : Oper} {ao : AOp} {d : D} {kk : Nat}

theorem sim_un {op : UnOp} {t : Nat} {x : Operand} (ho : o.op = .unOp op t x) (hc : cOp P (.unOp op t x) = some ao) (H : RH s h) (E : RE s e a.tmps)
    (hev : evOp e h kk ao = some (d, h')) : Good s kk ((execOp a.eval o).run P s.w) d h' := by
  simp only [cOp] at hc
  cases h1 : cO x with
  | none => rw [h1] at hc; cases hc
  | some y =>
    rw [h1] at hc; simp at hc; subst hc
    simp only [evOp] at hev
    split at hev
    · rename_i b h2
      injection hev with hev; injection hev with h3 h4; subst h3; subst h4
      have := (cO_sim h1 E h2).inv_bool
      exact Good.same H (v := .bool (!b)) (by simp [execOp, ho, this, Op.unary]) (.pure (.bool _))
    · rename_i k n h2
      injection hev with hev; injection hev with h3 h4; subst h3; subst h4
      have := (cO_sim h1 E h2).inv_int
      exact Good.same H (v := .int k (k.wrap (0 - n))) (by simp [execOp, ho, this, Op.unary, Op.intArith]) (.pure (.int _ _))
    · cases hev

theorem sim_conv {u t : Nat} {x : Operand} (hns : ∀ y, ao ≠ .strB y) (ho : o.op = .convert u t x) (hc : cOp P (.convert u t x) = some ao) (H : RH s h) (E : RE s e a.tmps)
    (hev : evOp e h kk ao = some (d, h')) : Good s kk ((execOp a.eval o).run P s.w) d h' := by
  simp only [cOp] at hc
  split at hc
  · rename_i k1 k y hu ht h1
    injection hc with hc; subst hc
    simp only [evOp] at hev
    split at hev
    · rename_i k2 n h2
      injection hev with hev; injection hev with h3 h4; subst h3; subst h4
      have := (cO_sim h1 E h2).inv_int
      exact Good.same H (v := .int k (k.wrap n)) (by simp [execOp, ho, this, convert, run_underlying hu, run_underlying ht, Conv.intToInt]) (.pure (.int _ _))
    · cases hev
  · split at hc
    · injection hc with hc; exact absurd hc.symm (hns _)
    · cases hc
  · cases hc

theorem sim_mkfn {f : Nat} {fst caps : Array Operand} (ho : o.op = .makeFunc (.func f) fst caps) (hc : cOp P (.makeFunc (.func f) fst caps) = some ao) (H : RH s h) (E : RE s e a.tmps)
    (hev : evOp e h kk ao = some (d, h')) : Good s kk ((execOp a.eval o).run P s.w) d h' := by
  simp only [cOp] at hc
  split at hc
  · rename_i x y h1 h2
    injection hc with hc; subst hc
    simp only [evOp] at hev
    split at hev
    · rename_i fs cs h3 h4
      injection hev with hev; injection hev with h5 h6; subst h5; subst h6
      have r1 := cOs_sim h1 E h3
      have r2 := cOs_sim h2 E h4
      refine Good.same H (v := .func (.func f) (fst.map a.eval) (caps.map a.eval)) (by simp [execOp, ho, Instr.makeFunc]) (RV.mkfn ?_ ?_)
      · simpa using r1
      · simpa using r2
    · cases hev
  · cases hc

theorem lenD_sim {v : Value} {x : D} {n : Nat} (hv : RV s v x) (hl : lenD x = some n) : ∃ b cap, v = .slice b n cap := by
  unfold lenD at hl
  split at hl
  · injection hl with hl; subst hl; exact ⟨_, _, hv.inv_nil⟩
  · injection hl with hl; subst hl; obtain ⟨b, hb⟩ := hv.inv_emp; exact ⟨_, _, hb⟩
  · injection hl with hl; subst hl
    have hi := hv.inv_vs
    cases hi with
    | vs0 => exact ⟨_, _, rfl⟩
    | vs => exact ⟨_, _, rfl⟩
  · injection hl with hl; subst hl
    obtain ⟨_, b, cap, hb, _⟩ := hv.inv_sl
    exact ⟨_, _, hb⟩
  · cases hl

theorem lenV_sim {v : Value} {x : D} {n : Nat} (hv : RV s v x) (hl : lenV x = some n) : ∃ b cap, v = .slice b n cap := by
  unfold lenV at hl
  split at hl
  · injection hl with hl; subst hl
    have hi := hv.inv_vn
    cases hi with
    | vs0 => exact ⟨_, _, rfl⟩
    | vs => exact ⟨_, _, rfl⟩
  · exact lenD_sim hv hl

theorem lenA_run {v : Value} {x : D} {n : Nat} (hv : RV s v x) (hl : lenA x = some n) (w : World) : (Builtin.lenOf v).run P w = .ok n w := by
  unfold lenA at hl
  split at hl
  · injection hl with hl; subst hl; rw [hv.inv_str]; simp [Builtin.lenOf]
  · obtain ⟨b, cap, rfl⟩ := lenD_sim hv hl; simp [Builtin.lenOf]

theorem cOs_one {l : List Operand} {x : O} (h : cOs l = some [x]) : ∃ x0, l = [x0] ∧ cO x0 = some x := by
  cases l with
  | nil => simp [cOs] at h
  | cons y r =>
    simp only [cOs] at h
    split at h
    · rename_i y' l h1 h2
      injection h with h
      injection h with h3 h4
      subst h3; subst h4
      cases r with
      | nil => exact ⟨y, rfl, h1⟩
      | cons z r' => simp only [cOs] at h2; split at h2 <;> simp at h2
    · cases h
theorem cOs_two {l : List Operand} {x y : O} (h : cOs l = some [x, y]) : ∃ x0 y0, l = [x0, y0] ∧ cO x0 = some x ∧ cO y0 = some y := by
  cases l with
  | nil => simp [cOs] at h
  | cons z r =>
    simp only [cOs] at h
    split at h
    · rename_i y' l h1 h2
      injection h with h
      injection h with h3 h4
      subst h3; subst h4
      obtain ⟨y0, rfl, hy⟩ := cOs_one h2
      exact ⟨z, y0, rfl, h1, hy⟩
    · cases h

/-- How a builtin's call runs. -/
theorem run_builtin {args : Array Operand} {ats : Array TypeId} {b : Builtin} {S : Sem Value} {v : Value} {w w' : World} (ho : o.op = .call { callee := .builtin b, args := args, argTypes := ats })
    (hb : ∀ cs, builtin b ats o.type cs (args.map a.eval) = (do pure (Next.value (← S)))) (hS : S.run P w = .ok v w') : (execOp a.eval o).run P w = .ok (.value v) w' := by
  simp only [execOp, ho, resolve, pure_bind, invoke, hb]
  simp [hS]

theorem sim_len {args : Array Operand} {ats : Array TypeId} (ho : o.op = .call { callee := .builtin .len, args := args, argTypes := ats }) (hc : cCall P { callee := .builtin .len, args := args, argTypes := ats } = some ao)
    (H : RH s h) (E : RE s e a.tmps) (hev : evOp e h kk ao = some (d, h')) : Good s kk ((execOp a.eval o).run P s.w) d h' := by
  simp only [cCall] at hc
  split at hc
  · rename_i t x ht hargs
    obtain rfl : ats = #[t] := by apply Array.ext'; simpa using ht
    obtain ⟨x0, hx0, hxc⟩ := cOs_one hargs
    obtain rfl : args = #[x0] := by apply Array.ext'; simpa using hx0
    split at hc
    · rename_i el hu
      injection hc with hc; subst hc
      simp only [evOp] at hev
      cases h1 : evO e x with
      | none => rw [h1] at hev; cases hev
      | some dx =>
        rw [h1] at hev
        simp only [Option.bind_some] at hev
        split at hev
        · rename_i n hn
          injection hev with hev; injection hev with h5 h6; subst h5; subst h6
          obtain ⟨b, cap, hv⟩ := lenV_sim (cO_sim hxc E h1) hn
          refine Good.same H (run_builtin ho (fun cs => rfl) (v := .int .i64 n) ?_) (.pure (.int _ _))
          simp [Builtin.len_, hv, run_underlying hu, goInt]
        · cases hev
    · rename_i hu
      injection hc with hc; subst hc
      simp only [evOp] at hev
      split at hev
      · rename_i z h1
        injection hev with hev; injection hev with h5 h6; subst h5; subst h6
        have hv := (cO_sim hxc E h1).inv_str
        refine Good.same H (run_builtin ho (fun cs => rfl) (v := .int .i64 z.size) ?_) (.pure (.int _ _))
        simp [Builtin.len_, hv, run_underlying hu, goInt]
      · cases hev
    · cases hc
  · cases hc

theorem mimaF_run (mx : Bool) (k : IntKind) : ∀ (l : List D) (x : Int) (r : D), mimaF mx k x l = some r → ∀ (vs : List Value), All2 (RV s) vs l → ∀ w : World,
    ∃ z, r = .int k z ∧ ((if mx then vs.foldlM Builtin.max2 (.int k x) else vs.foldlM Builtin.min2 (.int k x)) : Sem Value).run P w = .ok (.int k z) w
  | [], x, r, hr, vs, hv, w => by
    simp [mimaF] at hr
    subst hr
    obtain rfl : vs = [] := List.length_eq_zero_iff.1 (by simpa using hv.1)
    cases mx <;> exact ⟨x, rfl, by simp⟩
  | .int k' b :: l, x, r, hr, vs, hv, w => by
    simp only [mimaF] at hr
    split at hr
    · rename_i hk
      subst hk
      cases vs with
      | nil => have := hv.1; simp at this
      | cons u us =>
        have hu := (hv.2 0 u _ rfl rfl).inv_int
        subst hu
        have hus : All2 (RV s) us l := by simpa using hv.drop 1
        obtain ⟨z, hz, hrun⟩ := mimaF_run mx k l _ r hr us hus w
        refine ⟨z, hz, ?_⟩
        cases mx
        · simpa [List.foldlM, Builtin.min2] using hrun
        · simpa [List.foldlM, Builtin.max2] using hrun
    · cases hr
  | .bool _ :: _, _, _, hr, _, _, _ | .str _ :: _, _, _, hr, _, _, _ | .nil :: _, _, _, hr, _, _, _ | .emp :: _, _, _, hr, _, _, _ | .vs .. :: _, _, _, hr, _, _, _ | .ow .. :: _, _, _, hr, _, _, _
  | .sl .. :: _, _, _, hr, _, _, _ | .vp .. :: _, _, _, hr, _, _, _ | .pt .. :: _, _, _, hr, _, _, _ | .agg .. :: _, _, _, hr, _, _, _ | .tup .. :: _, _, _, hr, _, _, _ | .fn .. :: _, _, _, hr, _, _, _
  | .nilp :: _, _, _, hr, _, _, _ | .nilf :: _, _, _, hr, _, _, _ | .undef :: _, _, _, hr, _, _, _ => by simp [mimaF] at hr

theorem sim_mima {args : Array Operand} {ats : Array TypeId} {mx : Bool} (ho : o.op = .call { callee := .builtin (if mx then .max else .min), args := args, argTypes := ats })
    (hc : (match cOs args.toList with | some l => some (AOp.mima mx l) | none => none) = some ao) (H : RH s h) (E : RE s e a.tmps) (hev : evOp e h kk ao = some (d, h')) : Good s kk ((execOp a.eval o).run P s.w) d h' := by
  split at hc
  · rename_i l hl
    injection hc with hc; subst hc
    simp only [evOp] at hev
    cases h1 : evOs e l with
    | none => rw [h1] at hev; cases hev
    | some ds =>
      rw [h1] at hev
      simp only [Option.bind_some] at hev
      split at hev
      · rename_i d0 hd
        injection hev with hev; injection hev with h5 h6; subst h5; subst h6
        have hall := cOs_sim hl E h1
        unfold mimaD at hd
        split at hd
        · rename_i k x r
          cases hm : args.toList.map a.eval with
          | nil => rw [hm] at hall; have := hall.1; simp at this
          | cons u us =>
            rw [hm] at hall
            have hu := (hall.2 0 u _ rfl rfl).inv_int
            subst hu
            have hus : All2 (RV s) us r := by simpa using hall.drop 1
            obtain ⟨z, rfl, hrun⟩ := mimaF_run (P := P) mx k r x d0 hd us hus s.w
            refine Good.same H (v := .int k z) ?_ (.pure (.int _ _))
            have harr : (args.map a.eval).toList = .int k x :: us := by simpa using hm
            cases mx
            · exact run_builtin ho (fun cs => rfl) (by unfold Builtin.min_; rw [harr]; simpa using hrun)
            · exact run_builtin ho (fun cs => rfl) (by unfold Builtin.max_; rw [harr]; simpa using hrun)
        · cases hd
      · cases hev
  · cases hc

theorem sim_extract {x : Operand} {i : Nat} (ho : o.op = .extract x i) (hc : cOp P (.extract x i) = some ao) (H : RH s h) (E : RE s e a.tmps)
    (hev : evOp e h kk ao = some (d, h')) : Good s kk ((execOp a.eval o).run P s.w) d h' := by
  simp only [cOp] at hc
  cases h1 : cO x with
  | none => rw [h1] at hc; cases hc
  | some y =>
    rw [h1] at hc; simp at hc; subst hc
    simp only [evOp] at hev
    split at hev
    · rename_i vs h2
      split at hev
      · rename_i d0 h3
        injection hev with hev; injection hev with h5 h6; subst h5; subst h6
        obtain ⟨cs, hv, hall⟩ := (cO_sim h1 E h2).inv_tup
        obtain ⟨u, hu, hr⟩ := hall.get h3
        refine Good.same H (v := u) ?_ hr
        have hu' : cs[i]? = some u := by simpa using hu
        simp [execOp, ho, Instr.extract, hv, hu']
      · cases hev
    · cases hev

/-- A part of a struct's or an array's value. -/
theorem part_sim {g : Bool} {n off t : Nat} {c : List D} {d : D} (hld : ldD g n c off = some d) {cs : Array Value} (hall : All2 (RC s) cs.toList c) (hg : aggOf P t = some g) (hn : szOf P t = some n) (w : World) :
    ∃ v, (part t cs off).run P w = .ok v w ∧ RV s v d := by
  unfold ldD at hld
  cases g
  · simp at hld
    obtain ⟨v, hv, hr⟩ := hall.get hld
    have hv' : cs[off]? = some v := by simpa using hv
    exact ⟨v, by simp [part, aggOf_run hg, hv'], hr.1⟩
  · simp at hld
    obtain ⟨h1, h2⟩ := hld
    subst h2
    refine ⟨_, by simp [part, aggOf_run hg, szOf_run hn]; rfl, RV.mkagg ?_⟩
    have := (hall.drop off).take n
    simpa [Array.toList_extract, List.extract_eq_take_drop, Nat.add_sub_cancel_left] using this

theorem sim_field {t i : Nat} {x : Operand} (ho : o.op = .field t x i) (hc : cOp P (.field t x i) = some ao) (H : RH s h) (E : RE s e a.tmps)
    (hev : evOp e h kk ao = some (d, h')) : Good s kk ((execOp a.eval o).run P s.w) d h' := by
  simp only [cOp] at hc
  split at hc
  · rename_i fs hu
    split at hc
    · rename_i f y hf h1
      split at hc
      · rename_i n g hn hg
        injection hc with hc; subst hc
        simp only [evOp] at hev
        split at hev
        · rename_i ds h2
          split at hev
          · rename_i d0 h3
            injection hev with hev; injection hev with h5 h6; subst h5; subst h6
            obtain ⟨cs, hv, hall⟩ := (cO_sim h1 E h2).inv_agg
            obtain ⟨v, hrun, hr⟩ := part_sim (P := P) h3 hall hg hn s.w
            exact Good.same H (v := v) (by simp [execOp, ho, Instr.field, run_underlying hu, hf, hv, asAgg, hrun]) hr
          · cases hev
        · cases hev
      · cases hc
    · cases hc
  · cases hc

theorem sim_index {t : Nat} {x i : Operand} (ho : o.op = .index t x i) (hc : cOp P (.index t x i) = some ao) (H : RH s h) (E : RE s e a.tmps)
    (hev : evOp e h kk ao = some (d, h')) : Good s kk ((execOp a.eval o).run P s.w) d h' := by
  simp only [cOp] at hc
  split at hc
  · rename_i y j hy hj
    split at hc
    · rename_i len el hu
      split at hc
      · rename_i n g hn hg
        injection hc with hc; subst hc
        simp only [evOp] at hev
        split at hev
        · rename_i ds k m h2 h3
          split at hev
          · rename_i hb
            split at hev
            · rename_i d0 h4
              injection hev with hev; injection hev with h5 h6; subst h5; subst h6
              obtain ⟨cs, hv, hall⟩ := (cO_sim hy E h2).inv_agg
              have hi := (cO_sim hj E h3).inv_int
              obtain ⟨v, hrun, hr⟩ := part_sim (P := P) h4 hall hg hn s.w
              exact Good.same H (v := v) (by simp [execOp, ho, Instr.index, hi, asIntOf, run_underlying hu, hv, hb, szOf_run hn, hrun]) hr
            · cases hev
          · cases hev
        · cases hev
      · cases hc
    · rename_i hu
      injection hc with hc; subst hc
      simp only [evOp] at hev
      split at hev
      · rename_i z k m h2 h3
        split at hev
        · rename_i hb
          split at hev
          · rename_i b h4
            injection hev with hev; injection hev with h5 h6; subst h5; subst h6
            have hv := (cO_sim hy E h2).inv_str
            have hi := (cO_sim hj E h3).inv_int
            exact Good.same H (v := .int .u8 b.toNat) (by simp [execOp, ho, Instr.index, hi, asIntOf, run_underlying hu, hv, hb, h4]) (.pure (.int _ _))
          · cases hev
        · cases hev
      · cases hev
    · cases hc
  · cases hc

end
end Go.AM
