/- Functions: from the meaning of a body to a contract. Generic over the program. -/
import Derived.Test.YthblalidmmbcoaaAmQ
set_option linter.unusedSimpArgs false
set_option linter.unusedVariables false
namespace Go.AM

def resL : List ARes → Look → Heap → Option (List D)
  | [], _, _ => some []
  | .tmp t :: r, e, h => match e t, resL r e h with | some d, some l => some (d :: l) | _, _ => none
  | .cell t g n :: r, e, h => match (e t).bind (memAt h), resL r e h with
    | some (c, off), some l => (match ldD g n c off with | some d => some (d :: l) | none => none)
    | _, _ => none
def resD (rs : List ARes) (e : Look) (h : Heap) : Option D :=
  match resL rs e h with
  | some [d] => some d
  | some l => some (.tup l)
  | none => none
def argEnv : Nat → List D → Env
  | _, [] => []
  | i, d :: r => (i, d) :: argEnv (i + 1) r

theorem get_argEnv : ∀ (ds : List D) (i t : Nat) (d : D), get (argEnv i ds) t = some d → i ≤ t ∧ ds[t - i]? = some d
  | [], i, t, d, h => by simp [argEnv, get] at h
  | a :: r, i, t, d, h => by
    simp only [argEnv, get] at h
    by_cases e : i = t
    · rw [if_pos e] at h; injection h with h; subst h; subst e; exact ⟨Nat.le_refl _, by simp⟩
    · rw [if_neg e] at h
      obtain ⟨h1, h2⟩ := get_argEnv r (i + 1) t d h
      refine ⟨by omega, ?_⟩
      rw [show t - i = (t - (i + 1)) + 1 by omega]
      simpa using h2

/-- A load, as its own lemma. -/
theorem ld_sim {P : Program} {s : Sg} {h : Heap} (H : RH s h) {t : Nat} {n : Nat} {g : Bool} (h1 : szOf P t = some n) (h2 : aggOf P t = some g) (hgn : ((g && 0 < n) || n == 1) = true) {va : Value} {da : D} (ha : RV s va da) {c : List D} {off : Nat} (h4 : memAt h da = some (c, off)) {d : D} (h5 : ldD g n c off = some d) :
    ∃ ad v, va = .pointer (some ad) ∧ (loadVar t ad).run P s.w = .ok v s.w ∧ RV s v d := by
  have hn1 : g = false → n = 1 := by rintro rfl; simpa using hgn
  have hnp : 0 < n := by
    cases g
    · have := hn1 rfl; omega
    · simp at hgn; rcases hgn with h | h <;> omega
  have hlen : off < c.length := by
    unfold ldD at h5
    cases g
    · simp at h5
      rcases Nat.lt_or_ge off c.length with h' | h'
      · exact h'
      · simp [List.getElem?_eq_none h'] at h5
    · simp at h5; omega
  obtain ⟨b, oo, cs, hv, hat, hall⟩ := memAt_sim H ha h4 hlen
  obtain ⟨hle, hagg, hone⟩ := ldD_sim h5 hall hn1
  cases g
  · obtain ⟨v, hcv, hr⟩ := hone rfl
    have hcell := hat off v hcv
    exact ⟨_, v, hv, by simp [loadVar, aggOf_run h2, hcell], hr.1⟩
  · obtain ⟨ds, rfl, hds⟩ := hagg rfl
    have hld := (hat.sub off n).load (P := P) n (by have := hall.1; simp; omega)
    exact ⟨_, .agg ((cs.drop off).take n).toArray, hv, by simp [loadVar, aggOf_run h2, szOf_run h1, hld], RV.mkagg (by simpa using hds)⟩

theorem resL_sim {P : Program} {s : Sg} {h : Heap} {e : Look} {a : Act} (H : RH s h) (E : RE s e a.tmps) : ∀ (l : List ResultVar) (rs : List ARes), cRes P l = some rs → ∀ (ds : List D), resL rs e h = some ds →
    ∃ vs : List Value, (l.mapM fun | .tmp t => pure (a.tmps.getD t undef) | .cell x t => do loadVar t (← asAddr (a.tmps.getD x undef)) : Sem (List Value)).run P s.w = .ok vs s.w ∧ All2 (RV s) vs ds
  | [], rs, hc, ds, hr => by
    simp [cRes] at hc; subst hc
    simp [resL] at hr; subst hr
    exact ⟨[], by simp, All2.nil⟩
  | .tmp t :: l, rs, hc, ds, hr => by
    simp only [cRes] at hc
    split at hc
    · rename_i l' hl
      injection hc with hc; subst hc
      simp only [resL] at hr
      split at hr
      · rename_i d dl h1 h2
        injection hr with hr; subst hr
        obtain ⟨vs, h3, h4⟩ := resL_sim H E l l' hl dl h2
        exact ⟨_ :: vs, by simp only [List.mapM_cons, Sem.run_bind, Sem.run_pure, Result.andThen_ok, h3], All2.cons (E t d h1) h4⟩
      · cases hr
    · cases hc
  | .cell x t :: l, rs, hc, ds, hr => by
    simp only [cRes] at hc
    split at hc
    · rename_i n g l' hn hg hl
      split at hc
      · rename_i hgn
        injection hc with hc; subst hc
        simp only [resL] at hr
        split at hr
        · rename_i c off dl h1 h2
          split at hr
          · rename_i d hd
            injection hr with hr; subst hr
            obtain ⟨vs, h3, h4⟩ := resL_sim H E l l' hl dl h2
            cases hx : e x with
            | none => rw [hx] at h1; cases h1
            | some da =>
              rw [hx] at h1
              simp only [Option.bind_some] at h1
              obtain ⟨ad, v, hv, hrun, hrv⟩ := ld_sim (P := P) H hn hg hgn (E x da hx) h1 hd
              have hh : (do loadVar t (← asAddr (a.tmps.getD x undef)) : Sem Value).run P s.w = .ok v s.w := by simp [hv, asAddr, hrun]
              exact ⟨v :: vs, by rw [List.mapM_cons, Sem.run_bind]; erw [hh]; simp only [Result.andThen_ok, Sem.run_bind, h3, Sem.run_pure], All2.cons hrv h4⟩
          · cases hr
        · cases hr
      · cases hc
    · cases hc

/-- A body's meaning gives the function's contract. -/
theorem con_of_W {P : Program} {f : Nat} {fn : Func} {F : AFun} (hm : P.follows .mixedOrders = true) (hf : P.funcs[f]? = some fn) (hcall : Callable P f) (hc : compF P fn = some F) {ds : List D} (hlen : ds.length ≤ F.nt) {h : Heap} {Q : D → Heap → Prop}
    (hw : W P F.code (fun x st => (match x with | .exit _ => False | _ => True) ∧ ∃ d, resD F.results (get st.env) st.heap = some d ∧ Q d st.heap) ⟨argEnv 0 ds, h⟩) : Con P f ds h Q := by
  refine ⟨hcall, fun s args H A => ?_⟩
  unfold compF at hc
  split at hc
  · rename_i c rs hb hrs
    split at hc
    · rename_i A0 l hA
      injection hc with hc; subst hc
      refine calls_of_wp hf hb (wp_mono (code_sim hm c _ _ _ _ _ hA _ ⟨argEnv 0 ds, h⟩ s _ hw ?_) ?_)
      · have hal : args.size = ds.length := by simpa using A.1
        refine ⟨H, ?_, ?_, rfl⟩
        · intro t d hd
          obtain ⟨_, hd2⟩ := get_argEnv ds 0 t d hd
          obtain ⟨v, hv, hr⟩ := A.get hd2
          simp only [Nat.sub_zero] at hv
          have hv2 : args[t]? = some v := by simpa using hv
          have hlt : t < args.size := by
            rcases Nat.lt_or_ge t args.size with h' | h'
            · exact h'
            · simp [Array.getElem?_eq_none h'] at hv2
          show RV s ((args ++ Array.replicate (fn.ntmps - args.size) undef).getD t undef) d
          rw [Array.getD_eq_getD_getElem?, Array.getElem?_append_left hlt, hv2]
          exact hr
        · show (args ++ Array.replicate (fn.ntmps - args.size) undef).size = fn.ntmps
          simp only at hlen
          simp; omega
      · rintro e a' w' ⟨x', st, s', rfl, rfl, hx, R, hq, d, hd, hQ⟩
        have hend : a'.defers = [] ∧ ∃ v, (results fn a'.tmps).run P s'.w = .ok v s'.w ∧ ∃ v0 d0 h0 s0, Ending.returned v = .returned v0 ∧ s0.w = s'.w ∧ Ext s s0 ∧ RH s0 h0 ∧ RV s0 v0 d0 ∧ Q d0 h0 := by
          refine ⟨R.defers, ?_⟩
          unfold resD at hd
          have key : ∀ dl, resL rs (get st.env) st.heap = some dl → ∃ vs : List Value, (results fn a'.tmps).run P s'.w = .ok (if h : vs.toArray.size = 1 then vs.toArray[0] else .tuple vs.toArray) s'.w ∧ All2 (RV s') vs dl := by
            intro dl hdl
            obtain ⟨vs, h1, h2⟩ := resL_sim (P := P) R.heap R.env fn.results.toList rs hrs dl hdl
            refine ⟨vs, ?_, h2⟩
            unfold results
            rw [Array.mapM_eq_mapM_toList]
            simp only [Sem.run_bind, Sem.run_map]
            erw [h1]
            rfl
          split at hd
          · rename_i d0 hl
            injection hd with hd; subst hd
            obtain ⟨vs, h1, h2⟩ := key _ hl
            obtain ⟨v, rfl⟩ : ∃ v, vs = [v] := by
              have := h2.1
              match vs, this with
              | [v], _ => exact ⟨v, rfl⟩
            exact ⟨v, by simpa using h1, v, d0, st.heap, s', rfl, rfl, hx, R.heap, h2.2 0 v d0 rfl rfl, hQ⟩
          · rename_i dl hne hl
            injection hd with hd; subst hd
            obtain ⟨vs, h1, h2⟩ := key _ hl
            have hn1 : ¬ vs.toArray.size = 1 := by
              intro h3
              have h4 := h2.1
              simp at h3
              rw [h3] at h4
              match dl, h4 with
              | [d], _ => exact hne d rfl
            rw [dif_neg hn1] at h1
            exact ⟨_, h1, _, _, st.heap, s', rfl, rfl, hx, R.heap, RV.mktup (by simpa using h2), hQ⟩
          · cases hd
        cases x' with
        | normal => exact hend
        | exit j => exact hq.elim
        | ret => exact hend
    · cases hc
  · cases hc

/-! ### What a function hands back -/
/-- The data, at the function's end, are 'r' to whoever called it. -/
def Ex (h : Heap) (d r : D) : Prop := ∀ (s : Sg) (base : Nat) (v : Value), RH s h → ((∀ b, b < base → s.prot b) ∧ s.base = base) → RV s v d → Out base s.w v r

theorem pcon_of_con {P : Program} {f : Nat} {ds : List D} {r : D} (hc : Con P f ds (fun _ => none) (fun d h => Ex h d r)) : PCon P f ds r := by
  refine ⟨hc.1, fun w args A => ?_⟩
  let s : Sg := { w := w, ρ := fun _ => none, μ := fun _ => none, prot := below w.heap.size, base := w.heap.size, fr := fun _ => False, used := fun _ => False, next := 0 }
  have H : RH s (fun _ => none) := ⟨fun b hb => hb, fun _ _ _ _ _ h => (by cases h), fun _ _ => rfl, fun _ h => h.elim, fun _ _ h => (by cases h), fun _ _ h => h.elim, fun _ h => h, fun _ h => h.elim⟩
  refine (hc.2 s args H ⟨A.1, fun i v d hv hd => .pure (A.2 i v d hv hd)⟩).mono ?_
  rintro e w' ⟨v, d, h', s', rfl, rfl, hx, H', hv, hex⟩
  exact ⟨v, rfl, fun b hb => (hx.prot b hb).2, hx.size, hx.so, hex s' w.heap.size v H' ⟨fun b hb => (hx.prot b hb).1, hx.bs⟩ hv⟩

/-- Data that hold no memory. -/
def flat : D → Bool
  | .int _ _ => true
  | .bool _ => true
  | .str _ => true
  | .nil => true
  | .emp => true
  | .nilp => true
  | .nilf => true
  | .agg cs => cs.all fun | .int _ _ => true | .bool _ => true | .str _ => true | .nil => true | .emp => true | .nilp => true | .nilf => true | _ => false
  | _ => false
def scal : D → Bool
  | .int _ _ => true
  | .bool _ => true
  | .str _ => true
  | .nil => true
  | .emp => true
  | .nilp => true
  | .nilf => true
  | _ => false

theorem RV.scal {s : Sg} {v : Value} {d : D} (h : RV s v d) (hf : scal d = true) (prot : Nat → Prop) : RP s.w prot v d := by
  cases d <;> simp [AM.scal] at hf
  case int k n => rw [h.inv_int]; exact .int _ _
  case bool b => rw [h.inv_bool]; exact .bool _
  case str x => rw [h.inv_str]; exact .str _
  case nil => rw [h.inv_nil]; exact .nil
  case emp => obtain ⟨a, rfl⟩ := h.inv_emp; exact .emp _
  case nilp => cases h with | pure h => cases h; exact .nilp
  case nilf => cases h with | pure h => cases h; exact .nilf
theorem RV.flat {s : Sg} {v : Value} {d : D} (h : RV s v d) (hf : flat d = true) (prot : Nat → Prop) : RP s.w prot v d := by
  by_cases hs : AM.scal d = true
  · exact h.scal hs prot
  · cases d <;> simp [AM.scal] at hs <;> simp [AM.flat] at hf
    case agg ds =>
      obtain ⟨cs, rfl, hall⟩ := h.inv_agg
      refine .agg cs ds hall.1 ?_ ?_
      · intro u hu
        obtain ⟨i, hi⟩ := List.mem_iff_getElem?.1 hu
        have hlt : i < ds.length := by
          rcases Nat.lt_or_ge i ds.length with h' | h'
          · exact h'
          · rw [← hall.1] at h'; simp [List.getElem?_eq_none h'] at hi
        exact (hall.2 i u _ hi (List.getElem?_eq_getElem hlt)).2
      · intro i u d hu hd
        have h1 := hf d (List.mem_of_getElem? hd)
        exact ((hall.2 i u d hu hd).1).scal (by cases d <;> simp [AM.scal] at h1 ⊢) prot

/-- A component of the result: 'ko' is the key of the block that is handed over. -/
def ExC (h : Heap) (ko : Option Nat) (d r : D) : Prop :=
  match r with
  | .ow sz cells len => (ko = none ∧ cells = [] ∧ len = 0 ∧ (d = .nil ∨ d = .emp)) ∨ (∃ k tl, ko = some k ∧ d = .sl k sz 0 len ∧ h k = some (cells ++ tl) ∧ cells.length = len * sz ∧ cells.all scal = true)
  | r => d = r ∧ flat r = true

theorem exC_out {h : Heap} {ko : Option Nat} {d r : D} (hx : ExC h ko d r) {s : Sg} {base : Nat} {v : Value} (H : RH s h) (hb : ∀ b, b < base → s.prot b) (hv : RV s v d) (x : Option Nat) (hko : ∀ k, ko = some k → ∃ n, s.ρ k = some (x, n)) (hk0 : ko = none → x = none) :
    OutC x s.w (fun b => base ≤ b ∧ b < s.w.heap.size ∧ x ≠ some b) v r := by
  cases r <;> simp only [ExC] at hx <;> simp only [OutC]
  case ow sz cells len =>
    rcases hx with ⟨hk, rfl, rfl, hd⟩ | ⟨k, tl, hk, rfl, hkk, hcl, hfl⟩
    · have hx0 := hk0 hk
      subst hx0
      rcases hd with rfl | rfl
      · exact ⟨none, 0, hv.inv_nil, Nat.le_refl _, by simp, fun _ => rfl, by simp⟩
      · obtain ⟨a, rfl⟩ := hv.inv_emp
        exact ⟨a, 0, rfl, Nat.le_refl _, by simp, fun _ => rfl, by simp⟩
    · obtain ⟨n, hρ⟩ := hko k hk
      obtain ⟨ad, cap, rfl, hlc, hcc, hq⟩ := sl_live H hv hkk
      refine ⟨ad, cap, rfl, hlc, hcl, ?_, ?_⟩
      · intro hxn
        rcases hq with h0 | ⟨b, cs, e, h1, _⟩
        · exact h0
        · rw [hρ, hxn] at h1; cases h1
      · intro b hxb
        subst hxb
        have hbk := H.block hkk hρ
        obtain ⟨_, hnp, cs2, e2, hh2, hl2, hall⟩ := hbk
        have hall : All2 (RC s) (cs2.toList.take cells.length) cells := by
          have h1 := hall.take cells.length
          rw [List.take_take, Nat.min_eq_left (by simp), List.take_left'  rfl] at h1
          exact h1
        refine ⟨cs2, e2, hh2, ⟨hall.1, fun i v d hv hd => ⟨(hall.2 i v d hv hd).1.scal (List.all_eq_true.1 hfl d (List.mem_of_getElem? hd)) _, (hall.2 i v d hv hd).2⟩⟩, ?_, ?_⟩
        · obtain ⟨_, ad2, cap2, he, hna, _, _⟩ := hv.inv_sl
          injection he with h1 h2 h3; subst h1
          exact hna
        · rcases hq with h0 | ⟨b', cs, e, h1, h2, h3, h4⟩
          · exact .inl h0
          · rw [hρ] at h1; injection h1 with h1; injection h1 with h1 _; injection h1 with h1; subst h1
            rw [h3] at hh2; injection hh2 with hh2; injection hh2 with h5 _; subst h5
            exact .inr ⟨h2, by omega⟩
  all_goals
    obtain ⟨rfl, hf⟩ := hx
    exact hv.flat hf _

theorem key_fst {s : Sg} {h : Heap} (H : RH s h) {base : Nat} (hb : ∀ b, b < base → s.prot b) {k : Nat} {cells : List D} (hk : h k = some cells) : ∃ x n, s.ρ k = some (x, n) ∧ ∀ b, x = some b → base ≤ b ∧ b < s.w.heap.size := by
  obtain ⟨_, x, hx, _, hq⟩ := H.own k cells hk
  refine ⟨x, _, hx, fun b hbx => ?_⟩
  obtain ⟨hnp, cs, e, hh, _⟩ := hq b hbx
  refine ⟨?_, ?_⟩
  · rcases Nat.lt_or_ge b base with h' | h'
    · exact absurd (hb b h') hnp
    · exact h'
  · rcases Nat.lt_or_ge b s.w.heap.size with h' | h'
    · exact h'
    · simp [Array.getElem?_eq_none h'] at hh

theorem Ex_flat {h : Heap} {d : D} (hf : flat d = true) : Ex h d d := by
  intro s base v H ⟨hb, _⟩ hv
  refine ⟨none, by simp, ?_⟩
  cases d <;> simp [flat] at hf <;> exact hv.flat (by simp [flat]; try exact hf) _

theorem Ex_own {h : Heap} {k sz len : Nat} {cells : List D} (hk : h k = some cells) (hl : cells.length = len * sz) (hf : cells.all scal = true) : Ex h (.sl k sz 0 len) (.ow sz cells len) := by
  intro s base v H ⟨hb, _⟩ hv
  obtain ⟨x, n, hx, hxb⟩ := key_fst H hb hk
  exact ⟨x, hxb, exC_out (ko := some k) (d := .sl k sz 0 len) (r := .ow sz cells len) (Or.inr ⟨k, [], rfl, rfl, by rw [List.append_nil]; exact hk, hl, hf⟩) H hb hv x (fun k' hk' => by injection hk' with hk'; subst hk'; exact ⟨n, hx⟩) (fun h => by cases h)⟩
theorem Ex_nil {h : Heap} {sz : Nat} : Ex h .nil (.ow sz [] 0) := by
  intro s base v H ⟨hb, _⟩ hv
  exact ⟨none, by simp, exC_out (h := h) (ko := none) (d := .nil) (r := .ow sz [] 0) (Or.inl ⟨rfl, rfl, rfl, .inl rfl⟩) H hb hv none (by simp) (fun _ => rfl)⟩
theorem Ex_emp {h : Heap} {sz : Nat} : Ex h .emp (.ow sz [] 0) := by
  intro s base v H ⟨hb, _⟩ hv
  exact ⟨none, by simp, exC_out (h := h) (ko := none) (d := .emp) (r := .ow sz [] 0) (Or.inl ⟨rfl, rfl, rfl, .inr rfl⟩) H hb hv none (by simp) (fun _ => rfl)⟩

theorem Ex_tup {h : Heap} {ds rs : List D} (ko : Option Nat) (hk : ∀ k, ko = some k → ∃ cells, h k = some cells) (hall : All2 (ExC h ko) ds rs) (hn : nOw rs ≤ 1) : Ex h (.tup ds) (.tup rs) := by
  intro s base v H ⟨hb, _⟩ hv
  obtain ⟨vs, rfl, hvs⟩ := hv.inv_tup
  have main : ∀ x : Option Nat, (∀ k, ko = some k → ∃ n, s.ρ k = some (x, n)) → (ko = none → x = none) → (∀ b, x = some b → base ≤ b ∧ b < s.w.heap.size) → Out base s.w (.tuple vs) (.tup rs) := by
    intro x h1 h2 h3
    refine ⟨x, h3, hn, vs, rfl, hvs.1.trans hall.1, fun i u r hu hr => ?_⟩
    have hlt : i < ds.length := by
      rcases Nat.lt_or_ge i ds.length with h' | h'
      · exact h'
      · rw [hall.1] at h'; simp [List.getElem?_eq_none h'] at hr
    have hd := List.getElem?_eq_getElem hlt
    exact exC_out (hall.2 i _ r hd hr) H hb (hvs.2 i u _ hu hd) x h1 h2
  cases ko with
  | none => exact main none (by simp) (fun _ => rfl) (by simp)
  | some k =>
    obtain ⟨cells, hkc⟩ := hk k rfl
    obtain ⟨x, n, hx, hxb⟩ := key_fst H hb hkc
    exact main x (fun k' hk' => by injection hk' with hk'; subst hk'; exact ⟨n, hx⟩) (fun h => by cases h) hxb

theorem pcon_of_W {P : Program} {f : Nat} {fn : Func} {F : AFun} (hm : P.follows .mixedOrders = true) (hf : P.funcs[f]? = some fn) (hcall : Callable P f) (hc : compF P fn = some F) {ds : List D} (hlen : ds.length ≤ F.nt) {r : D}
    (hw : W P F.code (fun x st => (match x with | .exit _ => False | _ => True) ∧ ∃ d, resD F.results (get st.env) st.heap = some d ∧ Ex st.heap d r) ⟨argEnv 0 ds, fun _ => none⟩) : PCon P f ds r :=
  pcon_of_con (con_of_W hm hf hcall hc hlen hw)

end Go.AM
