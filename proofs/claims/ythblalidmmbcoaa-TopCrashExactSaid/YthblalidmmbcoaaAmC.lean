/- Each operation of the model does what the abstract machine's operation says. Generic over the program. -/
import Derived.Test.YthblalidmmbcoaaAmB
set_option linter.unusedSimpArgs false
set_option linter.unusedVariables false
namespace Go.AM

section inv
variable {s : Sg} {v : Value}
theorem RV.inv_int {k : IntKind} {n : Int} (h : RV s v (.int k n)) : v = .int k n := by cases h with | pure h => cases h; rfl
theorem RV.inv_bool {b : Bool} (h : RV s v (.bool b)) : v = .bool b := by cases h with | pure h => cases h; rfl
theorem RV.inv_str {x : ByteArray} (h : RV s v (.str x)) : v = .string x := by cases h with | pure h => cases h; rfl
theorem RV.inv_nil (h : RV s v .nil) : v = .slice none 0 0 := by cases h with | pure h => cases h; rfl
theorem RV.inv_emp (h : RV s v .emp) : ∃ a, v = .slice a 0 0 := by cases h with | pure h => cases h; exact ⟨_, rfl⟩
theorem RV.inv_vs {sz len : Nat} {cells : List D} (h : RV s v (.vs sz cells len)) : RP s.w s.prot v (.vs sz cells len) := by cases h with | pure h => exact h
theorem RV.inv_vp {off : Nat} {cells : List D} (h : RV s v (.vp cells off)) : RP s.w s.prot v (.vp cells off) := by cases h with | pure h => exact h
theorem RV.inv_pt {k off : Nat} (h : RV s v (.pt k off)) : s.used k ∧ ∃ b, v = .pointer (some ⟨b, off, none⟩) ∧ ∀ x n, s.ρ k = some (x, n) → x = some b := by
  cases h with
  | pure h => cases h
  | pt b k off hk h => exact ⟨hk, b, rfl, h⟩
theorem RV.inv_sl {k sz off len : Nat} (h : RV s v (.sl k sz off len)) : s.used k ∧ ∃ a cap, v = .slice a len cap ∧ (len ≠ 0 → a ≠ none) ∧ len ≤ cap ∧
    ∀ x n, s.ρ k = some (x, n) → n ≤ off + cap * sz ∧ (cap = 0 ∨ ∃ b cs e, x = some b ∧ a = some ⟨b, off, none⟩ ∧ s.w.heap[b]? = some (.cells cs e (0, 0)) ∧ off + cap * sz ≤ cs.size) := by
  cases h with
  | pure h => cases h
  | sl a k sz off len cap hk hna hlc h => exact ⟨hk, a, cap, rfl, hna, hlc, h⟩
theorem RV.inv_agg {ds : List D} (h : RV s v (.agg ds)) : ∃ cs : Array Value, v = .agg cs ∧ All2 (RC s) cs.toList ds := by
  cases h with
  | pure h =>
    cases h with
    | agg cs ds hl ho hr => exact ⟨cs, rfl, hl, fun i v d hv hd => ⟨.pure (hr i v d hv hd), ho v (List.mem_of_getElem? hv)⟩⟩
  | agg cs ds hl ho hr => exact ⟨cs, rfl, hl, fun i v d hv hd => ⟨hr i v d hv hd, ho v (List.mem_of_getElem? hv)⟩⟩
theorem RV.inv_tup {ds : List D} (h : RV s v (.tup ds)) : ∃ cs : Array Value, v = .tuple cs ∧ All2 (RV s) cs.toList ds := by
  cases h with
  | pure h =>
    cases h with
    | tup cs ds hl hr => exact ⟨cs, rfl, hl, fun i v d hv hd => .pure (hr i v d hv hd)⟩
  | tup cs ds hl hr => exact ⟨cs, rfl, hl, hr⟩
theorem RV.inv_fn {f : Nat} {ds es : List D} (h : RV s v (.fn f ds es)) : ∃ as bs : Array Value, v = .func (.func f) as bs ∧ All2 (RV s) as.toList ds ∧ All2 (RV s) bs.toList es := by
  cases h with
  | pure h =>
    cases h with
    | fn f as bs ds es hl hm hr hs => exact ⟨as, bs, rfl, ⟨hl, fun i v d hv hd => .pure (hr i v d hv hd)⟩, ⟨hm, fun i v d hv hd => .pure (hs i v d hv hd)⟩⟩
  | fn f as bs ds es hl hm hr hs => exact ⟨as, bs, rfl, ⟨hl, hr⟩, ⟨hm, hs⟩⟩
theorem RV.inv_vn {sz len : Nat} {cells : List D} (h : RV s v (.vn sz cells len)) : RP s.w s.fr v (.vs sz cells len) := by
  cases h with
  | pure h => cases h
  | vn h => exact h
theorem RV.inv_mp {k : Nat} (h : RV s v (.mp k)) : s.used k ∧ ∃ b, v = .map (some b) ∧ s.μ k = some b := by
  cases h with
  | pure h => cases h
  | mp b k hk h => exact ⟨hk, b, rfl, h⟩
theorem RV.ow_no {sz len : Nat} {cells : List D} (h : RV s v (.ow sz cells len)) : False := by cases h with | pure h => cases h
theorem RV.mkagg {cs : Array Value} {ds : List D} (h : All2 (RC s) cs.toList ds) : RV s (.agg cs) (.agg ds) := by
  refine .agg cs ds h.1 ?_ (fun i v d hv hd => (h.2 i v d hv hd).1)
  intro v hv
  obtain ⟨i, hi⟩ := List.mem_iff_getElem?.1 hv
  have hlt : i < cs.toList.length := by
    rcases Nat.lt_or_ge i cs.toList.length with h' | h'
    · exact h'
    · simp [List.getElem?_eq_none h'] at hi
  have hd : ds[i]? = some (ds[i]'(by rw [← h.1]; exact hlt)) := List.getElem?_eq_getElem _
  exact (h.2 i v _ hi hd).2
theorem RV.mktup {cs : Array Value} {ds : List D} (h : All2 (RV s) cs.toList ds) : RV s (.tuple cs) (.tup ds) := .tup cs ds h.1 h.2
theorem RV.mkfn {f : Nat} {as bs : Array Value} {ds es : List D} (h : All2 (RV s) as.toList ds) (h' : All2 (RV s) bs.toList es) : RV s (.func (.func f) as bs) (.fn f ds es) := .fn f as bs ds es h.1 h'.1 h.2 h'.2

theorem RV.one {d : D} (h : RV s v d) (hd : cellsD d = some [d]) : v.oneCell' = true := by
  cases h with
  | pure h => cases h <;> first | rfl | (simp [cellsD] at hd; done) | (simp [cellsD] at hd; have h2 := congrArg (fun l : List D => SizeOf.sizeOf l) hd; simp at h2; omega)
  | sl => rfl
  | pt => rfl
  | agg => simp [cellsD] at hd; have h2 := congrArg (fun l : List D => SizeOf.sizeOf l) hd; simp at h2; omega
  | tup => simp [cellsD] at hd
  | fn => rfl
  | mp => rfl
  | vn h => cases h <;> rfl
theorem cellsD_not_agg {d : D} {c : List D} (h : cellsD d = some c) (hn : ∀ ds, d ≠ .agg ds) : c = [d] := by
  cases d <;> simp [cellsD] at h <;> first | exact h.symm | exact absurd rfl (hn _)
/-- The cells of a value, and of its data. -/
theorem RV.cells {d : D} {c : List D} (h : RV s v d) (hd : cellsD d = some c) : All2 (RC s) v.cells.toList c := by
  by_cases ha : ∃ ds, d = .agg ds
  · obtain ⟨ds, rfl⟩ := ha
    obtain ⟨cs, rfl, hall⟩ := h.inv_agg
    simp [cellsD] at hd
    subst hd
    exact hall
  · have hc : c = [d] := cellsD_not_agg hd (fun ds e => ha ⟨ds, e⟩)
    subst hc
    have h1 := h.one hd
    have hv : v.cells = #[v] := by cases v <;> first | rfl | (simp [Value.oneCell'] at h1)
    rw [hv]
    exact All2.cons ⟨h, h1⟩ All2.nil
end inv

def RE (s : Sg) (e : Look) (tmps : Array Value) : Prop := ∀ t d, e t = some d → RV s (tmps.getD t undef) d

theorem RE.mono {s s' : Sg} (hx : Ext s s') {e : Look} {tmps : Array Value} (h : RE s e tmps) : RE s' e tmps := fun t d hd => (h t d hd).mono hx
theorem RE.norm {s : Sg} {e : Env} {tmps : Array Value} (h : RE s (get e) tmps) (keep : List Nat) : RE s (get (norm keep e)) tmps := by
  intro t d hd
  induction keep with
  | nil => simp [AM.norm, get] at hd
  | cons a r ih =>
    simp only [AM.norm] at hd
    cases hg : get e a with
    | none => rw [hg] at hd; exact ih hd
    | some x =>
      rw [hg] at hd
      simp only [get] at hd
      by_cases hat : a = t
      · rw [if_pos hat] at hd
        injection hd with hd
        subst hd; subst hat
        exact h _ _ hg
      · rw [if_neg hat] at hd; exact ih hd
theorem RE.put {s : Sg} {e : Look} {a : Act} (h : RE s e a.tmps) {t : Nat} (ht : t < a.tmps.size) {v : Value} {d : D} (hv : RV s v d) : RE s (fun t' => if t = t' then some d else e t') (a.put (some t) v).tmps := by
  intro t' d' hd0
  have hd : (if t = t' then some d else e t') = some d' := hd0
  show RV s ((a.tmps.setIfInBounds t v).getD t' undef) d'
  by_cases htt : t = t'
  · rw [if_pos htt] at hd
    injection hd with hd
    subst hd; subst htt
    simpa [Array.getD_eq_getD_getElem?, ht] using hv
  · rw [if_neg htt] at hd
    have := h t' d' hd
    rw [Array.getD_eq_getD_getElem?] at this ⊢
    rw [Array.getElem?_setIfInBounds, if_neg htt]
    exact this

theorem ofScalar_rp {v : Value} {d : D} (h : ofScalar v = some d) (w : World) (prot : Nat → Prop) : RP w prot v d ∧ v.oneCell' = true := by
  unfold ofScalar at h
  split at h <;> first | (injection h with h; subst h; exact ⟨by constructor, rfl⟩) | (cases h)
theorem ofScalars_rp {vs : List Value} : ∀ {ds : List D}, ofScalars vs = some ds → ∀ (s : Sg), All2 (RC s) vs ds := by
  induction vs with
  | nil => intro ds h s; simp [ofScalars] at h; subst h; exact All2.nil
  | cons v r ih =>
    intro ds h s
    simp only [ofScalars] at h
    cases h1 : ofScalar v with
    | none => rw [h1] at h; cases h
    | some d =>
      cases h2 : ofScalars r with
      | none => rw [h1, h2] at h; cases h
      | some l =>
        rw [h1, h2] at h
        injection h with h
        subst h
        exact All2.cons ⟨.pure (ofScalar_rp h1 _ _).1, (ofScalar_rp h1 s.w s.prot).2⟩ (ih h2 s)
theorem ofConst_rv {v : Value} {d : D} (h : ofConst v = some d) (s : Sg) : RV s v d := by
  unfold ofConst at h
  split at h
  · rename_i cs
    cases h1 : ofScalars cs.toList with
    | none => rw [h1] at h; cases h
    | some l =>
      rw [h1] at h
      simp at h
      subst h
      exact RV.mkagg (ofScalars_rp h1 s)
  · exact .pure (ofScalar_rp h _ _).1

section
variable {P : Program} {s : Sg} {e : Look} {a : Act}
theorem cO_sim {x : Operand} {o : O} (hc : cO x = some o) (E : RE s e a.tmps) {d : D} (he : evO e o = some d) : RV s (a.eval x) d := by
  cases x with
  | tmp t => simp [cO] at hc; subst hc; exact E t d he
  | const v =>
    simp only [cO] at hc
    cases h1 : ofConst v with
    | none => rw [h1] at hc; cases hc
    | some d' => rw [h1] at hc; simp at hc; subst hc; simp [evO] at he; subst he; exact ofConst_rv h1 s
  | func f => simp [cO] at hc; subst hc; simp [evO] at he; subst he; exact RV.mkfn All2.nil All2.nil
  | global g => simp [cO] at hc
theorem cOs_sim : ∀ {xs : List Operand} {os : List O}, cOs xs = some os → RE s e a.tmps → ∀ {ds : List D}, evOs e os = some ds → All2 (RV s) (xs.map a.eval) ds
  | [], os, hc, _, ds, he => by simp [cOs] at hc; subst hc; simp [evOs] at he; subst he; exact All2.nil
  | x :: r, os, hc, E, ds, he => by
    simp only [cOs] at hc
    cases h1 : cO x with
    | none => rw [h1] at hc; cases hc
    | some y =>
      cases h2 : cOs r with
      | none => rw [h1, h2] at hc; cases hc
      | some l =>
        rw [h1, h2] at hc
        injection hc with hc
        subst hc
        simp only [evOs] at he
        cases h3 : evO e y with
        | none => rw [h3] at he; cases he
        | some d =>
          cases h4 : evOs e l with
          | none => rw [h3, h4] at he; cases he
          | some m =>
            rw [h3, h4] at he
            injection he with he
            subst he
            exact All2.cons (cO_sim h1 E h3) (cOs_sim h2 E h4)
end

/-- What the operation's run comes to. -/
def Good (s : Sg) (kk : Nat) (r : Result Next) (d : D) (h' : Heap) : Prop :=
  ∃ v s', (r = .ok (.value v) s'.w ∨ (r = .ok .skip s'.w ∧ v = undef)) ∧ Ext s s' ∧ RH s' h' ∧ RV s' v d ∧ ∀ k, s'.used k → s.used k ∨ k = kk

theorem Good.same {s : Sg} {h : Heap} (H : RH s h) {r : Result Next} {v : Value} {d : D} (hr : r = .ok (.value v) s.w) {kk : Nat} (hv : RV s v d) : Good s kk r d h := ⟨v, s, .inl hr, .refl s, H, hv, fun _ h => .inl h⟩

/-! ### Types -/
section
variable {P : Program}
theorem szOf_run {t n : Nat} (h : szOf P t = some n) (w : World) : (sizeOf t).run P w = .ok n w := by
  unfold szOf at h
  split at h
  · rename_i i hi; injection h with h; subst h; simp [sizeOf, typeInfo, hi]
  · cases h
theorem aggOf_run {t : Nat} {g : Bool} (h : aggOf P t = some g) (w : World) : (isAgg t).run P w = .ok g w := by
  unfold aggOf at h
  unfold isAgg
  simp only [Sem.run_bind]
  split at h
  · rename_i hu; injection h with h; subst h; simp [run_underlying hu]
  · rename_i hu; injection h with h; subst h; simp [run_underlying hu]
  · rename_i d hne1 hne2 hu
    injection h with h; subst h
    rw [run_underlying hu]
    simp only [Result.andThen_ok]
    rfl
  · cases h
theorem zeroOf_run {t : Nat} {z : List D} (h : zeroOf P t = some z) (w : World) : ∃ v, (zeroValue t).run P w = .ok v w ∧ ofScalars v.cells.toList = some z := by
  unfold zeroOf at h
  split at h
  · rename_i i hi
    split at h
    · rename_i v hv; exact ⟨v, by simp [zeroValue, typeInfo, hi, hv], h⟩
    · cases h
  · cases h
end

/-! ### Cells -/
theorem loadCellsFrom_list {P : Program} {w : World} (a : Addr) : ∀ (vs : List Value) (i : Nat) (acc : Array Value), (∀ (j : Nat) (v : Value), vs[j]? = some v → w.cell? (a.add (i + j)) = some v) →
    (loadCellsFrom a i vs.length acc).run P w = .ok (acc ++ vs.toArray) w
  | [], i, acc, _ => by simp [loadCellsFrom]
  | v :: r, i, acc, h => by
    have h0 := h 0 v (by simp)
    simp only [Nat.add_zero] at h0
    simp only [List.length_cons, loadCellsFrom, Sem.run_bind, run_load, h0, Result.andThen_ok]
    rw [loadCellsFrom_list a r (i + 1) (acc.push v) (fun j u hj => by have := h (j + 1) u (by simpa using hj); rwa [show i + (j + 1) = i + 1 + j by omega] at this)]
    simp
theorem loadCells_list {P : Program} {w : World} (a : Addr) (vs : List Value) (n : Nat) (hn : n = vs.length) (h : ∀ (j : Nat) (v : Value), vs[j]? = some v → w.cell? (a.add j) = some v) :
    (loadCells a n).run P w = .ok vs.toArray w := by
  subst hn
  unfold loadCells
  rw [loadCellsFrom_list a vs 0 #[] (fun j v hj => by simpa using h j v hj)]
  simp
theorem add_plain (b o n : Nat) : (⟨b, o, none⟩ : Addr).add n = ⟨b, o + n, none⟩ := by unfold Addr.add; split <;> simp_all

/-- The cells at an address. -/
def CellsAt (w : World) (b o : Nat) (vs : List Value) : Prop := ∀ (i : Nat) (v : Value), vs[i]? = some v → w.cell? ⟨b, o + i, none⟩ = some v

theorem CellsAt.sub {w : World} {b o : Nat} {vs : List Value} (h : CellsAt w b o vs) (off n : Nat) : CellsAt w b (o + off) ((vs.drop off).take n) := by
  intro i v hi
  rw [List.getElem?_take] at hi
  split at hi
  · rw [List.getElem?_drop] at hi
    rw [Nat.add_assoc]
    exact h _ v hi
  · cases hi
theorem CellsAt.load {P : Program} {w : World} {b o : Nat} {vs : List Value} (h : CellsAt w b o vs) (n : Nat) (hn : n = vs.length) : (loadCells ⟨b, o, none⟩ n).run P w = .ok vs.toArray w :=
  loadCells_list _ vs n hn (fun j v hj => by rw [add_plain]; exact h j v hj)
theorem cellsAt_block {w : World} {b : Nat} {cs : Array Value} {e : Nat} {fr : Nat × Nat} (h : w.heap[b]? = some (.cells cs e fr)) : CellsAt w b 0 cs.toList := by
  intro i v hi
  simp only [World.cell?, h, Nat.zero_add]
  simpa using hi

/-- The block of cells that an address names lies there. -/
theorem memAt_sim {s : Sg} {h : Heap} (H : RH s h) {v : Value} {d : D} (hv : RV s v d) {c : List D} {off : Nat} (hm : memAt h d = some (c, off)) (hne : off < c.length) :
    ∃ b o cs, v = .pointer (some ⟨b, o + off, none⟩) ∧ CellsAt s.w b o cs ∧ All2 (RC s) cs c := by
  unfold memAt at hm
  split at hm
  · rename_i cells off'
    simp at hm
    obtain ⟨rfl, rfl⟩ := hm
    cases hv.inv_vp with
    | vp b off o cells cs hb hcs ho hmm hr => exact ⟨b, o, cs, rfl, hmm, hcs, fun i v d h1 h2 => ⟨.pure (hr i v d h1 h2), ho v (List.mem_of_getElem? h1)⟩⟩
  · rename_i k off'
    split at hm
    · rename_i c' hk
      simp at hm
      obtain ⟨rfl, rfl⟩ := hm
      obtain ⟨_, b, rfl, hq⟩ := hv.inv_pt
      obtain ⟨_, x, hx, hn, hb⟩ := H.own k _ hk
      have hxb := hq x _ hx
      subst hxb
      obtain ⟨_, cs, e, hh, hl, hall⟩ := hb b rfl
      refine ⟨b, 0, cs.toList.take c'.length, by simp, ?_, hall⟩
      intro i v hi
      rw [List.getElem?_take] at hi
      split at hi
      · exact cellsAt_block hh i v hi
      · cases hi
    · cases hm
  · cases hm

end Go.AM
