/- The abstract machine's code: the compiler, the meaning, and the theorem that the model's code does what it says. Generic over the program. -/
import Derived.Test.YthblalidmmbcoaaAmO
import Derived.LoopN
import Derived.Orders
set_option linter.unusedSimpArgs false
set_option linter.unusedVariables false
namespace Go.AM
open Classical

/-! ### A drawn region -/
def normL : List Nat → Look → Env
  | [], _ => []
  | t :: r, e => match e t with | some d => (t, d) :: normL r e | none => normL r e

theorem RE.normL {s : Sg} {e : Look} {tmps : Array Value} (h : RE s e tmps) (keep : List Nat) : RE s (get (normL keep e)) tmps := by
  intro t d hd
  induction keep with
  | nil => simp [AM.normL, get] at hd
  | cons a r ih =>
    simp only [AM.normL] at hd
    cases hg : e a with
    | none => rw [hg] at hd; exact ih hd
    | some x =>
      rw [hg] at hd
      simp only [get] at hd
      by_cases hat : a = t
      · rw [if_pos hat] at hd
        injection hd with hd
        subst hd; subst hat
        exact h _ _ hg
      · rw [if_neg hat] at hd; exact ih hd

structure RL (nt : Nat) (s : Sg) (e : Look) (h : Heap) (a : Act) : Prop where
  heap : RH s h
  env : RE s e a.tmps
  size : a.tmps.size = nt
  defers : a.defers = []

theorem putL_sim {nt : Nat} {s : Sg} {e : Look} {h : Heap} {a : Act} (R : RL nt s e h a) {dst : Option Nat} (hd : dstOk nt dst = true) {s' : Sg} (hx : Ext s s') {h' : Heap} (H' : RH s' h') {v : Value} {d : D} (hv : RV s' v d) :
    RL nt s' (setL dst d e) h' (a.put dst v) := by
  cases dst with
  | none => exact ⟨H', R.env.mono hx, R.size, R.defers⟩
  | some t =>
    simp [dstOk] at hd
    refine ⟨H', (R.env.mono hx).put (by rw [R.size]; exact hd) hv, ?_, R.defers⟩
    show (a.tmps.setIfInBounds t v).size = nt
    simpa using R.size

theorem callOf {P : Program} {o : Oper} {f : O} {args : List O} (hao : cOp P o.op = some (.call f args)) : ∃ f0 a0 ats, o.op = .call { callee := .value f0, args := a0, argTypes := ats } ∧ cO f0 = some f ∧ cOs a0.toList = some args := by
  obtain ⟨c, hop, hc⟩ := cOp_call hao
  obtain ⟨callee, a0, ats⟩ := c
  cases callee with
  | value f0 =>
    simp only [cCall] at hc
    split at hc
    · rename_i g l hg hl; injection hc with hc; injection hc with h3 h4; subst h3; subst h4; exact ⟨f0, a0, ats, hop, hg, hl⟩
    · cases hc
  | invoke r m => simp [cCall] at hc
  | builtin b => cases b <;> simp only [cCall] at hc <;> (repeat' split at hc) <;> simp at hc

theorem dins_sim {P : Program} {nt : Nat} {ops : Array Oper} {o : Oper} {ai : AIns} (hi : cIns P nt ops.toList o = some ai) {s : Sg} {e : Look} {h : Heap} {a : Act} (R : RL nt s e h a)
    {N n i : Nat} {b : List Nat} {rs : Nat → D} {d : D} {h1 : Heap} (hr : dRes P N n rs i b ai e h = some (d, h1)) (hkk : ¬ s.used (N + i)) (next : Act → World → Prop) (Q : Exit → Act → World → Prop)
    (hK : ∀ s' a', Ext s s' → (∀ k, s'.used k → s.used k ∨ k = N + i) → RL nt s' (setL ai.dst d e) h1 a' → next a' s'.w) :
    if Region.wanted o (yielded ops a.tmps) then o.wp P a s.w next Q else next (a.put o.dst undef) s.w := by
  unfold cIns at hi
  split at hi
  · rename_i g hg
    split at hi
    · rename_i hdst
      injection hi with hi; subst hi
      -- whether it is wanted
      have hgv : ∀ t : Bool, guardV g e = some t → Region.wanted o (yielded ops a.tmps) = t := by
        intro t ht
        unfold Region.wanted
        cases hgo : o.guard with
        | none =>
          rw [hgo] at hg
          simp [cGuard] at hg
          subst hg
          simp [guardV] at ht
          simpa using ht
        | some jw =>
          obtain ⟨j, want⟩ := jw
          rw [hgo] at hg
          simp only [cGuard] at hg
          split at hg
          · rename_i oj hj
            split at hg
            · rename_i t0 ht0
              injection hg with hg; subst hg
              simp only [guardV] at ht
              split at ht
              · rename_i b hb
                injection ht with ht
                have htm := tmps_get R.env hb
                have hj' : ops[j]? = some oj := by simpa using hj
                have hy : yielded ops a.tmps j = some b := by simp [yielded, hj', ht0, htm]
                simp only [hy]
                rw [← ht]
                cases b <;> cases want <;> rfl
              · rename_i vs hb
                injection ht with ht
                obtain ⟨cs, htm⟩ := tmps_tup R.env hb
                have hj' : ops[j]? = some oj := by simpa using hj
                have hy : yielded ops a.tmps j = none := by rcases htm with htm | htm <;> simp [yielded, hj', ht0, htm]
                simp only [hy]
                rw [← ht]
                rfl
              · cases ht
            · cases hg
          · cases hg
      unfold dRes at hr
      split at hr
      · cases hr
      · rename_i hgf
        rw [hgv false hgf]
        injection hr with hr; injection hr with h2 h3; subst h2; subst h3
        simpa using hK s _ (.refl s) (fun _ h => .inl h) (putL_sim R hdst (.refl s) R.heap rv_undef)
      · rename_i hgt
        rw [hgv true hgt]
        simp only [if_true]
        cases hao : cOp P o.op with
        | none => rw [hao] at hr; simp [evOp] at hr
        | some ao =>
        simp only [hao, Option.getD_some] at hr
        split at hr
        · rename_i ao0 f args
          split at hr
          · rename_i g' fst caps ds h2 h3
            split at hr
            · rename_i hpc
              injection hr with hr; injection hr with h4 h5; subst h4; subst h5
              rcases hpc with hpc | ⟨hkl, hpc⟩ | ⟨ds', r0, hrd, ⟨hcall, hcon⟩, hrr⟩
              rotate_left
              rotate_left
              · obtain ⟨f0, a0, ats, hop, hf0, ha0⟩ := callOf hao
                obtain ⟨as, bs, hv, has, hbs⟩ := (cO_sim hf0 R.env h2).inv_fn
                have hargs := cOs_sim ha0 R.env h3
                have hrun : (execOp a.eval o).run P s.w = .ok (.enter g' (as ++ a0.map a.eval ++ bs)) s.w := by
                  simp only [execOp, hop, resolve, hv, Deferred.ofValue, pure_bind, invoke]
                  exact hcall _ _
                have hall : All2 (RV s) (as ++ a0.map a.eval ++ bs).toList (fst ++ ds ++ caps) := by
                  simpa using (has.append hargs).append hbs
                have hRo := (R.heap.toO).hide (hidF N n b i)
                have hall' : All2 (RP s.w (below s.w.heap.size)) (as ++ a0.map a.eval ++ bs).toList ds' := by
                  refine ⟨hall.1.trans hrd.1, fun j v d' hv hd => ?_⟩
                  have hlt : j < (fst ++ ds ++ caps).length := by
                    rcases Nat.lt_or_ge j (fst ++ ds ++ caps).length with h' | h'
                    · exact h'
                    · rw [hrd.1] at h'; simp [List.getElem?_eq_none h'] at hd
                  have hdi := List.getElem?_eq_getElem hlt
                  exact hrd.2 j _ d' hdi hd s v hRo (hall.2 j v _ hv hdi)
                unfold Oper.wp
                rw [hrun]
                show Calls P g' _ s.w _
                refine (hcon s.w _ hall').mono ?_
                rintro e' w' ⟨v, rfl, hsame, hsize, hso, hout⟩
                obtain ⟨s', rfl, hE, hus, hH, hvd⟩ := own_resN R.heap hsame hsize hso hout
                rw [hrr, thaw_vnw, thawH_none (owOf_vnw r0)] at hK
                exact hK s' _ hE (fun k hk => .inl (hus k hk)) (putL_sim R hdst hE hH hvd)
              rotate_left
              · obtain ⟨hcall, hcon⟩ := hpc h (hide_sub _ h)
                obtain ⟨f0, a0, ats, hop, hf0, ha0⟩ := callOf hao
                obtain ⟨as, bs, hv, has, hbs⟩ := (cO_sim hf0 R.env h2).inv_fn
                have hargs := cOs_sim ha0 R.env h3
                have hrun : (execOp a.eval o).run P s.w = .ok (.enter g' (as ++ a0.map a.eval ++ bs)) s.w := by
                  simp only [execOp, hop, resolve, hv, Deferred.ofValue, pure_bind, invoke]
                  exact hcall _ _
                have hall : All2 (RV s) (as ++ a0.map a.eval ++ bs).toList (fst ++ ds ++ caps) := by
                  simpa using (has.append hargs).append hbs
                unfold Oper.wp
                rw [hrun]
                show Calls P g' _ s.w _
                refine (hcon s _ R.heap hall).mono ?_
                rintro e' w' ⟨v, d, h', s1, rfl, rfl, hx1, H1, hv1, k, hk1, rfl, rfl⟩
                obtain ⟨s', hw', hE, hus, hH, hvd⟩ := R.heap.shrink hx1 hkk hk1 H1 hv1 hkl
                rw [← hw']
                exact hK s' _ hE hus (putL_sim R hdst hE hH hvd)
              obtain ⟨ds', hrd, hcall, hcon⟩ := hpc
              obtain ⟨f0, a0, ats, hop, hf0, ha0⟩ := callOf hao
              obtain ⟨as, bs, hv, has, hbs⟩ := (cO_sim hf0 R.env h2).inv_fn
              have hargs := cOs_sim ha0 R.env h3
              have hrun : (execOp a.eval o).run P s.w = .ok (.enter g' (as ++ a0.map a.eval ++ bs)) s.w := by
                simp only [execOp, hop, resolve, hv, Deferred.ofValue, pure_bind, invoke]
                exact hcall _ _
              have hall : All2 (RV s) (as ++ a0.map a.eval ++ bs).toList (fst ++ ds ++ caps) := by
                simpa using (has.append hargs).append hbs
              have hRo := (R.heap.toO).hide (hidF N n b i)
              have hall' : All2 (RP s.w (below s.w.heap.size)) (as ++ a0.map a.eval ++ bs).toList ds' := by
                refine ⟨hall.1.trans hrd.1, fun j v d' hv hd => ?_⟩
                have hlt : j < (fst ++ ds ++ caps).length := by
                  rcases Nat.lt_or_ge j (fst ++ ds ++ caps).length with h' | h'
                  · exact h'
                  · rw [hrd.1] at h'; simp [List.getElem?_eq_none h'] at hd
                have hdi := List.getElem?_eq_getElem hlt
                exact hrd.2 j _ d' hdi hd s v hRo (hall.2 j v _ hv hdi)
              unfold Oper.wp
              rw [hrun]
              show Calls P g' _ s.w _
              refine (hcon s.w _ hall').mono ?_
              rintro e' w' ⟨v, rfl, hsame, hsize, hso, hout⟩
              obtain ⟨s', rfl, hE, hus, hH, hvd⟩ := own_res R.heap hkk hsame hsize hso hout
              exact hK s' _ hE hus (putL_sim R hdst hE hH hvd)
            · cases hr
          · cases hr
        · rename_i hnc
          split at hr
          · rename_i d1 h2 hev
            injection hr with hr; injection hr with h4 h5; subst h4; subst h5
            obtain ⟨v, s', hrun, hx, H', hvd, hus⟩ := op_sim hao (fun f l h => hnc f l h) R.heap hkk R.env (evOp_hide hid_own hev)
            unfold Oper.wp
            rcases hrun with hrun | ⟨hrun, hv⟩
            · rw [hrun]; exact hK s' _ hx hus (putL_sim R hdst hx H' hvd)
            · rw [hrun]; subst hv; exact hK s' _ hx hus (putL_sim R hdst hx H' hvd)
          · cases hr
    · cases hi
  · cases hi

/-- The operations that must go ahead: whatever the edges say, and what must go ahead of that. -/
def edgesOf (o : Oper) : List Nat := (o.after.toList.filter (Region.binds .any)).map (·.on)
def befAt (bef : List (List Nat)) (i : Nat) : List Nat := (bef[i]?).getD []
def okBef (ops : List Oper) (bef : List (List Nat)) : Bool :=
  bef.length == ops.length && (List.range ops.length).all fun i =>
    match ops[i]? with
    | some o => (edgesOf o).all (fun j => decide (j < i)) && (befAt bef i).all fun x => (edgesOf o).any fun j => x == j || (befAt bef j).contains x
    | none => false

theorem okBef_at {ops : List Oper} {bef : List (List Nat)} (h : okBef ops bef = true) {i : Nat} {o : Oper} (ho : ops[i]? = some o) :
    (∀ j ∈ edgesOf o, j < i) ∧ ∀ x ∈ befAt bef i, ∃ j ∈ edgesOf o, x = j ∨ x ∈ befAt bef j := by
  simp only [okBef, Bool.and_eq_true] at h
  have hi : i < ops.length := by
    rcases Nat.lt_or_ge i ops.length with h' | h'
    · exact h'
    · simp [List.getElem?_eq_none h'] at ho
  have h1 := List.all_eq_true.1 h.2 i (by simpa using hi)
  rw [ho] at h1
  simp only [Bool.and_eq_true] at h1
  refine ⟨fun j hj => by simpa using List.all_eq_true.1 h1.1 j hj, fun x hx => ?_⟩
  have h2 := List.all_eq_true.1 h1.2 x hx
  obtain ⟨j, hj, h3⟩ := List.any_eq_true.1 h2
  refine ⟨j, hj, ?_⟩
  rcases Bool.or_eq_true_iff.1 h3 with h4 | h4
  · left; simpa using h4
  · right; simpa using h4

def rem (n : Nat) (listed : Array Bool) : List Nat := (List.range n).filter fun i => !(listed.getD i false)

theorem filter_split {p : Nat → Bool} : ∀ (n i : Nat), i < n → p i = true → ∃ l1 l2, (List.range n).filter p = l1 ++ i :: l2 ∧ (∀ y ∈ l1, y < i ∧ p y = true) ∧ (List.range n).filter (fun j => p j && !(j == i)) = l1 ++ l2 := by
  intro n
  induction n with
  | zero => intro i hi; omega
  | succ n ih =>
    intro i hi hp
    rw [List.range_succ, List.filter_append, List.filter_append]
    by_cases hin : i < n
    · obtain ⟨l1, l2, h1, h2, h3⟩ := ih i hin hp
      have hne : (n == i) = false := by simp; omega
      refine ⟨l1, l2 ++ [n].filter p, by rw [h1]; simp, h2, ?_⟩
      rw [h3]
      simp [List.filter_cons, hne]
    · obtain rfl : i = n := by omega
      refine ⟨(List.range i).filter p, [], by simp [hp], fun y hy => ?_, ?_⟩
      · have := List.mem_filter.1 hy
        exact ⟨by simpa using this.1, this.2⟩
      · simp only [List.append_nil]
        have e1 : [i].filter (fun j => p j && !(j == i)) = [] := by simp
        rw [e1, List.append_nil]
        apply List.filter_congr
        intro j hj
        have : j < i := by simpa using hj
        have hne : (j == i) = false := by simp; omega
        simp [hne]

theorem rem_set {n : Nat} {listed : Array Bool} (hs : listed.size = n) {i : Nat} (hi : i < n) : rem n (listed.setIfInBounds i true) = (List.range n).filter (fun j => !(listed.getD j false) && !(j == i)) := by
  unfold rem
  apply List.filter_congr
  intro j hj
  rw [Array.getD_eq_getD_getElem?, Array.getD_eq_getD_getElem?, Array.getElem?_setIfInBounds]
  by_cases h : i = j
  · subst h; simp [hs, hi]
  · have hne : (j == i) = false := by simp; omega
    simp [h, hne]

theorem cOps_at {P : Program} {nt : Nat} {all : List Oper} : ∀ {l : List Oper} {il : List AIns}, cOps P nt all l = some il → il.length = l.length ∧ ∀ (i : Nat) (o : Oper), l[i]? = some o → ∃ ai, il[i]? = some ai ∧ cIns P nt all o = some ai
  | [], il, h => by simp [cOps] at h; subst h; simp
  | o :: r, il, h => by
    simp only [cOps] at h
    split at h
    · rename_i ai l h1 h2
      injection h with h; subst h
      obtain ⟨h3, h4⟩ := cOps_at h2
      refine ⟨by simp [h3], ?_⟩
      intro i o' hi
      cases i with
      | zero => simp at hi; subst hi; exact ⟨ai, rfl, h1⟩
      | succ i => simp at hi; obtain ⟨a2, h5, h6⟩ := h4 i o' hi; exact ⟨a2, by simpa using h5, h6⟩
    · cases h

theorem dregion_any {P : Program} {nt : Nat} {ops : Array Oper} {il : List AIns} {bef : List (List Nat)} (hil : cOps P nt ops.toList ops.toList = some il) (hok : okDraw il bef = true) (hob : okBef ops.toList bef = true)
    {N : Nat} {rs : Nat → D} {fin : Look × Heap} {Q : Exit → Act → World → Prop} {s0 : Sg} (hQ : ∀ s' a', Ext s0 s' → RL nt s' fin.1 fin.2 a' → Q .normal a' s'.w) :
    ∀ (fuel : Nat) (listed : Array Bool) (s : Sg) (e : Look) (h : Heap) (a : Act), (rem ops.size listed).length ≤ fuel → listed.size = ops.size → (∀ i, listed.getD i false = true → ∀ k ∈ befAt bef i, listed.getD k false = true) → Ext s0 s →
      (∀ i, i < ops.size → listed.getD i false = false → ¬ s.used (N + i)) → RL nt s e h a → dRun P N ops.size rs il bef (rem ops.size listed) e h = some fin → wpAny P .any ops Q fuel listed a s.w := by
  obtain ⟨hlen, hat⟩ := cOps_at hil
  have hlen' : il.length = ops.size := by simpa using hlen
  have hblen : bef.length = ops.size := by
    simp only [okBef, Bool.and_eq_true] at hob
    simpa using hob.1
  -- readiness
  have ready_spec : ∀ (listed : Array Bool) (i : Nat), i ∈ Region.ready .any ops listed ↔ i < ops.size ∧ listed.getD i true = false ∧ ∃ o, ops[i]? = some o ∧ ∀ j ∈ edgesOf o, listed.getD j false = true := by
    intro listed i
    unfold Region.ready
    simp only [List.mem_filter, List.mem_range, Bool.and_eq_true, Bool.not_eq_true']
    constructor
    · rintro ⟨h1, h2, h3⟩
      refine ⟨h1, h2, ops[i], by simp [h1], fun j hj => ?_⟩
      simp [h1] at h3
      simp only [edgesOf, List.mem_map, List.mem_filter] at hj
      obtain ⟨ed, ⟨hm, hb⟩, rfl⟩ := hj
      obtain ⟨q, hq, hqe⟩ := Array.mem_iff_getElem.1 (Array.mem_toList_iff.1 hm)
      have := h3 q hq
      rw [hqe, hb] at this
      simpa using this
    · rintro ⟨h1, h2, o, ho, h3⟩
      refine ⟨h1, h2, ?_⟩
      rw [ho]
      simp only [Option.map_some, Option.getD_some, Array.all_eq_true]
      intro q hq
      by_cases hb : Region.binds .any o.after[q] = true
      · have := h3 o.after[q].on (by simp only [edgesOf, List.mem_map, List.mem_filter]; exact ⟨_, ⟨by simp, hb⟩, rfl⟩)
        simp [this]
      · simp [hb]
  have nil_done : ∀ (listed : Array Bool), listed.size = ops.size → Region.ready .any ops listed = [] → rem ops.size listed = [] := by
    intro listed hs hr
    -- the least one left would be ready
    have key : ∀ m, m ≤ ops.size → ∀ i, i < m → listed.getD i false = true := by
      intro m
      induction m with
      | zero => intro _ i hi; omega
      | succ m ih =>
        intro hm i hi
        have ih' := ih (by omega)
        by_cases him : i < m
        · exact ih' i him
        · obtain rfl : i = m := by omega
          cases hl : listed.getD i false with
          | true => rfl
          | false =>
            have hio : ops[i]? = some ops[i] := by simp
            have hr2 : i ∈ Region.ready .any ops listed := by
              rw [ready_spec]
              refine ⟨by omega, ?_, ops[i], hio, fun j hj => ih' j ((okBef_at hob (i := i) (o := ops[i]) (by rw [← hio]; simp)).1 j hj)⟩
              rw [Array.getD_eq_getD_getElem?] at hl ⊢
              have : i < listed.size := by omega
              simp [this] at hl ⊢
              exact hl
            rw [hr] at hr2
            cases hr2
    unfold rem
    rw [List.filter_eq_nil_iff]
    intro i hi
    simp [key ops.size (Nat.le_refl _) i (by simpa using hi)]
  intro fuel
  induction fuel with
  | zero =>
    intro listed s e h a hf hs hcl hx hfree R hrun
    have hnil : rem ops.size listed = [] := List.length_eq_zero_iff.1 (by omega)
    rw [hnil] at hrun
    simp [dRun] at hrun
    subst hrun
    refine ⟨?_, hQ s a hx R⟩
    cases hr : Region.ready .any ops listed with
    | nil => rfl
    | cons i r =>
      have hi := (ready_spec listed i).1 (by rw [hr]; simp)
      have hmem : i ∈ rem ops.size listed := by
        unfold rem
        simp only [List.mem_filter, List.mem_range]
        refine ⟨hi.1, ?_⟩
        have h2 := hi.2.1
        rw [Array.getD_eq_getD_getElem?] at h2 ⊢
        have : i < listed.size := by omega
        simp [this] at h2 ⊢
        exact h2
      rw [hnil] at hmem
      cases hmem
  | succ fuel ih =>
    intro listed s e h a hf hs hcl hx hfree R hrun
    refine ⟨fun hr => ?_, fun i hi => ?_⟩
    · rw [nil_done listed hs hr] at hrun
      simp [dRun] at hrun
      subst hrun
      exact hQ s a hx R
    · obtain ⟨hin, hnl, o, ho, hed⟩ := (ready_spec listed i).1 hi
      have hnl' : listed.getD i false = false := by
        rw [Array.getD_eq_getD_getElem?] at hnl ⊢
        have : i < listed.size := by omega
        simp [this] at hnl ⊢
        exact hnl
      obtain ⟨ai, hai, hci⟩ := hat i o (by simpa using ho)
      obtain ⟨l1, l2, hsp1, hsp2, hsp3⟩ := filter_split (p := fun j => !(listed.getD j false)) ops.size i hin (by simp only [hnl']; rfl)
      have hbi : bef[i]? = some (befAt bef i) := by
        unfold befAt
        have : i < bef.length := by omega
        simp [this]
      have hbl : ∀ x ∈ befAt bef i, listed.getD x false = true := by
        intro x hxm
        obtain ⟨j, hj, hjx⟩ := (okBef_at hob (by simpa using ho)).2 x hxm
        rcases hjx with rfl | hjx
        · exact hed x hj
        · exact hcl j (hed j hj) x hjx
      have hrun2 : dRun P N il.length rs il bef (i :: (l1 ++ l2)) e h = some fin := by
        refine dRun_first hok (by omega) hbi l1 l2 e h fin (fun y hy => ?_) (by rw [hlen', ← hsp1]; exact hrun)
        obtain ⟨h1, h2⟩ := hsp2 y hy
        refine ⟨h1, fun hyb => ?_⟩
        rw [hbl y hyb] at h2
        simp at h2
      rw [hlen'] at hrun2
      simp only [dRun, hai, hbi] at hrun2
      split at hrun2
      · rename_i d h1 hres
        unfold wpOp
        simp only [ho]
        have hrem : rem ops.size (listed.setIfInBounds i true) = l1 ++ l2 := by rw [rem_set hs hin]; exact hsp3
        have hlen2 : (rem ops.size (listed.setIfInBounds i true)).length ≤ fuel := by
          have : (rem ops.size listed).length = (l1 ++ l2).length + 1 := by show ((List.range ops.size).filter _).length = _; rw [hsp1]; simp; omega
          rw [hrem]; omega
        have hgetset : ∀ k, (listed.setIfInBounds i true).getD k false = true ↔ k = i ∨ listed.getD k false = true := by
          intro k
          rw [Array.getD_eq_getD_getElem?, Array.getD_eq_getD_getElem?, Array.getElem?_setIfInBounds]
          by_cases hk : i = k
          · subst hk; simp [hs, hin]
          · rw [if_neg hk]
            constructor
            · intro h; exact .inr h
            · rintro (h | h)
              · exact absurd h.symm hk
              · exact h
        have main := dins_sim hci R hres (hfree i hin hnl') (wpAny P .any ops Q fuel (listed.setIfInBounds i true)) Q (fun s' a' hx' hus R' => by
          refine ih (listed.setIfInBounds i true) s' (setL ai.dst d e) h1 a' hlen2 (by simp [hs]) ?_ (hx.trans hx') ?_ R' (by rw [hrem]; exact hrun2)
          · intro j hj k hk
            rw [hgetset] at hj ⊢
            right
            rcases hj with rfl | hj
            · exact hbl k hk
            · exact hcl j hj k hk
          · intro j hj hjl hju
            have hjn : ¬ (j = i ∨ listed.getD j false = true) := fun h => by rw [(hgetset j).2 h] at hjl; cases hjl
            rcases hus _ hju with h2 | h2
            · refine hfree j hj ?_ h2
              cases hh : listed.getD j false with
              | false => rfl
              | true => exact absurd (.inr hh) hjn
            · exact hjn (.inl (by omega)))
        split
        · rename_i hw; rw [if_pos hw] at main; exact .inl main
        · rename_i hw; rw [if_neg hw] at main; exact main
      · cases hrun2

/-! ### A drawn region, order by order -/
def readyA (bef : List (List Nat)) (rm : List Nat) (i : Nat) : Bool := (befAt bef i).all fun j => !rm.contains j
/-- Whichever operation that is ready goes next. -/
def Wany (P : Program) (ops : List AIns) (bef : List (List Nat)) : Nat → List Nat → Env → Heap → (Env → Heap → Prop) → Prop
  | 0, _, e, h, K => K e h
  | n + 1, rm, e, h, K => ∀ i ∈ rm, readyA bef rm i = true → ∃ o, ops[i]? = some o ∧ Wins P o e h fun e' h' => Wany P ops bef n (rm.filter fun j => !(j == i)) e' h' K
theorem oregion_any {P : Program} {nt : Nat} {ops : Array Oper} {il : List AIns} {bef : List (List Nat)} (hil : cOps P nt ops.toList ops.toList = some il) (hob : okBef ops.toList bef = true)
    {K : Env → Heap → Prop} {Q : Exit → Act → World → Prop} {s0 : Sg} (hQ : ∀ s' e' h' a', Ext s0 s' → RS nt s' e' h' a' → K e' h' → Q .normal a' s'.w) :
    ∀ (fuel : Nat) (listed : Array Bool) (s : Sg) (e : Env) (h : Heap) (a : Act), (rem ops.size listed).length = fuel → listed.size = ops.size → (∀ i, listed.getD i false = true → ∀ k ∈ befAt bef i, listed.getD k false = true) → Ext s0 s →
      RS nt s e h a → Wany P il bef fuel (rem ops.size listed) e h K → wpAny P .any ops Q fuel listed a s.w := by
  obtain ⟨hlen, hat⟩ := cOps_at hil
  have hlen' : il.length = ops.size := by simpa using hlen
  -- readiness
  have ready_spec : ∀ (listed : Array Bool) (i : Nat), i ∈ Region.ready .any ops listed ↔ i < ops.size ∧ listed.getD i true = false ∧ ∃ o, ops[i]? = some o ∧ ∀ j ∈ edgesOf o, listed.getD j false = true := by
    intro listed i
    unfold Region.ready
    simp only [List.mem_filter, List.mem_range, Bool.and_eq_true, Bool.not_eq_true']
    constructor
    · rintro ⟨h1, h2, h3⟩
      refine ⟨h1, h2, ops[i], by simp [h1], fun j hj => ?_⟩
      simp [h1] at h3
      simp only [edgesOf, List.mem_map, List.mem_filter] at hj
      obtain ⟨ed, ⟨hm, hb⟩, rfl⟩ := hj
      obtain ⟨q, hq, hqe⟩ := Array.mem_iff_getElem.1 (Array.mem_toList_iff.1 hm)
      have := h3 q hq
      rw [hqe, hb] at this
      simpa using this
    · rintro ⟨h1, h2, o, ho, h3⟩
      refine ⟨h1, h2, ?_⟩
      rw [ho]
      simp only [Option.map_some, Option.getD_some, Array.all_eq_true]
      intro q hq
      by_cases hb : Region.binds .any o.after[q] = true
      · have := h3 o.after[q].on (by simp only [edgesOf, List.mem_map, List.mem_filter]; exact ⟨_, ⟨by simp, hb⟩, rfl⟩)
        simp [this]
      · simp [hb]
  have nil_done : ∀ (listed : Array Bool), listed.size = ops.size → Region.ready .any ops listed = [] → rem ops.size listed = [] := by
    intro listed hs hr
    -- the least one left would be ready
    have key : ∀ m, m ≤ ops.size → ∀ i, i < m → listed.getD i false = true := by
      intro m
      induction m with
      | zero => intro _ i hi; omega
      | succ m ih =>
        intro hm i hi
        have ih' := ih (by omega)
        by_cases him : i < m
        · exact ih' i him
        · obtain rfl : i = m := by omega
          cases hl : listed.getD i false with
          | true => rfl
          | false =>
            have hio : ops[i]? = some ops[i] := by simp
            have hr2 : i ∈ Region.ready .any ops listed := by
              rw [ready_spec]
              refine ⟨by omega, ?_, ops[i], hio, fun j hj => ih' j ((okBef_at hob (i := i) (o := ops[i]) (by rw [← hio]; simp)).1 j hj)⟩
              rw [Array.getD_eq_getD_getElem?] at hl ⊢
              have : i < listed.size := by omega
              simp [this] at hl ⊢
              exact hl
            rw [hr] at hr2
            cases hr2
    unfold rem
    rw [List.filter_eq_nil_iff]
    intro i hi
    simp [key ops.size (Nat.le_refl _) i (by simpa using hi)]
  intro fuel
  induction fuel with
  | zero =>
    intro listed s e h a hf hs hcl hx R hw
    have hnil : rem ops.size listed = [] := List.length_eq_zero_iff.1 hf
    refine ⟨?_, hQ s e h a hx R hw⟩
    cases hr : Region.ready .any ops listed with
    | nil => rfl
    | cons i r =>
      have hi := (ready_spec listed i).1 (by rw [hr]; simp)
      have hmem : i ∈ rem ops.size listed := by
        unfold rem
        simp only [List.mem_filter, List.mem_range]
        refine ⟨hi.1, ?_⟩
        have h2 := hi.2.1
        rw [Array.getD_eq_getD_getElem?] at h2 ⊢
        have : i < listed.size := by omega
        simp [this] at h2 ⊢
        exact h2
      rw [hnil] at hmem
      cases hmem
  | succ fuel ih =>
    intro listed s e h a hf hs hcl hx R hw
    refine ⟨fun hr => ?_, fun i hi => ?_⟩
    · rw [nil_done listed hs hr] at hf
      cases hf
    · obtain ⟨hin, hnl, o, ho, hed⟩ := (ready_spec listed i).1 hi
      have hnl' : listed.getD i false = false := by
        rw [Array.getD_eq_getD_getElem?] at hnl ⊢
        have : i < listed.size := by omega
        simp [this] at hnl ⊢
        exact hnl
      obtain ⟨ai, hai, hci⟩ := hat i o (by simpa using ho)
      have hmem : i ∈ rem ops.size listed := by
        unfold rem
        simp only [List.mem_filter, List.mem_range]
        exact ⟨hin, by rw [hnl']; rfl⟩
      have hbl : ∀ x ∈ befAt bef i, listed.getD x false = true := by
        intro x hxm
        obtain ⟨j, hj, hjx⟩ := (okBef_at hob (by simpa using ho)).2 x hxm
        rcases hjx with rfl | hjx
        · exact hed x hj
        · exact hcl j (hed j hj) x hjx
      have hrd : readyA bef (rem ops.size listed) i = true := by
        unfold readyA
        rw [List.all_eq_true]
        intro j hj
        have := hbl j hj
        simp only [Bool.not_eq_true', List.contains_eq_mem, decide_eq_false_iff_not]
        intro hm
        unfold rem at hm
        rw [List.mem_filter, this] at hm
        exact absurd hm.2 (by simp)
      obtain ⟨o2, ho2, hw2⟩ := hw i hmem hrd
      rw [hai] at ho2
      injection ho2 with ho2
      subst ho2
      have hrem : rem ops.size (listed.setIfInBounds i true) = (rem ops.size listed).filter fun j => !(j == i) := by
        rw [rem_set hs hin]
        unfold rem
        rw [List.filter_filter]
        apply List.filter_congr
        intro j _
        cases listed.getD j false <;> cases (j == i) <;> rfl
      have hlen2 : (rem ops.size (listed.setIfInBounds i true)).length = fuel := by
        obtain ⟨l1, l2, hsp1, hsp2, hsp3⟩ := filter_split (p := fun j => !(listed.getD j false)) ops.size i hin (by simp only [hnl']; rfl)
        have h1 : (rem ops.size listed).length = (l1 ++ l2).length + 1 := by show ((List.range ops.size).filter _).length = _; rw [hsp1]; simp; omega
        have h2 : rem ops.size (listed.setIfInBounds i true) = l1 ++ l2 := by rw [rem_set hs hin]; exact hsp3
        rw [h2]; omega
      have hgetset : ∀ k, (listed.setIfInBounds i true).getD k false = true ↔ k = i ∨ listed.getD k false = true := by
        intro k
        rw [Array.getD_eq_getD_getElem?, Array.getD_eq_getD_getElem?, Array.getElem?_setIfInBounds]
        by_cases hk : i = k
        · subst hk; simp [hs, hin]
        · rw [if_neg hk]
          constructor
          · intro h; exact .inr h
          · rintro (h | h)
            · exact absurd h.symm hk
            · exact h
      unfold wpOp
      simp only [ho]
      have main := ins_sim hci R hw2 (wpAny P .any ops Q fuel (listed.setIfInBounds i true)) Q (fun s' e' h' a' hx' R' hK => by
        refine ih (listed.setIfInBounds i true) s' e' h' a' hlen2 (by simp [hs]) ?_ (hx.trans hx') R' (by rw [hrem]; exact hK)
        intro j hj k hk
        rw [hgetset] at hj ⊢
        right
        rcases hj with rfl | hj
        · exact hbl k hk
        · exact hcl j hj k hk)
      split
      · rename_i hw; rw [if_pos hw] at main; exact .inl main
      · rename_i hw; rw [if_neg hw] at main; exact main

end Go.AM
