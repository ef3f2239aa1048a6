/- Lemmas for walking the abstract machine's code. Generic over the program. -/
import Derived.Test.YthblalidmmbcoaaAmR
set_option linter.unusedSimpArgs false
set_option linter.unusedVariables false
namespace Go.AM
open Classical

theorem norm_get (keep : List Nat) (e : Env) : norm keep e = normL keep (get e) := by
  induction keep with
  | nil => rfl
  | cons t r ih => simp only [norm, normL, ih]; cases get e t <;> rfl

section
variable {P : Program} {Q : X → St → Prop} {e : Env} {h : Heap}
theorem W_skip (hq : Q .normal ⟨e, h⟩) : W P .skip Q ⟨e, h⟩ := hq
theorem W_exit {id : Nat} (hq : Q (.exit id) ⟨e, h⟩) : W P (.exit id) Q ⟨e, h⟩ := hq
theorem W_ret (hq : Q .ret ⟨e, h⟩) : W P .ret Q ⟨e, h⟩ := hq
theorem W_seq {a b : ACode} (hw : W P a (X.then (W P b Q) Q) ⟨e, h⟩) : W P (.seq a b) Q ⟨e, h⟩ := hw
theorem W_block {id : Nat} {a : ACode} (hw : W P a (X.inBlock id Q) ⟨e, h⟩) : W P (.block id a) Q ⟨e, h⟩ := hw
theorem W_reg {ops : List AIns} {keep : List Nat} (hw : ∀ K : Env → Heap → Prop, (∀ e' h', Q .normal ⟨norm keep e', h'⟩ → K e' h') → Wops P ops e h K) : W P (.reg ops keep) Q ⟨e, h⟩ :=
  hw _ fun _ _ h => h
theorem W_cond {c : O} {ka kb : List Nat} {a b : ACode} {t : Bool} (hc : evO (get e) c = some (.bool t)) (h1 : t = true → W P a Q ⟨norm ka e, h⟩) (h2 : t = false → W P b Q ⟨norm kb e, h⟩) : W P (.cond c ka a kb b) Q ⟨e, h⟩ := by
  show (match evO (get e) c with | some (.bool t) => _ | _ => False)
  rw [hc]
  exact ⟨h1, h2⟩
theorem W_true {c : O} {ka kb : List Nat} {a b : ACode} (hc : evO (get e) c = some (.bool true)) (h1 : W P a Q ⟨norm ka e, h⟩) : W P (.cond c ka a kb b) Q ⟨e, h⟩ := W_cond hc (fun _ => h1) (fun h => by cases h)
theorem W_false {c : O} {ka kb : List Nat} {a b : ACode} (hc : evO (get e) c = some (.bool false)) (h1 : W P b Q ⟨norm kb e, h⟩) : W P (.cond c ka a kb b) Q ⟨e, h⟩ := W_cond hc (fun h => by cases h) (fun _ => h1)

theorem Wops_mono : ∀ (ops : List AIns) (e : Env) (h : Heap) (K K' : Env → Heap → Prop), (∀ e h, K e h → K' e h) → Wops P ops e h K → Wops P ops e h K' := by
  intro ops
  induction ops with
  | nil => intro e h K K' hk hw; exact hk _ _ hw
  | cons o r ih =>
    intro e h K K' hk hw
    have run : ∀ K1 K2 : Env → Heap → Prop, (∀ e h, K1 e h → K2 e h) → runIns P o e h K1 → runIns P o e h K2 := by
      intro K1 K2 h12 hr
      unfold runIns at hr ⊢
      split
      · rename_i f args hop
        rw [hop] at hr
        simp only at hr
        split at hr
        · rename_i g fst caps ds h1 h2
          exact hr.mono fun _ _ h => h12 _ _ h
        · exact hr.elim
      · rename_i hnc
        have hr' : if makes o.op then ∀ k, h k = none → match evOp (get e) h k o.op with | some (d, h') => K1 (put o.dst d e) h' | none => False
          else match evOp (get e) h 0 o.op with | some (d, h') => K1 (put o.dst d e) h' | none => eqN0 o.op (get e) ∧ ∀ b, K1 (put o.dst (.bool b) e) h := by
          cases hop : o.op <;> rw [hop] at hr <;> first | exact absurd hop (hnc _ _) | exact hr
        split
        · rename_i hm
          rw [if_pos hm] at hr'
          intro k hk
          have := hr' k hk
          split at this
          · rename_i d h' he; rw [he]; exact h12 _ _ this
          · exact this.elim
        · rename_i hm
          rw [if_neg hm] at hr'
          split at hr'
          · rename_i d h' he; rw [he]; exact h12 _ _ hr'
          · rename_i he; rw [he]; exact ⟨hr'.1, fun b => h12 _ _ (hr'.2 b)⟩
    show Wins P o e h _
    have hw' : Wins P o e h (fun e' h' => Wops P r e' h' K) := hw
    unfold Wins at hw' ⊢
    split
    · rename_i hg
      rw [hg] at hw'
      exact run _ _ (fun e h hh => ih e h K K' hk hh) hw'
    · rename_i t want hg
      rw [hg] at hw'
      simp only at hw'
      split
      · rename_i b hb
        rw [hb] at hw'
        simp only at hw'
        split
        · rename_i hbw; rw [if_pos hbw] at hw'; exact run _ _ (fun e h hh => ih e h K K' hk hh) hw'
        · rename_i hbw; rw [if_neg hbw] at hw'; exact ih _ _ K K' hk hw'
      · rename_i vs hb
        rw [hb] at hw'
        exact ih _ _ K K' hk hw'
      · rename_i hne1 hne2
        split at hw'
        · rename_i b hb; exact absurd hb (hne1 b)
        · rename_i vs hb; exact absurd hb (hne2 vs)
        · exact hw'
theorem Wins_mono {o : AIns} {e : Env} {h : Heap} {K K' : Env → Heap → Prop} (hk : ∀ e h, K e h → K' e h) (hw : Wins P o e h K) : Wins P o e h K' := Wops_mono [o] e h K K' hk hw
theorem Wany_mono {ops : List AIns} {bef : List (List Nat)} : ∀ (n : Nat) (rm : List Nat) (e : Env) (h : Heap) {K K' : Env → Heap → Prop}, (∀ e h, K e h → K' e h) → Wany P ops bef n rm e h K → Wany P ops bef n rm e h K'
  | 0, _, _, _, _, _, hk, hw => hk _ _ hw
  | n + 1, rm, e, h, K, K', hk, hw => fun i hi hr => by
    obtain ⟨o, ho, h1⟩ := hw i hi hr
    exact ⟨o, ho, Wins_mono (fun e' h' h2 => Wany_mono n _ e' h' hk h2) h1⟩

theorem W_mono {c : ACode} : ∀ {Q Q' : X → St → Prop} {st : St}, (∀ x st, Q x st → Q' x st) → W P c Q st → W P c Q' st := by
  induction c with
  | skip => intro Q Q' st hq hw; exact hq _ _ hw
  | reg ops keep =>
    intro Q Q' st hq hw
    exact Wops_mono ops _ _ _ _ (fun e h hh => hq _ _ hh) hw
  | dreg ops bef keep =>
    intro Q Q' st hq hw
    rcases hw with ⟨rs, hw⟩ | hw
    · exact .inl ⟨rs, fun N hN => let ⟨fin, h1, h2⟩ := hw N hN; ⟨fin, h1, hq _ _ h2⟩⟩
    · exact .inr (Wany_mono _ _ _ _ (fun e h hh => hq _ _ hh) hw)
  | oreg ops bef keep =>
    intro Q Q' st hq hw
    exact Wany_mono _ _ _ _ (fun e h hh => hq _ _ hh) hw
  | seq a b iha ihb =>
    intro Q Q' st hq hw
    refine iha ?_ hw
    intro x st h
    cases x with
    | normal => exact ihb hq h
    | exit id => exact hq _ _ h
    | ret => exact hq _ _ h
  | cond c ka a kb b iha ihb =>
    intro Q Q' st hq hw
    simp only [W] at hw ⊢
    split
    · rename_i t ht
      rw [ht] at hw
      exact ⟨fun h => iha hq (hw.1 h), fun h => ihb hq (hw.2 h)⟩
    · rename_i hne
      split at hw
      · rename_i t ht; exact hne t ht
      · exact hw
  | block id a iha =>
    intro Q Q' st hq hw
    refine iha ?_ hw
    intro x st h
    cases x with
    | normal => exact hq _ _ h
    | exit j =>
      simp only [X.inBlock] at h ⊢
      split
      · rename_i hj; rw [if_pos hj] at h; exact hq _ _ h
      · rename_i hj; rw [if_neg hj] at h; exact hq _ _ h
    | ret => exact hq _ _ h
  | loop a iha =>
    intro Q Q' st hq hw
    obtain ⟨n, hn⟩ := hw
    refine ⟨n, ?_⟩
    have key : ∀ n st, iter (fun Q' st' => W P a Q' st') Q n st → iter (fun Q' st' => W P a Q' st') Q' n st := by
      intro n
      induction n with
      | zero => intro st h; exact h
      | succ n ih =>
        intro st h
        refine iha ?_ h
        intro x st h
        cases x with
        | normal => exact ih _ h
        | exit id => exact hq _ _ h
        | ret => exact hq _ _ h
    exact key n st hn
  | exit id => intro Q Q' st hq hw; exact hq _ _ hw
  | ret => intro Q Q' st hq hw; exact hq _ _ hw

/-- A loop, by what holds at the head of each round and a measure that each round lowers. -/
theorem W_loop {c : ACode} (I : St → Prop) (μ : St → Nat) (h0 : I ⟨e, h⟩) (round : ∀ e' h', I ⟨e', h'⟩ → W P c (X.then (fun st => I st ∧ μ st < μ ⟨e', h'⟩) Q) ⟨e', h'⟩) : W P (.loop c) Q ⟨e, h⟩ := by
  have key : ∀ n st, μ st < n → I st → iter (fun Q' st' => W P c Q' st') Q n st := by
    intro n
    induction n with
    | zero => intro st hn; omega
    | succ n ih =>
      intro st hn hI
      refine W_mono ?_ (round st.env st.heap hI)
      intro x st' h
      cases x with
      | normal => exact ih st' (by have := h.2; have e1 : (⟨st.env, st.heap⟩ : St) = st := rfl; rw [e1] at this; omega) h.1
      | exit id => exact h
      | ret => exact h
  exact ⟨_, key _ _ (Nat.lt_succ_self _) h0⟩

/-- A counted loop: the state at the head of round i is one of 'I i'; round i leads to round i + 1 or out. -/
theorem W_for {c : ACode} (n : Nat) (I : Nat → St → Prop) (h0 : I 0 ⟨e, h⟩) (round : ∀ i e' h', i < n → I i ⟨e', h'⟩ → W P c (X.then (I (i + 1)) Q) ⟨e', h'⟩) (last : ∀ e' h', I n ⟨e', h'⟩ → W P c (X.then (fun _ => False) Q) ⟨e', h'⟩) : W P (.loop c) Q ⟨e, h⟩ := by
  have key : ∀ m i st, n - i < m → i ≤ n → I i st → iter (fun Q' st' => W P c Q' st') Q m st := by
    intro m
    induction m with
    | zero => intro i st hn; omega
    | succ m ih =>
      intro i st hm hi hI
      by_cases hin : i < n
      · refine W_mono ?_ (round i st.env st.heap hin hI)
        intro x st' h
        cases x with
        | normal => exact ih (i + 1) st' (by omega) (by omega) h
        | exit id => exact h
        | ret => exact h
      · obtain rfl : i = n := by omega
        refine W_mono ?_ (last st.env st.heap hI)
        intro x st' h
        cases x with
        | normal => exact h.elim
        | exit id => exact h
        | ret => exact h
  exact ⟨_, key _ 0 _ (Nat.lt_succ_self _) (Nat.zero_le _) h0⟩
end

/-! ### Reading by value -/
theorem rp_below {s : Sg} {h : Heap} (H : RHo s h) {v : Value} {d : D} (hv : RP s.w s.prot v d) : RP s.w (below s.w.heap.size) v d := hv.mono fun b hb => ⟨H.lt b hb, rfl⟩
theorem Rd_flat {h : Heap} {d : D} (hf : flat d = true) : Rd h d d := fun s v _ hv => hv.flat hf _
theorem Rd_int {h : Heap} {k : IntKind} {n : Int} : Rd h (.int k n) (.int k n) := Rd_flat rfl
theorem Rd_bool {h : Heap} {b : Bool} : Rd h (.bool b) (.bool b) := Rd_flat rfl
theorem Rd_vs {h : Heap} {sz len : Nat} {c : List D} : Rd h (.vs sz c len) (.vs sz c len) := fun s v H hv => rp_below H hv.inv_vs
theorem Rd_vp {h : Heap} {off : Nat} {c : List D} : Rd h (.vp c off) (.vp c off) := fun s v H hv => rp_below H hv.inv_vp
theorem Rd_nil {h : Heap} {sz : Nat} : Rd h .nil (.vs sz [] 0) := fun s v H hv => by rw [hv.inv_nil]; exact .vs0 _ _ _
theorem Rd_emp {h : Heap} {sz : Nat} : Rd h .emp (.vs sz [] 0) := fun s v H hv => by obtain ⟨a, rfl⟩ := hv.inv_emp; exact .vs0 _ _ _

theorem own_cells {s : Sg} {h : Heap} (H : RHo s h) {k : Nat} {c : List D} (hk : h k = some c) (hf : c.all scal = true) {b n : Nat} (hb : s.ρ k = some (some b, n)) :
    b < s.w.heap.size ∧ ∃ cs e, s.w.heap[b]? = some (.cells cs e (0, 0)) ∧ c.length ≤ cs.size ∧ CellsAt s.w b 0 (cs.toList.take c.length) ∧ All2 (RPc s.w (below s.w.heap.size)) (cs.toList.take c.length) c := by
  obtain ⟨_, x, hx, _, hq⟩ := H.own k c hk
  rw [hb] at hx
  injection hx with hx; injection hx with h1 h2
  subst h1
  obtain ⟨_, cs, e, hh, hl, hall⟩ := hq b rfl
  refine ⟨?_, cs, e, hh, hl, ?_, hall.1, fun i v d hv hd => ⟨(hall.2 i v d hv hd).1.scal (List.all_eq_true.1 hf d (List.mem_of_getElem? hd)) _, (hall.2 i v d hv hd).2⟩⟩
  · rcases Nat.lt_or_ge b s.w.heap.size with h' | h'
    · exact h'
    · simp [Array.getElem?_eq_none h'] at hh
  · have := (cellsAt_block hh).sub 0 c.length
    simp only [Nat.add_zero, List.drop_zero] at this
    exact this

/-- An own slice of flat cells, read by value. -/
theorem Rd_sl {h : Heap} {k sz off len : Nat} {c : List D} (hk : h k = some c) (hf : c.all scal = true) (hl : off + len * sz ≤ c.length) : Rd h (.sl k sz off len) (.vs sz ((c.drop off).take (len * sz)) len) := by
  intro s v H hv
  obtain ⟨_, ad, cap, rfl, hna, hlc, hq⟩ := hv.inv_sl
  obtain ⟨_, x, hx, hxn, _⟩ := H.own k c hk
  obtain ⟨hcc, hcap⟩ := hq x _ hx
  rcases hcap with h0 | ⟨b, cs, e, rfl, rfl, hb, hs⟩
  · obtain rfl : len = 0 := by omega
    simpa using RP.vs0 ad cap sz
  · obtain ⟨hbl, cs2, e2, hh, hl2, hat, hall⟩ := own_cells H hk hf hx
    have hall2 := All2.slice hall off (len * sz)
    refine .vs b off cap sz len _ (((cs2.toList.take c.length).drop off).take (len * sz)) (by simp; omega) hlc hbl hall2.1 ?_ ?_ ?_
    · intro v hv'
      have h1 := List.mem_of_mem_drop (List.mem_of_mem_take hv')
      obtain ⟨i, hi⟩ := List.mem_iff_getElem?.1 h1
      have hlt : i < c.length := by
        rcases Nat.lt_or_ge i (cs2.toList.take c.length).length with h' | h'
        · rw [hall.1] at h'; exact h'
        · simp [List.getElem?_eq_none h'] at hi
      exact (hall.2 i v _ hi (List.getElem?_eq_getElem hlt)).2
    · have := hat.sub off (len * sz)
      rw [Nat.zero_add] at this
      exact this
    · intro i v d hv' hd
      exact (hall2.2 i v d hv' hd).1
theorem Rd_sl0 {h : Heap} {k sz len : Nat} {c : List D} (hk : h k = some c) (hf : c.all scal = true) (hl : c.length = len * sz) : Rd h (.sl k sz 0 len) (.vs sz c len) := by
  have := Rd_sl (off := 0) hk hf (by omega : 0 + len * sz ≤ c.length)
  rw [List.drop_zero, List.take_of_length_le (by omega)] at this
  exact this
/-- A pointer to an own block of flat cells, read by value. -/
theorem Rd_pt {h : Heap} {k off : Nat} {c : List D} (hk : h k = some c) (hf : c.all scal = true) (hne : c ≠ []) : Rd h (.pt k off) (.vp c off) := by
  intro s v H hv
  obtain ⟨_, b, rfl, hq⟩ := hv.inv_pt
  obtain ⟨_, x, hx, hxn, _⟩ := H.own k c hk
  have hxb := hq x _ hx
  subst hxb
  obtain ⟨hbl, cs2, e2, hh, hl2, hat, hall⟩ := own_cells H hk hf hx
  have := RP.vp (w := s.w) (prot := below s.w.heap.size) b off 0 c (cs2.toList.take c.length) hbl hall.1 ?_ hat (fun i v d hv' hd => (hall.2 i v d hv' hd).1)
  · simpa using this
  · intro v hv'
    obtain ⟨i, hi⟩ := List.mem_iff_getElem?.1 hv'
    have hlt : i < c.length := by
      rcases Nat.lt_or_ge i (cs2.toList.take c.length).length with h' | h'
      · rw [hall.1] at h'; exact h'
      · simp [List.getElem?_eq_none h'] at hi
    exact (hall.2 i v _ hi (List.getElem?_eq_getElem hlt)).2

theorem con_val {P : Program} {f : Nat} {ds ds' : List D} {r : D} {h : Heap} {Q : D → Heap → Prop} (hp : PCon P f ds' r) (hr : All2 (Rd h) ds ds') (hn : owOf r = none) (ht : ∀ k, thaw k r = r) (hq : Q r h) : Con P f ds h Q :=
  con_of_pcon hp hr (fun k _ => by rw [ht k, thawH_none hn]; exact hq)

/-! ### A drawn region that makes and writes no memory -/
def WdI (P : Program) (o : AIns) (e : Env) (h : Heap) (K : Env → Prop) : Prop :=
  match o.op with
  | .call f args => match evO (get e) f, evOs (get e) args with
    | some (.fn g fst caps), some ds => (∃ ds' r, All2 (Rd h) (fst ++ ds ++ caps) ds' ∧ PCon P g ds' r ∧ K (put o.dst (unow r) e)) ∨ (∃ r, PK P h (fst ++ ds ++ caps) g r ∧ owOf r = none ∧ (∀ k, thaw k r = r) ∧ K (put o.dst r e)) ∨ ∃ ds' r, All2 (Rd h) (fst ++ ds ++ caps) ds' ∧ PCon P g ds' r ∧ K (put o.dst (vnw (unow r)) e)
    | _, _ => False
  | op => match evOp (get e) h 0 op with | some (d, _) => K (put o.dst d e) | none => False
def WdR (P : Program) : List AIns → Env → Heap → (Env → Prop) → Prop
  | [], e, _, K => K e
  | o :: r, e, h, K => match o.guard with
    | none => WdI P o e h fun e' => WdR P r e' h K
    | some (t, want) => match get e t with
      | some (.bool b) => if b = want then WdI P o e h fun e' => WdR P r e' h K else WdR P r (put o.dst (.tup []) e) h K
      | some (.tup _) => WdR P r (put o.dst (.tup []) e) h K
      | _ => False

theorem hide_id {N n i : Nat} {b : List Nat} {h : Heap} (hN : ∀ k, N ≤ k → h k = none) : hide (hidF N n b i) h = h := by
  funext k
  simp only [hide]
  split
  · rename_i hk
    simp only [hidF, Bool.and_eq_true, decide_eq_true_eq] at hk
    exact (hN k hk.1.1.1).symm
  · rfl
theorem unhide_id {N n i : Nat} {b : List Nat} {h : Heap} (hN : ∀ k, N ≤ k → h k = none) : unhide (hidF N n b i) h h = h := by funext k; simp only [unhide]; split <;> rfl

def readsOnly (o : AIns) : Bool := cls o.op == 0 || cls o.op == 1 || cls o.op == 4

theorem dRun_congr {P : Program} {N n : Nat} {rs rs' : Nat → D} {ops : List AIns} {bef : List (List Nat)} : ∀ (l : List Nat) (e : Look) (h : Heap), (∀ i ∈ l, rs i = rs' i) → dRun P N n rs ops bef l e h = dRun P N n rs' ops bef l e h
  | [], _, _, _ => rfl
  | i :: r, e, h, hl => by
    simp only [dRun]
    split
    · rename_i o b ho hb
      have : dRes P N n rs i b o e h = dRes P N n rs' i b o e h := by
        unfold dRes
        rw [hl i (by simp)]
      rw [this]
      split
      · exact dRun_congr r _ _ (fun j hj => hl j (by simp [hj]))
      · rfl
    · rfl

theorem WdR_run {P : Program} {ops : List AIns} {bef : List (List Nat)} (hbl : bef.length = ops.length) : ∀ (l : List AIns) (i : Nat), (∃ tail, ops.drop i = l ++ tail) → l.all readsOnly = true → ∀ (e : Env) (h : Heap) (K : Env → Prop), WdR P l e h K →
    ∃ rs : Nat → D, ∃ e', K e' ∧ ∀ N, (∀ k, N ≤ k → h k = none) → dRun P N ops.length rs ops bef (List.range' i l.length) (get e) h = some (get e', h)
  | [], i, _, _, e, h, K, hw => ⟨fun _ => .undef, e, hw, fun N _ => by simp [dRun]⟩
  | o :: r, i, ⟨tail, hd⟩, hro, e, h, K, hw => by
    have hoi : ops[i]? = some o := by
      have : (ops.drop i)[0]? = some o := by rw [hd]; rfl
      rw [List.getElem?_drop] at this
      simpa using this
    have hil : i < ops.length := by
      rcases Nat.lt_or_ge i ops.length with h' | h'
      · exact h'
      · simp [List.getElem?_eq_none h'] at hoi
    have hbi : bef[i]? = some (befAt bef i) := by
      unfold befAt
      have : i < bef.length := by omega
      simp [this]
    have hdr : ∃ tail, ops.drop (i + 1) = r ++ tail := ⟨tail, by rw [← List.drop_drop, hd]; rfl⟩
    simp only [List.all_cons, Bool.and_eq_true] at hro
    have hcls : cls o.op = 0 ∨ cls o.op = 1 ∨ cls o.op = 4 := by
      have := hro.1
      simp [readsOnly] at this
      rcases this with (h | h) | h
      · exact .inl h
      · exact .inr (.inl h)
      · exact .inr (.inr h)
    -- one step
    have step : ∀ (d : D) (rs : Nat → D), (∀ N, (∀ k, N ≤ k → h k = none) → dRes P N ops.length rs i (befAt bef i) o (get e) h = some (d, h)) →
        (∃ rs0 : Nat → D, (∀ j, i < j → rs0 j = rs j) ∧ ∃ e', K e' ∧ ∀ N, (∀ k, N ≤ k → h k = none) → dRun P N ops.length rs0 ops bef (List.range' (i + 1) r.length) (get (put o.dst d e)) h = some (get e', h)) →
        ∃ rs : Nat → D, ∃ e', K e' ∧ ∀ N, (∀ k, N ≤ k → h k = none) → dRun P N ops.length rs ops bef (List.range' i (o :: r).length) (get e) h = some (get e', h) := by
      intro d rs hres ⟨rs0, hag, e', h2, hrest⟩
      refine ⟨rs, e', h2, fun N hN => ?_⟩
      have h1 := hrest N hN
      simp only [List.length_cons, List.range'_succ, dRun, hoi, hbi, hres N hN]
      rw [← get_put, dRun_congr (rs' := rs0) _ _ _ (fun j hj => (hag j (by have := List.mem_range'_1.1 hj; omega)).symm)]
      exact h1
    have run : ∀ K1 : Env → Prop, (∀ (d : D) (r0 : D), K1 (put o.dst d e) → True) → guardV o.guard (get e) = some true → WdI P o e h K1 → ∃ d, ∃ r0 : D, K1 (put o.dst d e) ∧ ∀ rs : Nat → D, rs i = r0 → ∀ N, (∀ k, N ≤ k → h k = none) → dRes P N ops.length rs i (befAt bef i) o (get e) h = some (d, h) := by
      intro K1 _ hg hwi
      unfold WdI at hwi
      split at hwi
      · rename_i f args hop
        split at hwi
        · rename_i g fst caps ds h1 h2
          rcases hwi with ⟨ds', r0, h3, h4, h5⟩ | ⟨r0, h3, h4, h5, h6⟩ | ⟨ds', r0, h3, h4, h5⟩
          · refine ⟨unow r0, unow r0, h5, fun rs hrs N hN => ?_⟩
            unfold dRes
            rw [hg, hop]
            simp only [h1, h2, hide_id hN, hrs]
            rw [if_pos (.inl ⟨ds', h3, pcon_unow h4⟩), thaw_unow, thawH_none (owOf_unow r0)]
          · refine ⟨r0, r0, h6, fun rs hrs N hN => ?_⟩
            unfold dRes
            rw [hg, hop]
            simp only [h1, h2, hide_id hN, hrs]
            rw [if_pos (.inr (.inl h3)), h5, thawH_none h4]
          · refine ⟨vnw (unow r0), vnw (unow r0), h5, fun rs hrs N hN => ?_⟩
            unfold dRes
            rw [hg, hop]
            simp only [h1, h2, hide_id hN, hrs]
            rw [if_pos (.inr (.inr ⟨ds', r0, h3, h4, rfl⟩)), thaw_vnw, thawH_none (owOf_vnw r0)]
        · exact hwi.elim
      · rename_i hnc
        split at hwi
        · rename_i d h' hev
          have hh : h' = h := by
            rcases hcls with hc | hc | hc
            · exact (cls0 hc hev).1
            · exact (cls1 hc hev).1
            · cases hop : o.op <;> rw [hop] at hc <;> simp [cls] at hc
              exact absurd hop (hnc _ _)
          subst hh
          refine ⟨d, .undef, hwi, fun rs _ N hN => ?_⟩
          have hev2 : evOp (get e) h' (N + i) o.op = some (d, h') := by
            rcases hcls with hc | hc | hc
            · exact (cls0 hc hev).2 h' _
            · exact (cls1 hc hev).2 _
            · cases hop : o.op <;> rw [hop] at hc <;> simp [cls] at hc
              exact absurd hop (hnc _ _)
          unfold dRes
          rw [hg]
          simp only [hide_id hN]
          cases hop : o.op <;> rw [hop] at hev2 <;> first | exact absurd hop (hnc _ _) | simp only [hev2, unhide_id hN]
        · exact hwi.elim
    simp only [WdR] at hw
    split at hw
    · rename_i hg
      obtain ⟨d, r0, hk, hres⟩ := run _ (fun _ _ _ => trivial) (by rw [hg]; rfl) hw
      obtain ⟨rs1, hrest⟩ := WdR_run hbl r (i + 1) hdr hro.2 _ h K hk
      refine step d (fun j => if j = i then r0 else rs1 j) (hres _ (by simp)) ⟨rs1, fun j hj => by rw [if_neg (by omega)], hrest⟩
    · rename_i t want hg
      split at hw
      · rename_i b hb
        split at hw
        · rename_i hbw
          have hgv : guardV o.guard (get e) = some true := by rw [hg]; simp only [guardV, hb, hbw]; simp
          obtain ⟨d, r0, hk, hres⟩ := run _ (fun _ _ _ => trivial) hgv hw
          obtain ⟨rs1, hrest⟩ := WdR_run hbl r (i + 1) hdr hro.2 _ h K hk
          refine step d (fun j => if j = i then r0 else rs1 j) (hres _ (by simp)) ⟨rs1, fun j hj => by rw [if_neg (by omega)], hrest⟩
        · rename_i hbw
          have hgv : guardV o.guard (get e) = some false := by rw [hg]; simp only [guardV, hb]; simp [hbw]
          obtain ⟨rs1, hrest⟩ := WdR_run hbl r (i + 1) hdr hro.2 _ h K hw
          refine step (.tup []) rs1 (fun N hN => ?_) ⟨rs1, fun _ _ => rfl, hrest⟩
          unfold dRes
          rw [hgv]
      · rename_i vs hb
        have hgv : guardV o.guard (get e) = some false := by rw [hg]; simp only [guardV, hb]
        obtain ⟨rs1, hrest⟩ := WdR_run hbl r (i + 1) hdr hro.2 _ h K hw
        refine step (.tup []) rs1 (fun N hN => ?_) ⟨rs1, fun _ _ => rfl, hrest⟩
        unfold dRes
        rw [hgv]
      · exact hw.elim

theorem W_dreg {P : Program} {Q : X → St → Prop} {e : Env} {h : Heap} {ops : List AIns} {bef : List (List Nat)} {keep : List Nat} (hbl : bef.length = ops.length) (hro : ops.all readsOnly = true)
    (hw : ∀ K : Env → Prop, (∀ e', Q .normal ⟨norm keep e', h⟩ → K e') → WdR P ops e h K) : W P (.dreg ops bef keep) Q ⟨e, h⟩ := by
  refine Or.inl ?_
  obtain ⟨rs, e', h2, hr⟩ := WdR_run hbl ops 0 ⟨[], by simp⟩ hro e h (fun e' => Q .normal ⟨norm keep e', h⟩) (hw _ fun _ h => h)
  refine ⟨rs, fun N hN => ?_⟩
  have h1 := hr N hN
  refine ⟨(get e', h), by rw [List.range_eq_range']; exact h1, ?_⟩
  rw [norm_get] at h2
  exact h2

theorem dRun_append {P : Program} {N n : Nat} {rs : Nat → D} {ops : List AIns} {bef : List (List Nat)} : ∀ (a b : List Nat) (e : Look) (h : Heap), dRun P N n rs ops bef (a ++ b) e h = (dRun P N n rs ops bef a e h).bind fun f => dRun P N n rs ops bef b f.1 f.2
  | [], b, e, h => rfl
  | i :: a, b, e, h => by
    simp only [List.cons_append, dRun]
    split
    · split
      · exact dRun_append a b _ _
      · rfl
    · rfl
/-- A drawn region that only reads, but for a store at its end. -/
theorem W_dregS {P : Program} {Q : X → St → Prop} {e : Env} {h : Heap} {pre : List AIns} {n : Nat} {a x : O} {bef : List (List Nat)} {keep : List Nat} (hbl : bef.length = pre.length + 1) (hro : pre.all readsOnly = true)
    (hw : ∀ K : Env → Heap → Prop, (∀ e' h', Q .normal ⟨norm keep e', h'⟩ → K e' h') → WdR P pre e h fun e' => Wops P [⟨none, .store n a x, none⟩] e' h K) : W P (.dreg (pre ++ [⟨none, .store n a x, none⟩]) bef keep) Q ⟨e, h⟩ := by
  refine Or.inl ?_
  have hl : (pre ++ [(⟨none, .store n a x, none⟩ : AIns)]).length = pre.length + 1 := by simp
  obtain ⟨rs, e', h2, hr⟩ := WdR_run (ops := pre ++ [⟨none, .store n a x, none⟩]) (by rw [hl]; exact hbl) pre 0 ⟨[⟨none, .store n a x, none⟩], by simp⟩ hro e h _ (hw _ fun _ _ h => h)
  refine ⟨rs, fun N hN => ?_⟩
  have hN : ∀ k, N ≤ k → h k = none := hN
  have h1 := hr N hN
  have h3 : match evOp (get e') h 0 (.store n a x) with | some (d, h') => Q .normal ⟨norm keep (put none d e'), h'⟩ | none => False := by
    have h2' : match evOp (get e') h 0 (.store n a x) with | some (d, h') => Q .normal ⟨norm keep (put none d e'), h'⟩ | none => eqN0 (.store n a x) (get e') ∧ ∀ b, Q .normal ⟨norm keep (put none (.bool b) e'), h⟩ := h2
    split at h2'
    · exact h2'
    · obtain ⟨⟨_, _, _, _, h0, _⟩, _⟩ := h2'
      cases h0
  split at h3
  · rename_i d h' hev
    have hoth : ∀ k, N ≤ k → h' k = none := by
      intro k hk
      simp only [evOp] at hev
      split at hev
      · split at hev
        · split at hev
          · rename_i kk off new _ _ c hkc _
            injection hev with hev; injection hev with _ hev; subst hev
            simp only [upd]
            split
            · rename_i hk2; subst hk2; rw [hN _ hk] at hkc; cases hkc
            · exact hN k hk
          · cases hev
        · cases hev
      · cases hev
    refine ⟨(get e', h'), ?_, ?_⟩
    · rw [hl, List.range_succ, List.range_eq_range', dRun_append]
      rw [hl] at h1
      rw [h1]
      have hb : bef[pre.length]? = some (befAt bef pre.length) := by
        unfold befAt
        simp [hbl]
      have hx : dRes P N (pre.length + 1) rs pre.length (befAt bef pre.length) ⟨none, .store n a x, none⟩ (get e') h = some (d, h') := by
        have hevN : evOp (get e') h (N + pre.length) (.store n a x) = some (d, h') := hev
        unfold dRes
        simp only [guardV, hide_id hN, hevN]
        congr 2
        funext k
        simp only [unhide]
        split
        · rename_i hk
          simp only [hidF, Bool.and_eq_true, decide_eq_true_eq] at hk
          rw [hN k hk.1.1.1, hoth k hk.1.1.1]
        · rfl
      simp only [Option.bind_some, dRun, List.getElem?_append_right (Nat.le_refl _), Nat.sub_self, List.getElem?_cons_zero, hb, hx]
      rfl
    · rw [norm_get] at h3
      exact h3
  · exact h3.elim

/-- The end of a function that hands back 'r'. -/
def Fin (rs : List ARes) (r : D) : X → St → Prop := fun x st => (match x with | .exit _ => False | _ => True) ∧ ∃ d, resD rs (get st.env) st.heap = some d ∧ Ex st.heap d r
theorem Fin_flat {rs : List ARes} {e : Env} {h : Heap} {r : D} {x : X} (hx : match x with | .exit _ => False | _ => True) (hd : resD rs (get e) h = some r) (hf : flat r = true) : Fin rs r x ⟨e, h⟩ := ⟨hx, r, hd, Ex_flat hf⟩

end Go.AM
