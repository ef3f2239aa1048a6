/- The abstract machine's code, its meaning by weakest preconditions, and the theorem that the model's code does what it says. Generic over the program. -/
import Derived.Test.YtolnhkpckbgmgaaAmK
import Derived.Laws.BytesString
set_option linter.unusedSimpArgs false
set_option linter.unusedVariables false
namespace Go.AM

theorem bytesD_arr {s : Sg} : ∀ (c : List D) (ns : List Int) (l : List Value), bytesD c = some ns → All2 (RC s) l c → l = ns.map (Value.int .u8) := by
  intro c
  induction c with
  | nil =>
    intro ns l hb ha
    simp only [bytesD] at hb
    injection hb with hb; subst hb
    have := ha.1
    simpa using this
  | cons d r ih =>
    intro ns l hb ha
    cases d with
    | int k n =>
      cases k <;> simp only [bytesD] at hb <;> first | cases hb | skip
      split at hb
      · rename_i ns' hr
        injection hb with hb; subst hb
        cases l with
        | nil => have := ha.1; simp at this
        | cons v l =>
          have h0 := (ha.2 0 v _ rfl rfl).1.inv_int
          have ht : All2 (RC s) l r := ⟨by have := ha.1; simpa using this, fun i x y hx hy => ha.2 (i + 1) x y (by simpa using hx) (by simpa using hy)⟩
          rw [h0, ih ns' l hr ht]; rfl
      · cases hb
    | _ => simp [bytesD] at hb

theorem sim_strB {P : Program} {s : Sg} {e : Look} {a : Act} {h h' : Heap} {o : Oper} {d : D} {kk : Nat} {u t el : Nat} {x : Operand} {y : O} (ho : o.op = .convert u t x) (hu : P.underlying u = some (.slice el)) (hel : P.underlying el = some (.int .u8)) (ht : P.underlying t = some .string) (hx : cO x = some y) (H : RH s h) (E : RE s e a.tmps)
    (hev : evOp e h kk (.strB y) = some (d, h')) : Good s kk ((execOp a.eval o).run P s.w) d h' := by
  simp only [evOp] at hev
  split at hev
  · rename_i dx h1
    split at hev
    · rename_i r h2
      injection hev with hev; injection hev with h3 h4; subst h3; subst h4
      have hv := cO_sim hx E h1
      unfold strD at h2
      split at h2
      · rename_i n hn
        split at h2
        · rename_i c hc
          split at h2
          · rename_i ns hns
            injection h2 with h2; subst h2
            obtain ⟨b, cap, hvs⟩ := lenD_sim hv hn
            obtain ⟨hlen, arr, hall, hrun⟩ := srcD_sim (P := P) H hv hc
            have harr := bytesD_arr c ns arr.toList hns hall
            have hf := hrun s.w rfl
            rw [hvs] at hf
            cases b with
            | none =>
              exfalso
              simp [Builtin.firstCells] at hf
              have := hall.1
              rw [hf] at this
              simp at this
              omega
            | some ad =>
              simp only [Builtin.firstCells, Nat.mul_one] at hf
              have h5 : arr = (ns.map (Value.int .u8)).toArray := by apply Array.ext'; simpa using harr
              rw [h5] at hf
              refine Good.same H (v := .string (strOf ns)) ?_ (.pure (.str _))
              have := run_bytesToString (P := P) s.w ad (n + 1) cap ns hf
              simp [execOp, ho, hvs, run_convert_bytes_string _ _ _ _ _ _ _ hu hel ht, this, strOf]
          · cases h2
        · cases h2
      · cases h2
    · cases hev
  · cases hev

theorem sim_convert {P : Program} {s : Sg} {e : Look} {a : Act} {h h' : Heap} {o : Oper} {ao : AOp} {d : D} {kk : Nat} {u t : Nat} {x : Operand} (ho : o.op = .convert u t x) (hc : cOp P (.convert u t x) = some ao) (H : RH s h) (E : RE s e a.tmps)
    (hev : evOp e h kk ao = some (d, h')) : Good s kk ((execOp a.eval o).run P s.w) d h' := by
  by_cases hs : ∃ y, ao = .strB y
  · obtain ⟨y, rfl⟩ := hs
    simp only [cOp] at hc
    split at hc
    · injection hc with hc; cases hc
    · rename_i el y' hu ht h1
      split at hc
      · rename_i hel
        injection hc with hc; injection hc with hc; subst hc
        exact sim_strB ho hu hel ht h1 H E hev
      · cases hc
    · cases hc
  · exact sim_conv (fun y hy => hs ⟨y, hy⟩) ho hc H E hev

section
variable {P : Program} {s : Sg} {e : Look} {a : Act} {h h' : Heap} {o : Oper} {ao : AOp} {d : D} {kk : Nat}

theorem op_sim (hc : cOp P o.op = some ao) (hnc : ∀ f l, ao ≠ .call f l) (H : RH s h) (hkk : ¬ s.used kk) (E : RE s e a.tmps) (hev : evOp e h kk ao = some (d, h')) : Good s kk ((execOp a.eval o).run P s.w) d h' := by
  cases hop : o.op with
  | move x => rw [hop] at hc; exact sim_move (.inl hop) hc H E hev
  | assign x => rw [hop] at hc; exact sim_move (.inr hop) hc H E hev
  | pick c x y => rw [hop] at hc; exact sim_pick hop hc H E hev
  | alloc t => rw [hop] at hc; exact sim_alloc hop hc H hkk hev
  | box t x => rw [hop] at hc; exact sim_box hop hc H hkk E hev
  | build t ps => rw [hop] at hc; exact sim_build hop hc H E hev
  | buildSlice t n ps => rw [hop] at hc; exact sim_buildS hop hc H hkk E hev
  | load t x => rw [hop] at hc; exact sim_load hop hc H E hev
  | store t x y => rw [hop] at hc; exact sim_store hop hc H E hev
  | nilCheck x => rw [hop] at hc; exact sim_nilck hop hc H E hev
  | binOp op t x y u => rw [hop] at hc; exact sim_bin hop hc H E hev
  | unOp op t x => rw [hop] at hc; exact sim_un hop hc H E hev
  | convert u t x => rw [hop] at hc; exact sim_convert hop hc H E hev
  | makeFunc f fst caps =>
    rw [hop] at hc
    cases f with
    | func f => exact sim_mkfn hop hc H E hev
    | _ => simp [cOp] at hc
  | makeSlice t x y => rw [hop] at hc; exact sim_mkslice hop hc H hkk E hev
  | slice t x lo hi mx =>
    rw [hop] at hc
    cases mx with
    | none =>
      cases lo with
      | none => exact sim_slice (.inl rfl) hop hc H E hev
      | some l =>
        cases hi with
        | none => exact sim_slice (.inr rfl) hop hc H E hev
        | some r => exact sim_sliceM hop hc H E hev
    | some m =>
      cases hi with
      | none => simp [cOp] at hc
      | some r => exact sim_slice3 hop hc H E hev
  | fieldAddr t x i => rw [hop] at hc; exact sim_faddr hop hc H E hev
  | field t x i => rw [hop] at hc; exact sim_field hop hc H E hev
  | indexAddr t x i => rw [hop] at hc; exact sim_iaddr hop hc H E hev
  | index t x i => rw [hop] at hc; exact sim_index hop hc H E hev
  | extract x i => rw [hop] at hc; exact sim_extract hop hc H E hev
  | call c =>
    rw [hop] at hc
    simp only [cOp] at hc
    obtain ⟨callee, args, ats⟩ := c
    cases callee with
    | value f =>
      simp only [cCall] at hc
      split at hc
      · injection hc with hc; exact absurd hc.symm (hnc _ _)
      · cases hc
    | invoke r m => simp [cCall] at hc
    | builtin b =>
      cases b with
      | len => exact sim_len hop hc H E hev
      | append => exact sim_append hop hc H hkk E hev
      | copy => exact sim_copy hop hc H E hev
      | clear => exact sim_clear hop hc H E hev
      | max => exact sim_mima (mx := true) hop hc H E hev
      | min => exact sim_mima (mx := false) hop hc H E hev
      | _ => simp [cCall] at hc
  | _ => rw [hop] at hc; simp [cOp] at hc
end

/-! ### Contracts -/
def Callable (P : Program) (f : Nat) : Prop := ∀ args w, (callFunc f args).run P w = .ok (.enter f args) w

/-- Called with data 'ds' in a heap 'h', the function returns data and a heap that 'Q' holds of. -/
def Con (P : Program) (f : Nat) (ds : List D) (h : Heap) (Q : D → Heap → Prop) : Prop :=
  Callable P f ∧ ∀ (s : Sg) (args : Array Value), RH s h → All2 (RV s) args.toList ds →
    Calls P f args s.w fun e w' => ∃ v d h' s', e = .returned v ∧ s'.w = w' ∧ Ext s s' ∧ RH s' h' ∧ RV s' v d ∧ Q d h'

theorem Con.mono {P : Program} {f : Nat} {ds : List D} {h : Heap} {Q Q' : D → Heap → Prop} (hc : Con P f ds h Q) (hq : ∀ d h', Q d h' → Q' d h') : Con P f ds h Q' :=
  ⟨hc.1, fun s args H A => (hc.2 s args H A).mono fun _ _ ⟨v, d, h', s', h1, h2, h3, h4, h5, h6⟩ => ⟨v, d, h', s', h1, h2, h3, h4, h5, hq _ _ h6⟩⟩

/-! ### Instructions -/
def put (dst : Option Nat) (d : D) (e : Env) : Env := match dst with | some t => (t, d) :: e | none => e

/-- Does the operation make a block? -/
def makes : AOp → Bool
  | .alloc _ => true
  | .box _ => true
  | .buildS .. => true
  | .mkslice .. => true
  | .append .. => true
  | _ => false
theorem key_any {e : Look} {h : Heap} {op : AOp} (hm : makes op = false) (k k' : Nat) : evOp e h k op = evOp e h k' op := by
  cases op <;> first | rfl | (simp [makes] at hm)

/-- An empty slice of the caller's is compared with nil: the answer is open. -/
def eqN0 (op : AOp) (e : Look) : Prop := ∃ g x sz c, op = .eqN g x ∧ evO e x = some (.vs sz c 0)
def runIns (P : Program) (o : AIns) (e : Env) (h : Heap) (K : Env → Heap → Prop) : Prop :=
  match o.op with
  | .call f args => match evO (get e) f, evOs (get e) args with
    | some (.fn g fst caps), some ds => Con P g (fst ++ ds ++ caps) h (fun r h' => K (put o.dst r e) h')
    | _, _ => False
  | op => if makes op then ∀ k, h k = none → match evOp (get e) h k op with | some (d, h') => K (put o.dst d e) h' | none => False
    else match evOp (get e) h 0 op with | some (d, h') => K (put o.dst d e) h' | none => eqN0 op (get e) ∧ ∀ b, K (put o.dst (.bool b) e) h

def Wins (P : Program) (o : AIns) (e : Env) (h : Heap) (K : Env → Heap → Prop) : Prop :=
  match o.guard with
  | none => runIns P o e h K
  | some (t, want) => match get e t with
    | some (.bool b) => if b = want then runIns P o e h K else K (put o.dst (.tup []) e) h
    | some (.tup _) => K (put o.dst (.tup []) e) h
    | _ => False

def Wops (P : Program) : List AIns → Env → Heap → (Env → Heap → Prop) → Prop
  | [], e, h, K => K e h
  | o :: r, e, h, K => Wins P o e h fun e' h' => Wops P r e' h' K

def cGuard (all : List Oper) : Option (Nat × Bool) → Option (Option (Nat × Bool))
  | none => some none
  | some (j, w) => match all[j]? with
    | some o => (match o.dst with | some t => some (some (t, w)) | none => none)
    | none => none
def dstOk (nt : Nat) : Option Nat → Bool | some t => decide (t < nt) | none => true
def cIns (P : Program) (nt : Nat) (all : List Oper) (o : Oper) : Option AIns :=
  match cGuard all o.guard with
  | some g => if dstOk nt o.dst then some { dst := o.dst, op := (cOp P o.op).getD .bad, guard := g } else none
  | none => none
def cOps (P : Program) (nt : Nat) (all : List Oper) : List Oper → Option (List AIns)
  | [] => some []
  | o :: r => match cIns P nt all o, cOps P nt all r with | some i, some l => some (i :: l) | _, _ => none

/-- The state of a frame: what is known of it. -/
structure RS (nt : Nat) (s : Sg) (e : Env) (h : Heap) (a : Act) : Prop where
  heap : RH s h
  env : RE s (get e) a.tmps
  size : a.tmps.size = nt
  defers : a.defers = []

theorem put_sim {nt : Nat} {s : Sg} {e : Env} {h : Heap} {a : Act} (R : RS nt s e h a) {dst : Option Nat} (hd : dstOk nt dst = true) {s' : Sg} (hx : Ext s s') {h' : Heap} (H' : RH s' h') {v : Value} {d : D} (hv : RV s' v d) :
    RS nt s' (put dst d e) h' (a.put dst v) := by
  cases dst with
  | none => exact ⟨H', R.env.mono hx, R.size, R.defers⟩
  | some t =>
    simp [dstOk] at hd
    refine ⟨H', (R.env.mono hx).put (by rw [R.size]; exact hd) hv, ?_, R.defers⟩
    show (a.tmps.setIfInBounds t v).size = nt
    simpa using R.size

theorem tmps_get {s : Sg} {e : Look} {tmps : Array Value} (E : RE s e tmps) {t : Nat} {b : Bool} (h : e t = some (.bool b)) : tmps[t]? = some (.bool b) := by
  have := (E t _ h).inv_bool
  rw [Array.getD_eq_getD_getElem?] at this
  cases hg : tmps[t]? with
  | none => rw [hg] at this; simp [undef] at this
  | some v => rw [hg] at this; simp at this; rw [this]

theorem tmps_tup {s : Sg} {e : Look} {tmps : Array Value} (E : RE s e tmps) {t : Nat} {vs : List D} (h : e t = some (.tup vs)) : ∃ cs : Array Value, tmps[t]? = none ∨ tmps[t]? = some (.tuple cs) := by
  obtain ⟨cs, h1, _⟩ := (E t _ h).inv_tup
  rw [Array.getD_eq_getD_getElem?] at h1
  refine ⟨cs, ?_⟩
  cases hg : tmps[t]? with
  | none => exact .inl rfl
  | some v => rw [hg] at h1; simp at h1; rw [h1]; exact .inr rfl
theorem rv_undef {s : Sg} : RV s undef (.tup []) := .pure (.tup #[] [] rfl (fun i v d h => by simp at h))

theorem cOp_call {P : Program} {op : Op} {f : O} {args : List O} (h : cOp P op = some (.call f args)) : ∃ c, op = .call c ∧ cCall P c = some (.call f args) := by
  cases op
  case call c => exact ⟨c, rfl, h⟩
  case binOp op t x y u =>
    simp only [cOp, cBin] at h
    (repeat' split at h) <;> simp at h
  case makeFunc f a b =>
    cases f <;> simp only [cOp] at h <;> (repeat' split at h) <;> simp at h
  case slice t x lo hi mx =>
    cases mx <;> cases lo <;> cases hi <;> simp only [cOp] at h <;> (repeat' split at h) <;> simp at h
  all_goals
    simp only [cOp] at h
    first
    | (simp at h; done)
    | ((repeat' split at h) <;> simp at h; done)

theorem cOp_eqN {P : Program} {op : Op} {g : Bool} {x : O} (h : cOp P op = some (.eqN g x)) : ∃ b t x y u, op = .binOp b t x y u := by
  cases op
  case binOp op t x y u => exact ⟨op, t, x, y, u, rfl⟩
  case call c =>
    obtain ⟨callee, a0, ats⟩ := c
    cases callee with
    | value f0 => simp only [cOp, cCall] at h; (repeat' split at h) <;> simp at h
    | invoke r m => simp [cOp, cCall] at h
    | builtin b => cases b <;> simp only [cOp, cCall] at h <;> (repeat' split at h) <;> simp at h
  case makeFunc f a b =>
    cases f <;> simp only [cOp] at h <;> (repeat' split at h) <;> simp at h
  case slice t x lo hi mx =>
    cases mx <;> cases lo <;> cases hi <;> simp only [cOp] at h <;> (repeat' split at h) <;> simp at h
  all_goals
    simp only [cOp] at h
    first
    | (simp at h; done)
    | ((repeat' split at h) <;> simp at h; done)
theorem ins_sim {P : Program} {nt : Nat} {ops : Array Oper} {o : Oper} {i : AIns} (hi : cIns P nt ops.toList o = some i) {s : Sg} {e : Env} {h : Heap} {a : Act} (R : RS nt s e h a)
    {K : Env → Heap → Prop} (hw : Wins P i e h K) (next : Act → World → Prop) (Q : Exit → Act → World → Prop)
    (hK : ∀ s' e' h' a', Ext s s' → RS nt s' e' h' a' → K e' h' → next a' s'.w) :
    if Region.wanted o (yielded ops a.tmps) then o.wp P a s.w next Q else next (a.put o.dst undef) s.w := by
  unfold cIns at hi
  split at hi
  · rename_i g hg
    split at hi
    · rename_i hdst
      injection hi with hi; subst hi
      -- the operation
      have run : runIns P { dst := o.dst, op := (cOp P o.op).getD .bad, guard := g } e h K → o.wp P a s.w next Q := by
        cases hao : cOp P o.op with
        | none =>
          intro hr
          simp [runIns, makes, evOp] at hr
          obtain ⟨⟨_, _, _, _, h0, _⟩, _⟩ := hr
          cases h0
        | some ao =>
        simp only [Option.getD_some]
        intro hr
        unfold runIns at hr
        split at hr
        · rename_i f args hop
          simp only at hop
          subst hop
          split at hr
          · rename_i g' fst caps ds h1 h2
            obtain ⟨hcall, hcon⟩ := hr
            -- which operation of the model
            have hcase : ∃ f0 a0 ats, o.op = .call { callee := .value f0, args := a0, argTypes := ats } ∧ cO f0 = some f ∧ cOs a0.toList = some args := by
              obtain ⟨c, hop, hc⟩ := cOp_call hao
              obtain ⟨callee, a0, ats⟩ := c
              cases callee with
              | value f0 =>
                simp only [cCall] at hc
                split at hc
                · rename_i g l hg hl; injection hc with hc; injection hc with h3 h4; subst h3; subst h4; exact ⟨f0, a0, ats, hop, hg, hl⟩
                · cases hc
              | invoke r m => simp [cCall] at hc
              | builtin b => cases b <;> simp only [cCall] at hc <;> (repeat' split at hc) <;> simp at hc
            obtain ⟨f0, a0, ats, hop, hf0, ha0⟩ := hcase
            obtain ⟨as, bs, hv, has, hbs⟩ := (cO_sim hf0 R.env h1).inv_fn
            have hargs := cOs_sim ha0 R.env h2
            have hrun : (execOp a.eval o).run P s.w = .ok (.enter g' (as ++ a0.map a.eval ++ bs)) s.w := by
              simp only [execOp, hop, resolve, hv, Deferred.ofValue, pure_bind, invoke]
              exact hcall _ _
            have hall : All2 (RV s) (as ++ a0.map a.eval ++ bs).toList (fst ++ ds ++ caps) := by
              simpa using (has.append hargs).append hbs
            unfold Oper.wp
            rw [hrun]
            show Calls P g' _ s.w _
            refine (hcon s _ R.heap hall).mono ?_
            rintro e' w' ⟨v, d, h', s', rfl, rfl, hx, H', hvd, hq⟩
            exact hK s' _ h' _ hx (put_sim R hdst hx H' hvd) hq
          · exact hr.elim
        · rename_i hnc
          have hk : (match evOp (get e) h s.next ao with | some (d, h') => K (put o.dst d e) h' | none => False) ∨ (eqN0 ao (get e) ∧ ∀ b, K (put o.dst (.bool b) e) h) := by
            cases hmk : makes ao with
            | true => rw [hmk] at hr; exact .inl (hr s.next (R.heap.fresh R.heap.next_free))
            | false =>
              rw [hmk] at hr
              rw [key_any hmk s.next 0]
              simp only [Bool.false_eq_true, if_false] at hr
              split at hr
              · exact .inl hr
              · exact .inr hr
          rcases hk with hk | ⟨⟨g0, x0, sz, c, rfl, hx0⟩, hk⟩
          · split at hk
            · rename_i d h' hev
              obtain ⟨v, s', hrun, hx, H', hvd, _⟩ := op_sim hao (fun f l h => hnc f l h) R.heap R.heap.next_free R.env hev
              unfold Oper.wp
              rcases hrun with hrun | ⟨hrun, hv⟩
              · rw [hrun]; exact hK s' _ h' _ hx (put_sim R hdst hx H' hvd) hk
              · rw [hrun]; subst hv; exact hK s' _ h' _ hx (put_sim R hdst hx H' hvd) hk
            · exact hk.elim
          · obtain ⟨b0, t0, x1, y1, u1, hop⟩ := cOp_eqN hao
            obtain ⟨b, hrun⟩ := sim_eqN0 hop (by rw [← hop]; exact hao) R.env hx0
            unfold Oper.wp
            rw [hrun]
            exact hK s _ h _ (.refl _) (put_sim R hdst (.refl _) R.heap (.pure (.bool b))) (hk b)
      unfold Wins at hw
      unfold Region.wanted
      cases hgo : o.guard with
      | none =>
        rw [hgo] at hg
        simp [cGuard] at hg
        subst hg
        simpa using run hw
      | some jw =>
        obtain ⟨j, want⟩ := jw
        rw [hgo] at hg
        simp only [cGuard] at hg
        split at hg
        · rename_i oj hj
          split at hg
          · rename_i t ht
            injection hg with hg; subst hg
            simp only at hw
            split at hw
            · rename_i b hb
              have htm := tmps_get R.env hb
              have hj' : ops[j]? = some oj := by simpa using hj
              have hy : yielded ops a.tmps j = some b := by simp [yielded, hj', ht, htm]
              simp only [hy]
              by_cases hbw : b = want
              · rw [if_pos hbw] at hw
                subst hbw
                simpa using run hw
              · rw [if_neg hbw] at hw
                have : (some b == some want) = false := by simpa using hbw
                rw [this]
                simpa using hK s _ h _ (.refl s) (put_sim R hdst (.refl s) R.heap rv_undef) hw
            · rename_i vs hb
              have htm := tmps_tup R.env hb
              obtain ⟨cs, htm⟩ := htm
              have hj' : ops[j]? = some oj := by simpa using hj
              have hy : yielded ops a.tmps j = none := by
                rcases htm with htm | htm <;> simp [yielded, hj', ht, htm]
              simp only [hy]
              have : ((none : Option Bool) == some want) = false := by simp
              rw [this]
              simpa using hK s _ h _ (.refl s) (put_sim R hdst (.refl s) R.heap rv_undef) hw
            · exact hw.elim
          · cases hg
        · cases hg
    · cases hi
  · cases hi

end Go.AM
