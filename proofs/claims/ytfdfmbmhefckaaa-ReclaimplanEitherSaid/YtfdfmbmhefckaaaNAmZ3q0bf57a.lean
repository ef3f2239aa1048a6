import Derived.Test.YtfdfmbmhefckaaaNAmNqddc28e
import Derived.LoopN
import Derived.Orders
import Derived.IntWalk
import Derived.OpenShut
import Derived.ProofKit
import Derived.ChangeOld
import Derived.ChangeArms
import Derived.Below
import Derived.Carry
section
/- Regions that draw their order, second part: the abstract run in the text's order stands for every order. Generic over the program. -/
set_option linter.unusedSimpArgs false
set_option linter.unusedVariables false
namespace Go.AM
open Classical
def guardV (g : Option (Nat × Bool)) (e : Look) : Option Bool :=
  match g with
  | none => some true
  | some (t, want) => match e t with | some (.bool b) => some (b == want) | some (.tup _) => some false | _ => none
def hidF (N n : Nat) (b : List Nat) (i : Nat) : Nat → Bool := fun k => decide (N ≤ k) && decide (k < N + n) && !(k == N + i) && !(b.contains (k - N))
def PC (P : Program) (h : Heap) (ds : List D) (g : Nat) (r : D) : Prop := ∃ ds', All2 (Rd h) ds ds' ∧ PCon P g ds' r
noncomputable def dRes (P : Program) (N n : Nat) (rs : Nat → D) (i : Nat) (b : List Nat) (o : AIns) (e : Look) (h : Heap) : Option (D × Heap) :=
  match guardV o.guard e with
  | none => none
  | some false => some (.tup [], h)
  | some true =>
    match o.op with
    | .call f args => match evO e f, evOs e args with
      | some (.fn g fst caps), some ds => if PC P (hide (hidF N n b i) h) (fst ++ ds ++ caps) g (rs i) then some (thaw (N + i) (rs i), thawH (N + i) (rs i) h) else none
      | _, _ => none
    | op => match evOp e (hide (hidF N n b i) h) (N + i) op with | some (d, h1) => some (d, unhide (hidF N n b i) h h1) | none => none
theorem guardV_set {o : AIns} {e e' : Look} (hu : ∀ t ∈ usesI o, e' t = e t) : guardV o.guard e' = guardV o.guard e := by
  unfold guardV
  cases hg : o.guard with
  | none => rfl
  | some p =>
    obtain ⟨t, w⟩ := p
    simp only
    rw [hu t (by simp [usesI, hg])]
theorem dRes_set {P : Program} {N n : Nat} {rs : Nat → D} {i : Nat} {b : List Nat} {o : AIns} {e e' : Look} {h : Heap} (hu : ∀ t ∈ usesI o, e' t = e t) : dRes P N n rs i b o e' h = dRes P N n rs i b o e h := by
  unfold dRes
  rw [guardV_set hu]
  have hop : ∀ t ∈ usesOp o.op, e' t = e t := fun t ht => hu t (by simp [usesI, ht])
  split
  · rfl
  · rfl
  · split
    · rename_i f args hop'
      rw [hop'] at hop
      simp only [usesOp, List.mem_append] at hop
      rw [evO_set (fun t ht => hop t (.inl ht)), evOs_set (fun t ht => hop t (.inr ht))]
    · rw [evOp_set hop]
theorem hid_own {N n i : Nat} {b : List Nat} : hidF N n b i (N + i) = false := by simp [hidF]
theorem hid_other {N n i j : Nat} {b : List Nat} (hj : j < n) (hne : j ≠ i) (hb : j ∉ b) : hidF N n b i (N + j) = true := by
  simp only [hidF, Nat.add_sub_cancel_left, Bool.and_eq_true, decide_eq_true_eq, Bool.not_eq_true', beq_eq_false_iff_ne]
  refine ⟨⟨⟨by omega, by omega⟩, by omega⟩, ?_⟩
  simpa using hb
def mayX (x y : AOp) : Bool :=
  match cls x, cls y with
  | 0, _ => true
  | _, 0 => true
  | 1, 1 => true
  | 1, 2 => true
  | 1, 4 => true
  | 2, _ => true
  | 3, 2 => true
  | 4, 1 => true
  | 4, 2 => true
  | 4, 4 => true
  | _, _ => false
inductive DKind (P : Program) (N n : Nat) (rs : Nat → D) (i : Nat) (b : List Nat) (o : AIns) (e : Look) : Heap → D → Heap → Prop
  | still (h : Heap) (d : D) (hall : ∀ h2, dRes P N n rs i b o e h2 = some (d, h2)) : DKind P N n rs i b o e h d h
  | reads (h : Heap) (d : D) (hc : cls o.op = 1 ∨ cls o.op = 4) (hall : ∀ h2, hide (hidF N n b i) h2 = hide (hidF N n b i) h → dRes P N n rs i b o e h2 = some (d, h2)) : DKind P N n rs i b o e h d h
  | makes (h : Heap) (d : D) (c : List D) (hc : cls o.op = 2) (hall : ∀ h2, dRes P N n rs i b o e h2 = some (d, upd h2 (N + i) c)) : DKind P N n rs i b o e h d (upd h (N + i) c)
  | owns (h : Heap) (d : D) (c : List D) (hc : cls o.op = 4) (hall : ∀ h2, hide (hidF N n b i) h2 = hide (hidF N n b i) h → dRes P N n rs i b o e h2 = some (d, upd h2 (N + i) c)) : DKind P N n rs i b o e h d (upd h (N + i) c)
  | writes (h : Heap) (d : D) (g : Heap) (hc : cls o.op = 3) (hall : ∀ h2, hide (hidF N n b i) h2 = hide (hidF N n b i) h → dRes P N n rs i b o e h2 = some (d, unhide (hidF N n b i) h2 g)) :
      DKind P N n rs i b o e h d (unhide (hidF N n b i) h g)
theorem dRes_kind {P : Program} {N n : Nat} {rs : Nat → D} {i : Nat} {b : List Nat} {o : AIns} {e : Look} {h h1 : Heap} {d : D} (hr : dRes P N n rs i b o e h = some (d, h1)) : DKind P N n rs i b o e h d h1 := by
  have hr0 := hr
  unfold dRes at hr
  split at hr
  · cases hr
  · rename_i hg
    injection hr with hr; injection hr with h2 h3; subst h2; subst h3
    exact .still h _ (fun h2 => by unfold dRes; rw [hg])
  · rename_i hg
    split at hr
    · rename_i f args hop
      split at hr
      · rename_i g fst caps ds h2 h3
        split at hr
        · rename_i hpc
          injection hr with hr; injection hr with h4 h5; subst h4; subst h5
          cases how : owOf (rs i) with
          | none =>
            rw [thawH_none how]
            refine .reads h _ (.inr (by rw [hop]; rfl)) (fun h2' hh => ?_)
            unfold dRes
            rw [hg, hop]
            simp only [h2, h3, hh, if_pos hpc, thawH_none how]
          | some c =>
            rw [thawH_some how]
            refine .owns h _ c (by rw [hop]; rfl) (fun h2' hh => ?_)
            unfold dRes
            rw [hg, hop]
            simp only [h2, h3, hh, if_pos hpc, thawH_some how]
        · cases hr
      · cases hr
    · rename_i hnc
      split at hr
      · rename_i d1 h2 hev
        injection hr with hr; injection hr with h4 h5; subst h4; subst h5
        have hcl : cls o.op = 0 ∨ cls o.op = 1 ∨ cls o.op = 2 ∨ cls o.op = 3 ∨ cls o.op = 4 := by cases o.op <;> simp [cls]
        have hdr : ∀ h' d' g', evOp e (hide (hidF N n b i) h') (N + i) o.op = some (d', g') → dRes P N n rs i b o e h' = some (d', unhide (hidF N n b i) h' g') := by
          intro h' d' g' hh
          unfold dRes
          rw [hg]
          simp only
          clear hcl hev hr0
          cases hop : o.op <;> rw [hop] at hh <;> first | exact absurd hop (hnc _ _) | simp only [hh]
        rcases hcl with hc | hc | hc | hc | hc
        · obtain ⟨rfl, hall⟩ := cls0 hc hev
          rw [unhide_hide]
          exact .still h _ (fun h2 => by have := hdr h2 _ _ (hall (hide (hidF N n b i) h2) (N + i)); rwa [unhide_hide] at this)
        · have h0 := (cls1 hc hev).1
          subst h0
          rw [unhide_hide]
          exact .reads h _ (.inl hc) (fun h2 hh => by have := hdr h2 _ _ (by rw [hh]; exact hev); rwa [← hh, unhide_hide] at this)
        · obtain ⟨c, rfl, hall⟩ := cls2 hc hev
          rw [unhide_upd hid_own]
          exact .makes h _ c hc (fun h2 => by have := hdr h2 _ _ (hall (hide (hidF N n b i) h2)); rwa [unhide_upd hid_own] at this)
        · exact .writes h _ h2 hc (fun h2' hh => hdr h2' _ _ (by rw [hh]; exact hev))
        · cases hop : o.op <;> rw [hop] at hc <;> simp [cls] at hc
          exact absurd hop (hnc _ _)
      · cases hr
theorem dRes_swap {P : Program} {N n : Nat} {rs : Nat → D} {y i : Nat} {by' bi : List Nat} {oy oi : AIns} {e : Look} {h h1 h2 : Heap} {dy di : D} (hy : y < n) (hi : i < n) (hne : y ≠ i) (hyb : y ∉ bi) (hib : i ∉ by')
    (hm : mayX oy.op oi.op = true) (r1 : dRes P N n rs y by' oy e h = some (dy, h1)) (r2 : dRes P N n rs i bi oi e h1 = some (di, h2)) :
    ∃ h1', dRes P N n rs i bi oi e h = some (di, h1') ∧ dRes P N n rs y by' oy e h1' = some (dy, h2) := by
  have k1 := dRes_kind r1
  have k2 := dRes_kind r2
  have hY : hidF N n by' y (N + i) = true := hid_other hi (fun h => hne h.symm) hib
  have hI : hidF N n bi i (N + y) = true := hid_other hy hne hyb
  cases k1 with
  | still hall =>
    exact ⟨h2, r2, hall h2⟩
  | reads hc hall =>
    refine ⟨h2, r2, ?_⟩
    cases k2 with
    | still hall2 => exact r1
    | reads hc2 hall2 => exact r1
    | makes c hc2 hall2 => exact hall _ (hide_upd hY)
    | owns c hc2 hall2 => exact hall _ (hide_upd hY)
    | writes g hc2 hall2 => rcases hc with hc | hc <;> simp [mayX, hc, hc2] at hm
  | makes c hc hall =>
    cases k2 with
    | still hall2 => exact ⟨h, hall2 h, hall h⟩
    | reads hc2 hall2 => exact ⟨h, hall2 h (hide_upd hI).symm, hall h⟩
    | makes c2 hc2 hall2 =>
      refine ⟨upd h (N + i) c2, hall2 h, ?_⟩
      rw [hall]
      congr 2
      funext k
      simp only [upd]
      by_cases e1 : k = N + y <;> by_cases e2 : k = N + i
      · omega
      · simp [e1, hne]
      · simp [e2]; intro h; omega
      · simp [e1, e2]
    | owns c2 hc2 hall2 =>
      refine ⟨upd h (N + i) c2, hall2 h (hide_upd hI).symm, ?_⟩
      rw [hall]
      congr 2
      funext k
      simp only [upd]
      by_cases e1 : k = N + y <;> by_cases e2 : k = N + i
      · omega
      · simp [e1, hne]
      · simp [e2]; intro h; omega
      · simp [e1, e2]
    | writes g hc2 hall2 =>
      refine ⟨unhide (hidF N n bi i) h g, hall2 h (hide_upd hI).symm, ?_⟩
      rw [hall, unhide_upd_out hI]
  | owns c hc hall =>
    cases k2 with
    | still hall2 => exact ⟨h, hall2 h, r1⟩
    | reads hc2 hall2 => exact ⟨h, hall2 h (hide_upd hI).symm, r1⟩
    | makes c2 hc2 hall2 =>
      refine ⟨upd h (N + i) c2, hall2 h, ?_⟩
      rw [hall _ (hide_upd hY)]
      congr 2
      funext k
      simp only [upd]
      by_cases e1 : k = N + y <;> by_cases e2 : k = N + i
      · omega
      · simp [e1, hne]
      · simp [e2]; intro h; omega
      · simp [e1, e2]
    | owns c2 hc2 hall2 =>
      refine ⟨upd h (N + i) c2, hall2 h (hide_upd hI).symm, ?_⟩
      rw [hall _ (hide_upd hY)]
      congr 2
      funext k
      simp only [upd]
      by_cases e1 : k = N + y <;> by_cases e2 : k = N + i
      · omega
      · simp [e1, hne]
      · simp [e2]; intro h; omega
      · simp [e1, e2]
    | writes g hc2 hall2 => simp [mayX, hc, hc2] at hm
  | writes g hc hall =>
    cases k2 with
    | still hall2 => exact ⟨h, hall2 h, r1⟩
    | reads hc2 hall2 => rcases hc2 with hc2 | hc2 <;> simp [mayX, hc, hc2] at hm
    | makes c2 hc2 hall2 =>
      refine ⟨upd h (N + i) c2, hall2 h, ?_⟩
      rw [hall _ (hide_upd hY), unhide_upd_out hY]
    | owns c2 hc2 hall2 => simp [mayX, hc, hc2] at hm
    | writes g2 hc2 hall2 => simp [mayX, hc, hc2] at hm
/-! ### A region's run in a given order -/
noncomputable def dRun (P : Program) (N n : Nat) (rs : Nat → D) (ops : List AIns) (bef : List (List Nat)) : List Nat → Look → Heap → Option (Look × Heap)
  | [], e, h => some (e, h)
  | i :: r, e, h => match ops[i]?, bef[i]? with
    | some o, some b => (match dRes P N n rs i b o e h with | some (d, h1) => dRun P N n rs ops bef r (setL o.dst d e) h1 | none => none)
    | _, _ => none
def slotsX (x y : AIns) : Bool :=
  (match x.dst with | some t => !((usesI y).contains t) && !(y.dst == some t) | none => true) && (match y.dst with | some t => !((usesI x).contains t) | none => true)
def okDraw (ops : List AIns) (bef : List (List Nat)) : Bool :=
  (List.range ops.length).all fun i => (List.range i).all fun y =>
    match ops[i]?, ops[y]?, bef[i]?, bef[y]? with
    | some oi, some oy, some bi, some by' => bi.contains y || (!(by'.contains i) && slotsX oy oi && mayX oy.op oi.op)
    | _, _, _, _ => false
theorem okDraw_at {ops : List AIns} {bef : List (List Nat)} (hok : okDraw ops bef = true) {y i : Nat} (hy : y < i) (hi : i < ops.length) :
    ∃ oi oy bi by', ops[i]? = some oi ∧ ops[y]? = some oy ∧ bef[i]? = some bi ∧ bef[y]? = some by' ∧ (y ∈ bi ∨ (i ∉ by' ∧ slotsX oy oi = true ∧ mayX oy.op oi.op = true)) := by
  have h1 := List.all_eq_true.1 hok i (by simpa using hi)
  have h2 := List.all_eq_true.1 h1 y (by simpa using hy)
  split at h2
  · rename_i oi oy bi by' h3 h4 h5 h6
    refine ⟨oi, oy, bi, by', h3, h4, h5, h6, ?_⟩
    rcases Bool.or_eq_true_iff.1 h2 with h | h
    · left; simpa using h
    · right
      rw [Bool.and_eq_true, Bool.and_eq_true] at h
      exact ⟨by simpa using h.1.1, h.1.2, h.2⟩
  · cases h2
theorem setL_comm {x y : Option Nat} (d d' : D) (e : Look) (h : ∀ t, x = some t → y ≠ some t) : setL x d (setL y d' e) = setL y d' (setL x d e) := by
  funext t
  cases x <;> cases y <;> simp only [setL]
  rename_i a b
  have : a ≠ b := fun hab => h a rfl (by rw [hab])
  by_cases h1 : a = t <;> by_cases h2 : b = t <;> simp [h1, h2]
  omega
theorem dRun_first {P : Program} {N : Nat} {rs : Nat → D} {ops : List AIns} {bef : List (List Nat)} (hok : okDraw ops bef = true) {i : Nat} (hi : i < ops.length) {bi : List Nat} (hbi : bef[i]? = some bi) :
    ∀ (l1 : List Nat) (l2 : List Nat) (e : Look) (h : Heap) (fin : Look × Heap), (∀ y ∈ l1, y < i ∧ y ∉ bi) →
      dRun P N ops.length rs ops bef (l1 ++ i :: l2) e h = some fin → dRun P N ops.length rs ops bef (i :: (l1 ++ l2)) e h = some fin
  | [], l2, e, h, fin, _, hr => hr
  | y :: l1, l2, e, h, fin, hl, hr => by
    obtain ⟨hyi, hyb⟩ := hl y (by simp)
    obtain ⟨oi, oy, bi', by', h1, h2, h3, h4, h5⟩ := okDraw_at hok hyi hi
    rw [hbi] at h3
    injection h3 with h3
    subst h3
    rcases h5 with h5 | ⟨hib, hsl, hmx⟩
    · exact absurd h5 hyb
    · simp only [List.cons_append, dRun, h2, h4] at hr
      split at hr
      · rename_i dy g1 hry
        have ih := dRun_first hok hi hbi l1 l2 (setL oy.dst dy e) g1 fin (fun z hz => hl z (by simp [hz])) hr
        simp only [dRun, h1, hbi] at ih
        split at ih
        · rename_i di g2 hri
          simp only [slotsX, Bool.and_eq_true] at hsl
          have hirr : ∀ t ∈ usesI oi, setL oy.dst dy e t = e t := by
            intro t ht
            cases hd : oy.dst with
            | none => rfl
            | some t0 =>
              have := hsl.1
              rw [hd] at this
              simp only [Bool.and_eq_true, Bool.not_eq_true'] at this
              simp only [setL]
              rw [if_neg]
              rintro rfl
              have h8 := this.1
              simp [ht] at h8
          rw [dRes_set hirr] at hri
          obtain ⟨g1', r1, r2⟩ := dRes_swap (by omega) hi (by omega) hyb hib hmx hry hri
          have hirr2 : ∀ t ∈ usesI oy, setL oi.dst di e t = e t := by
            intro t ht
            cases hd : oi.dst with
            | none => rfl
            | some t0 =>
              have := hsl.2
              rw [hd] at this
              simp only [Bool.not_eq_true'] at this
              simp only [setL]
              rw [if_neg]
              rintro rfl
              simp [ht] at this
          have hcomm : setL oi.dst di (setL oy.dst dy e) = setL oy.dst dy (setL oi.dst di e) := by
            refine setL_comm _ _ _ (fun t ht hy0 => ?_)
            have := hsl.1
            rw [hy0] at this
            simp only [Bool.and_eq_true, Bool.not_eq_true'] at this
            have h9 := this.2
            rw [ht] at h9
            simp at h9
          rw [hcomm] at ih
          simp only [dRun, h1, hbi, r1, List.cons_append, h2, h4]
          rw [dRes_set hirr2, r2]
          exact ih
        · cases ih
      · cases hr
end Go.AM
end
section
/- The abstract machine's code: the compiler, the meaning, and the theorem that the model's code does what it says. Generic over the program. -/
set_option linter.unusedSimpArgs false
set_option linter.unusedVariables false
namespace Go.AM
open Classical
/-! ### A drawn region -/
def normL : List Nat → Look → Env
  | [], _ => []
  | t :: r, e => match e t with | some d => (t, d) :: normL r e | none => normL r e
theorem RE.normL {s : Sg} {e : Look} {tmps : Array Value} (h : RE s e tmps) (keep : List Nat) : RE s (get (normL keep e)) tmps := by
  intro t d hd
  induction keep with
  | nil => simp [AM.normL, get] at hd
  | cons a r ih =>
    simp only [AM.normL] at hd
    cases hg : e a with
    | none => rw [hg] at hd; exact ih hd
    | some x =>
      rw [hg] at hd
      simp only [get] at hd
      by_cases hat : a = t
      · rw [if_pos hat] at hd
        injection hd with hd
        subst hd; subst hat
        exact h _ _ hg
      · rw [if_neg hat] at hd; exact ih hd
structure RL (nt : Nat) (s : Sg) (e : Look) (h : Heap) (a : Act) : Prop where
  heap : RH s h
  env : RE s e a.tmps
  size : a.tmps.size = nt
  defers : a.defers = []
theorem putL_sim {nt : Nat} {s : Sg} {e : Look} {h : Heap} {a : Act} (R : RL nt s e h a) {dst : Option Nat} (hd : dstOk nt dst = true) {s' : Sg} (hx : Ext s s') {h' : Heap} (H' : RH s' h') {v : Value} {d : D} (hv : RV s' v d) :
    RL nt s' (setL dst d e) h' (a.put dst v) := by
  cases dst with
  | none => exact ⟨H', R.env.mono hx, R.size, R.defers⟩
  | some t =>
    simp [dstOk] at hd
    refine ⟨H', (R.env.mono hx).put (by rw [R.size]; exact hd) hv, ?_, R.defers⟩
    show (a.tmps.setIfInBounds t v).size = nt
    simpa using R.size
theorem callOf {P : Program} {o : Oper} {f : O} {args : List O} (hao : cOp P o.op = some (.call f args)) : ∃ f0 a0 ats, o.op = .call { callee := .value f0, args := a0, argTypes := ats } ∧ cO f0 = some f ∧ cOs a0.toList = some args := by
  obtain ⟨c, hop, hc⟩ := cOp_call hao
  obtain ⟨callee, a0, ats⟩ := c
  cases callee with
  | value f0 =>
    simp only [cCall] at hc
    split at hc
    · rename_i g l hg hl; injection hc with hc; injection hc with h3 h4; subst h3; subst h4; exact ⟨f0, a0, ats, hop, hg, hl⟩
    · cases hc
  | invoke r m => simp [cCall] at hc
  | builtin b => cases b <;> simp only [cCall] at hc <;> (repeat' split at hc) <;> simp at hc
theorem dins_sim {P : Program} {nt : Nat} {ops : Array Oper} {o : Oper} {ai : AIns} (hi : cIns P nt ops.toList o = some ai) {s : Sg} {e : Look} {h : Heap} {a : Act} (R : RL nt s e h a)
    {N n i : Nat} {b : List Nat} {rs : Nat → D} {d : D} {h1 : Heap} (hr : dRes P N n rs i b ai e h = some (d, h1)) (hkk : ¬ s.used (N + i)) (next : Act → World → Prop) (Q : Exit → Act → World → Prop)
    (hK : ∀ s' a', Ext s s' → (∀ k, s'.used k → s.used k ∨ k = N + i) → RL nt s' (setL ai.dst d e) h1 a' → next a' s'.w) :
    if Region.wanted o (yielded ops a.tmps) then o.wp P a s.w next Q else next (a.put o.dst undef) s.w := by
  unfold cIns at hi
  split at hi
  · rename_i g hg
    split at hi
    · rename_i hdst
      injection hi with hi; subst hi
      -- whether it is wanted
      have hgv : ∀ t : Bool, guardV g e = some t → Region.wanted o (yielded ops a.tmps) = t := by
        intro t ht
        unfold Region.wanted
        cases hgo : o.guard with
        | none =>
          rw [hgo] at hg
          simp [cGuard] at hg
          subst hg
          simp [guardV] at ht
          simpa using ht
        | some jw =>
          obtain ⟨j, want⟩ := jw
          rw [hgo] at hg
          simp only [cGuard] at hg
          split at hg
          · rename_i oj hj
            split at hg
            · rename_i t0 ht0
              injection hg with hg; subst hg
              simp only [guardV] at ht
              split at ht
              · rename_i b hb
                injection ht with ht
                have htm := tmps_get R.env hb
                have hj' : ops[j]? = some oj := by simpa using hj
                have hy : yielded ops a.tmps j = some b := by simp [yielded, hj', ht0, htm]
                simp only [hy]
                rw [← ht]
                cases b <;> cases want <;> rfl
              · rename_i vs hb
                injection ht with ht
                obtain ⟨cs, htm⟩ := tmps_tup R.env hb
                have hj' : ops[j]? = some oj := by simpa using hj
                have hy : yielded ops a.tmps j = none := by rcases htm with htm | htm <;> simp [yielded, hj', ht0, htm]
                simp only [hy]
                rw [← ht]
                rfl
              · cases ht
            · cases hg
          · cases hg
      unfold dRes at hr
      split at hr
      · cases hr
      · rename_i hgf
        rw [hgv false hgf]
        injection hr with hr; injection hr with h2 h3; subst h2; subst h3
        simpa using hK s _ (.refl s) (fun _ h => .inl h) (putL_sim R hdst (.refl s) R.heap rv_undef)
      · rename_i hgt
        rw [hgv true hgt]
        simp only [if_true]
        cases hao : cOp P o.op with
        | none => rw [hao] at hr; simp [evOp] at hr
        | some ao =>
        simp only [hao, Option.getD_some] at hr
        split at hr
        · rename_i ao0 f args
          split at hr
          · rename_i g' fst caps ds h2 h3
            split at hr
            · rename_i hpc
              injection hr with hr; injection hr with h4 h5; subst h4; subst h5
              obtain ⟨ds', hrd, hcall, hcon⟩ := hpc
              obtain ⟨f0, a0, ats, hop, hf0, ha0⟩ := callOf hao
              obtain ⟨as, bs, hv, has, hbs⟩ := (cO_sim hf0 R.env h2).inv_fn
              have hargs := cOs_sim ha0 R.env h3
              have hrun : (execOp a.eval o).run P s.w = .ok (.enter g' (as ++ a0.map a.eval ++ bs)) s.w := by
                simp only [execOp, hop, resolve, hv, Deferred.ofValue, pure_bind, invoke]
                exact hcall _ _
              have hall : All2 (RV s) (as ++ a0.map a.eval ++ bs).toList (fst ++ ds ++ caps) := by
                simpa using (has.append hargs).append hbs
              have hRo := (R.heap.toO).hide (hidF N n b i)
              have hall' : All2 (RP s.w (below s.w.heap.size)) (as ++ a0.map a.eval ++ bs).toList ds' := by
                refine ⟨hall.1.trans hrd.1, fun j v d' hv hd => ?_⟩
                have hlt : j < (fst ++ ds ++ caps).length := by
                  rcases Nat.lt_or_ge j (fst ++ ds ++ caps).length with h' | h'
                  · exact h'
                  · rw [hrd.1] at h'; simp [List.getElem?_eq_none h'] at hd
                have hdi := List.getElem?_eq_getElem hlt
                exact hrd.2 j _ d' hdi hd s v hRo (hall.2 j v _ hv hdi)
              unfold Oper.wp
              rw [hrun]
              show Calls P g' _ s.w _
              refine (hcon s.w _ hall').mono ?_
              rintro e' w' ⟨v, rfl, hsame, hsize, hso, hout⟩
              obtain ⟨s', rfl, hE, hus, hH, hvd⟩ := own_res R.heap hkk hsame hsize hso hout
              exact hK s' _ hE hus (putL_sim R hdst hE hH hvd)
            · cases hr
          · cases hr
        · rename_i hnc
          split at hr
          · rename_i d1 h2 hev
            injection hr with hr; injection hr with h4 h5; subst h4; subst h5
            obtain ⟨v, s', hrun, hx, H', hvd, hus⟩ := op_sim hao (fun f l h => hnc f l h) R.heap hkk R.env (evOp_hide hid_own hev)
            unfold Oper.wp
            rcases hrun with hrun | ⟨hrun, hv⟩
            · rw [hrun]; exact hK s' _ hx hus (putL_sim R hdst hx H' hvd)
            · rw [hrun]; subst hv; exact hK s' _ hx hus (putL_sim R hdst hx H' hvd)
          · cases hr
    · cases hi
  · cases hi
def edgesOf (o : Oper) : List Nat := (o.after.toList.filter (Region.binds .any)).map (·.on)
def befAt (bef : List (List Nat)) (i : Nat) : List Nat := (bef[i]?).getD []
def okBef (ops : List Oper) (bef : List (List Nat)) : Bool :=
  bef.length == ops.length && (List.range ops.length).all fun i =>
    match ops[i]? with
    | some o => (edgesOf o).all (fun j => decide (j < i)) && (befAt bef i).all fun x => (edgesOf o).any fun j => x == j || (befAt bef j).contains x
    | none => false
theorem okBef_at {ops : List Oper} {bef : List (List Nat)} (h : okBef ops bef = true) {i : Nat} {o : Oper} (ho : ops[i]? = some o) :
    (∀ j ∈ edgesOf o, j < i) ∧ ∀ x ∈ befAt bef i, ∃ j ∈ edgesOf o, x = j ∨ x ∈ befAt bef j := by
  simp only [okBef, Bool.and_eq_true] at h
  have hi : i < ops.length := by
    rcases Nat.lt_or_ge i ops.length with h' | h'
    · exact h'
    · simp [List.getElem?_eq_none h'] at ho
  have h1 := List.all_eq_true.1 h.2 i (by simpa using hi)
  rw [ho] at h1
  simp only [Bool.and_eq_true] at h1
  refine ⟨fun j hj => by simpa using List.all_eq_true.1 h1.1 j hj, fun x hx => ?_⟩
  have h2 := List.all_eq_true.1 h1.2 x hx
  obtain ⟨j, hj, h3⟩ := List.any_eq_true.1 h2
  refine ⟨j, hj, ?_⟩
  rcases Bool.or_eq_true_iff.1 h3 with h4 | h4
  · left; simpa using h4
  · right; simpa using h4
def rem (n : Nat) (listed : Array Bool) : List Nat := (List.range n).filter fun i => !(listed.getD i false)
theorem filter_split {p : Nat → Bool} : ∀ (n i : Nat), i < n → p i = true → ∃ l1 l2, (List.range n).filter p = l1 ++ i :: l2 ∧ (∀ y ∈ l1, y < i ∧ p y = true) ∧ (List.range n).filter (fun j => p j && !(j == i)) = l1 ++ l2 := by
  intro n
  induction n with
  | zero => intro i hi; omega
  | succ n ih =>
    intro i hi hp
    rw [List.range_succ, List.filter_append, List.filter_append]
    by_cases hin : i < n
    · obtain ⟨l1, l2, h1, h2, h3⟩ := ih i hin hp
      have hne : (n == i) = false := by simp; omega
      refine ⟨l1, l2 ++ [n].filter p, by rw [h1]; simp, h2, ?_⟩
      rw [h3]
      simp [List.filter_cons, hne]
    · obtain rfl : i = n := by omega
      refine ⟨(List.range i).filter p, [], by simp [hp], fun y hy => ?_, ?_⟩
      · have := List.mem_filter.1 hy
        exact ⟨by simpa using this.1, this.2⟩
      · simp only [List.append_nil]
        have e1 : [i].filter (fun j => p j && !(j == i)) = [] := by simp
        rw [e1, List.append_nil]
        apply List.filter_congr
        intro j hj
        have : j < i := by simpa using hj
        have hne : (j == i) = false := by simp; omega
        simp [hne]
theorem rem_set {n : Nat} {listed : Array Bool} (hs : listed.size = n) {i : Nat} (hi : i < n) : rem n (listed.setIfInBounds i true) = (List.range n).filter (fun j => !(listed.getD j false) && !(j == i)) := by
  unfold rem
  apply List.filter_congr
  intro j hj
  rw [Array.getD_eq_getD_getElem?, Array.getD_eq_getD_getElem?, Array.getElem?_setIfInBounds]
  by_cases h : i = j
  · subst h; simp [hs, hi]
  · have hne : (j == i) = false := by simp; omega
    simp [h, hne]
theorem cOps_at {P : Program} {nt : Nat} {all : List Oper} : ∀ {l : List Oper} {il : List AIns}, cOps P nt all l = some il → il.length = l.length ∧ ∀ (i : Nat) (o : Oper), l[i]? = some o → ∃ ai, il[i]? = some ai ∧ cIns P nt all o = some ai
  | [], il, h => by simp [cOps] at h; subst h; simp
  | o :: r, il, h => by
    simp only [cOps] at h
    split at h
    · rename_i ai l h1 h2
      injection h with h; subst h
      obtain ⟨h3, h4⟩ := cOps_at h2
      refine ⟨by simp [h3], ?_⟩
      intro i o' hi
      cases i with
      | zero => simp at hi; subst hi; exact ⟨ai, rfl, h1⟩
      | succ i => simp at hi; obtain ⟨a2, h5, h6⟩ := h4 i o' hi; exact ⟨a2, by simpa using h5, h6⟩
    · cases h
theorem dregion_any {P : Program} {nt : Nat} {ops : Array Oper} {il : List AIns} {bef : List (List Nat)} (hil : cOps P nt ops.toList ops.toList = some il) (hok : okDraw il bef = true) (hob : okBef ops.toList bef = true)
    {N : Nat} {rs : Nat → D} {fin : Look × Heap} {Q : Exit → Act → World → Prop} {s0 : Sg} (hQ : ∀ s' a', Ext s0 s' → RL nt s' fin.1 fin.2 a' → Q .normal a' s'.w) :
    ∀ (fuel : Nat) (listed : Array Bool) (s : Sg) (e : Look) (h : Heap) (a : Act), (rem ops.size listed).length ≤ fuel → listed.size = ops.size → (∀ i, listed.getD i false = true → ∀ k ∈ befAt bef i, listed.getD k false = true) → Ext s0 s →
      (∀ i, i < ops.size → listed.getD i false = false → ¬ s.used (N + i)) → RL nt s e h a → dRun P N ops.size rs il bef (rem ops.size listed) e h = some fin → wpAny P .any ops Q fuel listed a s.w := by
  obtain ⟨hlen, hat⟩ := cOps_at hil
  have hlen' : il.length = ops.size := by simpa using hlen
  have hblen : bef.length = ops.size := by
    simp only [okBef, Bool.and_eq_true] at hob
    simpa using hob.1
  -- readiness
  have ready_spec : ∀ (listed : Array Bool) (i : Nat), i ∈ Region.ready .any ops listed ↔ i < ops.size ∧ listed.getD i true = false ∧ ∃ o, ops[i]? = some o ∧ ∀ j ∈ edgesOf o, listed.getD j false = true := by
    intro listed i
    unfold Region.ready
    simp only [List.mem_filter, List.mem_range, Bool.and_eq_true, Bool.not_eq_true']
    constructor
    · rintro ⟨h1, h2, h3⟩
      refine ⟨h1, h2, ops[i], by simp [h1], fun j hj => ?_⟩
      simp [h1] at h3
      simp only [edgesOf, List.mem_map, List.mem_filter] at hj
      obtain ⟨ed, ⟨hm, hb⟩, rfl⟩ := hj
      obtain ⟨q, hq, hqe⟩ := Array.mem_iff_getElem.1 (Array.mem_toList_iff.1 hm)
      have := h3 q hq
      rw [hqe, hb] at this
      simpa using this
    · rintro ⟨h1, h2, o, ho, h3⟩
      refine ⟨h1, h2, ?_⟩
      rw [ho]
      simp only [Option.map_some, Option.getD_some, Array.all_eq_true]
      intro q hq
      by_cases hb : Region.binds .any o.after[q] = true
      · have := h3 o.after[q].on (by simp only [edgesOf, List.mem_map, List.mem_filter]; exact ⟨_, ⟨by simp, hb⟩, rfl⟩)
        simp [this]
      · simp [hb]
  have nil_done : ∀ (listed : Array Bool), listed.size = ops.size → Region.ready .any ops listed = [] → rem ops.size listed = [] := by
    intro listed hs hr
    -- the least one left would be ready
    have key : ∀ m, m ≤ ops.size → ∀ i, i < m → listed.getD i false = true := by
      intro m
      induction m with
      | zero => intro _ i hi; omega
      | succ m ih =>
        intro hm i hi
        have ih' := ih (by omega)
        by_cases him : i < m
        · exact ih' i him
        · obtain rfl : i = m := by omega
          cases hl : listed.getD i false with
          | true => rfl
          | false =>
            have hio : ops[i]? = some ops[i] := by simp
            have hr2 : i ∈ Region.ready .any ops listed := by
              rw [ready_spec]
              refine ⟨by omega, ?_, ops[i], hio, fun j hj => ih' j ((okBef_at hob (i := i) (o := ops[i]) (by rw [← hio]; simp)).1 j hj)⟩
              rw [Array.getD_eq_getD_getElem?] at hl ⊢
              have : i < listed.size := by omega
              simp [this] at hl ⊢
              exact hl
            rw [hr] at hr2
            cases hr2
    unfold rem
    rw [List.filter_eq_nil_iff]
    intro i hi
    simp [key ops.size (Nat.le_refl _) i (by simpa using hi)]
  intro fuel
  induction fuel with
  | zero =>
    intro listed s e h a hf hs hcl hx hfree R hrun
    have hnil : rem ops.size listed = [] := List.length_eq_zero_iff.1 (by omega)
    rw [hnil] at hrun
    simp [dRun] at hrun
    subst hrun
    refine ⟨?_, hQ s a hx R⟩
    cases hr : Region.ready .any ops listed with
    | nil => rfl
    | cons i r =>
      have hi := (ready_spec listed i).1 (by rw [hr]; simp)
      have hmem : i ∈ rem ops.size listed := by
        unfold rem
        simp only [List.mem_filter, List.mem_range]
        refine ⟨hi.1, ?_⟩
        have h2 := hi.2.1
        rw [Array.getD_eq_getD_getElem?] at h2 ⊢
        have : i < listed.size := by omega
        simp [this] at h2 ⊢
        exact h2
      rw [hnil] at hmem
      cases hmem
  | succ fuel ih =>
    intro listed s e h a hf hs hcl hx hfree R hrun
    refine ⟨fun hr => ?_, fun i hi => ?_⟩
    · rw [nil_done listed hs hr] at hrun
      simp [dRun] at hrun
      subst hrun
      exact hQ s a hx R
    · obtain ⟨hin, hnl, o, ho, hed⟩ := (ready_spec listed i).1 hi
      have hnl' : listed.getD i false = false := by
        rw [Array.getD_eq_getD_getElem?] at hnl ⊢
        have : i < listed.size := by omega
        simp [this] at hnl ⊢
        exact hnl
      obtain ⟨ai, hai, hci⟩ := hat i o (by simpa using ho)
      obtain ⟨l1, l2, hsp1, hsp2, hsp3⟩ := filter_split (p := fun j => !(listed.getD j false)) ops.size i hin (by simp only [hnl']; rfl)
      have hbi : bef[i]? = some (befAt bef i) := by
        unfold befAt
        have : i < bef.length := by omega
        simp [this]
      have hbl : ∀ x ∈ befAt bef i, listed.getD x false = true := by
        intro x hxm
        obtain ⟨j, hj, hjx⟩ := (okBef_at hob (by simpa using ho)).2 x hxm
        rcases hjx with rfl | hjx
        · exact hed x hj
        · exact hcl j (hed j hj) x hjx
      have hrun2 : dRun P N il.length rs il bef (i :: (l1 ++ l2)) e h = some fin := by
        refine dRun_first hok (by omega) hbi l1 l2 e h fin (fun y hy => ?_) (by rw [hlen', ← hsp1]; exact hrun)
        obtain ⟨h1, h2⟩ := hsp2 y hy
        refine ⟨h1, fun hyb => ?_⟩
        rw [hbl y hyb] at h2
        simp at h2
      rw [hlen'] at hrun2
      simp only [dRun, hai, hbi] at hrun2
      split at hrun2
      · rename_i d h1 hres
        unfold wpOp
        simp only [ho]
        have hrem : rem ops.size (listed.setIfInBounds i true) = l1 ++ l2 := by rw [rem_set hs hin]; exact hsp3
        have hlen2 : (rem ops.size (listed.setIfInBounds i true)).length ≤ fuel := by
          have : (rem ops.size listed).length = (l1 ++ l2).length + 1 := by show ((List.range ops.size).filter _).length = _; rw [hsp1]; simp; omega
          rw [hrem]; omega
        have hgetset : ∀ k, (listed.setIfInBounds i true).getD k false = true ↔ k = i ∨ listed.getD k false = true := by
          intro k
          rw [Array.getD_eq_getD_getElem?, Array.getD_eq_getD_getElem?, Array.getElem?_setIfInBounds]
          by_cases hk : i = k
          · subst hk; simp [hs, hin]
          · rw [if_neg hk]
            constructor
            · intro h; exact .inr h
            · rintro (h | h)
              · exact absurd h.symm hk
              · exact h
        have main := dins_sim hci R hres (hfree i hin hnl') (wpAny P .any ops Q fuel (listed.setIfInBounds i true)) Q (fun s' a' hx' hus R' => by
          refine ih (listed.setIfInBounds i true) s' (setL ai.dst d e) h1 a' hlen2 (by simp [hs]) ?_ (hx.trans hx') ?_ R' (by rw [hrem]; exact hrun2)
          · intro j hj k hk
            rw [hgetset] at hj ⊢
            right
            rcases hj with rfl | hj
            · exact hbl k hk
            · exact hcl j hj k hk
          · intro j hj hjl hju
            have hjn : ¬ (j = i ∨ listed.getD j false = true) := fun h => by rw [(hgetset j).2 h] at hjl; cases hjl
            rcases hus _ hju with h2 | h2
            · refine hfree j hj ?_ h2
              cases hh : listed.getD j false with
              | false => rfl
              | true => exact absurd (.inr hh) hjn
            · exact hjn (.inl (by omega)))
        split
        · rename_i hw; rw [if_pos hw] at main; exact .inl main
        · rename_i hw; rw [if_neg hw] at main; exact main
      · cases hrun2
end Go.AM
end
section
/- The abstract machine's code, second part: the compiler, the meaning, and the theorem that the model's code does what it says. Generic over the program. -/
set_option linter.unusedSimpArgs false
set_option linter.unusedVariables false
namespace Go.AM
open Classical
/-! ### Liveness -/
abbrev LS := List Nat
def ins (t : Nat) : LS → LS
  | [] => [t]
  | a :: r => if t < a then t :: a :: r else if t = a then a :: r else a :: ins t r
def uni : LS → LS → LS
  | [], b => b
  | a :: r, b => ins a (uni r b)
def liveIns (o : AIns) (out : LS) : LS := uni (usesI o) (match o.dst with | some t => out.filter (fun a => !(a == t)) | none => out)
def liveOps : List AIns → LS → LS
  | [], out => out
  | o :: r, out => liveIns o (liveOps r out)
def exOf (ex : List (Nat × LS)) (id : Nat) : LS := match ex with | [] => [] | (a, l) :: r => if a = id then l else exOf r id
def befOf (ops : List Oper) : List (List Nat) :=
  ops.foldl (fun acc o => acc ++ [(edgesOf o).foldl (fun l j => uni (ins j (befAt acc j)) l) []]) []
def compC (P : Program) (nt : Nat) : Code → LS → List (Nat × LS) → LS → Option (ACode × LS)
  | .skip, out, _, _ => some (.skip, out)
  | .region _ ops false, out, _, _ => match cOps P nt ops.toList ops.toList with | some il => some (.reg il out, liveOps il out) | none => none
  | .region _ ops true, out, _, _ => match cOps P nt ops.toList ops.toList with
    | some il => if okDraw il (befOf ops.toList) && okBef ops.toList (befOf ops.toList) then some (.dreg il (befOf ops.toList) out, liveOps il out) else none
    | none => none
  | .seq a b, out, ex, rt => match compC P nt b out ex rt with
    | some (B, lb) => (match compC P nt a lb ex rt with | some (A, la) => some (.seq A B, la) | none => none)
    | none => none
  | .cond c a b, out, ex, rt => match cO c, compC P nt a out ex rt, compC P nt b out ex rt with
    | some c', some (A, la), some (B, lb) => some (.cond c' la A lb B, uni (usesO c') (uni la lb))
    | _, _, _ => none
  | .block id c, out, ex, rt => match compC P nt c out ((id, out) :: ex) rt with | some (A, la) => some (.block id A, la) | none => none
  | .loop c, _, ex, rt => match compC P nt c [] ex rt with
    | some (_, l0) => (match compC P nt c l0 ex rt with
      | some (_, l1) => (match compC P nt c (uni l0 l1) ex rt with | some (A, l2) => some (.loop A, l2) | none => none)
      | none => none)
    | none => none
  | .exit id, _, ex, _ => some (.exit id, exOf ex id)
  | .ret, _, _, rt => some (.ret, rt)
  | _, _, _, _ => none
inductive ARes where
  | tmp (t : Nat)
  | cell (t : Nat) (agg : Bool) (n : Nat)
  deriving Inhabited
structure AFun where
  nt : Nat
  np : Nat
  results : List ARes
  code : ACode
  deriving Inhabited
def cRes (P : Program) : List ResultVar → Option (List ARes)
  | [] => some []
  | .tmp t :: r => match cRes P r with | some l => some (.tmp t :: l) | none => none
  | .cell a t :: r => match szOf P t, aggOf P t, cRes P r with | some n, some g, some l => if (g && 0 < n) || n == 1 then some (.cell a g n :: l) else none | _, _, _ => none
def resSlots : List ARes → LS
  | [] => []
  | .tmp t :: r => ins t (resSlots r)
  | .cell t _ _ :: r => ins t (resSlots r)
def compF (P : Program) (fn : Func) : Option AFun :=
  match fn.body, cRes P fn.results.toList with
  | some c, some rs => (match compC P fn.ntmps c (resSlots rs) [] (resSlots rs) with | some (A, _) => some { nt := fn.ntmps, np := fn.params.size + fn.nfree, results := rs, code := A } | none => none)
  | _, _ => none
/-! ### The meaning -/
inductive X where
  | normal
  | exit (id : Nat)
  | ret
def X.then (K : St → Prop) (Q : X → St → Prop) : X → St → Prop
  | .normal, st => K st
  | x, st => Q x st
def X.inBlock (id : Nat) (Q : X → St → Prop) : X → St → Prop
  | .exit j, st => if j = id then Q .normal st else Q (.exit j) st
  | x, st => Q x st
def iter (F : (X → St → Prop) → St → Prop) (Q : X → St → Prop) : Nat → St → Prop
  | 0, _ => False
  | n + 1, st => F (X.then (iter F Q n) Q) st
def W (P : Program) : ACode → (X → St → Prop) → St → Prop
  | .skip, Q, st => Q .normal st
  | .reg ops keep, Q, st => Wops P ops st.env st.heap fun e h => Q .normal ⟨norm keep e, h⟩
  | .dreg ops bef keep, Q, st => ∃ rs : Nat → D, ∀ N, (∀ k, N ≤ k → st.heap k = none) → ∃ fin : Look × Heap, dRun P N ops.length rs ops bef (List.range ops.length) (get st.env) st.heap = some fin ∧ Q .normal ⟨normL keep fin.1, fin.2⟩
  | .seq a b, Q, st => W P a (X.then (W P b Q) Q) st
  | .cond c ka a kb b, Q, st => match evO (get st.env) c with
    | some (.bool t) => (t = true → W P a Q ⟨norm ka st.env, st.heap⟩) ∧ (t = false → W P b Q ⟨norm kb st.env, st.heap⟩)
    | _ => False
  | .block id c, Q, st => W P c (X.inBlock id Q) st
  | .loop c, Q, st => ∃ n, iter (fun Q' st' => W P c Q' st') Q n st
  | .exit id, Q, st => Q (.exit id) st
  | .ret, Q, st => Q .ret st
def toExit : X → Exit
  | .normal => .normal
  | .exit id => .exit id
  | .ret => .ret
def SimQ (nt : Nat) (s : Sg) (Q : X → St → Prop) : Exit → Act → World → Prop := fun x a w =>
  ∃ x' st s', x = toExit x' ∧ s'.w = w ∧ Ext s s' ∧ RS nt s' st.env st.heap a ∧ Q x' st
theorem SimQ.ext {nt : Nat} {s s' : Sg} (h : Ext s s') {Q : X → St → Prop} {x : Exit} {a : Act} {w : World} (hq : SimQ nt s' Q x a w) : SimQ nt s Q x a w := by
  obtain ⟨x', st, s2, h1, h2, h3, h4, h5⟩ := hq
  exact ⟨x', st, s2, h1, h2, h.trans h3, h4, h5⟩
theorem SimQ.mk {nt : Nat} {s : Sg} {Q : X → St → Prop} {x : X} {st : St} {a : Act} (R : RS nt s st.env st.heap a) (h : Q x st) : SimQ nt s Q (toExit x) a s.w := ⟨x, st, s, rfl, rfl, .refl s, R, h⟩
theorem RS.norm {nt : Nat} {s : Sg} {e : Env} {h : Heap} {a : Act} (R : RS nt s e h a) (keep : List Nat) : RS nt s (AM.norm keep e) h a := ⟨R.heap, R.env.norm keep, R.size, R.defers⟩
theorem ops_sim {P : Program} {nt : Nat} {ops : Array Oper} {Q : Exit → Act → World → Prop} : ∀ (l : List Oper) (k : Nat) (il : List AIns), ops.toList.drop k = l → cOps P nt ops.toList l = some il →
    ∀ (s : Sg) (e : Env) (h : Heap) (a : Act) (K : Env → Heap → Prop), RS nt s e h a → Wops P il e h K → (∀ s' e' h' a', Ext s s' → RS nt s' e' h' a' → K e' h' → Q .normal a' s'.w) → wpOps P ops Q (List.range' k l.length) a s.w
  | [], k, il, _, hc, s, e, h, a, K, R, hw, hQ => by
    simp [cOps] at hc; subst hc
    exact hQ s e h a (.refl s) R hw
  | o :: r, k, il, hd, hc, s, e, h, a, K, R, hw, hQ => by
    simp only [cOps] at hc
    split at hc
    · rename_i ai l h1 h2
      injection hc with hc; subst hc
      have hk : ops[k]? = some o := by
        have : (ops.toList.drop k)[0]? = some o := by rw [hd]; rfl
        rw [List.getElem?_drop] at this
        simpa using this
      have hdr : ops.toList.drop (k + 1) = r := by
        rw [← List.drop_drop, hd]
        rfl
      simp only [List.length_cons, List.range'_succ, wpOps, hk]
      have main := ins_sim h1 R hw (wpOps P ops Q (List.range' (k + 1) r.length)) Q (fun s' e' h' a' hx R' hK => by
        exact ops_sim r (k + 1) l hdr h2 s' e' h' a' K R' hK (fun s2 e2 h2 a2 hx2 R2 hK2 => hQ s2 e2 h2 a2 (hx.trans hx2) R2 hK2))
      split
      · rename_i hwt; rw [if_pos hwt] at main; exact .inl main
      · rename_i hwt; rw [if_neg hwt] at main; exact main
    · cases hc
theorem rounds_mono {P : Program} {c : Code} {Q Q' : Exit → Act → World → Prop} (hq : ∀ e a w, Q e a w → Q' e a w) : ∀ (n : Nat) (a : Act) (w : World), Code.rounds P c Q n a w → Code.rounds P c Q' n a w
  | 0, _, _, h => h
  | n + 1, a, w, h => by
    rw [rounds_succ] at h ⊢
    refine wp_mono h (fun e a' w' he => ?_)
    cases e with
    | normal => exact rounds_mono hq n a' w' he
    | exit j => exact hq _ _ _ he
    | goto l => exact hq _ _ _ he
    | ret => exact hq _ _ _ he
    | panic c => exact hq _ _ _ he
    | outgrown => exact hq _ _ _ he
theorem code_sim {P : Program} {nt : Nat} (hm : P.follows .mixedOrders = true) : ∀ (c : Code) (out : LS) (ex : List (Nat × LS)) (rt : LS) (A : ACode) (l : LS), compC P nt c out ex rt = some (A, l) →
    ∀ (Q : X → St → Prop) (st : St) (s : Sg) (a : Act), W P A Q st → RS nt s st.env st.heap a → c.wp P (SimQ nt s Q) a s.w := by
  intro c
  induction c with
  | skip =>
    intro out ex rt A l hc Q st s a hw R
    simp [compC] at hc; obtain ⟨rfl, rfl⟩ := hc
    exact wp_skip (SimQ.mk R hw)
  | region id ops draw =>
    intro out ex rt A l hc Q st s a hw R
    cases draw with
    | false =>
      simp only [compC] at hc
      split at hc
      · rename_i il hil
        simp at hc; obtain ⟨rfl, rfl⟩ := hc
        refine wp_region ?_
        rw [List.range_eq_range', ← Array.length_toList]
        exact ops_sim ops.toList 0 il (by simp) hil s st.env st.heap a _ R hw (fun s' e' h' a' hx R' hK => SimQ.ext hx (SimQ.mk (x := .normal) (st := ⟨AM.norm out e', h'⟩) (R'.norm out) hK))
      · cases hc
    | true =>
      simp only [compC] at hc
      split at hc
      · rename_i il hil
        split at hc
        · rename_i hok
          simp at hc; obtain ⟨rfl, rfl⟩ := hc
          simp only [Bool.and_eq_true] at hok
          obtain ⟨rs, hw⟩ := hw
          obtain ⟨fin, hrun, hq⟩ := hw s.next (fun k hk => R.heap.fresh (fun hu => by have := R.heap.bound k hu; omega))
          refine wp_region_any hm ?_
          -- the draw moves a count on
          let s1 : Sg := { w := { s.w with drawn := s.w.drawn + 1 }, ρ := s.ρ, prot := s.prot, used := s.used, next := s.next }
          have hx1 : Ext s s1 := ⟨Nat.le_refl _, fun _ h => h, Nat.le_refl _, fun _ h => ⟨h, rfl⟩, fun _ _ _ h => h, fun _ _ _ cs _ _ _ h => ⟨cs, h, rfl⟩, ⟨rfl, rfl, rfl⟩⟩
          have hH1 : RH s1 st.heap := ⟨R.heap.lt, R.heap.inj, R.heap.dead, R.heap.bound, fun k c hk => by
            obtain ⟨hu, x, hx, hxn, hb⟩ := R.heap.own k c hk
            refine ⟨hu, x, hx, hxn, fun b hbx => ?_⟩
            obtain ⟨h1, cs, el, h2, h3, h4⟩ := hb b hbx
            exact ⟨h1, cs, el, h2, h3, h4.mono fun _ _ h => h.mono hx1⟩⟩
          have hlen : il.length = ops.size := by simpa using (cOps_at hil).1
          rw [hlen] at hrun
          have hrem0 : rem ops.size (Array.replicate ops.size false) = List.range ops.size := by
            unfold rem
            rw [List.filter_eq_self]
            intro i hi
            simp [Array.getD_eq_getD_getElem?, Array.getElem?_replicate]
            split <;> simp
          refine dregion_any hil hok.1 hok.2 (N := s.next) (rs := rs) (fin := fin) (s0 := s1) (fun s' a' hx R' => SimQ.ext (hx1.trans hx) (SimQ.mk (x := .normal) (st := ⟨normL out fin.1, fin.2⟩) ⟨R'.heap, R'.env.normL out, R'.size, R'.defers⟩ hq))
            ops.size _ s1 (get st.env) st.heap a ?_ (by simp) ?_ (.refl s1) ?_ ⟨hH1, R.env.mono hx1, R.size, R.defers⟩ (by rw [hrem0]; exact hrun)
          · rw [hrem0]; simp
          · intro i hi
            simp [Array.getD_eq_getD_getElem?, Array.getElem?_replicate] at hi
            split at hi <;> simp at hi
          · intro i _ _ hu
            have := R.heap.bound _ hu
            omega
        · cases hc
      · cases hc
  | seq x y ihx ihy =>
    intro out ex rt A l hc Q st s a hw R
    simp only [compC] at hc
    split at hc
    · rename_i B lb hB
      split at hc
      · rename_i A' la hA
        simp at hc; obtain ⟨rfl, rfl⟩ := hc
        refine wp_seq (wp_mono (ihx lb ex rt A' _ hA _ st s a hw R) ?_)
        rintro e a' w' ⟨x', st', s', rfl, rfl, hx, R', hq⟩
        cases x' with
        | normal => exact wp_mono (ihy out ex rt B lb hB Q st' s' a' hq R') (fun _ _ _ h => SimQ.ext hx h)
        | exit id => exact SimQ.ext hx (SimQ.mk (x := .exit id) R' hq)
        | ret => exact SimQ.ext hx (SimQ.mk (x := .ret) R' hq)
      · cases hc
    · cases hc
  | cond c x y ihx ihy =>
    intro out ex rt A l hc Q st s a hw R
    simp only [compC] at hc
    split at hc
    · rename_i c' A' la B lb h1 h2 h3
      simp at hc; obtain ⟨rfl, rfl⟩ := hc
      simp only [W] at hw
      split at hw
      · rename_i t ht
        have hv := (cO_sim h1 R.env ht).inv_bool
        refine wp_cond_split hv (fun h => ihx out ex rt A' la h2 Q _ s a (hw.1 h) (R.norm la)) (fun h => ihy out ex rt B lb h3 Q _ s a (hw.2 h) (R.norm lb))
      · exact hw.elim
    · cases hc
  | block id x ihx =>
    intro out ex rt A l hc Q st s a hw R
    simp only [compC] at hc
    split at hc
    · rename_i A' la hA
      simp at hc; obtain ⟨rfl, rfl⟩ := hc
      refine wp_block (wp_mono (ihx out _ rt A' _ hA _ st s a hw R) ?_)
      rintro e a' w' ⟨x', st', s', rfl, rfl, hx, R', hq⟩
      cases x' with
      | normal => exact SimQ.ext hx (SimQ.mk (x := .normal) R' hq)
      | exit j =>
        simp only [toExit, Exit.inBlock]
        simp only [X.inBlock] at hq
        split
        · rename_i hj; rw [if_pos hj] at hq; exact SimQ.ext hx (SimQ.mk (x := .normal) R' hq)
        · rename_i hj; rw [if_neg hj] at hq; exact SimQ.ext hx (SimQ.mk (x := .exit j) R' hq)
      | ret => exact SimQ.ext hx (SimQ.mk (x := .ret) R' hq)
    · cases hc
  | loop x ihx =>
    intro out ex rt A l hc Q st s a hw R
    simp only [compC] at hc
    split at hc
    · split at hc
      · split at hc
        · rename_i A' l2 hA
          simp at hc; obtain ⟨rfl, rfl⟩ := hc
          obtain ⟨n, hn⟩ := hw
          refine wp_loop_rounds n ?_
          have key : ∀ (n : Nat) (st : St) (s : Sg) (a : Act), iter (fun Q' st' => W P A' Q' st') Q n st → RS nt s st.env st.heap a → Code.rounds P x (SimQ nt s Q) n a s.w := by
            intro n
            induction n with
            | zero => intro st s a h _; exact h.elim
            | succ n ih =>
              intro st s a h R
              rw [rounds_succ]
              refine wp_mono (ihx _ ex rt A' _ hA (X.then (iter (fun Q' st' => W P A' Q' st') Q n) Q) st s a h R) ?_
              rintro e a' w' ⟨x', st', s', rfl, rfl, hx, R', hq⟩
              cases x' with
              | normal => exact rounds_mono (fun _ _ _ h => SimQ.ext hx h) n _ _ (ih st' s' a' hq R')
              | exit j => exact SimQ.ext hx (SimQ.mk (x := .exit j) R' hq)
              | ret => exact SimQ.ext hx (SimQ.mk (x := .ret) R' hq)
          exact key n st s a hn R
        · cases hc
      · cases hc
    · cases hc
  | exit id =>
    intro out ex rt A l hc Q st s a hw R
    simp [compC] at hc; obtain ⟨rfl, rfl⟩ := hc
    exact wp_exit (SimQ.mk (x := .exit id) R hw)
  | ret =>
    intro out ex rt A l hc Q st s a hw R
    simp [compC] at hc; obtain ⟨rfl, rfl⟩ := hc
    exact wp_ret (SimQ.mk (x := .ret) R hw)
  | rangeFunc f ps x y _ _ => intro out ex rt A l hc; simp [compC] at hc
  | scope x _ => intro out ex rt A l hc; simp [compC] at hc
  | label l => intro out ex rt A l hc; simp [compC] at hc
  | goto l => intro out ex rt A l hc; simp [compC] at hc
  | refuse y => intro out ex rt A l hc; simp [compC] at hc
end Go.AM
end
section
/- Functions: from the meaning of a body to a contract. Generic over the program. -/
set_option linter.unusedSimpArgs false
set_option linter.unusedVariables false
namespace Go.AM
def resL : List ARes → Look → Heap → Option (List D)
  | [], _, _ => some []
  | .tmp t :: r, e, h => match e t, resL r e h with | some d, some l => some (d :: l) | _, _ => none
  | .cell t g n :: r, e, h => match (e t).bind (memAt h), resL r e h with
    | some (c, off), some l => (match ldD g n c off with | some d => some (d :: l) | none => none)
    | _, _ => none
def resD (rs : List ARes) (e : Look) (h : Heap) : Option D :=
  match resL rs e h with
  | some [d] => some d
  | some l => some (.tup l)
  | none => none
def argEnv : Nat → List D → Env
  | _, [] => []
  | i, d :: r => (i, d) :: argEnv (i + 1) r
theorem get_argEnv : ∀ (ds : List D) (i t : Nat) (d : D), get (argEnv i ds) t = some d → i ≤ t ∧ ds[t - i]? = some d
  | [], i, t, d, h => by simp [argEnv, get] at h
  | a :: r, i, t, d, h => by
    simp only [argEnv, get] at h
    by_cases e : i = t
    · rw [if_pos e] at h; injection h with h; subst h; subst e; exact ⟨Nat.le_refl _, by simp⟩
    · rw [if_neg e] at h
      obtain ⟨h1, h2⟩ := get_argEnv r (i + 1) t d h
      refine ⟨by omega, ?_⟩
      rw [show t - i = (t - (i + 1)) + 1 by omega]
      simpa using h2
theorem ld_sim {P : Program} {s : Sg} {h : Heap} (H : RH s h) {t : Nat} {n : Nat} {g : Bool} (h1 : szOf P t = some n) (h2 : aggOf P t = some g) (hgn : ((g && 0 < n) || n == 1) = true) {va : Value} {da : D} (ha : RV s va da) {c : List D} {off : Nat} (h4 : memAt h da = some (c, off)) {d : D} (h5 : ldD g n c off = some d) :
    ∃ ad v, va = .pointer (some ad) ∧ (loadVar t ad).run P s.w = .ok v s.w ∧ RV s v d := by
  have hn1 : g = false → n = 1 := by rintro rfl; simpa using hgn
  have hnp : 0 < n := by
    cases g
    · have := hn1 rfl; omega
    · simp at hgn; rcases hgn with h | h <;> omega
  have hlen : off < c.length := by
    unfold ldD at h5
    cases g
    · simp at h5
      rcases Nat.lt_or_ge off c.length with h' | h'
      · exact h'
      · simp [List.getElem?_eq_none h'] at h5
    · simp at h5; omega
  obtain ⟨b, oo, cs, hv, hat, hall⟩ := memAt_sim H ha h4 hlen
  obtain ⟨hle, hagg, hone⟩ := ldD_sim h5 hall hn1
  cases g
  · obtain ⟨v, hcv, hr⟩ := hone rfl
    have hcell := hat off v hcv
    exact ⟨_, v, hv, by simp [loadVar, aggOf_run h2, hcell], hr.1⟩
  · obtain ⟨ds, rfl, hds⟩ := hagg rfl
    have hld := (hat.sub off n).load (P := P) n (by have := hall.1; simp; omega)
    exact ⟨_, .agg ((cs.drop off).take n).toArray, hv, by simp [loadVar, aggOf_run h2, szOf_run h1, hld], RV.mkagg (by simpa using hds)⟩
theorem resL_sim {P : Program} {s : Sg} {h : Heap} {e : Look} {a : Act} (H : RH s h) (E : RE s e a.tmps) : ∀ (l : List ResultVar) (rs : List ARes), cRes P l = some rs → ∀ (ds : List D), resL rs e h = some ds →
    ∃ vs : List Value, (l.mapM fun | .tmp t => pure (a.tmps.getD t undef) | .cell x t => do loadVar t (← asAddr (a.tmps.getD x undef)) : Sem (List Value)).run P s.w = .ok vs s.w ∧ All2 (RV s) vs ds
  | [], rs, hc, ds, hr => by
    simp [cRes] at hc; subst hc
    simp [resL] at hr; subst hr
    exact ⟨[], by simp, All2.nil⟩
  | .tmp t :: l, rs, hc, ds, hr => by
    simp only [cRes] at hc
    split at hc
    · rename_i l' hl
      injection hc with hc; subst hc
      simp only [resL] at hr
      split at hr
      · rename_i d dl h1 h2
        injection hr with hr; subst hr
        obtain ⟨vs, h3, h4⟩ := resL_sim H E l l' hl dl h2
        exact ⟨_ :: vs, by simp only [List.mapM_cons, Sem.run_bind, Sem.run_pure, Result.andThen_ok, h3], All2.cons (E t d h1) h4⟩
      · cases hr
    · cases hc
  | .cell x t :: l, rs, hc, ds, hr => by
    simp only [cRes] at hc
    split at hc
    · rename_i n g l' hn hg hl
      split at hc
      · rename_i hgn
        injection hc with hc; subst hc
        simp only [resL] at hr
        split at hr
        · rename_i c off dl h1 h2
          split at hr
          · rename_i d hd
            injection hr with hr; subst hr
            obtain ⟨vs, h3, h4⟩ := resL_sim H E l l' hl dl h2
            cases hx : e x with
            | none => rw [hx] at h1; cases h1
            | some da =>
              rw [hx] at h1
              simp only [Option.bind_some] at h1
              obtain ⟨ad, v, hv, hrun, hrv⟩ := ld_sim (P := P) H hn hg hgn (E x da hx) h1 hd
              have hh : (do loadVar t (← asAddr (a.tmps.getD x undef)) : Sem Value).run P s.w = .ok v s.w := by simp [hv, asAddr, hrun]
              exact ⟨v :: vs, by rw [List.mapM_cons, Sem.run_bind]; erw [hh]; simp only [Result.andThen_ok, Sem.run_bind, h3, Sem.run_pure], All2.cons hrv h4⟩
          · cases hr
        · cases hr
      · cases hc
    · cases hc
theorem con_of_W {P : Program} {f : Nat} {fn : Func} {F : AFun} (hm : P.follows .mixedOrders = true) (hf : P.funcs[f]? = some fn) (hcall : Callable P f) (hc : compF P fn = some F) {ds : List D} (hlen : ds.length ≤ F.nt) {h : Heap} {Q : D → Heap → Prop}
    (hw : W P F.code (fun x st => (match x with | .exit _ => False | _ => True) ∧ ∃ d, resD F.results (get st.env) st.heap = some d ∧ Q d st.heap) ⟨argEnv 0 ds, h⟩) : Con P f ds h Q := by
  refine ⟨hcall, fun s args H A => ?_⟩
  unfold compF at hc
  split at hc
  · rename_i c rs hb hrs
    split at hc
    · rename_i A0 l hA
      injection hc with hc; subst hc
      refine calls_of_wp hf hb (wp_mono (code_sim hm c _ _ _ _ _ hA _ ⟨argEnv 0 ds, h⟩ s _ hw ?_) ?_)
      · have hal : args.size = ds.length := by simpa using A.1
        refine ⟨H, ?_, ?_, rfl⟩
        · intro t d hd
          obtain ⟨_, hd2⟩ := get_argEnv ds 0 t d hd
          obtain ⟨v, hv, hr⟩ := A.get hd2
          simp only [Nat.sub_zero] at hv
          have hv2 : args[t]? = some v := by simpa using hv
          have hlt : t < args.size := by
            rcases Nat.lt_or_ge t args.size with h' | h'
            · exact h'
            · simp [Array.getElem?_eq_none h'] at hv2
          show RV s ((args ++ Array.replicate (fn.ntmps - args.size) undef).getD t undef) d
          rw [Array.getD_eq_getD_getElem?, Array.getElem?_append_left hlt, hv2]
          exact hr
        · show (args ++ Array.replicate (fn.ntmps - args.size) undef).size = fn.ntmps
          simp only at hlen
          simp; omega
      · rintro e a' w' ⟨x', st, s', rfl, rfl, hx, R, hq, d, hd, hQ⟩
        have hend : a'.defers = [] ∧ ∃ v, (results fn a'.tmps).run P s'.w = .ok v s'.w ∧ ∃ v0 d0 h0 s0, Ending.returned v = .returned v0 ∧ s0.w = s'.w ∧ Ext s s0 ∧ RH s0 h0 ∧ RV s0 v0 d0 ∧ Q d0 h0 := by
          refine ⟨R.defers, ?_⟩
          unfold resD at hd
          have key : ∀ dl, resL rs (get st.env) st.heap = some dl → ∃ vs : List Value, (results fn a'.tmps).run P s'.w = .ok (if h : vs.toArray.size = 1 then vs.toArray[0] else .tuple vs.toArray) s'.w ∧ All2 (RV s') vs dl := by
            intro dl hdl
            obtain ⟨vs, h1, h2⟩ := resL_sim (P := P) R.heap R.env fn.results.toList rs hrs dl hdl
            refine ⟨vs, ?_, h2⟩
            unfold results
            rw [Array.mapM_eq_mapM_toList]
            simp only [Sem.run_bind, Sem.run_map]
            erw [h1]
            rfl
          split at hd
          · rename_i d0 hl
            injection hd with hd; subst hd
            obtain ⟨vs, h1, h2⟩ := key _ hl
            obtain ⟨v, rfl⟩ : ∃ v, vs = [v] := by
              have := h2.1
              match vs, this with
              | [v], _ => exact ⟨v, rfl⟩
            exact ⟨v, by simpa using h1, v, d0, st.heap, s', rfl, rfl, hx, R.heap, h2.2 0 v d0 rfl rfl, hQ⟩
          · rename_i dl hne hl
            injection hd with hd; subst hd
            obtain ⟨vs, h1, h2⟩ := key _ hl
            have hn1 : ¬ vs.toArray.size = 1 := by
              intro h3
              have h4 := h2.1
              simp at h3
              rw [h3] at h4
              match dl, h4 with
              | [d], _ => exact hne d rfl
            rw [dif_neg hn1] at h1
            exact ⟨_, h1, _, _, st.heap, s', rfl, rfl, hx, R.heap, RV.mktup (by simpa using h2), hQ⟩
          · cases hd
        cases x' with
        | normal => exact hend
        | exit j => exact hq.elim
        | ret => exact hend
    · cases hc
  · cases hc
/-! ### What a function hands back -/
def Ex (h : Heap) (d r : D) : Prop := ∀ (s : Sg) (base : Nat) (v : Value), RH s h → (∀ b, b < base → s.prot b) → RV s v d → Out base s.w v r
theorem pcon_of_con {P : Program} {f : Nat} {ds : List D} {r : D} (hc : Con P f ds (fun _ => none) (fun d h => Ex h d r)) : PCon P f ds r := by
  refine ⟨hc.1, fun w args A => ?_⟩
  let s : Sg := { w := w, ρ := fun _ => none, prot := below w.heap.size, used := fun _ => False, next := 0 }
  have H : RH s (fun _ => none) := ⟨fun b hb => hb, fun _ _ _ _ _ h => (by cases h), fun _ _ => rfl, fun _ h => h.elim, fun _ _ h => (by cases h)⟩
  refine (hc.2 s args H ⟨A.1, fun i v d hv hd => .pure (A.2 i v d hv hd)⟩).mono ?_
  rintro e w' ⟨v, d, h', s', rfl, rfl, hx, H', hv, hex⟩
  exact ⟨v, rfl, fun b hb => (hx.prot b hb).2, hx.size, hx.so, hex s' w.heap.size v H' (fun b hb => (hx.prot b hb).1) hv⟩
def flat : D → Bool
  | .int _ _ => true
  | .bool _ => true
  | .str _ => true
  | .nil => true
  | .emp => true
  | .nilp => true
  | .nilf => true
  | .agg cs => cs.all fun | .int _ _ => true | .bool _ => true | .str _ => true | .nil => true | .emp => true | .nilp => true | .nilf => true | _ => false
  | _ => false
def scal : D → Bool
  | .int _ _ => true
  | .bool _ => true
  | .str _ => true
  | .nil => true
  | .emp => true
  | .nilp => true
  | .nilf => true
  | _ => false
theorem RV.scal {s : Sg} {v : Value} {d : D} (h : RV s v d) (hf : scal d = true) (prot : Nat → Prop) : RP s.w prot v d := by
  cases d <;> simp [AM.scal] at hf
  case int k n => rw [h.inv_int]; exact .int _ _
  case bool b => rw [h.inv_bool]; exact .bool _
  case str x => rw [h.inv_str]; exact .str _
  case nil => rw [h.inv_nil]; exact .nil
  case emp => obtain ⟨a, rfl⟩ := h.inv_emp; exact .emp _
  case nilp => cases h with | pure h => cases h; exact .nilp
  case nilf => cases h with | pure h => cases h; exact .nilf
theorem RV.flat {s : Sg} {v : Value} {d : D} (h : RV s v d) (hf : flat d = true) (prot : Nat → Prop) : RP s.w prot v d := by
  by_cases hs : AM.scal d = true
  · exact h.scal hs prot
  · cases d <;> simp [AM.scal] at hs <;> simp [AM.flat] at hf
    case agg ds =>
      obtain ⟨cs, rfl, hall⟩ := h.inv_agg
      refine .agg cs ds hall.1 ?_ ?_
      · intro u hu
        obtain ⟨i, hi⟩ := List.mem_iff_getElem?.1 hu
        have hlt : i < ds.length := by
          rcases Nat.lt_or_ge i ds.length with h' | h'
          · exact h'
          · rw [← hall.1] at h'; simp [List.getElem?_eq_none h'] at hi
        exact (hall.2 i u _ hi (List.getElem?_eq_getElem hlt)).2
      · intro i u d hu hd
        have h1 := hf d (List.mem_of_getElem? hd)
        exact ((hall.2 i u d hu hd).1).scal (by cases d <;> simp [AM.scal] at h1 ⊢) prot
def ExC (h : Heap) (ko : Option Nat) (d r : D) : Prop :=
  match r with
  | .ow sz cells len => (ko = none ∧ cells = [] ∧ len = 0 ∧ (d = .nil ∨ d = .emp)) ∨ (∃ k, ko = some k ∧ d = .sl k sz 0 len ∧ h k = some cells ∧ cells.length = len * sz ∧ cells.all scal = true)
  | r => d = r ∧ flat r = true
theorem exC_out {h : Heap} {ko : Option Nat} {d r : D} (hx : ExC h ko d r) {s : Sg} {base : Nat} {v : Value} (H : RH s h) (hb : ∀ b, b < base → s.prot b) (hv : RV s v d) (x : Option Nat) (hko : ∀ k, ko = some k → ∃ n, s.ρ k = some (x, n)) (hk0 : ko = none → x = none) :
    OutC x s.w (fun b => base ≤ b ∧ b < s.w.heap.size ∧ x ≠ some b) v r := by
  cases r <;> simp only [ExC] at hx <;> simp only [OutC]
  case ow sz cells len =>
    rcases hx with ⟨hk, rfl, rfl, hd⟩ | ⟨k, hk, rfl, hkk, hcl, hfl⟩
    · have hx0 := hk0 hk
      subst hx0
      rcases hd with rfl | rfl
      · exact ⟨none, 0, hv.inv_nil, Nat.le_refl _, by simp, fun _ => rfl, by simp⟩
      · obtain ⟨a, rfl⟩ := hv.inv_emp
        exact ⟨a, 0, rfl, Nat.le_refl _, by simp, fun _ => rfl, by simp⟩
    · obtain ⟨n, hρ⟩ := hko k hk
      obtain ⟨ad, cap, rfl, hlc, hcc, hq⟩ := sl_live H hv hkk
      refine ⟨ad, cap, rfl, hlc, hcl, ?_, ?_⟩
      · intro hxn
        rcases hq with h0 | ⟨b, cs, e, h1, _⟩
        · exact h0
        · rw [hρ, hxn] at h1; cases h1
      · intro b hxb
        subst hxb
        have hbk := H.block hkk hρ
        obtain ⟨_, hnp, cs2, e2, hh2, hl2, hall⟩ := hbk
        refine ⟨cs2, e2, hh2, ⟨hall.1, fun i v d hv hd => ⟨(hall.2 i v d hv hd).1.scal (List.all_eq_true.1 hfl d (List.mem_of_getElem? hd)) _, (hall.2 i v d hv hd).2⟩⟩, ?_, ?_⟩
        · obtain ⟨_, ad2, cap2, he, hna, _, _⟩ := hv.inv_sl
          injection he with h1 h2 h3; subst h1
          exact hna
        · rcases hq with h0 | ⟨b', cs, e, h1, h2, h3, h4⟩
          · exact .inl h0
          · rw [hρ] at h1; injection h1 with h1; injection h1 with h1 _; injection h1 with h1; subst h1
            rw [h3] at hh2; injection hh2 with hh2; injection hh2 with h5 _; subst h5
            exact .inr ⟨h2, by omega⟩
  all_goals
    obtain ⟨rfl, hf⟩ := hx
    exact hv.flat hf _
theorem key_fst {s : Sg} {h : Heap} (H : RH s h) {base : Nat} (hb : ∀ b, b < base → s.prot b) {k : Nat} {cells : List D} (hk : h k = some cells) : ∃ x n, s.ρ k = some (x, n) ∧ ∀ b, x = some b → base ≤ b ∧ b < s.w.heap.size := by
  obtain ⟨_, x, hx, _, hq⟩ := H.own k cells hk
  refine ⟨x, _, hx, fun b hbx => ?_⟩
  obtain ⟨hnp, cs, e, hh, _⟩ := hq b hbx
  refine ⟨?_, ?_⟩
  · rcases Nat.lt_or_ge b base with h' | h'
    · exact absurd (hb b h') hnp
    · exact h'
  · rcases Nat.lt_or_ge b s.w.heap.size with h' | h'
    · exact h'
    · simp [Array.getElem?_eq_none h'] at hh
theorem Ex_flat {h : Heap} {d : D} (hf : flat d = true) : Ex h d d := by
  intro s base v H hb hv
  refine ⟨none, by simp, ?_⟩
  cases d <;> simp [flat] at hf <;> exact hv.flat (by simp [flat]; try exact hf) _
theorem Ex_own {h : Heap} {k sz len : Nat} {cells : List D} (hk : h k = some cells) (hl : cells.length = len * sz) (hf : cells.all scal = true) : Ex h (.sl k sz 0 len) (.ow sz cells len) := by
  intro s base v H hb hv
  obtain ⟨x, n, hx, hxb⟩ := key_fst H hb hk
  exact ⟨x, hxb, exC_out (ko := some k) (d := .sl k sz 0 len) (r := .ow sz cells len) (Or.inr ⟨k, rfl, rfl, hk, hl, hf⟩) H hb hv x (fun k' hk' => by injection hk' with hk'; subst hk'; exact ⟨n, hx⟩) (fun h => by cases h)⟩
theorem Ex_nil {h : Heap} {sz : Nat} : Ex h .nil (.ow sz [] 0) := by
  intro s base v H hb hv
  exact ⟨none, by simp, exC_out (h := h) (ko := none) (d := .nil) (r := .ow sz [] 0) (Or.inl ⟨rfl, rfl, rfl, .inl rfl⟩) H hb hv none (by simp) (fun _ => rfl)⟩
theorem Ex_emp {h : Heap} {sz : Nat} : Ex h .emp (.ow sz [] 0) := by
  intro s base v H hb hv
  exact ⟨none, by simp, exC_out (h := h) (ko := none) (d := .emp) (r := .ow sz [] 0) (Or.inl ⟨rfl, rfl, rfl, .inr rfl⟩) H hb hv none (by simp) (fun _ => rfl)⟩
theorem Ex_tup {h : Heap} {ds rs : List D} (ko : Option Nat) (hk : ∀ k, ko = some k → ∃ cells, h k = some cells) (hall : All2 (ExC h ko) ds rs) (hn : nOw rs ≤ 1) : Ex h (.tup ds) (.tup rs) := by
  intro s base v H hb hv
  obtain ⟨vs, rfl, hvs⟩ := hv.inv_tup
  have main : ∀ x : Option Nat, (∀ k, ko = some k → ∃ n, s.ρ k = some (x, n)) → (ko = none → x = none) → (∀ b, x = some b → base ≤ b ∧ b < s.w.heap.size) → Out base s.w (.tuple vs) (.tup rs) := by
    intro x h1 h2 h3
    refine ⟨x, h3, hn, vs, rfl, hvs.1.trans hall.1, fun i u r hu hr => ?_⟩
    have hlt : i < ds.length := by
      rcases Nat.lt_or_ge i ds.length with h' | h'
      · exact h'
      · rw [hall.1] at h'; simp [List.getElem?_eq_none h'] at hr
    have hd := List.getElem?_eq_getElem hlt
    exact exC_out (hall.2 i _ r hd hr) H hb (hvs.2 i u _ hu hd) x h1 h2
  cases ko with
  | none => exact main none (by simp) (fun _ => rfl) (by simp)
  | some k =>
    obtain ⟨cells, hkc⟩ := hk k rfl
    obtain ⟨x, n, hx, hxb⟩ := key_fst H hb hkc
    exact main x (fun k' hk' => by injection hk' with hk'; subst hk'; exact ⟨n, hx⟩) (fun h => by cases h) hxb
theorem pcon_of_W {P : Program} {f : Nat} {fn : Func} {F : AFun} (hm : P.follows .mixedOrders = true) (hf : P.funcs[f]? = some fn) (hcall : Callable P f) (hc : compF P fn = some F) {ds : List D} (hlen : ds.length ≤ F.nt) {r : D}
    (hw : W P F.code (fun x st => (match x with | .exit _ => False | _ => True) ∧ ∃ d, resD F.results (get st.env) st.heap = some d ∧ Ex st.heap d r) ⟨argEnv 0 ds, fun _ => none⟩) : PCon P f ds r :=
  pcon_of_con (con_of_W hm hf hcall hc hlen hw)
end Go.AM
end
section
/- Lemmas for walking the abstract machine's code. Generic over the program. -/
set_option linter.unusedSimpArgs false
set_option linter.unusedVariables false
namespace Go.AM
open Classical
theorem norm_get (keep : List Nat) (e : Env) : norm keep e = normL keep (get e) := by
  induction keep with
  | nil => rfl
  | cons t r ih => simp only [norm, normL, ih]; cases get e t <;> rfl
section
variable {P : Program} {Q : X → St → Prop} {e : Env} {h : Heap}
theorem W_skip (hq : Q .normal ⟨e, h⟩) : W P .skip Q ⟨e, h⟩ := hq
theorem W_exit {id : Nat} (hq : Q (.exit id) ⟨e, h⟩) : W P (.exit id) Q ⟨e, h⟩ := hq
theorem W_ret (hq : Q .ret ⟨e, h⟩) : W P .ret Q ⟨e, h⟩ := hq
theorem W_seq {a b : ACode} (hw : W P a (X.then (W P b Q) Q) ⟨e, h⟩) : W P (.seq a b) Q ⟨e, h⟩ := hw
theorem W_block {id : Nat} {a : ACode} (hw : W P a (X.inBlock id Q) ⟨e, h⟩) : W P (.block id a) Q ⟨e, h⟩ := hw
theorem W_cond {c : O} {ka kb : List Nat} {a b : ACode} {t : Bool} (hc : evO (get e) c = some (.bool t)) (h1 : t = true → W P a Q ⟨norm ka e, h⟩) (h2 : t = false → W P b Q ⟨norm kb e, h⟩) : W P (.cond c ka a kb b) Q ⟨e, h⟩ := by
  show (match evO (get e) c with | some (.bool t) => _ | _ => False)
  rw [hc]
  exact ⟨h1, h2⟩
theorem W_true {c : O} {ka kb : List Nat} {a b : ACode} (hc : evO (get e) c = some (.bool true)) (h1 : W P a Q ⟨norm ka e, h⟩) : W P (.cond c ka a kb b) Q ⟨e, h⟩ := W_cond hc (fun _ => h1) (fun h => by cases h)
theorem W_false {c : O} {ka kb : List Nat} {a b : ACode} (hc : evO (get e) c = some (.bool false)) (h1 : W P b Q ⟨norm kb e, h⟩) : W P (.cond c ka a kb b) Q ⟨e, h⟩ := W_cond hc (fun h => by cases h) (fun _ => h1)
theorem W_mono {c : ACode} : ∀ {Q Q' : X → St → Prop} {st : St}, (∀ x st, Q x st → Q' x st) → W P c Q st → W P c Q' st := by
  induction c with
  | skip => intro Q Q' st hq hw; exact hq _ _ hw
  | reg ops keep =>
    intro Q Q' st hq hw
    have key : ∀ (ops : List AIns) (e : Env) (h : Heap) (K K' : Env → Heap → Prop), (∀ e h, K e h → K' e h) → Wops P ops e h K → Wops P ops e h K' := by
      intro ops
      induction ops with
      | nil => intro e h K K' hk hw; exact hk _ _ hw
      | cons o r ih =>
        intro e h K K' hk hw
        have run : ∀ K1 K2 : Env → Heap → Prop, (∀ e h, K1 e h → K2 e h) → runIns P o e h K1 → runIns P o e h K2 := by
          intro K1 K2 h12 hr
          unfold runIns at hr ⊢
          split
          · rename_i f args hop
            rw [hop] at hr
            simp only at hr
            split at hr
            · rename_i g fst caps ds h1 h2
              exact hr.mono fun _ _ h => h12 _ _ h
            · exact hr.elim
          · rename_i hnc
            have hr' : if makes o.op then ∀ k, h k = none → match evOp (get e) h k o.op with | some (d, h') => K1 (put o.dst d e) h' | none => False
              else match evOp (get e) h 0 o.op with | some (d, h') => K1 (put o.dst d e) h' | none => eqN0 o.op (get e) ∧ ∀ b, K1 (put o.dst (.bool b) e) h := by
              cases hop : o.op <;> rw [hop] at hr <;> first | exact absurd hop (hnc _ _) | exact hr
            split
            · rename_i hm
              rw [if_pos hm] at hr'
              intro k hk
              have := hr' k hk
              split at this
              · rename_i d h' he; rw [he]; exact h12 _ _ this
              · exact this.elim
            · rename_i hm
              rw [if_neg hm] at hr'
              split at hr'
              · rename_i d h' he; rw [he]; exact h12 _ _ hr'
              · rename_i he; rw [he]; exact ⟨hr'.1, fun b => h12 _ _ (hr'.2 b)⟩
        show Wins P o e h _
        have hw' : Wins P o e h (fun e' h' => Wops P r e' h' K) := hw
        unfold Wins at hw' ⊢
        split
        · rename_i hg
          rw [hg] at hw'
          exact run _ _ (fun e h hh => ih e h K K' hk hh) hw'
        · rename_i t want hg
          rw [hg] at hw'
          simp only at hw'
          split
          · rename_i b hb
            rw [hb] at hw'
            simp only at hw'
            split
            · rename_i hbw; rw [if_pos hbw] at hw'; exact run _ _ (fun e h hh => ih e h K K' hk hh) hw'
            · rename_i hbw; rw [if_neg hbw] at hw'; exact ih _ _ K K' hk hw'
          · rename_i vs hb
            rw [hb] at hw'
            exact ih _ _ K K' hk hw'
          · rename_i hne1 hne2
            split at hw'
            · rename_i b hb; exact absurd hb (hne1 b)
            · rename_i vs hb; exact absurd hb (hne2 vs)
            · exact hw'
    exact key ops _ _ _ _ (fun e h hh => hq _ _ hh) hw
  | dreg ops bef keep =>
    intro Q Q' st hq hw
    obtain ⟨rs, hw⟩ := hw
    exact ⟨rs, fun N hN => let ⟨fin, h1, h2⟩ := hw N hN; ⟨fin, h1, hq _ _ h2⟩⟩
  | seq a b iha ihb =>
    intro Q Q' st hq hw
    refine iha ?_ hw
    intro x st h
    cases x with
    | normal => exact ihb hq h
    | exit id => exact hq _ _ h
    | ret => exact hq _ _ h
  | cond c ka a kb b iha ihb =>
    intro Q Q' st hq hw
    simp only [W] at hw ⊢
    split
    · rename_i t ht
      rw [ht] at hw
      exact ⟨fun h => iha hq (hw.1 h), fun h => ihb hq (hw.2 h)⟩
    · rename_i hne
      split at hw
      · rename_i t ht; exact hne t ht
      · exact hw
  | block id a iha =>
    intro Q Q' st hq hw
    refine iha ?_ hw
    intro x st h
    cases x with
    | normal => exact hq _ _ h
    | exit j =>
      simp only [X.inBlock] at h ⊢
      split
      · rename_i hj; rw [if_pos hj] at h; exact hq _ _ h
      · rename_i hj; rw [if_neg hj] at h; exact hq _ _ h
    | ret => exact hq _ _ h
  | loop a iha =>
    intro Q Q' st hq hw
    obtain ⟨n, hn⟩ := hw
    refine ⟨n, ?_⟩
    have key : ∀ n st, iter (fun Q' st' => W P a Q' st') Q n st → iter (fun Q' st' => W P a Q' st') Q' n st := by
      intro n
      induction n with
      | zero => intro st h; exact h
      | succ n ih =>
        intro st h
        refine iha ?_ h
        intro x st h
        cases x with
        | normal => exact ih _ h
        | exit id => exact hq _ _ h
        | ret => exact hq _ _ h
    exact key n st hn
  | exit id => intro Q Q' st hq hw; exact hq _ _ hw
  | ret => intro Q Q' st hq hw; exact hq _ _ hw
theorem W_for {c : ACode} (n : Nat) (I : Nat → St → Prop) (h0 : I 0 ⟨e, h⟩) (round : ∀ i e' h', i < n → I i ⟨e', h'⟩ → W P c (X.then (I (i + 1)) Q) ⟨e', h'⟩) (last : ∀ e' h', I n ⟨e', h'⟩ → W P c (X.then (fun _ => False) Q) ⟨e', h'⟩) : W P (.loop c) Q ⟨e, h⟩ := by
  have key : ∀ m i st, n - i < m → i ≤ n → I i st → iter (fun Q' st' => W P c Q' st') Q m st := by
    intro m
    induction m with
    | zero => intro i st hn; omega
    | succ m ih =>
      intro i st hm hi hI
      by_cases hin : i < n
      · refine W_mono ?_ (round i st.env st.heap hin hI)
        intro x st' h
        cases x with
        | normal => exact ih (i + 1) st' (by omega) (by omega) h
        | exit id => exact h
        | ret => exact h
      · obtain rfl : i = n := by omega
        refine W_mono ?_ (last st.env st.heap hI)
        intro x st' h
        cases x with
        | normal => exact h.elim
        | exit id => exact h
        | ret => exact h
  exact ⟨_, key _ 0 _ (Nat.lt_succ_self _) (Nat.zero_le _) h0⟩
end
/-! ### Reading by value -/
theorem rp_below {s : Sg} {h : Heap} (H : RHo s h) {v : Value} {d : D} (hv : RP s.w s.prot v d) : RP s.w (below s.w.heap.size) v d := hv.mono fun b hb => ⟨H.lt b hb, rfl⟩
theorem Rd_flat {h : Heap} {d : D} (hf : flat d = true) : Rd h d d := fun s v _ hv => hv.flat hf _
theorem Rd_int {h : Heap} {k : IntKind} {n : Int} : Rd h (.int k n) (.int k n) := Rd_flat rfl
theorem Rd_bool {h : Heap} {b : Bool} : Rd h (.bool b) (.bool b) := Rd_flat rfl
theorem Rd_vs {h : Heap} {sz len : Nat} {c : List D} : Rd h (.vs sz c len) (.vs sz c len) := fun s v H hv => rp_below H hv.inv_vs
theorem Rd_vp {h : Heap} {off : Nat} {c : List D} : Rd h (.vp c off) (.vp c off) := fun s v H hv => rp_below H hv.inv_vp
theorem Rd_nil {h : Heap} {sz : Nat} : Rd h .nil (.vs sz [] 0) := fun s v H hv => by rw [hv.inv_nil]; exact .vs0 _ _ _
theorem Rd_emp {h : Heap} {sz : Nat} : Rd h .emp (.vs sz [] 0) := fun s v H hv => by obtain ⟨a, rfl⟩ := hv.inv_emp; exact .vs0 _ _ _
theorem own_cells {s : Sg} {h : Heap} (H : RHo s h) {k : Nat} {c : List D} (hk : h k = some c) (hf : c.all scal = true) {b n : Nat} (hb : s.ρ k = some (some b, n)) :
    b < s.w.heap.size ∧ ∃ cs e, s.w.heap[b]? = some (.cells cs e (0, 0)) ∧ c.length ≤ cs.size ∧ CellsAt s.w b 0 (cs.toList.take c.length) ∧ All2 (RPc s.w (below s.w.heap.size)) (cs.toList.take c.length) c := by
  obtain ⟨_, x, hx, _, hq⟩ := H.own k c hk
  rw [hb] at hx
  injection hx with hx; injection hx with h1 h2
  subst h1
  obtain ⟨_, cs, e, hh, hl, hall⟩ := hq b rfl
  refine ⟨?_, cs, e, hh, hl, ?_, hall.1, fun i v d hv hd => ⟨(hall.2 i v d hv hd).1.scal (List.all_eq_true.1 hf d (List.mem_of_getElem? hd)) _, (hall.2 i v d hv hd).2⟩⟩
  · rcases Nat.lt_or_ge b s.w.heap.size with h' | h'
    · exact h'
    · simp [Array.getElem?_eq_none h'] at hh
  · have := (cellsAt_block hh).sub 0 c.length
    simp only [Nat.add_zero, List.drop_zero] at this
    exact this
theorem Rd_sl {h : Heap} {k sz off len : Nat} {c : List D} (hk : h k = some c) (hf : c.all scal = true) (hl : off + len * sz ≤ c.length) : Rd h (.sl k sz off len) (.vs sz ((c.drop off).take (len * sz)) len) := by
  intro s v H hv
  obtain ⟨_, ad, cap, rfl, hna, hlc, hq⟩ := hv.inv_sl
  obtain ⟨_, x, hx, hxn, _⟩ := H.own k c hk
  obtain ⟨hcc, hcap⟩ := hq x _ hx
  rcases hcap with h0 | ⟨b, cs, e, rfl, rfl, hb, hs⟩
  · obtain rfl : len = 0 := by omega
    simpa using RP.vs0 ad cap sz
  · obtain ⟨hbl, cs2, e2, hh, hl2, hat, hall⟩ := own_cells H hk hf hx
    have hall2 := All2.slice hall off (len * sz)
    refine .vs b off cap sz len _ (((cs2.toList.take c.length).drop off).take (len * sz)) (by simp; omega) hlc hbl hall2.1 ?_ ?_ ?_
    · intro v hv'
      have h1 := List.mem_of_mem_drop (List.mem_of_mem_take hv')
      obtain ⟨i, hi⟩ := List.mem_iff_getElem?.1 h1
      have hlt : i < c.length := by
        rcases Nat.lt_or_ge i (cs2.toList.take c.length).length with h' | h'
        · rw [hall.1] at h'; exact h'
        · simp [List.getElem?_eq_none h'] at hi
      exact (hall.2 i v _ hi (List.getElem?_eq_getElem hlt)).2
    · have := hat.sub off (len * sz)
      rw [Nat.zero_add] at this
      exact this
    · intro i v d hv' hd
      exact (hall2.2 i v d hv' hd).1
theorem Rd_sl0 {h : Heap} {k sz len : Nat} {c : List D} (hk : h k = some c) (hf : c.all scal = true) (hl : c.length = len * sz) : Rd h (.sl k sz 0 len) (.vs sz c len) := by
  have := Rd_sl (off := 0) hk hf (by omega : 0 + len * sz ≤ c.length)
  rw [List.drop_zero, List.take_of_length_le (by omega)] at this
  exact this
theorem con_val {P : Program} {f : Nat} {ds ds' : List D} {r : D} {h : Heap} {Q : D → Heap → Prop} (hp : PCon P f ds' r) (hr : All2 (Rd h) ds ds') (hn : owOf r = none) (ht : ∀ k, thaw k r = r) (hq : Q r h) : Con P f ds h Q :=
  con_of_pcon hp hr (fun k _ => by rw [ht k, thawH_none hn]; exact hq)
/-! ### A drawn region that makes and writes no memory -/
def WdI (P : Program) (o : AIns) (e : Env) (h : Heap) (K : Env → Prop) : Prop :=
  match o.op with
  | .call f args => match evO (get e) f, evOs (get e) args with
    | some (.fn g fst caps), some ds => ∃ ds' r, All2 (Rd h) (fst ++ ds ++ caps) ds' ∧ PCon P g ds' r ∧ K (put o.dst (unow r) e)
    | _, _ => False
  | op => match evOp (get e) h 0 op with | some (d, _) => K (put o.dst d e) | none => False
def WdR (P : Program) : List AIns → Env → Heap → (Env → Prop) → Prop
  | [], e, _, K => K e
  | o :: r, e, h, K => match o.guard with
    | none => WdI P o e h fun e' => WdR P r e' h K
    | some (t, want) => match get e t with
      | some (.bool b) => if b = want then WdI P o e h fun e' => WdR P r e' h K else WdR P r (put o.dst (.tup []) e) h K
      | some (.tup _) => WdR P r (put o.dst (.tup []) e) h K
      | _ => False
theorem hide_id {N n i : Nat} {b : List Nat} {h : Heap} (hN : ∀ k, N ≤ k → h k = none) : hide (hidF N n b i) h = h := by
  funext k
  simp only [hide]
  split
  · rename_i hk
    simp only [hidF, Bool.and_eq_true, decide_eq_true_eq] at hk
    exact (hN k hk.1.1.1).symm
  · rfl
theorem unhide_id {N n i : Nat} {b : List Nat} {h : Heap} (hN : ∀ k, N ≤ k → h k = none) : unhide (hidF N n b i) h h = h := by funext k; simp only [unhide]; split <;> rfl
def readsOnly (o : AIns) : Bool := cls o.op == 0 || cls o.op == 1 || cls o.op == 4
theorem dRun_congr {P : Program} {N n : Nat} {rs rs' : Nat → D} {ops : List AIns} {bef : List (List Nat)} : ∀ (l : List Nat) (e : Look) (h : Heap), (∀ i ∈ l, rs i = rs' i) → dRun P N n rs ops bef l e h = dRun P N n rs' ops bef l e h
  | [], _, _, _ => rfl
  | i :: r, e, h, hl => by
    simp only [dRun]
    split
    · rename_i o b ho hb
      have : dRes P N n rs i b o e h = dRes P N n rs' i b o e h := by
        unfold dRes
        rw [hl i (by simp)]
      rw [this]
      split
      · exact dRun_congr r _ _ (fun j hj => hl j (by simp [hj]))
      · rfl
    · rfl
theorem WdR_run {P : Program} {ops : List AIns} {bef : List (List Nat)} (hbl : bef.length = ops.length) : ∀ (l : List AIns) (i : Nat), (∃ tail, ops.drop i = l ++ tail) → l.all readsOnly = true → ∀ (e : Env) (h : Heap) (K : Env → Prop), WdR P l e h K →
    ∃ rs : Nat → D, ∃ e', K e' ∧ ∀ N, (∀ k, N ≤ k → h k = none) → dRun P N ops.length rs ops bef (List.range' i l.length) (get e) h = some (get e', h)
  | [], i, _, _, e, h, K, hw => ⟨fun _ => .undef, e, hw, fun N _ => by simp [dRun]⟩
  | o :: r, i, ⟨tail, hd⟩, hro, e, h, K, hw => by
    have hoi : ops[i]? = some o := by
      have : (ops.drop i)[0]? = some o := by rw [hd]; rfl
      rw [List.getElem?_drop] at this
      simpa using this
    have hil : i < ops.length := by
      rcases Nat.lt_or_ge i ops.length with h' | h'
      · exact h'
      · simp [List.getElem?_eq_none h'] at hoi
    have hbi : bef[i]? = some (befAt bef i) := by
      unfold befAt
      have : i < bef.length := by omega
      simp [this]
    have hdr : ∃ tail, ops.drop (i + 1) = r ++ tail := ⟨tail, by rw [← List.drop_drop, hd]; rfl⟩
    simp only [List.all_cons, Bool.and_eq_true] at hro
    have hcls : cls o.op = 0 ∨ cls o.op = 1 ∨ cls o.op = 4 := by
      have := hro.1
      simp [readsOnly] at this
      rcases this with (h | h) | h
      · exact .inl h
      · exact .inr (.inl h)
      · exact .inr (.inr h)
    -- one step
    have step : ∀ (d : D) (rs : Nat → D), (∀ N, (∀ k, N ≤ k → h k = none) → dRes P N ops.length rs i (befAt bef i) o (get e) h = some (d, h)) →
        (∃ rs0 : Nat → D, (∀ j, i < j → rs0 j = rs j) ∧ ∃ e', K e' ∧ ∀ N, (∀ k, N ≤ k → h k = none) → dRun P N ops.length rs0 ops bef (List.range' (i + 1) r.length) (get (put o.dst d e)) h = some (get e', h)) →
        ∃ rs : Nat → D, ∃ e', K e' ∧ ∀ N, (∀ k, N ≤ k → h k = none) → dRun P N ops.length rs ops bef (List.range' i (o :: r).length) (get e) h = some (get e', h) := by
      intro d rs hres ⟨rs0, hag, e', h2, hrest⟩
      refine ⟨rs, e', h2, fun N hN => ?_⟩
      have h1 := hrest N hN
      simp only [List.length_cons, List.range'_succ, dRun, hoi, hbi, hres N hN]
      rw [← get_put, dRun_congr (rs' := rs0) _ _ _ (fun j hj => (hag j (by have := List.mem_range'_1.1 hj; omega)).symm)]
      exact h1
    have run : ∀ K1 : Env → Prop, (∀ (d : D) (r0 : D), K1 (put o.dst d e) → True) → guardV o.guard (get e) = some true → WdI P o e h K1 → ∃ d, ∃ r0 : D, K1 (put o.dst d e) ∧ ∀ rs : Nat → D, rs i = r0 → ∀ N, (∀ k, N ≤ k → h k = none) → dRes P N ops.length rs i (befAt bef i) o (get e) h = some (d, h) := by
      intro K1 _ hg hwi
      unfold WdI at hwi
      split at hwi
      · rename_i f args hop
        split at hwi
        · rename_i g fst caps ds h1 h2
          obtain ⟨ds', r0, h3, h4, h5⟩ := hwi
          refine ⟨unow r0, unow r0, h5, fun rs hrs N hN => ?_⟩
          unfold dRes
          rw [hg, hop]
          simp only [h1, h2, hide_id hN, hrs]
          rw [if_pos ⟨ds', h3, pcon_unow h4⟩, thaw_unow, thawH_none (owOf_unow r0)]
        · exact hwi.elim
      · rename_i hnc
        split at hwi
        · rename_i d h' hev
          have hh : h' = h := by
            rcases hcls with hc | hc | hc
            · exact (cls0 hc hev).1
            · exact (cls1 hc hev).1
            · cases hop : o.op <;> rw [hop] at hc <;> simp [cls] at hc
              exact absurd hop (hnc _ _)
          subst hh
          refine ⟨d, .undef, hwi, fun rs _ N hN => ?_⟩
          have hev2 : evOp (get e) h' (N + i) o.op = some (d, h') := by
            rcases hcls with hc | hc | hc
            · exact (cls0 hc hev).2 h' _
            · exact (cls1 hc hev).2 _
            · cases hop : o.op <;> rw [hop] at hc <;> simp [cls] at hc
              exact absurd hop (hnc _ _)
          unfold dRes
          rw [hg]
          simp only [hide_id hN]
          cases hop : o.op <;> rw [hop] at hev2 <;> first | exact absurd hop (hnc _ _) | simp only [hev2, unhide_id hN]
        · exact hwi.elim
    simp only [WdR] at hw
    split at hw
    · rename_i hg
      obtain ⟨d, r0, hk, hres⟩ := run _ (fun _ _ _ => trivial) (by rw [hg]; rfl) hw
      obtain ⟨rs1, hrest⟩ := WdR_run hbl r (i + 1) hdr hro.2 _ h K hk
      refine step d (fun j => if j = i then r0 else rs1 j) (hres _ (by simp)) ⟨rs1, fun j hj => by rw [if_neg (by omega)], hrest⟩
    · rename_i t want hg
      split at hw
      · rename_i b hb
        split at hw
        · rename_i hbw
          have hgv : guardV o.guard (get e) = some true := by rw [hg]; simp only [guardV, hb, hbw]; simp
          obtain ⟨d, r0, hk, hres⟩ := run _ (fun _ _ _ => trivial) hgv hw
          obtain ⟨rs1, hrest⟩ := WdR_run hbl r (i + 1) hdr hro.2 _ h K hk
          refine step d (fun j => if j = i then r0 else rs1 j) (hres _ (by simp)) ⟨rs1, fun j hj => by rw [if_neg (by omega)], hrest⟩
        · rename_i hbw
          have hgv : guardV o.guard (get e) = some false := by rw [hg]; simp only [guardV, hb]; simp [hbw]
          obtain ⟨rs1, hrest⟩ := WdR_run hbl r (i + 1) hdr hro.2 _ h K hw
          refine step (.tup []) rs1 (fun N hN => ?_) ⟨rs1, fun _ _ => rfl, hrest⟩
          unfold dRes
          rw [hgv]
      · rename_i vs hb
        have hgv : guardV o.guard (get e) = some false := by rw [hg]; simp only [guardV, hb]
        obtain ⟨rs1, hrest⟩ := WdR_run hbl r (i + 1) hdr hro.2 _ h K hw
        refine step (.tup []) rs1 (fun N hN => ?_) ⟨rs1, fun _ _ => rfl, hrest⟩
        unfold dRes
        rw [hgv]
      · exact hw.elim
theorem W_dreg {P : Program} {Q : X → St → Prop} {e : Env} {h : Heap} {ops : List AIns} {bef : List (List Nat)} {keep : List Nat} (hbl : bef.length = ops.length) (hro : ops.all readsOnly = true)
    (hw : ∀ K : Env → Prop, (∀ e', Q .normal ⟨norm keep e', h⟩ → K e') → WdR P ops e h K) : W P (.dreg ops bef keep) Q ⟨e, h⟩ := by
  obtain ⟨rs, e', h2, hr⟩ := WdR_run hbl ops 0 ⟨[], by simp⟩ hro e h (fun e' => Q .normal ⟨norm keep e', h⟩) (hw _ fun _ h => h)
  refine ⟨rs, fun N hN => ?_⟩
  have h1 := hr N hN
  refine ⟨(get e', h), by rw [List.range_eq_range']; exact h1, ?_⟩
  rw [norm_get] at h2
  exact h2
theorem dRun_append {P : Program} {N n : Nat} {rs : Nat → D} {ops : List AIns} {bef : List (List Nat)} : ∀ (a b : List Nat) (e : Look) (h : Heap), dRun P N n rs ops bef (a ++ b) e h = (dRun P N n rs ops bef a e h).bind fun f => dRun P N n rs ops bef b f.1 f.2
  | [], b, e, h => rfl
  | i :: a, b, e, h => by
    simp only [List.cons_append, dRun]
    split
    · split
      · exact dRun_append a b _ _
      · rfl
    · rfl
theorem W_dregS {P : Program} {Q : X → St → Prop} {e : Env} {h : Heap} {pre : List AIns} {n : Nat} {a x : O} {bef : List (List Nat)} {keep : List Nat} (hbl : bef.length = pre.length + 1) (hro : pre.all readsOnly = true)
    (hw : ∀ K : Env → Heap → Prop, (∀ e' h', Q .normal ⟨norm keep e', h'⟩ → K e' h') → WdR P pre e h fun e' => Wops P [⟨none, .store n a x, none⟩] e' h K) : W P (.dreg (pre ++ [⟨none, .store n a x, none⟩]) bef keep) Q ⟨e, h⟩ := by
  have hl : (pre ++ [(⟨none, .store n a x, none⟩ : AIns)]).length = pre.length + 1 := by simp
  obtain ⟨rs, e', h2, hr⟩ := WdR_run (ops := pre ++ [⟨none, .store n a x, none⟩]) (by rw [hl]; exact hbl) pre 0 ⟨[⟨none, .store n a x, none⟩], by simp⟩ hro e h _ (hw _ fun _ _ h => h)
  refine ⟨rs, fun N hN => ?_⟩
  have hN : ∀ k, N ≤ k → h k = none := hN
  have h1 := hr N hN
  have h3 : match evOp (get e') h 0 (.store n a x) with | some (d, h') => Q .normal ⟨norm keep (put none d e'), h'⟩ | none => False := by
    have h2' : match evOp (get e') h 0 (.store n a x) with | some (d, h') => Q .normal ⟨norm keep (put none d e'), h'⟩ | none => eqN0 (.store n a x) (get e') ∧ ∀ b, Q .normal ⟨norm keep (put none (.bool b) e'), h⟩ := h2
    split at h2'
    · exact h2'
    · obtain ⟨⟨_, _, _, _, h0, _⟩, _⟩ := h2'
      cases h0
  split at h3
  · rename_i d h' hev
    have hoth : ∀ k, N ≤ k → h' k = none := by
      intro k hk
      simp only [evOp] at hev
      split at hev
      · split at hev
        · split at hev
          · rename_i kk off new _ _ c hkc _
            injection hev with hev; injection hev with _ hev; subst hev
            simp only [upd]
            split
            · rename_i hk2; subst hk2; rw [hN _ hk] at hkc; cases hkc
            · exact hN k hk
          · cases hev
        · cases hev
      · cases hev
    refine ⟨(get e', h'), ?_, ?_⟩
    · rw [hl, List.range_succ, List.range_eq_range', dRun_append]
      rw [hl] at h1
      rw [h1]
      have hb : bef[pre.length]? = some (befAt bef pre.length) := by
        unfold befAt
        simp [hbl]
      have hx : dRes P N (pre.length + 1) rs pre.length (befAt bef pre.length) ⟨none, .store n a x, none⟩ (get e') h = some (d, h') := by
        have hevN : evOp (get e') h (N + pre.length) (.store n a x) = some (d, h') := hev
        unfold dRes
        simp only [guardV, hide_id hN, hevN]
        congr 2
        funext k
        simp only [unhide]
        split
        · rename_i hk
          simp only [hidF, Bool.and_eq_true, decide_eq_true_eq] at hk
          rw [hN k hk.1.1.1, hoth k hk.1.1.1]
        · rfl
      simp only [Option.bind_some, dRun, List.getElem?_append_right (Nat.le_refl _), Nat.sub_self, List.getElem?_cons_zero, hb, hx]
      rfl
    · rw [norm_get] at h3
      exact h3
  · exact h3.elim
def Fin (rs : List ARes) (r : D) : X → St → Prop := fun x st => (match x with | .exit _ => False | _ => True) ∧ ∃ d, resD rs (get st.env) st.heap = some d ∧ Ex st.heap d r
theorem Fin_flat {rs : List ARes} {e : Env} {h : Heap} {r : D} {x : X} (hx : match x with | .exit _ => False | _ => True) (hd : resD rs (get e) h = some r) (hf : flat r = true) : Fin rs r x ⟨e, h⟩ := ⟨hx, r, hd, Ex_flat hf⟩
end Go.AM
end
section
/- Further lemmas for walking: arithmetic, heaps, loops. Generic over the program. -/
set_option linter.unusedSimpArgs false
set_option linter.unusedVariables false
namespace Go.AM
open Classical
section
variable {P : Program} {Q : X → St → Prop} {e : Env} {h : Heap}
def WN (P : Program) (c : ACode) (Q : X → St → Prop) (n : Nat) (st : St) : Prop := iter (fun Q' st' => W P c Q' st') Q n st
theorem WN_succ {c : ACode} {n : Nat} (hw : W P c (X.then (WN P c Q n) Q) ⟨e, h⟩) : WN P c Q (n + 1) ⟨e, h⟩ := hw
end
theorem upd_none {h : Heap} {k j : Nat} {c : List D} : (upd h k c j = none) = (j ≠ k ∧ h j = none) := by
  simp only [upd, eq_iff_iff]
  constructor
  · intro hh; split at hh
    · cases hh
    · exact ⟨by assumption, hh⟩
  · intro ⟨h1, h2⟩; rw [if_neg h1]; exact h2
theorem upd_self {h : Heap} {k : Nat} {c : List D} : upd h k c k = some c := by simp [upd]
theorem upd_ne {h : Heap} {k j : Nat} {c : List D} (hj : j ≠ k) : upd h k c j = h j := by simp [upd, hj]
theorem upd_upd {h : Heap} {k : Nat} {c c' : List D} : upd (upd h k c) k c' = upd h k c' := by funext j; simp only [upd]; split <;> rfl
theorem beq_dec (a b : Int) : (a == b) = decide (a = b) := by by_cases h : a = b <;> simp [h]
theorem bne_dec (a b : Int) : (a != b) = decide (a ≠ b) := by by_cases h : a = b <;> simp [bne, h]
theorem w64 {n : Int} (h : -9223372036854775808 ≤ n ∧ n ≤ 9223372036854775807) : IntKind.i64.wrap n = n := IntWalk.i64_in n h
theorem wu8 {n : Int} (h : 0 ≤ n ∧ n ≤ 255) : IntKind.u8.wrap n = n := IntWalk.u8_in n h
theorem wu16 {n : Int} (h : 0 ≤ n ∧ n ≤ 65535) : IntKind.u16.wrap n = n := IntWalk.u16_in n h
theorem wu32 {n : Int} (h : 0 ≤ n ∧ n ≤ 4294967295) : IntKind.u32.wrap n = n := IntWalk.u32_in n h
theorem wu64 {n : Int} (h : 0 ≤ n ∧ n ≤ 18446744073709551615) : IntKind.u64.wrap n = n := IntWalk.u64_in n h
theorem tm_nn {x y : Int} (h : 0 ≤ x) : x.tmod y = x % y := Int.tmod_eq_emod_of_nonneg h
theorem fd_nn {x y : Int} (h : 0 ≤ y) : x.fdiv y = x / y := Int.fdiv_eq_ediv_of_nonneg x h
theorem td_nn {x y : Int} (h : 0 ≤ x) : x.tdiv y = x / y := Int.tdiv_eq_ediv_of_nonneg h
end Go.AM
end
section
/- One lemma for each kind of step: the symbolic executor's rules. Generic over the program. -/
set_option linter.unusedSimpArgs false
set_option linter.unusedVariables false
namespace Go.AM
open Classical
def Br (p A B : Prop) : Prop := (p → A) ∧ (¬p → B)
theorem Br_t {p A B : Prop} (hp : p) (ha : A) : Br p A B := ⟨fun _ => ha, fun hn => absurd hp hn⟩
theorem Br_f {p A B : Prop} (hp : ¬p) (hb : B) : Br p A B := ⟨fun h => absurd h hp, fun _ => hb⟩
theorem Br_s {p A B : Prop} (ha : p → A) (hb : ¬p → B) : Br p A B := ⟨ha, hb⟩
section code
variable {P : Program} {Q : X → St → Prop} {e e' : Env} {h : Heap} {st : St}
theorem norm_nil : norm [] e = [] := rfl
theorem norm_cons {t : Nat} {d : D} {r : List Nat} {l : Env} (h1 : get e t = some d) (h2 : norm r e = l) : norm (t :: r) e = (t, d) :: l := by simp only [norm, h1, h2]
theorem norm_skip {t : Nat} {r : List Nat} {l : Env} (h1 : get e t = none) (h2 : norm r e = l) : norm (t :: r) e = l := by simp only [norm, h1, h2]
theorem s_reg {ops : List AIns} {keep : List Nat} (hw : ∀ K : Env → Heap → Prop, (∀ e1 h1 e2, norm keep e1 = e2 → Q .normal ⟨e2, h1⟩ → K e1 h1) → Wops P ops e h K) : W P (.reg ops keep) Q ⟨e, h⟩ :=
  hw _ fun _ _ _ h1 h2 => by rw [h1]; exact h2
theorem s_dreg {ops : List AIns} {bef : List (List Nat)} {keep : List Nat} (hbl : bef.length = ops.length) (hro : ops.all readsOnly = true)
    (hw : ∀ K : Env → Prop, (∀ e1 e2, norm keep e1 = e2 → Q .normal ⟨e2, h⟩ → K e1) → WdR P ops e h K) : W P (.dreg ops bef keep) Q ⟨e, h⟩ :=
  W_dreg hbl hro fun K hK => hw K fun e1 e2 h1 h2 => hK e1 (by rw [h1]; exact h2)
theorem then_n {K : St → Prop} (hq : K st) : X.then K Q .normal st := hq
theorem then_e {K : St → Prop} {j : Nat} (hq : Q (.exit j) st) : X.then K Q (.exit j) st := hq
theorem then_r {K : St → Prop} (hq : Q .ret st) : X.then K Q .ret st := hq
theorem blk_n {id : Nat} (hq : Q .normal st) : X.inBlock id Q .normal st := hq
theorem blk_r {id : Nat} (hq : Q .ret st) : X.inBlock id Q .ret st := hq
theorem blk_e {id : Nat} (hq : Q .normal st) : X.inBlock id Q (.exit id) st := by simp only [X.inBlock, if_true]; exact hq
theorem blk_j {id j : Nat} (hj : j ≠ id) (hq : Q (.exit j) st) : X.inBlock id Q (.exit j) st := by simp only [X.inBlock, if_neg hj]; exact hq
theorem s_condT {c : O} {ka kb : List Nat} {a b : ACode} (hc : evO (get e) c = some (.bool true)) (hn : norm ka e = e') (hw : W P a Q ⟨e', h⟩) : W P (.cond c ka a kb b) Q ⟨e, h⟩ := W_true hc (by rw [hn]; exact hw)
theorem s_condF {c : O} {ka kb : List Nat} {a b : ACode} (hc : evO (get e) c = some (.bool false)) (hn : norm kb e = e') (hw : W P b Q ⟨e', h⟩) : W P (.cond c ka a kb b) Q ⟨e, h⟩ := W_false hc (by rw [hn]; exact hw)
theorem s_condS {c : O} {ka kb : List Nat} {a b : ACode} {t : Bool} {e1 e2 : Env} (hc : evO (get e) c = some (.bool t)) (hn1 : norm ka e = e1) (hn2 : norm kb e = e2) (hw : Br (t = true) (W P a Q ⟨e1, h⟩) (W P b Q ⟨e2, h⟩)) : W P (.cond c ka a kb b) Q ⟨e, h⟩ :=
  W_cond hc (fun ht => by rw [hn1]; exact hw.1 ht) (fun ht => by rw [hn2]; exact hw.2 (by simp [ht]))
end code
section ops
variable {P : Program} {e : Env} {h : Heap} {r : List AIns} {K : Env → Heap → Prop} {t : Nat} {dst : Option Nat}
theorem s_nil {e2 : Env} {keep : List Nat} {Q : X → St → Prop} (hK : ∀ e1 h1 e2, norm keep e1 = e2 → Q .normal ⟨e2, h1⟩ → K e1 h1) (hn : norm keep e = e2) (hq : Q .normal ⟨e2, h⟩) : Wops P [] e h K := hK _ _ _ hn hq
theorem s_gt {g : Nat} {w : Bool} {op : AOp} (hg : get e g = some (.bool w)) (hw : Wops P (⟨dst, op, none⟩ :: r) e h K) : Wops P (⟨dst, op, some (g, w)⟩ :: r) e h K := by
  have hw' : Wins P ⟨dst, op, none⟩ e h fun e' h' => Wops P r e' h' K := hw
  show Wins P _ e h fun e' h' => Wops P r e' h' K
  unfold Wins at hw' ⊢
  simp only [hg, if_true]
  exact hw'
theorem s_gf {g : Nat} {w : Bool} {op : AOp} (hg : get e g = some (.bool (!w))) (hw : Wops P r (put dst (.tup []) e) h K) : Wops P (⟨dst, op, some (g, w)⟩ :: r) e h K := by
  show Wins P _ e h fun e' h' => Wops P r e' h' K
  unfold Wins
  simp only [hg]
  rw [if_neg (by cases w <;> simp)]
  exact hw
theorem s_gx {g : Nat} {w : Bool} {op : AOp} {vs : List D} (hg : get e g = some (.tup vs)) (hw : Wops P r (put dst (.tup []) e) h K) : Wops P (⟨dst, op, some (g, w)⟩ :: r) e h K := by
  show Wins P _ e h fun e' h' => Wops P r e' h' K
  unfold Wins
  simp only [hg]
  exact hw
theorem s_gx1 {g : Nat} {w : Bool} {op : AOp} {vs : List D} (hg : get e g = some (.tup vs)) (hw : Wops P r ((t, .tup []) :: e) h K) : Wops P (⟨some t, op, some (g, w)⟩ :: r) e h K := s_gx hg hw
theorem s_gxn {g : Nat} {w : Bool} {op : AOp} {vs : List D} (hg : get e g = some (.tup vs)) (hw : Wops P r e h K) : Wops P (⟨none, op, some (g, w)⟩ :: r) e h K := s_gx hg hw
theorem s_gs {g : Nat} {w b : Bool} {op : AOp} (hg : get e g = some (.bool b)) (hw : Br (b = w) (Wops P (⟨dst, op, none⟩ :: r) e h K) (Wops P r (put dst (.tup []) e) h K)) : Wops P (⟨dst, op, some (g, w)⟩ :: r) e h K := by
  by_cases hb : b = w
  · subst hb; exact s_gt hg (hw.1 rfl)
  · obtain rfl : b = !w := by cases b <;> cases w <;> simp at hb ⊢
    exact s_gf hg (hw.2 hb)
theorem s_op {op : AOp} {d : D} {h' : Heap} (hc : ∀ f a, op ≠ .call f a) (hm : makes op = false) (he : evOp (get e) h 0 op = some (d, h')) (hw : Wops P r (put dst d e) h' K) : Wops P (⟨dst, op, none⟩ :: r) e h K := by
  show Wins P _ e h fun e' h' => Wops P r e' h' K
  unfold Wins
  simp only
  unfold runIns
  split
  · rename_i f args hop; exact absurd hop (hc _ _)
  · rename_i hnc
    simp only at hm ⊢
    rw [hm]
    simp only [Bool.false_eq_true, if_false, he]
    exact hw
theorem s_mk {op : AOp} (hc : ∀ f a, op ≠ .call f a) (hm : makes op = true) (hw : ∀ k, h k = none → ∃ d h', evOp (get e) h k op = some (d, h') ∧ Wops P r (put dst d e) h' K) : Wops P (⟨dst, op, none⟩ :: r) e h K := by
  show Wins P _ e h fun e' h' => Wops P r e' h' K
  unfold Wins
  simp only
  unfold runIns
  split
  · rename_i f args hop; exact absurd hop (hc _ _)
  · rename_i hnc
    simp only at hm ⊢
    rw [hm]
    simp only [if_true]
    intro k hk
    obtain ⟨d, h', h1, h2⟩ := hw k hk
    rw [h1]
    exact h2
theorem s_call {f : O} {args : List O} {g : Nat} {fst caps ds : List D} (h1 : evO (get e) f = some (.fn g fst caps)) (h2 : evOs (get e) args = some ds) (hc : Con P g (fst ++ ds ++ caps) h fun d h' => Wops P r (put dst d e) h' K) : Wops P (⟨dst, .call f args, none⟩ :: r) e h K := by
  show Wins P _ e h fun e' h' => Wops P r e' h' K
  unfold Wins
  simp only
  unfold runIns
  simp only [h1, h2]
  exact hc
theorem s_call0 {args : List O} {g : Nat} {ds : List D} (h2 : evOs (get e) args = some ds) (hc : Con P g ds h fun d h' => Wops P r (put dst d e) h' K) : Wops P (⟨dst, .call (.fnc g) args, none⟩ :: r) e h K :=
  s_call (g := g) (fst := []) (caps := []) rfl h2 (by simpa using hc)
theorem s_mv {x : O} {d : D} (h1 : evO (get e) x = some d) (hw : Wops P r ((t, d) :: e) h K) : Wops P (⟨some t, .mv x, none⟩ :: r) e h K :=
  s_op (d := d) (h' := h) (by simp) rfl (by simp only [evOp, h1]) hw
theorem s_pickT {c a b : O} {d : D} (h1 : evO (get e) c = some (.bool true)) (h2 : evO (get e) a = some d) (hw : Wops P r ((t, d) :: e) h K) : Wops P (⟨some t, .pick c a b, none⟩ :: r) e h K :=
  s_op (d := d) (h' := h) (by simp) rfl (by simp only [evOp, h1, h2, if_true]) hw
theorem s_pickF {c a b : O} {d : D} (h1 : evO (get e) c = some (.bool false)) (h2 : evO (get e) b = some d) (hw : Wops P r ((t, d) :: e) h K) : Wops P (⟨some t, .pick c a b, none⟩ :: r) e h K :=
  s_op (d := d) (h' := h) (by simp) rfl (by simp only [evOp, h1, h2, Bool.false_eq_true, if_false]) hw
theorem s_alloc {zero : List D} (hw : ∀ k, h k = none → Wops P r ((t, .pt k 0) :: e) (upd h k zero) K) : Wops P (⟨some t, .alloc zero, none⟩ :: r) e h K :=
  s_mk (by simp) rfl fun k hk => ⟨_, _, rfl, hw k hk⟩
theorem s_box {x : O} {d : D} {c : List D} (h1 : evO (get e) x = some d) (h2 : cellsD d = some c) (hw : ∀ k, h k = none → Wops P r ((t, .pt k 0) :: e) (upd h k c) K) : Wops P (⟨some t, .box x, none⟩ :: r) e h K :=
  s_mk (by simp) rfl fun k hk => ⟨_, _, by simp only [evOp, h1, Option.bind_some, h2], hw k hk⟩
theorem s_build {zero : List D} {parts : List (Nat × Nat × O)} {ps : List (Nat × Nat × List D)} {c : List D} (h1 : evQ (get e) parts = some ps) (h2 : fillB zero ps = some c) (hw : Wops P r ((t, .agg c) :: e) h K) : Wops P (⟨some t, .build zero parts, none⟩ :: r) e h K :=
  s_op (d := .agg c) (h' := h) (by simp) rfl (by simp only [evOp, h1, h2]) hw
theorem s_buildS {sz len : Nat} {zero : List D} {parts : List (Nat × Nat × O)} {ps : List (Nat × Nat × List D)} {c : List D} (h1 : evQ (get e) parts = some ps) (h0 : zero.length = sz ∧ 0 < sz) (h2 : fillB (rep len zero) ps = some c) (hw : ∀ k, h k = none → Wops P r ((t, .sl k sz 0 len) :: e) (upd h k c) K) : Wops P (⟨some t, .buildS sz zero len parts, none⟩ :: r) e h K :=
  s_mk (by simp) rfl fun k hk => ⟨_, _, by simp only [evOp, h1, if_pos h0, h2], hw k hk⟩
theorem s_loadV {n : Nat} {a : O} {c : List D} {off : Nat} {d : D} (h1 : evO (get e) a = some (.vp c off)) (h2 : c[off]? = some d) (hw : Wops P r ((t, d) :: e) h K) : Wops P (⟨some t, .load false n a, none⟩ :: r) e h K :=
  s_op (d := d) (h' := h) (by simp) rfl (by simp only [evOp, h1, Option.bind_some, memAt, ldD, Bool.false_eq_true, if_false, h2]) hw
theorem s_loadP {n : Nat} {a : O} {c : List D} {k off : Nat} {d : D} (h1 : evO (get e) a = some (.pt k off)) (hk : h k = some c) (h2 : c[off]? = some d) (hw : Wops P r ((t, d) :: e) h K) : Wops P (⟨some t, .load false n a, none⟩ :: r) e h K :=
  s_op (d := d) (h' := h) (by simp) rfl (by simp only [evOp, h1, Option.bind_some, memAt, hk, ldD, Bool.false_eq_true, if_false, h2]) hw
theorem s_loadAV {n : Nat} {a : O} {c : List D} {off : Nat} {x : List D} (h1 : evO (get e) a = some (.vp c off)) (h2 : off + n ≤ c.length) (hx : (c.drop off).take n = x) (hw : Wops P r ((t, .agg x) :: e) h K) : Wops P (⟨some t, .load true n a, none⟩ :: r) e h K :=
  s_op (d := .agg x) (h' := h) (by simp) rfl (by simp only [evOp, h1, Option.bind_some, memAt, ldD, if_true, if_pos h2, hx]) hw
theorem s_loadAP {n : Nat} {a : O} {c : List D} {k off : Nat} {x : List D} (h1 : evO (get e) a = some (.pt k off)) (hk : h k = some c) (h2 : off + n ≤ c.length) (hx : (c.drop off).take n = x) (hw : Wops P r ((t, .agg x) :: e) h K) : Wops P (⟨some t, .load true n a, none⟩ :: r) e h K :=
  s_op (d := .agg x) (h' := h) (by simp) rfl (by simp only [evOp, h1, Option.bind_some, memAt, hk, ldD, if_true, if_pos h2, hx]) hw
theorem s_store {n : Nat} {a x : O} {c new c' : List D} {k off : Nat} {d : D} (h1 : evO (get e) a = some (.pt k off)) (h2 : evO (get e) x = some d) (h3 : cellsD d = some new) (hk : h k = some c) (hl : new.length = n ∧ off + n ≤ c.length) (hs : splice c off new = c') (hw : Wops P r (put dst .undef e) (upd h k c') K) : Wops P (⟨dst, .store n a x, none⟩ :: r) e h K :=
  s_op (d := .undef) (h' := upd h k c') (by simp) rfl (by simp only [evOp, h1, h2, Option.bind_some, h3, hk, if_pos hl, hs]) hw
theorem s_nilckV {x : O} {c : List D} {o : Nat} (h1 : evO (get e) x = some (.vp c o)) (hw : Wops P r (put dst (.vp c o) e) h K) : Wops P (⟨dst, .nilck x, none⟩ :: r) e h K :=
  s_op (by simp) rfl (by simp only [evOp, h1]) hw
theorem s_nilckP {x : O} {k o : Nat} (h1 : evO (get e) x = some (.pt k o)) (hw : Wops P r (put dst (.pt k o) e) h K) : Wops P (⟨dst, .nilck x, none⟩ :: r) e h K :=
  s_op (by simp) rfl (by simp only [evOp, h1]) hw
theorem s_nilckF {x : O} {f : Nat} {fs cs : List D} (h1 : evO (get e) x = some (.fn f fs cs)) (hw : Wops P r (put dst (.fn f fs cs) e) h K) : Wops P (⟨dst, .nilck x, none⟩ :: r) e h K :=
  s_op (by simp) rfl (by simp only [evOp, h1]) hw
theorem s_add {x y : O} {k : IntKind} {a b c : Int} (h1 : evO (get e) x = some (.int k a)) (h2 : evO (get e) y = some (.int k b)) (hc : k.wrap (a + b) = c) (hw : Wops P r ((t, .int k c) :: e) h K) : Wops P (⟨some t, .bin .add x y, none⟩ :: r) e h K :=
  s_op (d := .int k c) (h' := h) (by simp) rfl (by simp only [evOp, h1, h2, binD, if_true, b2i, hc, Option.map_some]) hw
theorem s_sub {x y : O} {k : IntKind} {a b c : Int} (h1 : evO (get e) x = some (.int k a)) (h2 : evO (get e) y = some (.int k b)) (hc : k.wrap (a - b) = c) (hw : Wops P r ((t, .int k c) :: e) h K) : Wops P (⟨some t, .bin .sub x y, none⟩ :: r) e h K :=
  s_op (d := .int k c) (h' := h) (by simp) rfl (by simp only [evOp, h1, h2, binD, if_true, b2i, hc, Option.map_some]) hw
theorem s_cmp {x y : O} {op : BinOp} {k : IntKind} {a b : Int} {p : Prop} [Decidable p] (h1 : evO (get e) x = some (.int k a)) (h2 : evO (get e) y = some (.int k b)) (hp : cmpI op a b = some (decide p)) (hw : Br p (Wops P r ((t, .bool true) :: e) h K) (Wops P r ((t, .bool false) :: e) h K)) : Wops P (⟨some t, .bin op x y, none⟩ :: r) e h K := by
  refine s_op (d := .bool (decide p)) (h' := h) (by simp) rfl (by cases op <;> first | (simp [cmpI] at hp; done) | simp only [evOp, h1, h2, binD, if_true, hp, Option.map_some]) ?_
  by_cases hq : p
  · rw [decide_eq_true hq]; exact hw.1 hq
  · rw [decide_eq_false hq]; exact hw.2 hq
theorem c_eql {a b : Int} : cmpI .eql a b = some (decide (a = b)) := by simp only [cmpI, beq_dec]
theorem c_neq {a b : Int} : cmpI .neq a b = some (decide (a ≠ b)) := by simp only [cmpI, bne_dec]
theorem c_lss {a b : Int} : cmpI .lss a b = some (decide (a < b)) := rfl
theorem c_leq {a b : Int} : cmpI .leq a b = some (decide (a ≤ b)) := rfl
theorem c_gtr {a b : Int} : cmpI .gtr a b = some (decide (b < a)) := rfl
theorem c_geq {a b : Int} : cmpI .geq a b = some (decide (b ≤ a)) := rfl
theorem s_eqB {neg : Bool} {x y : O} {a b c : Bool} (h1 : evO (get e) x = some (.bool a)) (h2 : evO (get e) y = some (.bool b)) (hc : (if neg then !(a == b) else a == b) = c) (hw : Wops P r ((t, .bool c) :: e) h K) : Wops P (⟨some t, .eqB neg x y, none⟩ :: r) e h K :=
  s_op (d := .bool c) (h' := h) (by simp) rfl (by simp only [evOp, h1, h2, hc]) hw
theorem s_eqBt {x y : O} {a b : Bool} (h1 : evO (get e) x = some (.bool a)) (h2 : evO (get e) y = some (.bool b)) (hw : Wops P r ((t, .bool (!(a == b))) :: e) h K) : Wops P (⟨some t, .eqB true x y, none⟩ :: r) e h K := s_eqB h1 h2 rfl hw
theorem s_eqBf {x y : O} {a b : Bool} (h1 : evO (get e) x = some (.bool a)) (h2 : evO (get e) y = some (.bool b)) (hw : Wops P r ((t, .bool (a == b)) :: e) h K) : Wops P (⟨some t, .eqB false x y, none⟩ :: r) e h K := s_eqB h1 h2 rfl hw
theorem s_eqA {neg : Bool} {tags : List Nat} {x y : O} {a b : List D} {u c : Bool} (h1 : evO (get e) x = some (.agg a)) (h2 : evO (get e) y = some (.agg b)) (h3 : eqL tags a b = some u) (hc : (if neg then !u else u) = c) (hw : Wops P r ((t, .bool c) :: e) h K) : Wops P (⟨some t, .eqA neg tags x y, none⟩ :: r) e h K :=
  s_op (d := .bool c) (h' := h) (by simp) rfl (by simp only [evOp, h1, h2, h3, hc]) hw
theorem s_eqN {neg : Bool} {x : O} {d : D} {u c : Bool} (h1 : evO (get e) x = some d) (h3 : isNilD d = some u) (hc : (if neg then !u else u) = c) (hw : Wops P r ((t, .bool c) :: e) h K) : Wops P (⟨some t, .eqN neg x, none⟩ :: r) e h K :=
  s_op (d := .bool c) (h' := h) (by simp) rfl (by simp only [evOp, h1, Option.bind_some, h3, hc]) hw
theorem s_not {x : O} {b c : Bool} (h1 : evO (get e) x = some (.bool b)) (hc : (!b) = c) (hw : Wops P r ((t, .bool c) :: e) h K) : Wops P (⟨some t, .un .not x, none⟩ :: r) e h K :=
  s_op (d := .bool c) (h' := h) (by simp) rfl (by simp only [evOp, h1, hc]) hw
theorem s_strEq {x y : O} {a b : ByteArray} (h1 : evO (get e) x = some (.str a)) (h2 : evO (get e) y = some (.str b)) (hw : Wops P r ((t, .bool (a.toList == b.toList)) :: e) h K) : Wops P (⟨some t, .bin .eql x y, none⟩ :: r) e h K :=
  s_op (d := .bool (a.toList == b.toList)) (h' := h) (by simp) rfl (by simp only [evOp, h1, h2, binD]) hw
theorem s_strNe {x y : O} {a b : ByteArray} (h1 : evO (get e) x = some (.str a)) (h2 : evO (get e) y = some (.str b)) (hw : Wops P r ((t, .bool (!(a.toList == b.toList))) :: e) h K) : Wops P (⟨some t, .bin .neq x y, none⟩ :: r) e h K :=
  s_op (d := .bool (!(a.toList == b.toList))) (h' := h) (by simp) rfl (by simp only [evOp, h1, h2, binD]) hw
theorem s_mkfn {f : Nat} {fst caps : List O} {fs cs : List D} (h1 : evOs (get e) fst = some fs) (h2 : evOs (get e) caps = some cs) (hw : Wops P r ((t, .fn f fs cs) :: e) h K) : Wops P (⟨some t, .mkfn f fst caps, none⟩ :: r) e h K :=
  s_op (d := .fn f fs cs) (h' := h) (by simp) rfl (by simp only [evOp, h1, h2]) hw
theorem s_mkslice {sz bytes : Nat} {zero : List D} {len cap : O} {k1 k2 : IntKind} {n c : Int} {m : Nat} (h1 : evO (get e) len = some (.int k1 n)) (h2 : evO (get e) cap = some (.int k2 c)) (h0 : zero.length = sz ∧ 0 < sz ∧ 0 ≤ n ∧ n ≤ c ∧ c * bytes ≤ room ∧ c ≤ 9223372036854775807) (hm : n.toNat = m)
    (hw : ∀ k, h k = none → Wops P r ((t, .sl k sz 0 m) :: e) (upd h k (rep m zero)) K) : Wops P (⟨some t, .mkslice sz bytes zero len cap, none⟩ :: r) e h K :=
  s_mk (by simp) rfl fun k hk => ⟨_, _, by simp only [evOp, h1, h2, if_pos h0, hm], hw k hk⟩
theorem s_faddrV {off : Nat} {x : O} {c : List D} {o o' : Nat} (h1 : evO (get e) x = some (.vp c o)) (ho : o + off = o') (hw : Wops P r ((t, .vp c o') :: e) h K) : Wops P (⟨some t, .faddr off x, none⟩ :: r) e h K :=
  s_op (d := .vp c o') (h' := h) (by simp) rfl (by simp only [evOp, h1, ho]) hw
theorem s_faddrP {off : Nat} {x : O} {k o o' : Nat} (h1 : evO (get e) x = some (.pt k o)) (ho : o + off = o') (hw : Wops P r ((t, .pt k o') :: e) h K) : Wops P (⟨some t, .faddr off x, none⟩ :: r) e h K :=
  s_op (d := .pt k o') (h' := h) (by simp) rfl (by simp only [evOp, h1, ho]) hw
theorem s_iaddrV {sz : Nat} {x i : O} {c : List D} {len : Nat} {k : IntKind} {n : Int} {j : Nat} (h1 : evO (get e) x = some (.vs sz c len)) (h2 : evO (get e) i = some (.int k n)) (h0 : 0 ≤ n ∧ n < len) (hj : n.toNat * sz = j) (hw : Wops P r ((t, .vp c j) :: e) h K) : Wops P (⟨some t, .iaddr sz x i, none⟩ :: r) e h K :=
  s_op (d := .vp c j) (h' := h) (by simp) rfl (by simp only [evOp, h1, h2, true_and, if_pos h0, hj]) hw
theorem s_iaddrO {sz : Nat} {x i : O} {kk off len : Nat} {c : List D} {k : IntKind} {n : Int} {j : Nat} (h1 : evO (get e) x = some (.sl kk sz off len)) (h2 : evO (get e) i = some (.int k n)) (h0 : 0 ≤ n ∧ n < len) (hk : h kk = some c) (hj : off + n.toNat * sz = j) (hw : Wops P r ((t, .pt kk j) :: e) h K) : Wops P (⟨some t, .iaddr sz x i, none⟩ :: r) e h K :=
  s_op (d := .pt kk j) (h' := h) (by simp) rfl (by simp only [evOp, h1, h2, true_and, if_pos h0, hk, hj]) hw
theorem s_extract {i : Nat} {x : O} {vs : List D} {d : D} (h1 : evO (get e) x = some (.tup vs)) (h2 : vs[i]? = some d) (hw : Wops P r ((t, d) :: e) h K) : Wops P (⟨some t, .extract i x, none⟩ :: r) e h K :=
  s_op (d := d) (h' := h) (by simp) rfl (by simp only [evOp, h1, h2]) hw
theorem s_len {x : O} {d : D} {n : Nat} (h1 : evO (get e) x = some d) (h2 : lenD d = some n) (hw : Wops P r ((t, .int .i64 n) :: e) h K) : Wops P (⟨some t, .len x, none⟩ :: r) e h K :=
  s_op (d := .int .i64 n) (h' := h) (by simp) rfl (by simp only [evOp, h1, Option.bind_some, h2]) hw
theorem s_append {sz bytes : Nat} {x y : O} {a b : D} (h1 : evO (get e) x = some a) (h2 : evO (get e) y = some b) (hw : ∀ k, h k = none → ∃ d h', appD h k sz bytes a b = some (d, h') ∧ Wops P r ((t, d) :: e) h' K) : Wops P (⟨some t, .append sz bytes x y, none⟩ :: r) e h K :=
  s_mk (by simp) rfl fun k hk => let ⟨d, h', h3, h4⟩ := hw k hk; ⟨d, h', by simp only [evOp, h1, h2, h3], h4⟩
theorem s_mima {mx : Bool} {xs : List O} {ds : List D} {d : D} (h1 : evOs (get e) xs = some ds) (h2 : mimaD mx ds = some d) (hw : Wops P r ((t, d) :: e) h K) : Wops P (⟨some t, .mima mx xs, none⟩ :: r) e h K :=
  s_op (d := d) (h' := h) (by simp) rfl (by simp only [evOp, h1, Option.bind_some, h2]) hw
theorem s_eql {x y : O} {k : IntKind} {a b : Int} (h1 : evO (get e) x = some (.int k a)) (h2 : evO (get e) y = some (.int k b)) (hw : Br (a = b) (Wops P r ((t, .bool true) :: e) h K) (Wops P r ((t, .bool false) :: e) h K)) : Wops P (⟨some t, .bin .eql x y, none⟩ :: r) e h K := s_cmp h1 h2 c_eql hw
theorem s_neq {x y : O} {k : IntKind} {a b : Int} (h1 : evO (get e) x = some (.int k a)) (h2 : evO (get e) y = some (.int k b)) (hw : Br (a = b) (Wops P r ((t, .bool false) :: e) h K) (Wops P r ((t, .bool true) :: e) h K)) : Wops P (⟨some t, .bin .neq x y, none⟩ :: r) e h K := s_cmp h1 h2 c_neq ⟨fun h => hw.2 h, fun h => hw.1 (Decidable.not_not.1 h)⟩
theorem s_lss {x y : O} {k : IntKind} {a b : Int} (h1 : evO (get e) x = some (.int k a)) (h2 : evO (get e) y = some (.int k b)) (hw : Br (a < b) (Wops P r ((t, .bool true) :: e) h K) (Wops P r ((t, .bool false) :: e) h K)) : Wops P (⟨some t, .bin .lss x y, none⟩ :: r) e h K := s_cmp h1 h2 c_lss hw
theorem s_leq {x y : O} {k : IntKind} {a b : Int} (h1 : evO (get e) x = some (.int k a)) (h2 : evO (get e) y = some (.int k b)) (hw : Br (a ≤ b) (Wops P r ((t, .bool true) :: e) h K) (Wops P r ((t, .bool false) :: e) h K)) : Wops P (⟨some t, .bin .leq x y, none⟩ :: r) e h K := s_cmp h1 h2 c_leq hw
theorem s_gtr {x y : O} {k : IntKind} {a b : Int} (h1 : evO (get e) x = some (.int k a)) (h2 : evO (get e) y = some (.int k b)) (hw : Br (b < a) (Wops P r ((t, .bool true) :: e) h K) (Wops P r ((t, .bool false) :: e) h K)) : Wops P (⟨some t, .bin .gtr x y, none⟩ :: r) e h K := s_cmp h1 h2 c_gtr hw
theorem s_geq {x y : O} {k : IntKind} {a b : Int} (h1 : evO (get e) x = some (.int k a)) (h2 : evO (get e) y = some (.int k b)) (hw : Br (b ≤ a) (Wops P r ((t, .bool true) :: e) h K) (Wops P r ((t, .bool false) :: e) h K)) : Wops P (⟨some t, .bin .geq x y, none⟩ :: r) e h K := s_cmp h1 h2 c_geq hw
theorem s_call1 {args : List O} {g : Nat} {ds : List D} (h2 : evOs (get e) args = some ds) (hc : Con P g ds h fun d h' => Wops P r ((t, d) :: e) h' K) : Wops P (⟨some t, .call (.fnc g) args, none⟩ :: r) e h K := s_call0 h2 hc
theorem s_calln {args : List O} {g : Nat} {ds : List D} (h2 : evOs (get e) args = some ds) (hc : Con P g ds h fun _ h' => Wops P r e h' K) : Wops P (⟨none, .call (.fnc g) args, none⟩ :: r) e h K := s_call0 h2 hc
theorem s_gf1 {g : Nat} {w : Bool} {op : AOp} (hg : get e g = some (.bool (!w))) (hw : Wops P r ((t, .tup []) :: e) h K) : Wops P (⟨some t, op, some (g, w)⟩ :: r) e h K := s_gf hg hw
theorem s_gfn {g : Nat} {w : Bool} {op : AOp} (hg : get e g = some (.bool (!w))) (hw : Wops P r e h K) : Wops P (⟨none, op, some (g, w)⟩ :: r) e h K := s_gf hg hw
theorem s_store0 {n : Nat} {a x : O} {c new c' : List D} {k off : Nat} {d : D} (h1 : evO (get e) a = some (.pt k off)) (h2 : evO (get e) x = some d) (h3 : cellsD d = some new) (hk : h k = some c) (hl : new.length = n ∧ off + n ≤ c.length) (hs : splice c off new = c') {h' : Heap} (hh : upd h k c' = h') (hw : Wops P r e h' K) : Wops P (⟨none, .store n a x, none⟩ :: r) e h K := s_store h1 h2 h3 hk hl hs (by rw [hh]; exact hw)
end ops
theorem exc_v {h : Heap} {ko : Option Nat} {d : D} (hd : (match d with | .ow _ _ _ => false | _ => true) = true) (hf : flat d = true) : ExC h ko d d := by
  cases d <;> simp only [ExC] <;> first | exact ⟨rfl, hf⟩ | exact ⟨trivial, hf⟩ | (simp at hd)
theorem exc_n {h : Heap} {sz : Nat} : ExC h none .nil (.ow sz [] 0) := Or.inl ⟨rfl, rfl, rfl, .inl rfl⟩
theorem exc_e {h : Heap} {sz : Nat} : ExC h none .emp (.ow sz [] 0) := Or.inl ⟨rfl, rfl, rfl, .inr rfl⟩
theorem exc_o {h : Heap} {k sz len : Nat} {cells : List D} (hk : h k = some cells) (hl : cells.length = len * sz) (hs : cells.all scal = true) : ExC h (some k) (.sl k sz 0 len) (.ow sz cells len) := Or.inr ⟨k, rfl, rfl, hk, hl, hs⟩
theorem Fin_tup {rs : List ARes} {e : Env} {h : Heap} {ds ws : List D} {x : X} (hx : match x with | .exit _ => False | _ => True) (hd : resD rs (get e) h = some (.tup ds)) (ha : All2 (ExC h none) ds ws) (hn : nOw ws ≤ 1) : Fin rs (.tup ws) x ⟨e, h⟩ := ⟨hx, _, hd, Ex_tup none (by simp) ha hn⟩
theorem Fin_own {rs : List ARes} {e : Env} {h : Heap} {ds ws : List D} {x : X} {k : Nat} {c : List D} (hx : match x with | .exit _ => False | _ => True) (hd : resD rs (get e) h = some (.tup ds)) (hk : h k = some c) (ha : All2 (ExC h (some k)) ds ws) (hn : nOw ws ≤ 1) : Fin rs (.tup ws) x ⟨e, h⟩ := ⟨hx, _, hd, Ex_tup (some k) (fun k' h => by injection h with h; subst h; exact ⟨c, hk⟩) ha hn⟩
theorem Fin_sl {rs : List ARes} {e : Env} {h : Heap} {k sz len : Nat} {c : List D} {x : X} (hx : match x with | .exit _ => False | _ => True) (hd : resD rs (get e) h = some (.sl k sz 0 len)) (hk : h k = some c) (hl : c.length = len * sz) (hs : c.all scal = true) : Fin rs (.ow sz c len) x ⟨e, h⟩ := ⟨hx, _, hd, Ex_own hk hl hs⟩
theorem Fin_nil {rs : List ARes} {e : Env} {h : Heap} {sz : Nat} {x : X} (hx : match x with | .exit _ => False | _ => True) (hd : resD rs (get e) h = some .nil) : Fin rs (.ow sz [] 0) x ⟨e, h⟩ := ⟨hx, _, hd, Ex_nil⟩
theorem gm {α : Type} {f : α → D} {xs : List α} {i : Nat} (h : i < xs.length) : (xs.map f)[i]? = some (f xs[i]) := by simp [h]
theorem room_i : ((room : Nat) : Int) = 140737488355328 := by decide
theorem Br_dec {p A B : Prop} [Decidable p] (h : Br p A B) : Br (decide p = true) A B := by simpa [Br] using h
theorem Br_not {b : Bool} {A B : Prop} (h : Br (b = true) B A) : Br ((!b) = true) A B := ⟨fun hb => h.2 (by simpa using hb), fun hb => h.1 (by simpa using hb)⟩
theorem Br_eqF {b : Bool} {A B : Prop} (h : Br (b = true) B A) : Br (b = false) A B := ⟨fun hb => h.2 (by simp [hb]), fun hb => h.1 (by simpa using hb)⟩
theorem Br_and {p q A B : Prop} (h : Br p (Br q A B) B) : Br (p ∧ q) A B := ⟨fun hpq => (h.1 hpq.1).1 hpq.2, fun hn => by by_cases hp : p; exact (h.1 hp).2 fun hq => hn ⟨hp, hq⟩; exact h.2 hp⟩
theorem Br_or {p q A B : Prop} (h : Br p A (Br q A B)) : Br (p ∨ q) A B := ⟨fun hpq => by by_cases hp : p; exact h.1 hp; exact (h.2 hp).1 (hpq.resolve_left hp), fun hn => (h.2 fun hp => hn (.inl hp)).2 fun hq => hn (.inr hq)⟩
theorem Br_neg {p A B : Prop} (h : Br p B A) : Br (¬p) A B := ⟨fun hp => h.2 hp, fun hp => h.1 (Decidable.not_not.1 hp)⟩
theorem Br_band {a b : Bool} {A B : Prop} (h : Br (a = true) (Br (b = true) A B) B) : Br ((a && b) = true) A B := by rw [Bool.and_eq_true]; exact Br_and h
theorem Br_bor {a b : Bool} {A B : Prop} (h : Br (a = true) A (Br (b = true) A B)) : Br ((a || b) = true) A B := by rw [Bool.or_eq_true]; exact Br_or h
theorem Br_beq {α : Type} [BEq α] [LawfulBEq α] {a b : α} {A B : Prop} (h : Br (a = b) A B) : Br ((a == b) = true) A B := by simpa [Br] using h
theorem Br_sb {b : Bool} {A B : Prop} (ha : b = true → A) (hb : b = false → B) : Br (b = true) A B := ⟨ha, fun h => hb (by simpa using h)⟩
theorem con_valB {P : Program} {f : Nat} {ds ds' : List D} {h : Heap} {p : Prop} [Decidable p] {Q : D → Heap → Prop} (hp : PCon P f ds' (.bool (decide p))) (hr : All2 (Rd h) ds ds') (hq : Br p (Q (.bool true) h) (Q (.bool false) h)) : Con P f ds h Q :=
  con_val hp hr rfl (fun _ => rfl) (by by_cases h : p; (rw [decide_eq_true h]; exact hq.1 h); (rw [decide_eq_false h]; exact hq.2 h))
section drawn
variable {P : Program} {e : Env} {h : Heap} {r : List AIns} {K : Env → Prop} {t : Nat} {dst : Option Nat}
theorem d_nil {e2 : Env} {keep : List Nat} {Q : X → St → Prop} (hK : ∀ e1 e2, norm keep e1 = e2 → Q .normal ⟨e2, h⟩ → K e1) (hn : norm keep e = e2) (hq : Q .normal ⟨e2, h⟩) : WdR P [] e h K := hK _ _ hn hq
theorem d_back {K : Env → Heap → Prop} (hk : K e h) : Wops P [] e h K := hk
theorem d_gt {g : Nat} {w : Bool} {op : AOp} (hg : get e g = some (.bool w)) (hw : WdR P (⟨dst, op, none⟩ :: r) e h K) : WdR P (⟨dst, op, some (g, w)⟩ :: r) e h K := by
  simp only [WdR] at hw ⊢
  simp only [hg, if_true]
  exact hw
theorem d_gf {g : Nat} {w : Bool} {op : AOp} (hg : get e g = some (.bool (!w))) (hw : WdR P r (put dst (.tup []) e) h K) : WdR P (⟨dst, op, some (g, w)⟩ :: r) e h K := by
  simp only [WdR, hg]
  rw [if_neg (by cases w <;> simp)]
  exact hw
theorem d_gx {g : Nat} {w : Bool} {op : AOp} {vs : List D} (hg : get e g = some (.tup vs)) (hw : WdR P r (put dst (.tup []) e) h K) : WdR P (⟨dst, op, some (g, w)⟩ :: r) e h K := by
  simp only [WdR, hg]
  exact hw
theorem d_gs {g : Nat} {w b : Bool} {op : AOp} (hg : get e g = some (.bool b)) (hw : Br (b = w) (WdR P (⟨dst, op, none⟩ :: r) e h K) (WdR P r (put dst (.tup []) e) h K)) : WdR P (⟨dst, op, some (g, w)⟩ :: r) e h K := by
  by_cases hb : b = w
  · subst hb; exact d_gt hg (hw.1 rfl)
  · obtain rfl : b = !w := by cases b <;> cases w <;> simp at hb ⊢
    exact d_gf hg (hw.2 hb)
def isEqN : AOp → Bool
  | .eqN .. => true
  | _ => false
theorem d_step {op : AOp} (hc : cls op = 0 ∨ cls op = 1) (hw : Wops P [⟨dst, op, none⟩] e h fun e' _ => WdR P r e' h K) (hne : isEqN op = false := by rfl) : WdR P (⟨dst, op, none⟩ :: r) e h K := by
  have hw' : runIns P ⟨dst, op, none⟩ e h fun e' _ => WdR P r e' h K := hw
  simp only [WdR, WdI]
  cases op <;> first
    | exact hw'
    | (exfalso; simp [cls] at hc; done)
    | (exfalso; simp [isEqN] at hne; done)
    | (simp only [runIns, makes, Bool.false_eq_true, if_false] at hw'
       split at hw'
       · rename_i he; simp only [he]; exact hw'
       · obtain ⟨⟨g, x, sz, c, hop, _⟩, _⟩ := hw'
         cases hop)
theorem d_call {args : List O} {g : Nat} {ds ds' : List D} {r0 : D} (h2 : evOs (get e) args = some ds) (hp : PCon P g ds' r0) (hr : All2 (Rd h) ds ds') (hw : WdR P r (put dst (unow r0) e) h K) : WdR P (⟨dst, .call (.fnc g) args, none⟩ :: r) e h K := by
  simp only [WdR, WdI, evO, h2]
  exact ⟨ds', r0, by simpa using hr, hp, hw⟩
end drawn
end Go.AM
end
section
/- Checks of an operation's kind: each leaves its goal as it is. Generic over the program. -/
set_option linter.unusedSimpArgs false
set_option linter.unusedVariables false
namespace Go.AM
section
variable {P : Program} {e : Env} {h : Heap} {r : List AIns} {K : Env → Heap → Prop} {dst : Option Nat}
theorem k_mv {x : O} (hw : Wops P (⟨dst, .mv x, none⟩ :: r) e h K) : Wops P (⟨dst, .mv x, none⟩ :: r) e h K := hw
theorem k_pick {a b c : O} (hw : Wops P (⟨dst, .pick a b c, none⟩ :: r) e h K) : Wops P (⟨dst, .pick a b c, none⟩ :: r) e h K := hw
theorem k_alloc {z : List D} (hw : Wops P (⟨dst, .alloc z, none⟩ :: r) e h K) : Wops P (⟨dst, .alloc z, none⟩ :: r) e h K := hw
theorem k_box {x : O} (hw : Wops P (⟨dst, .box x, none⟩ :: r) e h K) : Wops P (⟨dst, .box x, none⟩ :: r) e h K := hw
theorem k_build {z : List D} {p : List (Nat × Nat × O)} (hw : Wops P (⟨dst, .build z p, none⟩ :: r) e h K) : Wops P (⟨dst, .build z p, none⟩ :: r) e h K := hw
theorem k_buildS {n m : Nat} {z : List D} {p : List (Nat × Nat × O)} (hw : Wops P (⟨dst, .buildS n z m p, none⟩ :: r) e h K) : Wops P (⟨dst, .buildS n z m p, none⟩ :: r) e h K := hw
theorem k_load {n : Nat} {a : O} (hw : Wops P (⟨dst, .load false n a, none⟩ :: r) e h K) : Wops P (⟨dst, .load false n a, none⟩ :: r) e h K := hw
theorem k_loadA {n : Nat} {a : O} (hw : Wops P (⟨dst, .load true n a, none⟩ :: r) e h K) : Wops P (⟨dst, .load true n a, none⟩ :: r) e h K := hw
theorem k_store {n : Nat} {a x : O} (hw : Wops P (⟨dst, .store n a x, none⟩ :: r) e h K) : Wops P (⟨dst, .store n a x, none⟩ :: r) e h K := hw
theorem k_nilck {x : O} (hw : Wops P (⟨dst, .nilck x, none⟩ :: r) e h K) : Wops P (⟨dst, .nilck x, none⟩ :: r) e h K := hw
theorem k_eqB {g : Bool} {x y : O} (hw : Wops P (⟨dst, .eqB g x y, none⟩ :: r) e h K) : Wops P (⟨dst, .eqB g x y, none⟩ :: r) e h K := hw
theorem k_eqA {g : Bool} {l : List Nat} {x y : O} (hw : Wops P (⟨dst, .eqA g l x y, none⟩ :: r) e h K) : Wops P (⟨dst, .eqA g l x y, none⟩ :: r) e h K := hw
theorem k_eqN {g : Bool} {x : O} (hw : Wops P (⟨dst, .eqN g x, none⟩ :: r) e h K) : Wops P (⟨dst, .eqN g x, none⟩ :: r) e h K := hw
theorem k_not {x : O} (hw : Wops P (⟨dst, .un .not x, none⟩ :: r) e h K) : Wops P (⟨dst, .un .not x, none⟩ :: r) e h K := hw
theorem k_mkfn {f : Nat} {a b : List O} (hw : Wops P (⟨dst, .mkfn f a b, none⟩ :: r) e h K) : Wops P (⟨dst, .mkfn f a b, none⟩ :: r) e h K := hw
theorem k_mkslice {n m : Nat} {z : List D} {a b : O} (hw : Wops P (⟨dst, .mkslice n m z a b, none⟩ :: r) e h K) : Wops P (⟨dst, .mkslice n m z a b, none⟩ :: r) e h K := hw
theorem k_faddr {n : Nat} {x : O} (hw : Wops P (⟨dst, .faddr n x, none⟩ :: r) e h K) : Wops P (⟨dst, .faddr n x, none⟩ :: r) e h K := hw
theorem k_iaddr {n : Nat} {x y : O} (hw : Wops P (⟨dst, .iaddr n x y, none⟩ :: r) e h K) : Wops P (⟨dst, .iaddr n x y, none⟩ :: r) e h K := hw
theorem k_extract {n : Nat} {x : O} (hw : Wops P (⟨dst, .extract n x, none⟩ :: r) e h K) : Wops P (⟨dst, .extract n x, none⟩ :: r) e h K := hw
theorem k_len {x : O} (hw : Wops P (⟨dst, .len x, none⟩ :: r) e h K) : Wops P (⟨dst, .len x, none⟩ :: r) e h K := hw
theorem k_append {n m : Nat} {x y : O} (hw : Wops P (⟨dst, .append n m x y, none⟩ :: r) e h K) : Wops P (⟨dst, .append n m x y, none⟩ :: r) e h K := hw
theorem k_mima {g : Bool} {l : List O} (hw : Wops P (⟨dst, .mima g l, none⟩ :: r) e h K) : Wops P (⟨dst, .mima g l, none⟩ :: r) e h K := hw
theorem k_callF {n : Nat} {l : List O} (hw : Wops P (⟨dst, .call (.fnc n) l, none⟩ :: r) e h K) : Wops P (⟨dst, .call (.fnc n) l, none⟩ :: r) e h K := hw
theorem k_callT {n : Nat} {l : List O} (hw : Wops P (⟨dst, .call (.tmp n) l, none⟩ :: r) e h K) : Wops P (⟨dst, .call (.tmp n) l, none⟩ :: r) e h K := hw
theorem k_add {x y : O} (hw : Wops P (⟨dst, .bin .add x y, none⟩ :: r) e h K) : Wops P (⟨dst, .bin .add x y, none⟩ :: r) e h K := hw
theorem k_sub {x y : O} (hw : Wops P (⟨dst, .bin .sub x y, none⟩ :: r) e h K) : Wops P (⟨dst, .bin .sub x y, none⟩ :: r) e h K := hw
theorem k_eql {x y : O} (hw : Wops P (⟨dst, .bin .eql x y, none⟩ :: r) e h K) : Wops P (⟨dst, .bin .eql x y, none⟩ :: r) e h K := hw
theorem k_neq {x y : O} (hw : Wops P (⟨dst, .bin .neq x y, none⟩ :: r) e h K) : Wops P (⟨dst, .bin .neq x y, none⟩ :: r) e h K := hw
theorem k_lss {x y : O} (hw : Wops P (⟨dst, .bin .lss x y, none⟩ :: r) e h K) : Wops P (⟨dst, .bin .lss x y, none⟩ :: r) e h K := hw
theorem k_leq {x y : O} (hw : Wops P (⟨dst, .bin .leq x y, none⟩ :: r) e h K) : Wops P (⟨dst, .bin .leq x y, none⟩ :: r) e h K := hw
theorem k_gtr {x y : O} (hw : Wops P (⟨dst, .bin .gtr x y, none⟩ :: r) e h K) : Wops P (⟨dst, .bin .gtr x y, none⟩ :: r) e h K := hw
theorem k_geq {x y : O} (hw : Wops P (⟨dst, .bin .geq x y, none⟩ :: r) e h K) : Wops P (⟨dst, .bin .geq x y, none⟩ :: r) e h K := hw
theorem k_guard {op : AOp} {g : Nat} {w : Bool} (hw : Wops P (⟨dst, op, some (g, w)⟩ :: r) e h K) : Wops P (⟨dst, op, some (g, w)⟩ :: r) e h K := hw
theorem k_nil (hw : Wops P [] e h K) : Wops P [] e h K := hw
end
section
variable {P : Program} {e : Env} {h : Heap} {r : List AIns} {K : Env → Prop} {dst : Option Nat}
theorem k_dguard {op : AOp} {g : Nat} {w : Bool} (hw : WdR P (⟨dst, op, some (g, w)⟩ :: r) e h K) : WdR P (⟨dst, op, some (g, w)⟩ :: r) e h K := hw
theorem k_dnil (hw : WdR P [] e h K) : WdR P [] e h K := hw
theorem k_dcall {n : Nat} {l : List O} (hw : WdR P (⟨dst, .call (.fnc n) l, none⟩ :: r) e h K) : WdR P (⟨dst, .call (.fnc n) l, none⟩ :: r) e h K := hw
theorem k_dop {op : AOp} (hw : WdR P (⟨dst, op, none⟩ :: r) e h K) : WdR P (⟨dst, op, none⟩ :: r) e h K := hw
end
section
variable {P : Program} {Q : X → St → Prop} {st : St}
theorem k_dreg {ops : List AIns} {b : List (List Nat)} {l : List Nat} (hw : W P (.dreg ops b l) Q st) : W P (.dreg ops b l) Q st := hw
theorem k_cond {c : O} {ka kb : List Nat} {a b : ACode} (hw : W P (.cond c ka a kb b) Q st) : W P (.cond c ka a kb b) Q st := hw
theorem k_br {p A B : Prop} (hw : Br p A B) : Br p A B := hw
theorem q_eqI {a b : Int} (h : a = b) : a = b := h
theorem q_eqN {a b : Nat} (h : a = b) : a = b := h
theorem q_eqL {a b : List D} (h : a = b) : a = b := h
theorem q_eqO {a b : Option D} (h : a = b) : a = b := h
theorem s_dregS {P : Program} {Q : X → St → Prop} {e : Env} {h : Heap} {ops pre : List AIns} {n : Nat} {a x : O} {bef : List (List Nat)} {keep : List Nat} (hs : pre ++ [⟨none, .store n a x, none⟩] = ops) (hbl : bef.length = pre.length + 1) (hro : pre.all readsOnly = true)
    (hw : ∀ K : Env → Heap → Prop, (∀ e1 h1 e2, norm keep e1 = e2 → Q .normal ⟨e2, h1⟩ → K e1 h1) → WdR P pre e h fun e' => Wops P [⟨none, .store n a x, none⟩] e' h K) : W P (.dreg ops bef keep) Q ⟨e, h⟩ := by
  subst hs
  exact W_dregS hbl hro fun K hK => hw K fun e1 h1 e2 h3 h4 => hK e1 h1 (by rw [h3]; exact h4)
theorem d_nilS {P : Program} {e : Env} {h : Heap} {l : List AIns} {K : Env → Heap → Prop} (hw : Wops P l e h K) : WdR P [] e h (fun e' => Wops P l e' h K) := hw
theorem k_con {f : Nat} {ds : List D} {h : Heap} {Q : D → Heap → Prop} (hw : Con P f ds h Q) : Con P f ds h Q := hw
end
end Go.AM
end
section
/- Slices that grow: what is appended to, in a block of its own or none. Generic over the program. -/
set_option linter.unusedSimpArgs false
set_option linter.unusedVariables false
namespace Go.AM
open Classical
def SlOwn (h : Heap) (d : D) (sz : Nat) (cells : List D) (n : Nat) : Prop :=
  cells.length = n * sz ∧ ((n = 0 ∧ (d = .nil ∨ d = .emp)) ∨ ∃ k, d = .sl k sz 0 n ∧ h k = some cells)
theorem SlOwn.nil {h : Heap} {sz : Nat} : SlOwn h .nil sz [] 0 := ⟨by simp, .inl ⟨rfl, .inl rfl⟩⟩
theorem SlOwn.emp {h : Heap} {sz : Nat} : SlOwn h .emp sz [] 0 := ⟨by simp, .inl ⟨rfl, .inr rfl⟩⟩
theorem SlOwn.sl {h : Heap} {k sz n : Nat} {cells : List D} (hk : h k = some cells) (hl : cells.length = n * sz) : SlOwn h (.sl k sz 0 n) sz cells n := ⟨hl, .inr ⟨k, rfl, hk⟩⟩
theorem SlOwn.len {h : Heap} {d : D} {sz n : Nat} {cells : List D} (ho : SlOwn h d sz cells n) : lenD d = some n := by
  obtain ⟨_, ⟨rfl, rfl | rfl⟩ | ⟨k, rfl, _⟩⟩ := ho <;> rfl
theorem append_own {h : Heap} {d y : D} {sz bytes n m key : Nat} {cells new : List D} (ho : SlOwn h d sz cells n) (hy : lenA y = some m) (hs : srcD h sz m y = some new) (hl : new.length = m * sz) (hsz : 0 < sz) (hr : (n + m) * bytes ≤ room) (hk : h key = none) :
    ∃ d' h', appD h key sz bytes d y = some (d', h') ∧ SlOwn h' d' sz (cells ++ new) (n + m) ∧ (∀ j c, h j = some c → (∀ sz off n, d ≠ .sl j sz off n) → h' j = some c) ∧ (∀ j, h j = none → j ≠ key → h' j = none) := by
  obtain ⟨hc, ⟨rfl, hd⟩ | ⟨k, rfl, hkc⟩⟩ := ho
  · have hc0 : cells = [] := by cases cells with | nil => rfl | cons _ _ => simp at hc
    subst hc0
    by_cases hm : m = 0
    · subst hm
      have hn : new = [] := by cases new with | nil => rfl | cons _ _ => simp at hl
      subst hn
      rcases hd with rfl | rfl
      · exact ⟨.nil, h, by simp [appD, hy, hs], SlOwn.nil, fun _ _ h1 _ => h1, fun _ h1 _ => h1⟩
      · exact ⟨.emp, h, by simp [appD, hy, hs], SlOwn.emp, fun _ _ h1 _ => h1, fun _ h1 _ => h1⟩
    · have hr' : m * bytes ≤ room := by simpa using hr
      have hso : SlOwn (upd h key new) (.sl key sz 0 m) sz ([] ++ new) (0 + m) := by
        rw [List.nil_append, Nat.zero_add]; exact SlOwn.sl upd_self hl
      have hoth : ∀ j c, h j = some c → upd h key new j = some c := fun j c hj => by rw [upd_ne (by rintro rfl; rw [hk] at hj; cases hj)]; exact hj
      have hnn : ∀ j, h j = none → j ≠ key → upd h key new j = none := fun j hj hjk => by rw [upd_ne hjk]; exact hj
      rcases hd with rfl | rfl
      · exact ⟨.sl key sz 0 m, _, by simp [appD, hy, hs, hm, hr'], hso, fun j c hj _ => hoth j c hj, hnn⟩
      · exact ⟨.sl key sz 0 m, _, by simp [appD, hy, hs, hm, hr'], hso, fun j c hj _ => hoth j c hj, hnn⟩
  · by_cases hm : m = 0
    · subst hm
      have hn : new = [] := by cases new with | nil => rfl | cons _ _ => simp at hl
      subst hn
      exact ⟨.sl k sz 0 n, h, by simp [appD, hy, hs, hkc], by rw [List.append_nil, Nat.add_zero]; exact SlOwn.sl hkc hc, fun _ _ h1 _ => h1, fun _ h1 _ => h1⟩
    · have hlt : ¬ ((n + m) * sz ≤ cells.length) := by
        rw [hc, Nat.add_mul]
        have : 0 < m * sz := Nat.mul_pos (by omega) hsz
        omega
      refine ⟨.sl key sz 0 (n + m), upd (del h k) key (cells ++ new), ?_, SlOwn.sl upd_self (by rw [List.length_append, hc, hl, Nat.add_mul]), ?_, ?_⟩
      · rw [hc] at hlt
        simp only [appD, hy, hs, if_true, hkc, if_neg hm, Nat.zero_add, hc, true_and, if_pos hr]
        rw [if_neg hlt]
      · intro j c hj hne
        rw [upd_ne (by rintro rfl; rw [hk] at hj; cases hj)]
        simp only [del]
        rw [if_neg (by rintro rfl; exact hne sz 0 n rfl)]
        exact hj
      · intro j hj hjk
        rw [upd_ne hjk]
        simp only [del]
        split
        · rfl
        · exact hj
section
variable {P : Program} {e : Env} {h : Heap} {r : List AIns} {K : Env → Heap → Prop} {t : Nat}
theorem s_app {sz bytes n m : Nat} {x y : O} {d dy : D} {cells new : List D} (h1 : evO (get e) x = some d) (h2 : evO (get e) y = some dy) (ho : SlOwn h d sz cells n) (hy : lenA dy = some m) (hs : srcD h sz m dy = some new) (hl : new.length = m * sz ∧ 0 < sz) (hr : (n + m) * bytes ≤ room)
    (hw : ∀ d' h', SlOwn h' d' sz (cells ++ new) (n + m) → (∀ j c, h j = some c → (∀ sz off n, d ≠ .sl j sz off n) → h' j = some c) → Wops P r ((t, d') :: e) h' K) : Wops P (⟨some t, .append sz bytes x y, none⟩ :: r) e h K :=
  s_append h1 h2 fun k hk => let ⟨d', h', h3, h4, h5, _⟩ := append_own ho hy hs hl.1 hl.2 hr hk; ⟨d', h', h3, hw d' h' h4 h5⟩
end
theorem Fin_so {rs : List ARes} {e : Env} {h : Heap} {d : D} {sz n : Nat} {cells : List D} {x : X} (hx : match x with | .exit _ => False | _ => True) (hd : resD rs (get e) h = some d) (ho : SlOwn h d sz cells n) (hs : cells.all scal = true) : Fin rs (.ow sz cells n) x ⟨e, h⟩ := by
  obtain ⟨hc, ⟨rfl, hd0⟩ | ⟨k, rfl, hkc⟩⟩ := ho
  · have hc0 : cells = [] := by cases cells with | nil => rfl | cons _ _ => simp at hc
    subst hc0
    rcases hd0 with rfl | rfl
    · exact ⟨hx, _, hd, Ex_nil⟩
    · exact ⟨hx, _, hd, Ex_emp⟩
  · exact ⟨hx, _, hd, Ex_own hkc hc hs⟩
theorem Rd_so {h : Heap} {d : D} {sz n : Nat} {cells : List D} (ho : SlOwn h d sz cells n) (hs : cells.all scal = true) : Rd h d (.vs sz cells n) := by
  obtain ⟨hc, ⟨rfl, hd0⟩ | ⟨k, rfl, hkc⟩⟩ := ho
  · have hc0 : cells = [] := by cases cells with | nil => rfl | cons _ _ => simp at hc
    subst hc0
    rcases hd0 with rfl | rfl
    · exact Rd_nil
    · exact Rd_emp
  · exact Rd_sl0 hkc hs hc
theorem srcD_sl {h : Heap} {k sz n : Nat} {cells : List D} (hk : h k = some cells) (hl : cells.length = n * sz) : srcD h sz n (.sl k sz 0 n) = some cells := by
  simp only [srcD, hk, Nat.le_refl, and_self, if_true, Nat.zero_add, hl, List.drop_zero]
  rw [List.take_of_length_le (by omega)]
theorem srcD_vs {h : Heap} {sz n : Nat} {cells : List D} (hl : cells.length = n * sz) : srcD h sz n (.vs sz cells n) = some cells := by
  simp only [srcD, hl, Nat.le_refl, and_self, if_true]
  rw [List.take_of_length_le (by omega)]
theorem SlOwn.upd {h : Heap} {d : D} {sz n k : Nat} {cells c : List D} (ho : SlOwn h d sz cells n) (hk : h k = none) : SlOwn (upd h k c) d sz cells n := by
  obtain ⟨hc, h1 | ⟨k', rfl, hkc⟩⟩ := ho
  · exact ⟨hc, .inl h1⟩
  · exact ⟨hc, .inr ⟨k', rfl, by rw [upd_ne (by rintro rfl; rw [hk] at hkc; cases hkc)]; exact hkc⟩⟩
theorem room_n : room = 140737488355328 := by decide
theorem foldl_take {α β : Type} {f : β → α → β} {a : β} {l : List α} {i : Nat} (h : i < l.length) : (l.take (i + 1)).foldl f a = f ((l.take i).foldl f a) l[i] := by
  rw [List.take_succ_eq_append_getElem h, List.foldl_append]; rfl
theorem map_snoc {α : Type} {f : α → D} {l : List α} {x : α} {n : Nat} {h : Heap} {d : D} {sz : Nat} (ho : SlOwn h d sz (l.map f ++ [f x]) n) : SlOwn h d sz ((l ++ [x]).map f) n := by rw [List.map_append]; exact ho
theorem scal_i {k : IntKind} {l : List Int} : (l.map (D.int k)).all scal = true := by rw [List.all_eq_true]; intro a ha; obtain ⟨x, _, rfl⟩ := List.mem_map.1 ha; rfl
theorem scal_b {l : List Bool} : (l.map D.bool).all scal = true := by rw [List.all_eq_true]; intro a ha; obtain ⟨x, _, rfl⟩ := List.mem_map.1 ha; rfl
end Go.AM
end
section
/- Bits. Generic over the program. -/
set_option linter.unusedSimpArgs false
set_option linter.unusedVariables false
namespace Go.AM
theorem SlOwn.pos {h : Heap} {d : D} {sz n : Nat} {cells : List D} (ho : SlOwn h d sz cells n) (hn : n ≠ 0) : ∃ k, d = .sl k sz 0 n ∧ h k = some cells := by
  obtain ⟨_, ⟨h0, _⟩ | h1⟩ := ho
  · exact absurd h0 hn
  · exact h1
theorem SlOwn.fresh {h : Heap} {d : D} {sz n k : Nat} {cells : List D} (ho : SlOwn h d sz cells n) (hk : h k = none) : ∀ sz off n, d ≠ .sl k sz off n := by
  rintro sz' off n' rfl
  obtain ⟨_, ⟨_, h1 | h1⟩ | ⟨k', h1, h2⟩⟩ := ho
  · cases h1
  · cases h1
  · injection h1 with h1; subst h1; rw [hk] at h2; cases h2
theorem SlOwn.upd' {h : Heap} {d : D} {sz n k : Nat} {cells c : List D} (ho : SlOwn h d sz cells n) (hk : ∀ sz off n, d ≠ .sl k sz off n) : SlOwn (AM.upd h k c) d sz cells n := by
  obtain ⟨hc, h1 | ⟨k', rfl, hkc⟩⟩ := ho
  · exact ⟨hc, .inl h1⟩
  · exact ⟨hc, .inr ⟨k', rfl, by rw [upd_ne (by rintro rfl; exact hk _ _ _ rfl)]; exact hkc⟩⟩
theorem s_iaddrSO {P : Program} {e : Env} {h : Heap} {r : List AIns} {K : Env → Heap → Prop} {t sz : Nat} {x i : O} {d : D} {c : List D} {len : Nat} {k : IntKind} {n : Int} {j : Nat} (h1 : evO (get e) x = some d) (ho : SlOwn h d sz c len) (h2 : evO (get e) i = some (.int k n)) (h0 : 0 ≤ n ∧ n < len) (hj : n.toNat * sz = j)
    (hw : ∀ kk, h kk = some c → Wops P r ((t, .pt kk j) :: e) h K) : Wops P (⟨some t, .iaddr sz x i, none⟩ :: r) e h K := by
  obtain ⟨kk, rfl, hk⟩ := ho.pos (by omega)
  exact s_iaddrO h1 h2 h0 hk (by rw [Nat.zero_add]; exact hj) (hw kk hk)
theorem fm_len {α : Type} {f : α → List D} {w : Nat} (hf : ∀ a, (f a).length = w) : ∀ l : List α, (l.flatMap f).length = l.length * w
  | [] => by simp
  | a :: r => by rw [List.flatMap_cons, List.length_append, hf, fm_len hf r, List.length_cons, Nat.add_mul]; omega
theorem fm_drop {α : Type} {f : α → List D} {w : Nat} (hf : ∀ a, (f a).length = w) : ∀ (l : List α) (i : Nat), (l.flatMap f).drop (i * w) = (l.drop i).flatMap f
  | l, 0 => by simp
  | [], i + 1 => by simp
  | a :: r, i + 1 => by
    have e : (i + 1) * w = (f a).length + i * w := by rw [hf, Nat.add_mul]; omega
    rw [List.flatMap_cons, List.drop_succ_cons, ← fm_drop hf r i, e, ← List.drop_drop, List.drop_left]
theorem fm_row {α : Type} {f : α → List D} {w : Nat} (hf : ∀ a, (f a).length = w) {l : List α} {i : Nat} (hi : i < l.length) : ((l.flatMap f).drop (i * w)).take w = f l[i] := by
  rw [fm_drop hf, List.drop_eq_getElem_cons hi, List.flatMap_cons, List.take_append_of_le_length (by rw [hf]; omega), List.take_of_length_le (by rw [hf]; omega)]
theorem fm_cell {α : Type} {f : α → List D} {w : Nat} (hf : ∀ a, (f a).length = w) {l : List α} {i j : Nat} (hi : i < l.length) (hj : j < w) : (l.flatMap f)[i * w + j]? = (f l[i])[j]? := by
  rw [← List.getElem?_drop, fm_drop hf, List.drop_eq_getElem_cons hi, List.flatMap_cons, List.getElem?_append_left (by rw [hf]; exact hj)]
theorem fm_scal {α : Type} {f : α → List D} (hf : ∀ a, (f a).all scal = true) (l : List α) : (l.flatMap f).all scal = true := by
  rw [List.all_eq_true]
  intro x hx
  obtain ⟨a, _, h⟩ := List.mem_flatMap.1 hx
  exact List.all_eq_true.1 (hf a) x h
theorem Rd_fn0 {h : Heap} {f : Nat} : Rd h (.fn f [] []) (.fn f [] []) := by
  intro s v H hv
  cases hv with
  | pure h => exact rp_below H h
  | fn f as bs ds es hl hm hr hs =>
    refine .fn f as bs [] [] hl hm ?_ ?_
    · intro i v d _ hd; simp at hd
    · intro i v d _ hd; simp at hd
theorem s_callt {P : Program} {e : Env} {h : Heap} {r : List AIns} {K : Env → Heap → Prop} {t tf : Nat} {args : List O} {g : Nat} {fst caps ds ds' : List D} (h1 : get e tf = some (.fn g fst caps)) (h2 : evOs (get e) args = some ds) (hd : fst ++ ds ++ caps = ds') (hc : Con P g ds' h fun d h' => Wops P r ((t, d) :: e) h' K) :
    Wops P (⟨some t, .call (.tmp tf) args, none⟩ :: r) e h K := s_call (g := g) (fst := fst) (caps := caps) h1 h2 (by rw [hd]; exact hc)
theorem Fin_bt {rs : List ARes} {e : Env} {h : Heap} {x : X} {p : Prop} [Decidable p] (hx : match x with | .exit _ => False | _ => True) (hd : resD rs (get e) h = some (.bool true)) (hp : p) : Fin rs (.bool (decide p)) x ⟨e, h⟩ := by
  rw [decide_eq_true hp]; exact Fin_flat hx hd rfl
theorem Fin_bf {rs : List ARes} {e : Env} {h : Heap} {x : X} {p : Prop} [Decidable p] (hx : match x with | .exit _ => False | _ => True) (hd : resD rs (get e) h = some (.bool false)) (hp : ¬p) : Fin rs (.bool (decide p)) x ⟨e, h⟩ := by
  rw [decide_eq_false hp]; exact Fin_flat hx hd rfl
theorem W_down {P : Program} {Q : X → St → Prop} {e : Env} {h : Heap} {c : ACode} (n : Nat) (I : Nat → St → Prop) (h0 : I n ⟨e, h⟩) (round : ∀ m e' h', I m ⟨e', h'⟩ → W P c (X.then (fun st => ∃ m', m' < m ∧ I m' st) Q) ⟨e', h'⟩) : W P (.loop c) Q ⟨e, h⟩ := by
  have key : ∀ n m st, m < n → I m st → iter (fun Q' st' => W P c Q' st') Q n st := by
    intro n
    induction n with
    | zero => intro m st hn; omega
    | succ n ih =>
      intro m st hn hI
      refine W_mono ?_ (round m st.env st.heap hI)
      intro x st' h
      cases x with
      | normal => obtain ⟨m', h1, h2⟩ := h; exact ih m' st' (by omega) h2
      | exit id => exact h
      | ret => exact h
  exact ⟨_, key (n + 1) n _ (Nat.lt_succ_self _) h0⟩
theorem isNil_vs {sz len : Nat} {c : List D} (h : len ≠ 0) : isNilD (.vs sz c len) = some false := if_neg h
theorem isNil_sl {k sz off len : Nat} (h : len ≠ 0) : isNilD (.sl k sz off len) = some false := if_neg h
theorem eqL_i {ts : List Nat} {k : IntKind} {a b : Int} {x y : List D} {u : Bool} (h : eqL ts x y = some u) : eqL (1 :: ts) (.int k a :: x) (.int k b :: y) = some (decide (a = b) && u) := by
  simp only [eqL, eqD, if_true, h, beq_dec]
theorem eqL_b {ts : List Nat} {a b : Bool} {x y : List D} {u : Bool} (h : eqL ts x y = some u) : eqL (0 :: ts) (.bool a :: x) (.bool b :: y) = some ((a == b) && u) := by
  simp only [eqL, eqD, h]
theorem eqL_n : eqL [] [] [] = some true := rfl
theorem ne_key {h : Heap} {a b : Nat} {x : List D} (hb : h b = none) (ha : h a = some x) : a ≠ b := by rintro rfl; rw [hb] at ha; cases ha
theorem ne_key1 {h : Heap} {a b : Nat} {x : List D} {p : Prop} (hb : p ∧ h b = none) (ha : h a = some x) : a ≠ b := ne_key hb.2 ha
theorem ne_key2 {h : Heap} {a b : Nat} {x : List D} {p q : Prop} (hb : p ∧ q ∧ h b = none) (ha : h a = some x) : a ≠ b := ne_key hb.2.2 ha
theorem ne_key3 {h : Heap} {a b : Nat} {x : List D} {p q r : Prop} (hb : p ∧ q ∧ r ∧ h b = none) (ha : h a = some x) : a ≠ b := ne_key hb.2.2.2 ha
theorem tsd_ne {x : List D} {i j : Nat} {v : D} (hj : j ≠ i) (hi : i < x.length) : (List.take i x ++ [v] ++ List.drop (i + 1) x)[j]? = x[j]? := by
  rw [List.append_assoc, List.singleton_append]
  have := List.set_eq_take_append_cons_drop (l := x) (i := i) (a := v)
  rw [if_pos hi] at this
  rw [← this, List.getElem?_set_ne (by omega)]
theorem set_form {α : Type} {x : List α} {j : Nat} {d : α} (hj : j < x.length) : List.take j x ++ [d] ++ List.drop (j + 1) x = x.set j d := by
  rw [List.set_eq_take_append_cons_drop, if_pos hj, List.append_assoc]; rfl
end Go.AM
end
section
/- Arguments, read by value: from what a row says of its arguments to data by value. Generic over the program. -/
set_option linter.unusedSimpArgs false
set_option linter.unusedVariables false
namespace Go.AM
open Go.ChangeShapes Go.RowKit
def consec (P : Program) : Nat → List Field → Bool
  | _, [] => true
  | o, f :: r => (f.offset == o) && consec P (o + P.cellsOf f.type) r
def fsum (P : Program) : List Field → Nat
  | [] => 0
  | f :: r => P.cellsOf f.type + fsum P r
def sup (P : Program) : Nat → TypeId → Bool
  | 0, _ => false
  | n + 1, t => match P.underlying t with
    | some .bool => P.cellsOf t == 1
    | some (.int _) => P.cellsOf t == 1
    | some .string => P.cellsOf t == 1
    | some (.slice e) => P.cellsOf t == 1 && decide (0 < P.cellsOf e) && sup P n e
    | some (.struct fs) => consec P 0 fs.toList && (fsum P fs.toList == P.cellsOf t) && fs.toList.all fun f => sup P n f.type
    | some (.array k e) => (k * P.cellsOf e == P.cellsOf t) && sup P n e
    | _ => false
def Typed (P : Program) : Nat → TypeId → List D → Prop
  | 0, _, _ => False
  | n + 1, t, ds => match P.underlying t with
    | some .bool => ∃ b, ds = [.bool b]
    | some (.int k) => ∃ x, ds = [.int k x] ∧ (Lit.int k x).wf = true
    | some .string => ∃ s, ds = [.str s] ∧ s.size ≤ maxLen
    | some (.slice e) => ∃ ps : List (List D), ds = [.vs (P.cellsOf e) ps.flatten ps.length] ∧ ps.length ≤ maxLen ∧ ∀ p ∈ ps, Typed P n e p
    | some (.struct fs) => ∃ ps : List (List D), ds = ps.flatten ∧ All2 (fun (f : Field) p => Typed P n f.type p) fs.toList ps
    | some (.array k e) => ∃ ps : List (List D), ds = ps.flatten ∧ ps.length = k ∧ ∀ p ∈ ps, Typed P n e p
    | _ => False
theorem mem_ix {α : Type} {l : List α} {a : α} (h : a ∈ l) : ∃ i, i < l.length ∧ l[i]? = some a := by
  obtain ⟨i, hi⟩ := List.mem_iff_getElem?.1 h
  refine ⟨i, ?_, hi⟩
  rcases Nat.lt_or_ge i l.length with h' | h'
  · exact h'
  · simp [List.getElem?_eq_none h'] at hi
theorem rows_read {R : Value → D → Prop} {T : List D → Prop} {sz : Nat} : ∀ (n : Nat) (cs : List Value), cs.length = n * sz →
    (∀ i, i < n → ∃ p, All2 R ((cs.drop (i * sz)).take sz) p ∧ T p) → ∃ ps : List (List D), ps.length = n ∧ All2 R cs ps.flatten ∧ (∀ p ∈ ps, T p)
  | 0, cs, hl, _ => by
    have : cs = [] := by cases cs with | nil => rfl | cons _ _ => simp at hl
    subst this
    exact ⟨[], rfl, ⟨rfl, fun i v d h => by simp at h⟩, by simp⟩
  | n + 1, cs, hl, h => by
    obtain ⟨p, hp, ht⟩ := h 0 (by omega)
    simp only [Nat.zero_mul, List.drop_zero] at hp
    have hl' : (cs.drop sz).length = n * sz := by rw [List.length_drop, hl, Nat.add_mul]; omega
    obtain ⟨ps, h1, h2, h3⟩ := rows_read n (cs.drop sz) hl' (fun i hi => by
      obtain ⟨p, hp, ht⟩ := h (i + 1) (by omega)
      refine ⟨p, ?_, ht⟩
      rw [List.drop_drop, show sz + i * sz = (i + 1) * sz by rw [Nat.add_mul]; omega]
      exact hp)
    refine ⟨p :: ps, by simp [h1], ?_, by simpa using ⟨ht, h3⟩⟩
    have := All2.append hp h2
    rw [List.take_append_drop] at this
    simpa using this
theorem fields_read {P : Program} {R : Value → D → Prop} {T : TypeId → List D → Prop} : ∀ (fs : List Field) (o : Nat) (cs : List Value), consec P o fs = true → cs.length = o + fsum P fs →
    (∀ f ∈ fs, ∃ p, All2 R ((cs.drop f.offset).take (P.cellsOf f.type)) p ∧ T f.type p) → ∃ ps : List (List D), All2 R (cs.drop o) ps.flatten ∧ All2 (fun (f : Field) p => T f.type p) fs ps
  | [], o, cs, _, hl, _ => by
    simp only [fsum, Nat.add_zero] at hl
    refine ⟨[], ?_, rfl, fun i v d h => by simp at h⟩
    rw [List.drop_of_length_le (by omega)]
    exact ⟨rfl, fun i v d h => by simp at h⟩
  | f :: r, o, cs, hc, hl, h => by
    simp only [consec, Bool.and_eq_true, beq_iff_eq] at hc
    simp only [fsum] at hl
    obtain ⟨p, hp, ht⟩ := h f (by simp)
    obtain ⟨ps, h1, h2⟩ := fields_read r (o + P.cellsOf f.type) cs hc.2 (by omega) (fun g hg => h g (by simp [hg]))
    refine ⟨p :: ps, ?_, All2.cons ht h2⟩
    rw [hc.1] at hp
    have := All2.append hp h1
    rw [← List.drop_drop, List.take_append_drop] at this
    simpa using this
section
variable {H : Type} {enc : TypeId × Value → H} {P : Program} {w : World} {base : Nat} {spare : Nat → Bool} {held : Bool}
theorem typed_of_trod : ∀ (m : Nat) (n : Nat) (t : TypeId) (cs : List Value) (x : DataW H × List MemPlace), sup P m t = true → DataW.trod enc P w base spare held n t cs = some x →
    ∃ ds, All2 (RPc w (below w.heap.size)) cs ds ∧ Typed P m t ds ∧ cs.length = P.cellsOf t := by
  intro m
  induction m with
  | zero => intro n t cs x hs; simp [sup] at hs
  | succ m ih =>
    intro n t cs x hs h
    unfold sup at hs
    have one : ∀ {v : Value} {d : D}, RPc w (below w.heap.size) v d → All2 (RPc w (below w.heap.size)) [v] [d] := fun h => All2.cons h All2.nil
    split at hs
    · rename_i hu
      obtain ⟨b, rfl, -⟩ := DataW.trod_bool hu h
      refine ⟨[.bool b], one ⟨.bool b, rfl⟩, ?_, ?_⟩
      · unfold Typed; rw [hu]; exact ⟨b, rfl⟩
      · simp at hs ⊢; omega
    · rename_i k hu
      obtain ⟨b, rfl, -, hw⟩ := DataW.trod_int hu h
      refine ⟨[.int k b], one ⟨.int k b, rfl⟩, ?_, ?_⟩
      · unfold Typed; rw [hu]; exact ⟨b, rfl, hw⟩
      · simp at hs ⊢; omega
    · rename_i hu
      obtain ⟨b, rfl, -, hw⟩ := DataW.trod_string hu h
      refine ⟨[.str b], one ⟨.str b, rfl⟩, ?_, ?_⟩
      · unfold Typed; rw [hu]; exact ⟨b, rfl, hw⟩
      · simp at hs ⊢; omega
    · rename_i e hu
      simp only [Bool.and_eq_true, beq_iff_eq, decide_eq_true_eq] at hs
      rcases DataW.trod_slice hu h with ⟨rfl, -⟩ | ⟨a, len, cap, elems, rest, n', _, rfl, -, hb, hl, hm, hlen, hel, -, -⟩
      · refine ⟨[.vs (P.cellsOf e) [] 0], one ⟨.vs0 _ _ _, rfl⟩, ?_, by simp; omega⟩
        unfold Typed; rw [hu]; exact ⟨[], rfl, by simp, by simp⟩
      · by_cases h0 : len = 0
        · subst h0
          refine ⟨[.vs (P.cellsOf e) [] 0], one ⟨.vs0 _ _ _, rfl⟩, ?_, by simp; omega⟩
          unfold Typed; rw [hu]; exact ⟨[], rfl, by simp, by simp⟩
        · have hat : ∀ i, i < len → ∃ cs', cs'.length = P.cellsOf e ∧ (∀ j, j < P.cellsOf e → w.cell? ((a.add (i * P.cellsOf e)).add j) = cs'[j]?) ∧ ∃ p, All2 (RPc w (below w.heap.size)) cs' p ∧ Typed P m e p := by
            intro i hi
            have h1 := hel i hi
            rw [List.getElem?_eq_getElem (by omega), Option.bind_eq_some_iff] at h1
            obtain ⟨cs', h2, h3⟩ := h1
            obtain ⟨_, h4, h5⟩ := World.cells?_some h2
            obtain ⟨p, h6, h7, _⟩ := ih _ _ _ _ hs.2 h3
            exact ⟨cs', h4, h5, p, h6, h7⟩
          obtain ⟨b, off, spot⟩ := a
          have hspot : spot = none := by
            obtain ⟨cs', h1, h2, _⟩ := hat 0 (by omega)
            have h3 := h2 0 (by omega)
            simp only [Nat.zero_mul, Addr.add, if_true] at h3
            rw [List.getElem?_eq_getElem (by omega)] at h3
            exact World.cell?_spot h3
          subst hspot
          have hadd : ∀ i j, ((⟨b, off, none⟩ : Addr).add i).add j = ⟨b, off + (i + j), none⟩ := by
            intro i j
            simp only [Addr.add]
            split <;> split <;> simp <;> omega
          -- the row
          have hcell : ∀ i, i < len * P.cellsOf e → ∃ v, w.cell? ⟨b, off + i, none⟩ = some v := by
            intro i hi
            have hq : i / P.cellsOf e < len := Nat.div_lt_of_lt_mul (by rw [Nat.mul_comm]; exact hi)
            obtain ⟨cs', h1, h2, _⟩ := hat _ hq
            have hr := Nat.mod_lt i hs.1.2
            have h3 := h2 (i % P.cellsOf e) hr
            rw [hadd, Nat.div_add_mod' i (P.cellsOf e), List.getElem?_eq_getElem (by omega)] at h3
            exact ⟨_, h3⟩
          let row : List Value := (List.range (len * P.cellsOf e)).map fun i => (w.cell? ⟨b, off + i, none⟩).getD undef
          have hrow : ∀ (i : Nat) (v : Value), row[i]? = some v → w.cell? ⟨b, off + i, none⟩ = some v := by
            intro i v hv
            simp only [row, List.getElem?_map, Option.map_eq_some_iff] at hv
            obtain ⟨j, hj, rfl⟩ := hv
            obtain ⟨hj1, rfl⟩ := List.getElem?_eq_some_iff.1 hj
            simp only [List.length_range] at hj1
            simp only [List.getElem_range] at *
            obtain ⟨v, hv⟩ := hcell _ hj1
            rw [hv]; rfl
          have hrl : row.length = len * P.cellsOf e := by simp [row]
          obtain ⟨ps, h1, h2, h3⟩ := rows_read (R := RPc w (below w.heap.size)) (T := Typed P m e) (sz := P.cellsOf e) len row hrl (fun i hi => by
            obtain ⟨cs', h4, h5, p, h6, h7⟩ := hat i hi
            refine ⟨p, ?_, h7⟩
            have : (row.drop (i * P.cellsOf e)).take (P.cellsOf e) = cs' := by
              apply List.ext_getElem?
              intro j
              have hi2 : (i + 1) * P.cellsOf e ≤ len * P.cellsOf e := Nat.mul_le_mul_right _ hi
              rw [Nat.add_mul] at hi2
              by_cases hj : j < P.cellsOf e
              · rw [List.getElem?_take_of_lt hj, List.getElem?_drop]
                have h8 := h5 j hj
                rw [hadd, List.getElem?_eq_getElem (by omega)] at h8
                have h9 : i * P.cellsOf e + j < row.length := by rw [hrl]; omega
                have h10 := hrow _ _ (List.getElem?_eq_getElem h9)
                rw [h8] at h10
                rw [List.getElem?_eq_getElem h9, List.getElem?_eq_getElem (by omega), ← Option.some.inj h10]
              · rw [List.getElem?_eq_none (by rw [List.length_take]; omega), List.getElem?_eq_none (by omega)]
            rw [this]; exact h6)
          refine ⟨[.vs (P.cellsOf e) ps.flatten len], one ⟨.vs b off cap (P.cellsOf e) len ps.flatten row (by rw [← h2.1, hrl]) hl ?_ h2.1 ?_ (fun i v hv => hrow i v hv) (fun i v d hv hd => (h2.2 i v d hv hd).1), rfl⟩, ?_, by simp; omega⟩
          · obtain ⟨v, hv⟩ := hcell 0 (by have := Nat.mul_pos (by omega : 0 < len) hs.1.2; omega)
            show b < w.heap.size
            rcases Nat.lt_or_ge b w.heap.size with h' | h'
            · exact h'
            · simp [World.cell?, Array.getElem?_eq_none h'] at hv
          · intro v hv
            obtain ⟨i, hi, hv⟩ := mem_ix hv
            have hi' : i < ps.flatten.length := by rw [← h2.1]; exact hi
            exact (h2.2 i v _ hv (List.getElem?_eq_getElem hi')).2
          · unfold Typed; rw [hu]
            exact ⟨ps, by rw [h1], by rw [h1]; omega, h3⟩
    · rename_i fs hu
      simp only [Bool.and_eq_true, beq_iff_eq] at hs
      obtain ⟨xs, n', _, -, hl, _, hf⟩ := DataW.trod_struct hu h
      obtain ⟨ps, h1, h2⟩ := fields_read (P := P) (R := RPc w (below w.heap.size)) (T := Typed P m) fs.toList 0 cs hs.1.1 (by rw [hl, ← hs.1.2]; omega) (fun f hm => by
        obtain ⟨i, hi, hm2⟩ := mem_ix hm
        have h1 := hf i f (by simpa using hm2)
        have h2 : ∃ y, xs[i]? = some y := by
          have : i < xs.length := by simp at hi; omega
          exact ⟨_, List.getElem?_eq_getElem this⟩
        obtain ⟨y, hy⟩ := h2
        rw [hy] at h1
        obtain ⟨p, h3, h4, _⟩ := ih _ _ _ _ (List.all_eq_true.1 hs.2 f hm) h1
        exact ⟨p, h3, h4⟩)
      refine ⟨ps.flatten, by simpa using h1, ?_, hl⟩
      unfold Typed; rw [hu]
      exact ⟨ps, rfl, h2⟩
    · rename_i k e hu
      simp only [Bool.and_eq_true, beq_iff_eq] at hs
      obtain ⟨xs, n', _, -, hl, hxl, hf⟩ := DataW.trod_array hu h
      obtain ⟨ps, h1, h2, h3⟩ := rows_read (R := RPc w (below w.heap.size)) (T := Typed P m e) (sz := P.cellsOf e) k cs (by rw [hl, hs.1]) (fun i hi => by
        have h1 := hf i hi
        rw [List.getElem?_eq_getElem (by omega)] at h1
        obtain ⟨p, h3, h4, _⟩ := ih _ _ _ _ hs.2 h1
        exact ⟨p, h3, h4⟩)
      refine ⟨ps.flatten, h2, ?_, hl⟩
      unfold Typed; rw [hu]
      exact ⟨ps, rfl, h1, h3⟩
    · cases hs
def isAgg (P : Program) (t : TypeId) : Bool := match P.underlying t with | some (.struct _) => true | some (.array _ _) => true | _ => false
def TypedA (P : Program) (t : TypeId) (d : D) : Prop := if isAgg P t then ∃ ds, d = .agg ds ∧ Typed P 6 t ds else Typed P 6 t [d]
theorem cells_one {r : Reach} {b0 : Nat} {t : TypeId} {v : Value} (hs : sup P 6 t = true) (ha : isAgg P t = false) (h : Value.okWide P w r b0 t v) : v.cells.toList = [v] := by
  unfold sup at hs
  unfold isAgg at ha
  unfold Value.okWide at h
  cases v with
  | agg cs =>
    exfalso
    split at hs <;> rename_i hu <;> simp only [hu] at h ha <;> first | (cases ha; done) | (cases hs; done) | (simp [Cell.okWide, Cell.ok, hu] at h)
  | _ => rfl
theorem args_open : ∀ (ts : List TypeId) (vs : List Value) (ds : List (DataW H)) (ps : List MemPlace), ts.all (sup P 6) = true → DataW.TrodAll enc P w base spare held ts vs ds ps →
    (∀ (j : Nat) t v, ts[j]? = some t → vs[j]? = some v → ∃ r b0, Value.okWide P w r b0 t v) → ∃ dts, All2 (RP w (below w.heap.size)) vs dts ∧ All2 (TypedA P) ts dts
  | [], [], [], _, _, _, _ => ⟨[], ⟨rfl, fun i v d h => by simp at h⟩, ⟨rfl, fun i v d h => by simp at h⟩⟩
  | t :: ts, v :: vs, d :: ds, ps, hs, h, hv => by
    simp only [List.all_cons, Bool.and_eq_true] at hs
    obtain ⟨p, q, h1, h2, rfl⟩ := h
    obtain ⟨dts, h3, h4⟩ := args_open ts vs ds q hs.2 h2 (fun j t v h h' => hv (j + 1) t v (by simpa using h) (by simpa using h'))
    obtain ⟨n, h1⟩ := h1
    obtain ⟨x, h5, h6, _⟩ := typed_of_trod 6 n t _ _ hs.1 h1
    obtain ⟨r, b0, hok⟩ := hv 0 t v rfl rfl
    cases ha : isAgg P t with
    | false =>
      rw [cells_one hs.1 ha hok] at h5
      obtain ⟨y, rfl⟩ : ∃ y, x = [y] := by
        have := h5.1
        match x, this with
        | [y], _ => exact ⟨y, rfl⟩
      refine ⟨y :: dts, All2.cons (h5.2 0 v y rfl rfl).1 h3, All2.cons ?_ h4⟩
      unfold TypedA; rw [ha]; exact h6
    | true =>
      have hag : ∃ cs, v = .agg cs := by
        unfold isAgg at ha
        unfold Value.okWide at hok
        split at ha <;> rename_i hu <;> first | (cases ha; done) | (simp only [hu] at hok; obtain ⟨cs, rfl, _⟩ := hok; exact ⟨cs, rfl⟩)
      obtain ⟨cs, rfl⟩ := hag
      refine ⟨.agg x :: dts, All2.cons (.agg cs x h5.1 ?_ (fun i v d hv hd => (h5.2 i v d hv hd).1)) h3, All2.cons ?_ h4⟩
      · intro v hv
        obtain ⟨i, hi, hv⟩ := mem_ix hv
        have hi' : i < x.length := by rw [← h5.1]; exact hi
        exact (h5.2 i v _ hv (List.getElem?_eq_getElem hi')).2
      · unfold TypedA; rw [ha]; exact ⟨x, rfl, h6⟩
  | [], _ :: _, _, _, _, h, _ => h.elim
  | [], [], _ :: _, _, _, h, _ => h.elim
  | _ :: _, [], _, _, _, h, _ => h.elim
  | _ :: _, _ :: _, [], _, _, h, _ => h.elim
theorem trodAll_stays {W W' : World} (hl : laidOutB P = true) (hb : Below W.heap.size W W') : ∀ (ts : List TypeId) (vs : List Value) (ds : List (DataW H)) (ps : List MemPlace), ts.all (fun t => P.readableRec t && decide (t < P.types.size)) = true →
    DataW.TrodAll enc P W 0 (fun _ => true) true ts vs ds ps → DataW.TrodAll enc P W' 0 (fun b => decide (b < W.heap.size)) true ts vs ds ps
  | [], [], [], _, _, h => h
  | t :: ts, v :: vs, d :: ds, ps, hs, h => by
    simp only [List.all_cons, Bool.and_eq_true, decide_eq_true_eq] at hs
    obtain ⟨p, q, h1, h2, rfl⟩ := h
    refine ⟨p, q, Below.trod hl hs.1.1 hs.1.2 h1 hb ?_, trodAll_stays hl hb ts vs ds q (by simpa using hs.2) h2, rfl⟩
    obtain ⟨m, hm⟩ := h1
    exact DataW.trod_lt m _ _ _ hm
  | [], _ :: _, _, _, _, h => h.elim
  | [], [], _ :: _, _, _, h => h.elim
  | _ :: _, [], _, _, _, h => h.elim
  | _ :: _, _ :: _, [], _, _, h => h.elim
end
/-! ### Typed data, opened -/
theorem one_arg {R : TypeId → D → Prop} {t : TypeId} {ds : List D} (h : All2 R #[t].toList ds) : ∃ a, ds = [a] ∧ R t a := by
  match ds, h.1 with
  | [a], _ => exact ⟨a, rfl, h.2 0 t a rfl rfl⟩
section
variable {P : Program} {t : TypeId}
theorem typed_int' {n : Nat} {k : IntKind} {ds : List D} (ht : P.underlying t = some (.int k)) (h : Typed P (n + 1) t ds) : ∃ x, ds = [.int k x] ∧ (Lit.int k x).wf = true := by
  unfold Typed at h; rw [ht] at h; exact h
theorem typed_bool' {n : Nat} {ds : List D} (ht : P.underlying t = some .bool) (h : Typed P (n + 1) t ds) : ∃ x, ds = [.bool x] := by
  unfold Typed at h; rw [ht] at h; exact h
theorem typed_slice' {n : Nat} {e : TypeId} {ds : List D} (ht : P.underlying t = some (.slice e)) (h : Typed P (n + 1) t ds) : ∃ ps : List (List D), ds = [.vs (P.cellsOf e) ps.flatten ps.length] ∧ ps.length ≤ maxLen ∧ ∀ p ∈ ps, Typed P n e p := by
  unfold Typed at h; rw [ht] at h; exact h
theorem typed_struct' {n : Nat} {fs : Array Field} {ds : List D} (ht : P.underlying t = some (.struct fs)) (h : Typed P (n + 1) t ds) : ∃ ps : List (List D), ds = ps.flatten ∧ All2 (fun (f : Field) p => Typed P n f.type p) fs.toList ps := by
  unfold Typed at h; rw [ht] at h; exact h
theorem typed_agg {d : D} (ha : isAgg P t = true) (h : TypedA P t d) : ∃ ds, d = .agg ds ∧ Typed P 6 t ds := by unfold TypedA at h; rw [ha] at h; exact h
theorem agg_yes {u : TypeDesc} (ht : P.underlying t = some u) (hu : (match u with | .struct _ => true | .array _ _ => true | _ => false) = true) : isAgg P t = true := by
  unfold isAgg; rw [ht]
  cases u <;> simp at hu ⊢
theorem all_map {α β : Type} {f : β → α} {q : β → Prop} : ∀ {ps : List α}, (∀ p ∈ ps, ∃ b, p = f b ∧ q b) → ∃ l : List β, ps = l.map f ∧ ∀ b ∈ l, q b
  | [], _ => ⟨[], rfl, by simp⟩
  | p :: r, h => by
    obtain ⟨b, rfl, hb⟩ := h p (by simp)
    obtain ⟨l, rfl, hl⟩ := all_map (ps := r) (fun p hp => h p (by simp [hp]))
    exact ⟨b :: l, rfl, by simpa using ⟨hb, hl⟩⟩
theorem wf_i64 {x : Int} (h : (Lit.int .i64 x).wf = true) : -9223372036854775808 ≤ x ∧ x ≤ 9223372036854775807 := by
  simpa [Lit.wf, IntKind.has, IntKind.min, IntKind.max, IntKind.bits, IntKind.signed] using h
end
end Go.AM
end
section
/- Rows that change; first places. -/
set_option linter.unusedSimpArgs false
set_option linter.unusedVariables false
namespace Go.AM
open Go
theorem fm_set {α : Type} {f : α → List D} {w : Nat} (hf : ∀ a, (f a).length = w) {l : List α} {i j : Nat} {d : D} {b : α} (hi : i < l.length) (hj : j < w) (hb : f b = (f l[i]).set j d) :
    (l.flatMap f).set (i * w + j) d = (l.set i b).flatMap f := by
  induction l generalizing i with
  | nil => simp at hi
  | cons a r ih =>
    cases i with
    | zero =>
      simp only [Nat.zero_mul, Nat.zero_add, List.set_cons_zero, List.flatMap_cons]
      rw [List.set_append_left _ _ (by rw [hf]; exact hj)]
      simp only [List.getElem_cons_zero] at hb
      rw [hb]
    | succ i =>
      simp only [List.set_cons_succ, List.flatMap_cons]
      simp only [List.length_cons] at hi
      rw [List.set_append_right _ _ (by rw [hf, Nat.succ_mul]; omega), hf, ← ih (by omega) (by simpa using hb)]
      congr 2
      rw [Nat.succ_mul]; omega
theorem fm_st {α : Type} {f : α → List D} {w : Nat} (hf : ∀ a, (f a).length = w) {l : List α} {i j : Nat} {d : D} {b : α} (hi : i < l.length) (hj : j < w) (hb : f b = (f l[i]).set j d) :
    List.take (i * w + j) (l.flatMap f) ++ [d] ++ List.drop (i * w + j + 1) (l.flatMap f) = (l.set i b).flatMap f := by
  have h1 : i * w + w ≤ l.length * w := by rw [← Nat.succ_mul]; exact Nat.mul_le_mul_right w hi
  rw [set_form (by rw [fm_len hf]; omega), fm_set hf hi hj hb]
theorem rep_zero {k : IntKind} {xs : List Int} {n : Nat} (hl : xs.length = n) (h : ∀ x ∈ xs, x = 0) : rep n [D.int k 0] = xs.map (.int k) := by
  subst hl
  simp only [rep, List.flatten_replicate_singleton]
  apply List.ext_getElem (by simp)
  intro j h1 h2
  rw [List.getElem_replicate, List.getElem_map, h _ (List.getElem_mem _)]
theorem map_st {k : IntKind} {xs ys : List Int} {i : Nat} {v : Int} (hi : i < xs.length) (hs : xs.set i v = ys) : List.take i (xs.map (D.int k)) ++ [D.int k v] ++ List.drop (i + 1) (xs.map (D.int k)) = ys.map (.int k) := by
  rw [set_form (by simpa using hi), ← List.map_set, hs]
theorem map_g {k : IntKind} {xs : List Int} {i : Nat} (hi : i < xs.length) : (xs.map (D.int k))[i]? = some (.int k (xs.getD i 0)) := by
  rw [List.getElem?_map, List.getD_eq_getElem?_getD, List.getElem?_eq_getElem hi]; rfl
/-! ### Reading by value, one level more -/
theorem own_cellsR {s : Sg} {h : Heap} (H : RHo s h) {k : Nat} {c c' : List D} (hk : h k = some c) (hr : All2 (Rd h) c c') {b n : Nat} (hb : s.ρ k = some (some b, n)) :
    b < s.w.heap.size ∧ ∃ cs e, s.w.heap[b]? = some (.cells cs e (0, 0)) ∧ c'.length ≤ cs.size ∧ CellsAt s.w b 0 (cs.toList.take c'.length) ∧ All2 (RPc s.w (below s.w.heap.size)) (cs.toList.take c'.length) c' := by
  have hlen := hr.1
  obtain ⟨_, x, hx, _, hq⟩ := H.own k c hk
  rw [hb] at hx
  injection hx with hx; injection hx with h1 h2
  subst h1
  obtain ⟨_, cs, e, hh, hl, hall⟩ := hq b rfl
  rw [hlen] at hl hall
  refine ⟨?_, cs, e, hh, hl, ?_, by rw [hall.1, hlen], fun i v d hv hd => ?_⟩
  · rcases Nat.lt_or_ge b s.w.heap.size with h' | h'
    · exact h'
    · simp [Array.getElem?_eq_none h'] at hh
  · have := (cellsAt_block hh).sub 0 c'.length
    simp only [Nat.add_zero, List.drop_zero] at this
    exact this
  · have hlt : i < c.length := by
      rcases Nat.lt_or_ge i c.length with h' | h'
      · exact h'
      · rw [List.getElem?_eq_none (by omega)] at hd; cases hd
    have hci := List.getElem?_eq_getElem hlt
    have h3 := hall.2 i v _ hv hci
    exact ⟨hr.2 i _ _ hci hd s v H h3.1, h3.2⟩
theorem Rd_ptR {h : Heap} {k off : Nat} {c c' : List D} (hk : h k = some c) (hr : All2 (Rd h) c c') (hne : c' ≠ []) : Rd h (.pt k off) (.vp c' off) := by
  intro s v H hv
  obtain ⟨_, b, rfl, hq⟩ := hv.inv_pt
  obtain ⟨_, x, hx, hxn, _⟩ := H.own k c hk
  have hxb := hq x _ hx
  subst hxb
  obtain ⟨hbl, cs2, e2, hh, hl2, hat, hall⟩ := own_cellsR H hk hr hx
  have := RP.vp (w := s.w) (prot := below s.w.heap.size) b off 0 c' (cs2.toList.take c'.length) hbl hall.1 ?_ hat (fun i v d hv' hd => (hall.2 i v d hv' hd).1)
  · simpa using this
  · intro v hv'
    obtain ⟨i, hi⟩ := List.mem_iff_getElem?.1 hv'
    have hlt : i < c'.length := by
      rcases Nat.lt_or_ge i (cs2.toList.take c'.length).length with h' | h'
      · rw [hall.1] at h'; exact h'
      · simp [List.getElem?_eq_none h'] at hi
    exact (hall.2 i v _ hi (List.getElem?_eq_getElem hlt)).2
theorem Rd_fnR {h : Heap} {f : Nat} {a a' c c' : List D} (ha : All2 (Rd h) a a') (hc : All2 (Rd h) c c') : Rd h (.fn f a c) (.fn f a' c') := by
  intro s v H hv
  obtain ⟨as, bs, rfl, h1, h2⟩ := hv.inv_fn
  refine .fn f as bs a' c' (h1.1.trans ha.1) (h2.1.trans hc.1) (fun i v d hv hd => ?_) (fun i v d hv hd => ?_)
  · have hlt : i < a.length := by
      rcases Nat.lt_or_ge i a.length with h' | h'
      · exact h'
      · rw [List.getElem?_eq_none (by rw [← ha.1]; exact h')] at hd; cases hd
    have hci := List.getElem?_eq_getElem hlt
    exact ha.2 i _ _ hci hd s v H (h1.2 i v _ hv hci)
  · have hlt : i < c.length := by
      rcases Nat.lt_or_ge i c.length with h' | h'
      · exact h'
      · rw [List.getElem?_eq_none (by rw [← hc.1]; exact h')] at hd; cases hd
    have hci := List.getElem?_eq_getElem hlt
    exact hc.2 i _ _ hci hd s v H (h2.2 i v _ hv hci)
/-! ### A drawn region that reads first, and then makes and writes memory in an order of its own -/
theorem evOp_fix {e : Look} {h h1 : Heap} {k : Nat} {op : AOp} {d : D} {hf : Nat → Bool} (hk : hf k = false) (hid : hide hf h = h) (hev : evOp e h k op = some (d, h1)) : unhide hf h h1 = h1 := by
  have := evOp_hide (hf := hf) hk (by rw [hid]; exact hev)
  rw [hev] at this
  injection this with this
  injection this with _ this
  exact this.symm
theorem evOp_none {e : Look} {h h1 : Heap} {key : Nat} {op : AOp} {d : D} (hev : evOp e h key op = some (d, h1)) {k : Nat} (hk : h k = none) (hne : k ≠ key) : h1 k = none := by
  have hid : hide (fun j => j == k) h = h := by
    funext j
    simp only [hide]
    split
    · rename_i hj
      rw [beq_iff_eq] at hj
      subst hj; exact hk.symm
    · rfl
  have := congrFun (evOp_fix (hf := fun j => j == k) (by simpa using fun h => hne h.symm) hid hev) k
  simp only [unhide, beq_self_eq_true, if_true] at this
  rw [← this]; exact hk
def notCall : AOp → Bool
  | .call .. => false
  | .eqN .. => false
  | _ => true
def okS (bef : List (List Nat)) : List Nat → Nat → List AIns → Bool
  | _, _, [] => true
  | made, i, o :: r => o.guard.isNone && notCall o.op && (cls o.op == 0 || cls o.op == 2 || made.all fun m => (befAt bef i).contains m) && okS bef (if makes o.op then i :: made else made) (i + 1) r
theorem Wsuf_run {P : Program} {ops : List AIns} {bef : List (List Nat)} (hbl : bef.length = ops.length) {N : Nat} {rs : Nat → D} : ∀ (l : List AIns) (i : Nat) (made : List Nat) (e : Env) (h : Heap) (K : Env → Heap → Prop), ops.drop i = l → okS bef made i l = true → Wops P l e h K →
    (∀ k, N ≤ k → h k ≠ none → ∃ m ∈ made, k = N + m) → (∀ m ∈ made, m < i) → ∃ e' h', dRun P N ops.length rs ops bef (List.range' i l.length) (get e) h = some (get e', h') ∧ K e' h'
  | [], i, _, e, h, K, _, _, hw, _, _ => ⟨e, h, by simp [dRun], hw⟩
  | o :: r, i, made, e, h, K, hd, hok, hw, hN, hm => by
    have hoi : ops[i]? = some o := by
      have : (ops.drop i)[0]? = some o := by rw [hd]; rfl
      rw [List.getElem?_drop] at this
      simpa using this
    have hil : i < ops.length := by
      rcases Nat.lt_or_ge i ops.length with h' | h'
      · exact h'
      · simp [List.getElem?_eq_none h'] at hoi
    have hbi : bef[i]? = some (befAt bef i) := by
      unfold befAt
      have : i < bef.length := by omega
      simp [this]
    have hdr : ops.drop (i + 1) = r := by rw [← List.drop_drop, hd]; rfl
    simp only [okS, Bool.and_eq_true] at hok
    obtain ⟨⟨⟨hg, hnc⟩, hcl⟩, hokr⟩ := hok
    have hg : o.guard = none := by simpa using hg
    have hkey : h (N + i) = none := by
      refine Classical.byContradiction fun hne => ?_
      obtain ⟨m, h1, h2⟩ := hN (N + i) (by omega) hne
      have := hm m h1
      omega
    -- the operation on the whole heap
    have key : ∀ d h1, evOp (get e) h (N + i) o.op = some (d, h1) → Wops P r (put o.dst d e) h1 K → (∀ k, N ≤ k → h1 k ≠ none → k = N + i → makes o.op = true) → ∃ e' h', dRun P N ops.length rs ops bef (List.range' i (o :: r).length) (get e) h = some (get e', h') ∧ K e' h' := by
      intro d h1 hev hw1 hmk
      have hres : dRes P N ops.length rs i (befAt bef i) o (get e) h = some (d, h1) := by
        have hgv : guardV o.guard (get e) = some true := by rw [hg]; rfl
        have hcase : (match evOp (get e) (hide (hidF N ops.length (befAt bef i) i) h) (N + i) o.op with | some (d, h1) => some (d, unhide (hidF N ops.length (befAt bef i) i) h h1) | none => none) = some (d, h1) := by
          by_cases hc0 : cls o.op = 0
          · obtain ⟨e1, e2⟩ := cls0 hc0 hev
            rw [e2 _ _, e1]
            simp only [unhide_hide]
          · by_cases hc2 : cls o.op = 2
            · obtain ⟨c, e1, e2⟩ := cls2 hc2 hev
              rw [e2 _, e1]
              simp only [unhide_upd hid_own]
            have hid : hide (hidF N ops.length (befAt bef i) i) h = h := by
              funext k
              simp only [hide]
              split
              · rename_i hk
                refine Classical.byContradiction fun hne => ?_
                simp only [hidF, Bool.and_eq_true, decide_eq_true_eq, Bool.not_eq_true'] at hk
                obtain ⟨m, h3, h4⟩ := hN k hk.1.1.1 (fun h5 => hne h5.symm)
                have h5 : made.all (fun m => (befAt bef i).contains m) = true := by
                  rcases Bool.or_eq_true _ _ ▸ hcl with h6 | h6
                  · rcases (by simpa using h6 : cls o.op = 0 ∨ cls o.op = 2) with h7 | h7
                    · exact absurd h7 hc0
                    · exact absurd h7 hc2
                  · exact h6
                have h6 := List.all_eq_true.1 h5 m h3
                rw [h4, Nat.add_sub_cancel_left] at hk
                rw [h6] at hk
                exact absurd hk.2 (by simp)
              · rfl
            rw [hid, hev]
            simp only
            rw [evOp_fix hid_own hid hev]
        unfold dRes
        rw [hgv]
        simp only
        cases hop : o.op <;> rw [hop] at hcase hnc <;> first | exact hcase | (simp [notCall] at hnc; done)
      have hinv : ∀ k, N ≤ k → h1 k ≠ none → ∃ m ∈ (if makes o.op then i :: made else made), k = N + m := by
        intro k hk hne
        by_cases hki : k = N + i
        · rw [if_pos (hmk k hk hne hki)]
          exact ⟨i, by simp, hki⟩
        · obtain ⟨m, h3, h4⟩ := hN k hk (fun h0 => hne (evOp_none hev h0 hki))
          refine ⟨m, ?_, h4⟩
          split
          · simp [h3]
          · exact h3
      obtain ⟨e', h', h2, h3⟩ := Wsuf_run hbl (N := N) (rs := rs) r (i + 1) _ (put o.dst d e) h1 K hdr hokr hw1 hinv (by
        intro m hm2
        split at hm2
        · rcases List.mem_cons.1 hm2 with rfl | hm2
          · omega
          · have := hm m hm2; omega
        · have := hm m hm2; omega)
      refine ⟨e', h', ?_, h3⟩
      simp only [List.length_cons, List.range'_succ, dRun, hoi, hbi, hres]
      rw [← get_put]
      exact h2
    simp only [Wops, Wins, hg, runIns] at hw
    split at hw
    · rename_i hop
      rw [hop] at hnc
      simp [notCall] at hnc
    · split at hw
      · rename_i hmk
        have h1 := hw (N + i) hkey
        split at h1
        · rename_i d h' hev
          exact key d h' hev h1 (fun _ _ _ _ => hmk)
        · exact h1.elim
      · rename_i hmk
        have hmk : makes o.op = false := by simpa using hmk
        split at hw
        · rename_i d h' hev
          rw [key_any hmk 0 (N + i)] at hev
          refine key d h' hev hw (fun k hk hne hki => ?_)
          subst hki
          rw [key_any hmk (N + i) (N + i + 1)] at hev
          exact absurd (evOp_none hev hkey (by omega)) hne
        · obtain ⟨⟨g, x, sz, c, hop, _⟩, _⟩ := hw
          rw [hop] at hnc
          simp [notCall] at hnc
theorem W_dregM {P : Program} {Q : X → St → Prop} {e : Env} {h : Heap} {pre suf ops : List AIns} {bef : List (List Nat)} {keep : List Nat} (hs : pre ++ suf = ops) (hbl : bef.length = ops.length) (hro : pre.all readsOnly = true) (hok : okS bef [] pre.length suf = true)
    (hw : ∀ K : Env → Heap → Prop, (∀ e1 h1 e2, norm keep e1 = e2 → Q .normal ⟨e2, h1⟩ → K e1 h1) → WdR P pre e h fun e' => Wops P suf e' h K) : W P (.dreg ops bef keep) Q ⟨e, h⟩ := by
  subst hs
  obtain ⟨rs, e', h2, hr⟩ := WdR_run (ops := pre ++ suf) hbl pre 0 ⟨suf, by simp⟩ hro e h _ (hw (fun e' h' => Q .normal ⟨norm keep e', h'⟩) fun _ _ _ h1 h2 => by rw [h1]; exact h2)
  refine ⟨rs, fun N hN => ?_⟩
  have hN : ∀ k, N ≤ k → h k = none := hN
  have h1 := hr N hN
  obtain ⟨e2, h', h3, h4⟩ := Wsuf_run (ops := pre ++ suf) hbl (N := N) (rs := rs) suf pre.length [] e' h _ (by simp) hok h2 (fun k hk hne => absurd (hN k hk) hne) (by simp)
  refine ⟨(get e2, h'), ?_, ?_⟩
  · rw [List.length_append, List.range_eq_range', ← List.range'_append_1, dRun_append]
    rw [List.length_append] at h1 h3
    rw [h1]
    simp only [Option.bind_some, Nat.zero_add]
    exact h3
  · rw [norm_get] at h4
    exact h4
end Go.AM
end
section
/- Appending to growable slices: the new block. -/
set_option linter.unusedSimpArgs false
set_option linter.unusedVariables false
namespace Go.AM
open Go
/-! ### Appending something: the new block -/
theorem append_own2 {h : Heap} {d y : D} {sz bytes n m key : Nat} {cells new : List D} (ho : SlOwn h d sz cells n) (hy : lenA y = some m) (hs : srcD h sz m y = some new) (hl : new.length = m * sz) (hsz : 0 < sz) (hm : m ≠ 0) (hr : (n + m) * bytes ≤ room) (hk : h key = none) :
    ∃ h', appD h key sz bytes d y = some (.sl key sz 0 (n + m), h') ∧ h' key = some (cells ++ new) ∧ (∀ j c, h j = some c → (∀ sz off n, d ≠ .sl j sz off n) → h' j = some c) := by
  obtain ⟨hc, ⟨rfl, hd⟩ | ⟨k, rfl, hkc⟩⟩ := ho
  · have hc0 : cells = [] := by cases cells with | nil => rfl | cons _ _ => simp at hc
    subst hc0
    have hr' : m * bytes ≤ room := by simpa using hr
    have hoth : ∀ j c, h j = some c → upd h key new j = some c := fun j c hj => by rw [upd_ne (by rintro rfl; rw [hk] at hj; cases hj)]; exact hj
    rcases hd with rfl | rfl
    · exact ⟨_, by simp [appD, hy, hs, hm, hr'], upd_self, fun j c hj _ => hoth j c hj⟩
    · exact ⟨_, by simp [appD, hy, hs, hm, hr'], upd_self, fun j c hj _ => hoth j c hj⟩
  · have hlt : ¬ ((n + m) * sz ≤ cells.length) := by
      rw [hc, Nat.add_mul]
      have : 0 < m * sz := Nat.mul_pos (by omega) hsz
      omega
    refine ⟨upd (del h k) key (cells ++ new), ?_, upd_self, ?_⟩
    · rw [hc] at hlt
      simp only [appD, hy, hs, if_true, hkc, if_neg hm, Nat.zero_add, hc, true_and, if_pos hr]
      rw [if_neg hlt]
    · intro j c hj hne
      rw [upd_ne (by rintro rfl; rw [hk] at hj; cases hj)]
      simp only [del]
      rw [if_neg (by rintro rfl; exact hne sz 0 n rfl)]
      exact hj
theorem s_app2 {P : Program} {e : Env} {h : Heap} {r : List AIns} {K : Env → Heap → Prop} {t : Nat} {sz bytes n m : Nat} {x y : O} {d dy : D} {cells new : List D} (h1 : evO (get e) x = some d) (h2 : evO (get e) y = some dy) (ho : SlOwn h d sz cells n) (hy : lenA dy = some m) (hs : srcD h sz m dy = some new) (hl : new.length = m * sz ∧ 0 < sz ∧ m ≠ 0) (hr : (n + m) * bytes ≤ room)
    (hw : ∀ key h', h key = none → h' key = some (cells ++ new) → (∀ j c, h j = some c → (∀ sz off n, d ≠ .sl j sz off n) → h' j = some c) → Wops P r ((t, .sl key sz 0 (n + m)) :: e) h' K) : Wops P (⟨some t, .append sz bytes x y, none⟩ :: r) e h K :=
  s_append h1 h2 fun k hk => let ⟨h', h3, h4, h5⟩ := append_own2 ho hy hs hl.1 hl.2.1 hl.2.2 hr hk; ⟨_, h', h3, hw k h' hk h4 h5⟩
def Fr (d : D) (j : Nat) : Prop := ∀ sz off n, d ≠ .sl j sz off n
theorem Fr.sl {k j sz off n : Nat} (h : k ≠ j) : Fr (.sl k sz off n) j := fun _ _ _ he => by injection he; contradiction
theorem Fr.nil {j : Nat} : Fr .nil j := fun _ _ _ he => by cases he
def Dis (d d' : D) : Prop := ∀ j, Fr d j ∨ Fr d' j
theorem Dis.symm {d d' : D} (h : Dis d d') : Dis d' d := fun j => (h j).symm
theorem SlOwn.dis {h : Heap} {d : D} {sz n k : Nat} {cells : List D} (ho : SlOwn h d sz cells n) {sz' n' : Nat} (hk : h k = none) : Dis d (.sl k sz' 0 n') := by
  intro j
  by_cases hj : j = k
  · subst hj; exact .inl (ho.fresh hk)
  · exact .inr (Fr.sl (Ne.symm hj))
theorem SlOwn.oth {h h' : Heap} {d d0 : D} {sz n : Nat} {cells : List D} (ho : SlOwn h d sz cells n) (hd : Dis d0 d) (hh : ∀ j c, h j = some c → (∀ sz off n, d0 ≠ .sl j sz off n) → h' j = some c) : SlOwn h' d sz cells n := by
  obtain ⟨hc, ⟨rfl, hn⟩ | ⟨k, rfl, hkc⟩⟩ := ho
  · exact ⟨hc, .inl ⟨rfl, hn⟩⟩
  · refine ⟨hc, .inr ⟨k, rfl, hh k _ hkc ?_⟩⟩
    rcases hd k with h1 | h1
    · exact h1
    · exact absurd rfl (h1 sz 0 n)
end Go.AM
end
section
/- Closing steps of a walk, each under one name. -/
set_option linter.unusedSimpArgs false
set_option linter.unusedVariables false
namespace Go.AM
open Go
theorem nuI {a b : Int} (h : a = b := by first | (simp (disch := omega) only [w64, wu8, wu16, wu32, wu64, tm_nn, td_nn, fd_nn, Int.reduceAdd, Int.reduceSub, Int.reduceMul, Int.reduceDiv, Int.reduceMod, Int.reduceNeg, Int.reduceToNat, Int.toNat_natCast, Int.toNat_zero, Int.zero_add, Int.add_zero, Int.one_mul, Int.reducePow, Nat.mul_one, Nat.zero_add, Nat.add_zero, Nat.zero_mul, Nat.reduceAdd, Nat.reduceMul, Nat.reduceSub, Nat.min_eq_left, IntKind.bits, Nat.sub_zero]; try rfl; done) | rfl) : a = b := h
theorem nuN {a b : Nat} (h : a = b := by first | (simp (disch := omega) only [w64, wu8, wu16, wu32, wu64, tm_nn, td_nn, fd_nn, Int.reduceAdd, Int.reduceSub, Int.reduceMul, Int.reduceDiv, Int.reduceMod, Int.reduceNeg, Int.reduceToNat, Int.toNat_natCast, Int.toNat_zero, Int.zero_add, Int.add_zero, Int.one_mul, Int.reducePow, Nat.mul_one, Nat.zero_add, Nat.add_zero, Nat.zero_mul, Nat.reduceAdd, Nat.reduceMul, Nat.reduceSub, Nat.min_eq_left, IntKind.bits, Nat.sub_zero]; try rfl; done) | rfl) : a = b := h
theorem liL {a b : List D} (h : a = b := by first | (simp (disch := omega) only [upd_self, upd_ne, upd_upd, rep, splice, List.take_succ_cons, List.take_zero, List.drop_succ_cons, List.drop_zero, List.cons_append, List.nil_append, List.append_nil, List.length_cons, List.length_nil, List.reduceReplicate, List.flatten_cons, List.flatten_nil, Nat.reduceAdd, Nat.reduceMul, Nat.reduceSub, Nat.zero_add, Nat.add_zero, List.getElem?_cons_zero, List.getElem?_cons_succ]; try rfl; done) | rfl) : a = b := h
theorem liO {a b : Option D} (h : a = b := by first | (simp (disch := omega) only [upd_self, upd_ne, upd_upd, rep, splice, List.take_succ_cons, List.take_zero, List.drop_succ_cons, List.drop_zero, List.cons_append, List.nil_append, List.append_nil, List.length_cons, List.length_nil, List.reduceReplicate, List.flatten_cons, List.flatten_nil, Nat.reduceAdd, Nat.reduceMul, Nat.reduceSub, Nat.zero_add, Nat.add_zero, List.getElem?_cons_zero, List.getElem?_cons_succ]; try rfl; done) | rfl) : a = b := h
theorem neX {a b : Nat} (h : a ≠ b := by first | omega | exact ne_key ‹_› ‹_› | exact (ne_key ‹_› ‹_›).symm | exact ne_key1 ‹_› ‹_› | exact (ne_key1 ‹_› ‹_›).symm | exact ne_key2 ‹_› ‹_› | exact (ne_key2 ‹_› ‹_›).symm | exact ne_key3 ‹_› ‹_› | exact (ne_key3 ‹_› ‹_›).symm) : a ≠ b := h
theorem hpX {h : Heap} {k : Nat} {c : List D} (p : h k = some c := by first | exact upd_self | rfl | assumption | (simp (disch := exact neX) only [upd_self, upd_ne]; first | done | rfl | assumption)) : h k = some c := p
theorem nmX {keep : List Nat} {e e' : Env} (p : norm keep e = e' := by repeat (first | exact norm_nil | ((with_reducible apply norm_cons); (· rfl)) | ((with_reducible apply norm_skip); (· rfl)))) : norm keep e = e' := p
theorem agX {h : Heap} {ds ds' : List D} (p : All2 (Rd h) ds ds' := by repeat (first | exact All2.nil | (apply All2.cons; (· first | exact Rd_int | exact Rd_bool | exact Rd_vs | exact Rd_nil | exact Rd_emp | exact Rd_vp | exact Rd_sl0 upd_self rfl rfl | exact Rd_fn0 | exact Rd_flat rfl | ((apply Rd_sl0); (· exact hpX); (· first | rfl | exact scal_i | exact scal_b | assumption); (· first | rfl | assumption | (simp; done) | (simp; omega))) | ((apply Rd_so); (· first | assumption | ((repeat' (first | assumption | (with_reducible apply SlOwn.upd) | (simp only [upd_none]; assumption))); done)); (· first | rfl | exact scal_i | exact scal_b | assumption)))))) : All2 (Rd h) ds ds' := p
theorem rdX {h : Heap} {d d' : D} (p : Rd h d d' := by first | exact Rd_int | exact Rd_bool | exact Rd_vs | exact Rd_nil | exact Rd_emp | exact Rd_vp | exact Rd_sl0 upd_self rfl rfl | exact Rd_fn0 | exact Rd_flat rfl | ((apply Rd_sl0); (· exact hpX); (· first | rfl | exact scal_i | exact scal_b | assumption); (· first | rfl | assumption | (simp; done) | (simp; omega))) | ((apply Rd_so); (· first | assumption | ((repeat' (first | assumption | (with_reducible apply SlOwn.upd) | (simp only [upd_none]; assumption))); done)); (· first | rfl | exact scal_i | exact scal_b | assumption))) : Rd h d d' := p
theorem s_eqN0 {P : Program} {e : Env} {h : Heap} {r : List AIns} {K : Env → Heap → Prop} {t : Nat} {neg : Bool} {x : O} {sz : Nat} {c : List D} (h1 : evO (get e) x = some (.vs sz c 0)) (hw : ∀ b, Wops P r ((t, .bool b) :: e) h K) : Wops P (⟨some t, .eqN neg x, none⟩ :: r) e h K := by
  show Wins P _ e h fun e' h' => Wops P r e' h' K
  unfold Wins
  simp only
  unfold runIns
  simp only [makes, Bool.false_eq_true, if_false, evOp, h1, Option.bind_some, isNilD, if_true]
  exact ⟨⟨neg, x, sz, c, rfl, h1⟩, hw⟩
end Go.AM
end
