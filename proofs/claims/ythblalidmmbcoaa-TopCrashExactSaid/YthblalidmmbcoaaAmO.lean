/- Regions that draw their order, second part: the abstract run in the text's order stands for every order. Generic over the program. -/
import Derived.Test.YthblalidmmbcoaaAmN
set_option linter.unusedSimpArgs false
set_option linter.unusedVariables false
namespace Go.AM
open Classical

def guardV (g : Option (Nat × Bool)) (e : Look) : Option Bool :=
  match g with
  | none => some true
  | some (t, want) => match e t with | some (.bool b) => some (b == want) | some (.tup _) => some false | _ => none

def hidF (N n : Nat) (b : List Nat) (i : Nat) : Nat → Bool := fun k => decide (N ≤ k) && decide (k < N + n) && !(k == N + i) && !(b.contains (k - N))

def PC (P : Program) (h : Heap) (ds : List D) (g : Nat) (r : D) : Prop := (∃ ds', All2 (Rd h) ds ds' ∧ PCon P g ds' r) ∨ PK P h ds g r ∨ ∃ ds' r0, All2 (Rd h) ds ds' ∧ PCon P g ds' r0 ∧ r = vnw (unow r0)
theorem hide_sub (hf : Nat → Bool) (h : Heap) : Sub (hide hf h) h := fun k c hk => (hide_some hk).2

/-- What operation i of a region of n gives: its calls' results are 'rs'. -/
noncomputable def dRes (P : Program) (N n : Nat) (rs : Nat → D) (i : Nat) (b : List Nat) (o : AIns) (e : Look) (h : Heap) : Option (D × Heap) :=
  match guardV o.guard e with
  | none => none
  | some false => some (.tup [], h)
  | some true =>
    match o.op with
    | .call f args => match evO e f, evOs e args with
      | some (.fn g fst caps), some ds => if PC P (hide (hidF N n b i) h) (fst ++ ds ++ caps) g (rs i) then some (thaw (N + i) (rs i), thawH (N + i) (rs i) h) else none
      | _, _ => none
    | op => match evOp e (hide (hidF N n b i) h) (N + i) op with | some (d, h1) => some (d, unhide (hidF N n b i) h h1) | none => none

theorem guardV_set {o : AIns} {e e' : Look} (hu : ∀ t ∈ usesI o, e' t = e t) : guardV o.guard e' = guardV o.guard e := by
  unfold guardV
  cases hg : o.guard with
  | none => rfl
  | some p =>
    obtain ⟨t, w⟩ := p
    simp only
    rw [hu t (by simp [usesI, hg])]

theorem dRes_set {P : Program} {N n : Nat} {rs : Nat → D} {i : Nat} {b : List Nat} {o : AIns} {e e' : Look} {h : Heap} (hu : ∀ t ∈ usesI o, e' t = e t) : dRes P N n rs i b o e' h = dRes P N n rs i b o e h := by
  unfold dRes
  rw [guardV_set hu]
  have hop : ∀ t ∈ usesOp o.op, e' t = e t := fun t ht => hu t (by simp [usesI, ht])
  split
  · rfl
  · rfl
  · split
    · rename_i f args hop'
      rw [hop'] at hop
      simp only [usesOp, List.mem_append] at hop
      rw [evO_set (fun t ht => hop t (.inl ht)), evOs_set (fun t ht => hop t (.inr ht))]
    · rw [evOp_set hop]

theorem hid_own {N n i : Nat} {b : List Nat} : hidF N n b i (N + i) = false := by simp [hidF]
theorem hid_other {N n i j : Nat} {b : List Nat} (hj : j < n) (hne : j ≠ i) (hb : j ∉ b) : hidF N n b i (N + j) = true := by
  simp only [hidF, Nat.add_sub_cancel_left, Bool.and_eq_true, decide_eq_true_eq, Bool.not_eq_true', beq_eq_false_iff_ne]
  refine ⟨⟨⟨by omega, by omega⟩, by omega⟩, ?_⟩
  simpa using hb

/-- The kinds of operations that may change places. -/
def mayX (x y : AOp) : Bool :=
  match cls x, cls y with
  | 0, _ => true
  | _, 0 => true
  | 1, 1 => true
  | 1, 2 => true
  | 1, 4 => true
  | 2, _ => true
  | 3, 2 => true
  | 4, 1 => true
  | 4, 2 => true
  | 4, 4 => true
  | _, _ => false

inductive DKind (P : Program) (N n : Nat) (rs : Nat → D) (i : Nat) (b : List Nat) (o : AIns) (e : Look) : Heap → D → Heap → Prop
  | still (h : Heap) (d : D) (hall : ∀ h2, dRes P N n rs i b o e h2 = some (d, h2)) : DKind P N n rs i b o e h d h
  | reads (h : Heap) (d : D) (hc : cls o.op = 1 ∨ cls o.op = 4) (hall : ∀ h2, hide (hidF N n b i) h2 = hide (hidF N n b i) h → dRes P N n rs i b o e h2 = some (d, h2)) : DKind P N n rs i b o e h d h
  | makes (h : Heap) (d : D) (c : List D) (hc : cls o.op = 2) (hall : ∀ h2, dRes P N n rs i b o e h2 = some (d, upd h2 (N + i) c)) : DKind P N n rs i b o e h d (upd h (N + i) c)
  | owns (h : Heap) (d : D) (c : List D) (hc : cls o.op = 4) (hall : ∀ h2, hide (hidF N n b i) h2 = hide (hidF N n b i) h → dRes P N n rs i b o e h2 = some (d, upd h2 (N + i) c)) : DKind P N n rs i b o e h d (upd h (N + i) c)
  | writes (h : Heap) (d : D) (g : Heap) (hc : cls o.op = 3) (hall : ∀ h2, hide (hidF N n b i) h2 = hide (hidF N n b i) h → dRes P N n rs i b o e h2 = some (d, unhide (hidF N n b i) h2 g)) :
      DKind P N n rs i b o e h d (unhide (hidF N n b i) h g)

theorem dRes_kind {P : Program} {N n : Nat} {rs : Nat → D} {i : Nat} {b : List Nat} {o : AIns} {e : Look} {h h1 : Heap} {d : D} (hr : dRes P N n rs i b o e h = some (d, h1)) : DKind P N n rs i b o e h d h1 := by
  have hr0 := hr
  unfold dRes at hr
  split at hr
  · cases hr
  · rename_i hg
    injection hr with hr; injection hr with h2 h3; subst h2; subst h3
    exact .still h _ (fun h2 => by unfold dRes; rw [hg])
  · rename_i hg
    split at hr
    · rename_i f args hop
      split at hr
      · rename_i g fst caps ds h2 h3
        split at hr
        · rename_i hpc
          injection hr with hr; injection hr with h4 h5; subst h4; subst h5
          cases how : owOf (rs i) with
          | none =>
            rw [thawH_none how]
            refine .reads h _ (.inr (by rw [hop]; rfl)) (fun h2' hh => ?_)
            unfold dRes
            rw [hg, hop]
            simp only [h2, h3, hh, if_pos hpc, thawH_none how]
          | some c =>
            rw [thawH_some how]
            refine .owns h _ c (by rw [hop]; rfl) (fun h2' hh => ?_)
            unfold dRes
            rw [hg, hop]
            simp only [h2, h3, hh, if_pos hpc, thawH_some how]
        · cases hr
      · cases hr
    · rename_i hnc
      split at hr
      · rename_i d1 h2 hev
        injection hr with hr; injection hr with h4 h5; subst h4; subst h5
        have hcl : cls o.op = 0 ∨ cls o.op = 1 ∨ cls o.op = 2 ∨ cls o.op = 3 ∨ cls o.op = 4 := by cases o.op <;> simp [cls]
        have hdr : ∀ h' d' g', evOp e (hide (hidF N n b i) h') (N + i) o.op = some (d', g') → dRes P N n rs i b o e h' = some (d', unhide (hidF N n b i) h' g') := by
          intro h' d' g' hh
          unfold dRes
          rw [hg]
          simp only
          clear hcl hev hr0
          cases hop : o.op <;> rw [hop] at hh <;> first | exact absurd hop (hnc _ _) | simp only [hh]
        rcases hcl with hc | hc | hc | hc | hc
        · obtain ⟨rfl, hall⟩ := cls0 hc hev
          rw [unhide_hide]
          exact .still h _ (fun h2 => by have := hdr h2 _ _ (hall (hide (hidF N n b i) h2) (N + i)); rwa [unhide_hide] at this)
        · have h0 := (cls1 hc hev).1
          subst h0
          rw [unhide_hide]
          exact .reads h _ (.inl hc) (fun h2 hh => by have := hdr h2 _ _ (by rw [hh]; exact hev); rwa [← hh, unhide_hide] at this)
        · obtain ⟨c, rfl, hall⟩ := cls2 hc hev
          rw [unhide_upd hid_own]
          exact .makes h _ c hc (fun h2 => by have := hdr h2 _ _ (hall (hide (hidF N n b i) h2)); rwa [unhide_upd hid_own] at this)
        · exact .writes h _ h2 hc (fun h2' hh => hdr h2' _ _ (by rw [hh]; exact hev))
        · cases hop : o.op <;> rw [hop] at hc <;> simp [cls] at hc
          exact absurd hop (hnc _ _)
      · cases hr

/-- Two operations that are not ordered may change places. -/
theorem dRes_swap {P : Program} {N n : Nat} {rs : Nat → D} {y i : Nat} {by' bi : List Nat} {oy oi : AIns} {e : Look} {h h1 h2 : Heap} {dy di : D} (hy : y < n) (hi : i < n) (hne : y ≠ i) (hyb : y ∉ bi) (hib : i ∉ by')
    (hm : mayX oy.op oi.op = true) (r1 : dRes P N n rs y by' oy e h = some (dy, h1)) (r2 : dRes P N n rs i bi oi e h1 = some (di, h2)) :
    ∃ h1', dRes P N n rs i bi oi e h = some (di, h1') ∧ dRes P N n rs y by' oy e h1' = some (dy, h2) := by
  have k1 := dRes_kind r1
  have k2 := dRes_kind r2
  have hY : hidF N n by' y (N + i) = true := hid_other hi (fun h => hne h.symm) hib
  have hI : hidF N n bi i (N + y) = true := hid_other hy hne hyb
  cases k1 with
  | still hall =>
    exact ⟨h2, r2, hall h2⟩
  | reads hc hall =>
    refine ⟨h2, r2, ?_⟩
    cases k2 with
    | still hall2 => exact r1
    | reads hc2 hall2 => exact r1
    | makes c hc2 hall2 => exact hall _ (hide_upd hY)
    | owns c hc2 hall2 => exact hall _ (hide_upd hY)
    | writes g hc2 hall2 => rcases hc with hc | hc <;> simp [mayX, hc, hc2] at hm
  | makes c hc hall =>
    cases k2 with
    | still hall2 => exact ⟨h, hall2 h, hall h⟩
    | reads hc2 hall2 => exact ⟨h, hall2 h (hide_upd hI).symm, hall h⟩
    | makes c2 hc2 hall2 =>
      refine ⟨upd h (N + i) c2, hall2 h, ?_⟩
      rw [hall]
      congr 2
      funext k
      simp only [upd]
      by_cases e1 : k = N + y <;> by_cases e2 : k = N + i
      · omega
      · simp [e1, hne]
      · simp [e2]; intro h; omega
      · simp [e1, e2]
    | owns c2 hc2 hall2 =>
      refine ⟨upd h (N + i) c2, hall2 h (hide_upd hI).symm, ?_⟩
      rw [hall]
      congr 2
      funext k
      simp only [upd]
      by_cases e1 : k = N + y <;> by_cases e2 : k = N + i
      · omega
      · simp [e1, hne]
      · simp [e2]; intro h; omega
      · simp [e1, e2]
    | writes g hc2 hall2 =>
      refine ⟨unhide (hidF N n bi i) h g, hall2 h (hide_upd hI).symm, ?_⟩
      rw [hall, unhide_upd_out hI]
  | owns c hc hall =>
    cases k2 with
    | still hall2 => exact ⟨h, hall2 h, r1⟩
    | reads hc2 hall2 => exact ⟨h, hall2 h (hide_upd hI).symm, r1⟩
    | makes c2 hc2 hall2 =>
      refine ⟨upd h (N + i) c2, hall2 h, ?_⟩
      rw [hall _ (hide_upd hY)]
      congr 2
      funext k
      simp only [upd]
      by_cases e1 : k = N + y <;> by_cases e2 : k = N + i
      · omega
      · simp [e1, hne]
      · simp [e2]; intro h; omega
      · simp [e1, e2]
    | owns c2 hc2 hall2 =>
      refine ⟨upd h (N + i) c2, hall2 h (hide_upd hI).symm, ?_⟩
      rw [hall _ (hide_upd hY)]
      congr 2
      funext k
      simp only [upd]
      by_cases e1 : k = N + y <;> by_cases e2 : k = N + i
      · omega
      · simp [e1, hne]
      · simp [e2]; intro h; omega
      · simp [e1, e2]
    | writes g hc2 hall2 => simp [mayX, hc, hc2] at hm
  | writes g hc hall =>
    cases k2 with
    | still hall2 => exact ⟨h, hall2 h, r1⟩
    | reads hc2 hall2 => rcases hc2 with hc2 | hc2 <;> simp [mayX, hc, hc2] at hm
    | makes c2 hc2 hall2 =>
      refine ⟨upd h (N + i) c2, hall2 h, ?_⟩
      rw [hall _ (hide_upd hY), unhide_upd_out hY]
    | owns c2 hc2 hall2 => simp [mayX, hc, hc2] at hm
    | writes g2 hc2 hall2 => simp [mayX, hc, hc2] at hm

/-! ### A region's run in a given order -/
noncomputable def dRun (P : Program) (N n : Nat) (rs : Nat → D) (ops : List AIns) (bef : List (List Nat)) : List Nat → Look → Heap → Option (Look × Heap)
  | [], e, h => some (e, h)
  | i :: r, e, h => match ops[i]?, bef[i]? with
    | some o, some b => (match dRes P N n rs i b o e h with | some (d, h1) => dRun P N n rs ops bef r (setL o.dst d e) h1 | none => none)
    | _, _ => none

def slotsX (x y : AIns) : Bool :=
  (match x.dst with | some t => !((usesI y).contains t) && !(y.dst == some t) | none => true) && (match y.dst with | some t => !((usesI x).contains t) | none => true)

/-- The text's order: whatever is not ordered may change places. -/
def okDraw (ops : List AIns) (bef : List (List Nat)) : Bool :=
  (List.range ops.length).all fun i => (List.range i).all fun y =>
    match ops[i]?, ops[y]?, bef[i]?, bef[y]? with
    | some oi, some oy, some bi, some by' => bi.contains y || (!(by'.contains i) && slotsX oy oi && mayX oy.op oi.op)
    | _, _, _, _ => false

theorem okDraw_at {ops : List AIns} {bef : List (List Nat)} (hok : okDraw ops bef = true) {y i : Nat} (hy : y < i) (hi : i < ops.length) :
    ∃ oi oy bi by', ops[i]? = some oi ∧ ops[y]? = some oy ∧ bef[i]? = some bi ∧ bef[y]? = some by' ∧ (y ∈ bi ∨ (i ∉ by' ∧ slotsX oy oi = true ∧ mayX oy.op oi.op = true)) := by
  have h1 := List.all_eq_true.1 hok i (by simpa using hi)
  have h2 := List.all_eq_true.1 h1 y (by simpa using hy)
  split at h2
  · rename_i oi oy bi by' h3 h4 h5 h6
    refine ⟨oi, oy, bi, by', h3, h4, h5, h6, ?_⟩
    rcases Bool.or_eq_true_iff.1 h2 with h | h
    · left; simpa using h
    · right
      rw [Bool.and_eq_true, Bool.and_eq_true] at h
      exact ⟨by simpa using h.1.1, h.1.2, h.2⟩
  · cases h2

theorem setL_comm {x y : Option Nat} (d d' : D) (e : Look) (h : ∀ t, x = some t → y ≠ some t) : setL x d (setL y d' e) = setL y d' (setL x d e) := by
  funext t
  cases x <;> cases y <;> simp only [setL]
  rename_i a b
  have : a ≠ b := fun hab => h a rfl (by rw [hab])
  by_cases h1 : a = t <;> by_cases h2 : b = t <;> simp [h1, h2]
  omega

/-- Operation i, which nothing ahead of it must precede, goes first. -/
theorem dRun_first {P : Program} {N : Nat} {rs : Nat → D} {ops : List AIns} {bef : List (List Nat)} (hok : okDraw ops bef = true) {i : Nat} (hi : i < ops.length) {bi : List Nat} (hbi : bef[i]? = some bi) :
    ∀ (l1 : List Nat) (l2 : List Nat) (e : Look) (h : Heap) (fin : Look × Heap), (∀ y ∈ l1, y < i ∧ y ∉ bi) →
      dRun P N ops.length rs ops bef (l1 ++ i :: l2) e h = some fin → dRun P N ops.length rs ops bef (i :: (l1 ++ l2)) e h = some fin
  | [], l2, e, h, fin, _, hr => hr
  | y :: l1, l2, e, h, fin, hl, hr => by
    obtain ⟨hyi, hyb⟩ := hl y (by simp)
    obtain ⟨oi, oy, bi', by', h1, h2, h3, h4, h5⟩ := okDraw_at hok hyi hi
    rw [hbi] at h3
    injection h3 with h3
    subst h3
    rcases h5 with h5 | ⟨hib, hsl, hmx⟩
    · exact absurd h5 hyb
    · simp only [List.cons_append, dRun, h2, h4] at hr
      split at hr
      · rename_i dy g1 hry
        have ih := dRun_first hok hi hbi l1 l2 (setL oy.dst dy e) g1 fin (fun z hz => hl z (by simp [hz])) hr
        simp only [dRun, h1, hbi] at ih
        split at ih
        · rename_i di g2 hri
          simp only [slotsX, Bool.and_eq_true] at hsl
          have hirr : ∀ t ∈ usesI oi, setL oy.dst dy e t = e t := by
            intro t ht
            cases hd : oy.dst with
            | none => rfl
            | some t0 =>
              have := hsl.1
              rw [hd] at this
              simp only [Bool.and_eq_true, Bool.not_eq_true'] at this
              simp only [setL]
              rw [if_neg]
              rintro rfl
              have h8 := this.1
              simp [ht] at h8
          rw [dRes_set hirr] at hri
          obtain ⟨g1', r1, r2⟩ := dRes_swap (by omega) hi (by omega) hyb hib hmx hry hri
          have hirr2 : ∀ t ∈ usesI oy, setL oi.dst di e t = e t := by
            intro t ht
            cases hd : oi.dst with
            | none => rfl
            | some t0 =>
              have := hsl.2
              rw [hd] at this
              simp only [Bool.not_eq_true'] at this
              simp only [setL]
              rw [if_neg]
              rintro rfl
              simp [ht] at this
          have hcomm : setL oi.dst di (setL oy.dst dy e) = setL oy.dst dy (setL oi.dst di e) := by
            refine setL_comm _ _ _ (fun t ht hy0 => ?_)
            have := hsl.1
            rw [hy0] at this
            simp only [Bool.and_eq_true, Bool.not_eq_true'] at this
            have h9 := this.2
            rw [ht] at h9
            simp at h9
          rw [hcomm] at ih
          simp only [dRun, h1, hbi, r1, List.cons_append, h2, h4]
          rw [dRes_set hirr2, r2]
          exact ih
        · cases ih
      · cases hr

end Go.AM
