/- Regions that draw their order: operations that do not disturb each other may change places. Generic over the program. -/
import Derived.Test.YthblalidmmbcoaaAmL
set_option linter.unusedSimpArgs false
set_option linter.unusedVariables false
namespace Go.AM

def usesO : O → List Nat
  | .tmp t => [t]
  | _ => []
def usesOs : List O → List Nat
  | [] => []
  | x :: r => usesO x ++ usesOs r
def usesOo : Option O → List Nat
  | some x => usesO x
  | none => []
def usesQ : List (Nat × Nat × O) → List Nat
  | [] => []
  | (_, _, x) :: r => usesO x ++ usesQ r
def usesOp : AOp → List Nat
  | .mv x => usesO x
  | .pick c a b => usesO c ++ usesO a ++ usesO b
  | .alloc _ => []
  | .box x => usesO x
  | .build _ ps => usesQ ps
  | .buildS _ _ _ ps => usesQ ps
  | .load _ _ x => usesO x
  | .store _ x y => usesO x ++ usesO y
  | .nilck x => usesO x
  | .bin _ x y => usesO x ++ usesO y
  | .eqB _ x y => usesO x ++ usesO y
  | .eqA _ _ x y => usesO x ++ usesO y
  | .eqN _ x => usesO x
  | .un _ x => usesO x
  | .conv _ x => usesO x
  | .strB x => usesO x
  | .mkfn _ a b => usesOs a ++ usesOs b
  | .mkslice _ _ _ x y => usesO x ++ usesO y
  | .slice _ x lo hi => usesO x ++ usesOo lo ++ usesOo hi
  | .slice3 _ x lo hi mx => usesO x ++ usesOo lo ++ usesO hi ++ usesO mx
  | .sliceM _ x lo hi => usesO x ++ usesO lo ++ usesO hi
  | .clear _ _ x => usesO x
  | .faddr _ x => usesO x
  | .field _ _ _ x => usesO x
  | .iaddr _ x i => usesO x ++ usesO i
  | .iaddrA _ _ x i => usesO x ++ usesO i
  | .index _ _ _ x i => usesO x ++ usesO i
  | .indexS x i => usesO x ++ usesO i
  | .extract _ x => usesO x
  | .len x => usesO x
  | .lenS x => usesO x
  | .append _ _ x y => usesO x ++ usesO y
  | .copy _ x y => usesO x ++ usesO y
  | .mima _ xs => usesOs xs
  | .mkmap => []
  | .mapHas x i => usesO x ++ usesO i
  | .mapPut x i v => usesO x ++ usesO i ++ usesO v
  | .call f xs => usesO f ++ usesOs xs
  | .bad => []
def usesI (o : AIns) : List Nat := (match o.guard with | some (t, _) => [t] | none => []) ++ usesOp o.op

/-- 0: looks at no memory · 1: reads memory · 2: makes a block · 3: writes · 4: a call. -/
def cls : AOp → Nat
  | .load .. => 1
  | .strB _ => 1
  | .iaddr .. => 1
  | .sliceM .. => 1
  | .mapHas .. => 1
  | .mkmap => 2
  | .mapPut .. => 3
  | .alloc _ => 2
  | .box _ => 2
  | .buildS .. => 2
  | .mkslice .. => 2
  | .store .. => 3
  | .append .. => 3
  | .copy .. => 3
  | .clear .. => 3
  | .call .. => 4
  | _ => 0

def setL (dst : Option Nat) (d : D) (e : Look) : Look := match dst with | some t => fun t' => if t = t' then some d else e t' | none => e

theorem get_put (dst : Option Nat) (d : D) (e : Env) : get (put dst d e) = setL dst d (get e) := by cases dst <;> rfl

theorem evO_set {e e' : Look} {x : O} (h : ∀ t ∈ usesO x, e' t = e t) : evO e' x = evO e x := by cases x <;> simp [evO, usesO] at h ⊢ <;> exact h
theorem evOs_set {e e' : Look} : ∀ {xs : List O}, (∀ t ∈ usesOs xs, e' t = e t) → evOs e' xs = evOs e xs
  | [], _ => rfl
  | x :: r, h => by
    simp only [evOs]
    rw [evO_set (fun t ht => h t (by simp [usesOs, ht])), evOs_set (fun t ht => h t (by simp [usesOs, ht]))]
theorem evQ_set {e e' : Look} : ∀ {xs : List (Nat × Nat × O)}, (∀ t ∈ usesQ xs, e' t = e t) → evQ e' xs = evQ e xs
  | [], _ => rfl
  | (i, n, x) :: r, h => by
    simp only [evQ]
    rw [evO_set (fun t ht => h t (by simp [usesQ, ht])), evQ_set (fun t ht => h t (by simp [usesQ, ht]))]
theorem bndD_set {e e' : Look} {n : Nat} {x : Option O} (h : ∀ t ∈ usesOo x, e' t = e t) : bndD e' n x = bndD e n x := by
  cases x with
  | none => rfl
  | some y => simp only [bndD]; rw [evO_set (fun t ht => h t (by simp [usesOo, ht]))]

theorem evOp_set {e e' : Look} {h : Heap} {k : Nat} {op : AOp} (hu : ∀ t ∈ usesOp op, e' t = e t) : evOp e' h k op = evOp e h k op := by
  cases op <;> simp only [usesOp, List.mem_append] at hu <;> simp only [evOp]
  case mv x => rw [evO_set hu]
  case pick c x y =>
    rw [evO_set (fun t ht => hu t (.inl (.inl ht)))]
    split
    · rename_i b _
      cases b
      · simp only [Bool.false_eq_true, if_false]; rw [evO_set (x := y) (fun t ht => hu t (.inr ht))]
      · simp only [if_true]; rw [evO_set (x := x) (fun t ht => hu t (.inl (.inr ht)))]
    · rfl
  case box x => rw [evO_set hu]
  case build z ps => rw [evQ_set hu]
  case buildS a b c ps => rw [evQ_set hu]
  case load a b x => rw [evO_set hu]
  case store a x y => rw [evO_set (fun t ht => hu t (.inl ht)), evO_set (fun t ht => hu t (.inr ht))]
  case nilck x => rw [evO_set hu]
  case bin a x y => rw [evO_set (fun t ht => hu t (.inl ht)), evO_set (fun t ht => hu t (.inr ht))]
  case eqB a x y => rw [evO_set (fun t ht => hu t (.inl ht)), evO_set (fun t ht => hu t (.inr ht))]
  case eqA a b x y => rw [evO_set (fun t ht => hu t (.inl ht)), evO_set (fun t ht => hu t (.inr ht))]
  case eqN a x => rw [evO_set hu]
  case un a x => rw [evO_set hu]
  case conv a x => rw [evO_set hu]
  case mkfn f x y => rw [evOs_set (fun t ht => hu t (.inl ht)), evOs_set (fun t ht => hu t (.inr ht))]
  case mkslice a b c x y => rw [evO_set (fun t ht => hu t (.inl ht)), evO_set (fun t ht => hu t (.inr ht))]
  case slice a x lo hi => rw [evO_set (fun t ht => hu t (.inl (.inl ht))), bndD_set (fun t ht => hu t (.inl (.inr ht)))]; simp only [bndD_set (fun t ht => hu t (.inr ht))]
  case slice3 a x lo hi mx => rw [evO_set (fun t ht => hu t (.inl (.inl (.inl ht)))), bndD_set (fun t ht => hu t (.inl (.inl (.inr ht)))), bndD_set (x := some hi) (fun t ht => hu t (.inl (.inr ht))), bndD_set (x := some mx) (fun t ht => hu t (.inr ht))]
  case sliceM a x lo hi => rw [evO_set (fun t ht => hu t (.inl (.inl ht))), bndD_set (x := some lo) (fun t ht => hu t (.inl (.inr ht))), bndD_set (x := some hi) (fun t ht => hu t (.inr ht))]
  case clear a z x => rw [evO_set hu]
  case faddr a x => rw [evO_set hu]
  case field a b c x => rw [evO_set hu]
  case iaddr a x y => rw [evO_set (fun t ht => hu t (.inl ht)), evO_set (fun t ht => hu t (.inr ht))]
  case iaddrA a b x y => rw [evO_set (fun t ht => hu t (.inl ht)), evO_set (fun t ht => hu t (.inr ht))]
  case index a b c x y => rw [evO_set (fun t ht => hu t (.inl ht)), evO_set (fun t ht => hu t (.inr ht))]
  case indexS x y => rw [evO_set (fun t ht => hu t (.inl ht)), evO_set (fun t ht => hu t (.inr ht))]
  case extract a x => rw [evO_set hu]
  case len x => rw [evO_set hu]
  case lenS x => rw [evO_set hu]
  case strB x => rw [evO_set hu]
  case append a b x y => rw [evO_set (fun t ht => hu t (.inl ht)), evO_set (fun t ht => hu t (.inr ht))]
  case copy a x y => rw [evO_set (fun t ht => hu t (.inl ht)), evO_set (fun t ht => hu t (.inr ht))]
  case mima a xs => rw [evOs_set hu]
  case mapHas x i => rw [evO_set (fun t ht => hu t (.inl ht)), evO_set (fun t ht => hu t (.inr ht))]
  case mapPut x i v => rw [evO_set (fun t ht => hu t (.inl (.inl ht))), evO_set (fun t ht => hu t (.inl (.inr ht))), evO_set (x := v) (fun t ht => hu t (.inr ht))]

theorem cls0 {e : Look} {h h1 : Heap} {k : Nat} {op : AOp} {d : D} (hc : cls op = 0) (hev : evOp e h k op = some (d, h1)) : h1 = h ∧ ∀ h2 k2, evOp e h2 k2 op = some (d, h2) := by
  cases op <;> simp [cls] at hc <;> simp only [evOp] at hev ⊢
  all_goals
    (repeat' split at hev)
    all_goals first
      | (cases hev; done)
      | (injection hev with hev; injection hev with h3 h4; subst h3; subst h4; exact ⟨rfl, fun _ _ => by simp_all⟩)

theorem cls1 {e : Look} {h h1 : Heap} {k : Nat} {op : AOp} {d : D} (hc : cls op = 1) (hev : evOp e h k op = some (d, h1)) : h1 = h ∧ ∀ k2, evOp e h k2 op = some (d, h) := by
  cases op <;> simp [cls] at hc <;> simp only [evOp] at hev ⊢
  all_goals
    (repeat' split at hev)
    all_goals first
      | (cases hev; done)
      | (injection hev with hev; injection hev with h3 h4; subst h3; subst h4; exact ⟨rfl, fun _ => by simp_all⟩)

theorem cls2 {e : Look} {h h1 : Heap} {k : Nat} {op : AOp} {d : D} (hc : cls op = 2) (hev : evOp e h k op = some (d, h1)) : ∃ c, h1 = upd h k c ∧ ∀ h2, evOp e h2 k op = some (d, upd h2 k c) := by
  cases op <;> simp [cls] at hc <;> simp only [evOp] at hev ⊢
  all_goals
    (repeat' split at hev)
    all_goals first
      | (cases hev; done)
      | (injection hev with hev; injection hev with h3 h4; subst h3; subst h4; exact ⟨_, rfl, fun _ => by simp_all⟩)

/-! ### Heaps of which a part is hidden -/
def hide (hf : Nat → Bool) (h : Heap) : Heap := fun k => if hf k then none else h k
def unhide (hf : Nat → Bool) (h h1 : Heap) : Heap := fun k => if hf k then h k else h1 k

theorem unhide_hide (hf : Nat → Bool) (h : Heap) : unhide hf h (hide hf h) = h := by funext k; simp only [unhide, hide]; split <;> simp_all
theorem unhide_upd {hf : Nat → Bool} {h : Heap} {k : Nat} {c : List D} (hk : hf k = false) : unhide hf h (upd (hide hf h) k c) = upd h k c := by
  funext j
  simp only [unhide, upd, hide]
  by_cases hj : j = k
  · subst hj; simp [hk]
  · cases hfj : hf j <;> simp [hj]
theorem hide_upd {hf : Nat → Bool} {h : Heap} {k : Nat} {c : List D} (hk : hf k = true) : hide hf (upd h k c) = hide hf h := by
  funext j
  simp only [hide, upd]
  by_cases hj : j = k
  · subst hj; simp [hk]
  · simp [hj]
theorem unhide_upd_out {hf : Nat → Bool} {h g : Heap} {k : Nat} {c : List D} (hk : hf k = true) : unhide hf (upd h k c) g = upd (unhide hf h g) k c := by
  funext j
  simp only [unhide, upd]
  by_cases hj : j = k
  · subst hj; simp [hk]
  · simp [hj]
theorem hide_some {hf : Nat → Bool} {h : Heap} {k : Nat} {c : List D} (hk : hide hf h k = some c) : hf k = false ∧ h k = some c := by
  simp only [hide] at hk
  split at hk
  · cases hk
  · rename_i hn; exact ⟨by simpa using hn, hk⟩

theorem memAt_hide {hf : Nat → Bool} {h : Heap} {d : D} {x : List D × Nat} (hm : memAt (hide hf h) d = some x) : memAt h d = some x := by
  unfold memAt at hm ⊢
  split at hm
  · exact hm
  · rename_i k off
    split at hm
    · rename_i c hk; rw [(hide_some hk).2]; exact hm
    · cases hm
  · cases hm
theorem srcD_hide {hf : Nat → Bool} {h : Heap} {sz n : Nat} {d : D} {x : List D} (hm : srcD (hide hf h) sz n d = some x) : srcD h sz n d = some x := by
  unfold srcD at hm ⊢
  split at hm
  all_goals first
    | exact hm
    | (split at hm
       · rename_i hc
         split at hm
         · rename_i c hk; simp only [if_pos hc, (hide_some hk).2]; exact hm
         · cases hm
       · cases hm)
    | cases hm

theorem strD_hide {hf : Nat → Bool} {h : Heap} {d r : D} (hm : strD (hide hf h) d = some r) : strD h d = some r := by
  unfold strD at hm ⊢
  split at hm
  · split at hm
    · rename_i c hc
      simp only [srcD_hide hc]
      exact hm
    · cases hm
  · exact hm
  · cases hm

theorem unhide_upd_live {hf : Nat → Bool} {h : Heap} {k : Nat} {c : List D} (hk : hf k = false) : unhide hf h (upd (hide hf h) k c) = upd h k c := unhide_upd hk
theorem unhide_del_upd {hf : Nat → Bool} {h : Heap} {k k2 : Nat} {c : List D} (hk : hf k = false) (hk2 : hf k2 = false) : unhide hf h (upd (del (hide hf h) k) k2 c) = upd (del h k) k2 c := by
  funext j
  simp only [unhide, upd, del, hide]
  by_cases hj2 : j = k2
  · subst hj2; simp [hk2]
  · by_cases hj : j = k
    · subst hj; simp [hk, hj2]
    · cases hfj : hf j <;> simp [hj, hj2]

/-- What an operation does while a part of the heap is hidden, it does to the whole heap. -/
theorem evOp_hide {e : Look} {hf : Nat → Bool} {h h1 : Heap} {k : Nat} {op : AOp} {d : D} (hk : hf k = false) (hev : evOp e (hide hf h) k op = some (d, h1)) : evOp e h k op = some (d, unhide hf h h1) := by
  have hcl : cls op = 0 ∨ cls op = 1 ∨ cls op = 2 ∨ cls op = 3 ∨ cls op = 4 := by cases op <;> simp [cls]
  rcases hcl with hc | hc | hc | hc | hc
  · obtain ⟨rfl, h2⟩ := cls0 hc hev
    rw [unhide_hide]; exact h2 h k
  · have h0 := (cls1 hc hev).1
    subst h0
    rw [unhide_hide]
    cases op <;> simp [cls] at hc <;> simp only [evOp] at hev ⊢
    case load a n x =>
      split at hev
      · rename_i c off hm
        cases hx : evO e x with
        | none => rw [hx] at hm; cases hm
        | some dx =>
          rw [hx] at hm
          simp only [Option.bind_some] at hm ⊢
          rw [memAt_hide hm]
          simp only
          split at hev
          · injection hev with hev; injection hev with h3 _; subst h3; rfl
          · cases hev
      · cases hev
    case strB x =>
      split at hev
      · split at hev
        · rename_i r hr
          injection hev with hev; injection hev with h3 _; subst h3
          rw [strD_hide hr]
        · cases hev
      · cases hev
    case iaddr sz x i =>
      split at hev
      · split at hev
        · injection hev with hev; injection hev with h3 _; subst h3; simp_all
        · cases hev
      · rename_i k2 sz' off len kk n hx hi
        split at hev
        · rename_i hb
          split at hev
          · rename_i c hkk
            injection hev with hev; injection hev with h3 _; subst h3
            simp only [if_pos hb, (hide_some hkk).2]
          · cases hev
        · cases hev
      · cases hev
    case sliceM sz x lo hi =>
      split at hev
      · rename_i k2 sz' off len hx
        split at hev
        · rename_i c l r hkk hl hr
          split at hev
          · rename_i hb
            injection hev with hev; injection hev with h3 _; subst h3
            simp only [(hide_some hkk).2, hl, hr, if_pos hb]
          · cases hev
        · cases hev
      · cases hev
    case mapHas x i =>
      split at hev
      · rename_i k2 n hx hi
        split at hev
        · rename_i l hkk
          split at hev
          · rename_i hb
            injection hev with hev; injection hev with h3 _; subst h3
            simp only [(hide_some hkk).2, if_pos hb]
          · cases hev
        · cases hev
      · cases hev
  · obtain ⟨c, rfl, h2⟩ := cls2 hc hev
    rw [h2 h, unhide_upd hk]
  · cases op <;> simp [cls] at hc <;> simp only [evOp] at hev ⊢
    case mapPut x i v =>
      split at hev
      · rename_i k2 n hx hi hv
        split at hev
        · rename_i l hkk
          obtain ⟨hf2, hk2⟩ := hide_some hkk
          split at hev
          · rename_i hb
            injection hev with hev; injection hev with h3 h4; subst h3; subst h4
            simp only [hk2, if_pos hb, unhide_upd hf2]
          · cases hev
        · cases hev
      · cases hev
    case store n x y =>
      split at hev
      · rename_i k2 off new hx hy
        split at hev
        · rename_i c hkk
          obtain ⟨hf2, hk2⟩ := hide_some hkk
          split at hev
          · rename_i hb
            injection hev with hev; injection hev with h3 h4; subst h3; subst h4
            simp only [hk2, if_pos hb, unhide_upd hf2]
          · cases hev
        · cases hev
      · cases hev
    case append sz by' x y =>
      split at hev
      · rename_i dx dy hx hy
        unfold appD at hev ⊢
        split at hev
        · cases hev
        · rename_i n hn
          split at hev
          · cases hev
          · rename_i new hs
            rw [srcD_hide hs]
            simp only
            split at hev
            · split at hev
              · injection hev with hev; injection hev with h3 h4; subst h3; subst h4; simp_all [unhide_hide]
              · split at hev
                · injection hev with hev; injection hev with h3 h4; subst h3; subst h4; simp_all [unhide_upd]
                · cases hev
            · split at hev
              · injection hev with hev; injection hev with h3 h4; subst h3; subst h4; simp_all [unhide_hide]
              · split at hev
                · injection hev with hev; injection hev with h3 h4; subst h3; subst h4; simp_all [unhide_upd]
                · cases hev
            · rename_i k2 sz' off len
              split at hev
              · rename_i hsz
                split at hev
                · cases hev
                · rename_i c hkk
                  obtain ⟨hf2, hk2⟩ := hide_some hkk
                  simp only [if_pos hsz, hk2]
                  split at hev
                  · injection hev with hev; injection hev with h3 h4; subst h3; subst h4; simp_all [unhide_hide]
                  · rename_i hn0
                    rw [if_neg hn0]
                    split at hev
                    · rename_i hb
                      injection hev with hev; injection hev with h3 h4; subst h3; subst h4
                      rw [if_pos hb, unhide_upd hf2]
                    · rename_i hb
                      rw [if_neg hb]
                      split at hev
                      · rename_i hb2
                        injection hev with hev; injection hev with h3 h4; subst h3; subst h4
                        rw [if_pos hb2, unhide_del_upd hf2 hk]
                      · cases hev
              · cases hev
            · cases hev
      · cases hev
    case clear sz z x =>
      split at hev
      · rename_i k2 sz' off n hx
        split at hev
        · rename_i c hkk
          obtain ⟨hf2, hk2⟩ := hide_some hkk
          split at hev
          · rename_i hb
            injection hev with hev; injection hev with h3 h4; subst h3; subst h4
            simp only [hk2, if_pos hb, unhide_upd hf2]
          · cases hev
        · cases hev
      · cases hev
    case copy sz x y =>
      split at hev
      · rename_i dx dy hx hy
        unfold copyD at hev ⊢
        split at hev
        · rename_i m n' hm hn'
          simp only [hm, hn'] at hev ⊢
          split at hev
          · cases hev
          · rename_i new hs
            rw [srcD_hide hs]
            simp only
            split at hev
            · injection hev with hev; injection hev with h3 h4; subst h3; subst h4; simp [unhide_hide]
            · injection hev with hev; injection hev with h3 h4; subst h3; subst h4; simp [unhide_hide]
            · rename_i k2 sz' off len
              split at hev
              · rename_i hsz
                split at hev
                · rename_i c hkk
                  obtain ⟨hf2, hk2⟩ := hide_some hkk
                  simp only [if_pos hsz, hk2]
                  split at hev
                  · rename_i hb
                    injection hev with hev; injection hev with h3 h4; subst h3; subst h4
                    rw [if_pos hb, unhide_upd hf2]
                  · cases hev
                · cases hev
              · cases hev
            · cases hev
        · cases hev
      · cases hev
  · cases op <;> simp [cls] at hc
    simp [evOp] at hev

end Go.AM
