/- Contracts by value; regions that draw their order. Generic over the program. -/
import Derived.Test.YthblalidmmbcoaaAmM
set_option linter.unusedSimpArgs false
set_option linter.unusedVariables false
namespace Go.AM

/-! ### Contracts by value -/
/-- What is known of the own blocks that a heap names. -/
structure RHo (s : Sg) (h : Heap) : Prop where
  lt : ∀ b, s.prot b → b < s.w.heap.size
  own : ∀ k c, h k = some c → s.used k ∧ ∃ x, s.ρ k = some (x, c.length) ∧ (x = none → c = [] ∨ ∃ l b, c = [.mpc l] ∧ s.μ k = some b ∧ MapI s.w b l) ∧
    ∀ b, x = some b → ¬ s.prot b ∧ ∃ cs e, s.w.heap[b]? = some (.cells cs e (0, 0)) ∧ c.length ≤ cs.size ∧ All2 (RC s) (cs.toList.take c.length) c
  fl : ∀ b, s.fr b → b < s.w.heap.size
theorem RH.toO {s : Sg} {h : Heap} (H : RH s h) : RHo s h := ⟨H.lt, H.own, fun b hb => H.lt b (H.fp b hb).1⟩
theorem RHo.hide {s : Sg} {h : Heap} (H : RHo s h) (hf : Nat → Bool) : RHo s (hide hf h) := ⟨H.lt, fun k c hk => H.own k c (hide_some hk).2, H.fl⟩

def below (n : Nat) : Nat → Prop := fun b => b < n
/-- Data 'd', in a heap, read by value as 'd''. -/
def Rd (h : Heap) (d d' : D) : Prop := ∀ (s : Sg) (v : Value), RHo s h → RV s v d → RP s.w (below s.w.heap.size) v d'

def RPc (w : World) (prot : Nat → Prop) (v : Value) (d : D) : Prop := RP w prot v d ∧ v.oneCell' = true
/-- A slice in a block of its own. -/
def Own1 (x : Option Nat) (w : World) (prot : Nat → Prop) (v : Value) (sz : Nat) (cells : List D) (len : Nat) : Prop :=
  ∃ a cap, v = .slice a len cap ∧ len ≤ cap ∧ cells.length = len * sz ∧ (x = none → cap = 0) ∧
    ∀ b, x = some b → ∃ cs e, w.heap[b]? = some (.cells cs e (0, 0)) ∧ All2 (RPc w prot) (cs.toList.take cells.length) cells ∧ (len ≠ 0 → a ≠ none) ∧ (cap = 0 ∨ (a = some ⟨b, 0, none⟩ ∧ cap * sz ≤ cs.size))
def OutC (x : Option Nat) (w : World) (prot : Nat → Prop) (v : Value) : D → Prop
  | .ow sz cells len => Own1 x w prot v sz cells len
  | r => RP w prot v r
def isOw : D → Bool | .ow _ _ _ => true | _ => false
def nOw : List D → Nat
  | [] => 0
  | d :: r => (if isOw d then 1 else 0) + nOw r
/-- The result is new memory; at most one slice of it, at its top, lies in a block of its own. -/
def Out (base : Nat) (w : World) (v : Value) (r : D) : Prop :=
  ∃ x : Option Nat, (∀ b, x = some b → base ≤ b ∧ b < w.heap.size) ∧
    match r with
    | .tup rs => nOw rs ≤ 1 ∧ ∃ vs, v = .tuple vs ∧ All2 (OutC x w (fun b => base ≤ b ∧ b < w.heap.size ∧ x ≠ some b)) vs.toList rs
    | r => OutC x w (fun b => base ≤ b ∧ b < w.heap.size ∧ x ≠ some b) v r

/-- Called with data by value, the function returns 'r' in new memory; nothing that was there has changed. -/
def PCon (P : Program) (f : Nat) (ds : List D) (r : D) : Prop :=
  Callable P f ∧ ∀ (w : World) (args : Array Value), All2 (RP w (below w.heap.size)) args.toList ds →
    Calls P f args w fun e w' => ∃ v, e = .returned v ∧ (∀ b, b < w.heap.size → w'.heap[b]? = w.heap[b]?) ∧ w.heap.size ≤ w'.heap.size ∧ SameO w w' ∧ Out w.heap.size w' v r

def thawC (k : Nat) : D → D
  | .ow sz _ len => .sl k sz 0 len
  | d => d
def thaw (k : Nat) : D → D
  | .tup rs => .tup (rs.map (thawC k))
  | d => thawC k d
def owL : List D → Option (List D)
  | [] => none
  | .ow _ c _ :: _ => some c
  | _ :: r => owL r
def owOf : D → Option (List D)
  | .tup rs => owL rs
  | .ow _ c _ => some c
  | _ => none
def thawH (k : Nat) (r : D) (h : Heap) : Heap := match owOf r with | some c => upd h k c | none => h
def unowC : D → D
  | .ow sz c len => .vs sz c len
  | d => d
def unow : D → D
  | .tup rs => .tup (rs.map unowC)
  | d => unowC d

theorem thawH_some {k : Nat} {r : D} {h : Heap} {c : List D} (hc : owOf r = some c) : thawH k r h = upd h k c := by simp [thawH, hc]
theorem thawH_none {k : Nat} {r : D} {h : Heap} (hc : owOf r = none) : thawH k r h = h := by simp [thawH, hc]

theorem Own1.toVs {x : Option Nat} {w : World} {prot prot' : Nat → Prop} {v : Value} {sz len : Nat} {cells : List D} (h : Own1 x w prot v sz cells len) (hp : ∀ b, prot b → prot' b) (hx : ∀ b, x = some b → prot' b) : RP w prot' v (.vs sz cells len) := by
  obtain ⟨a, cap, rfl, hlc, hcl, h0, hq⟩ := h
  cases x with
  | none =>
    have := h0 rfl
    obtain rfl : len = 0 := by omega
    obtain rfl : cells = [] := List.length_eq_zero_iff.1 (by simpa using hcl)
    exact .vs0 a cap sz
  | some b =>
    obtain ⟨cs, e, hb, hall, _, hcap⟩ := hq b rfl
    rcases hcap with hcap | ⟨rfl, hcap⟩
    · obtain rfl : len = 0 := by omega
      obtain rfl : cells = [] := List.length_eq_zero_iff.1 (by simpa using hcl)
      exact .vs0 a cap sz
    have hle : len * sz ≤ cap * sz := Nat.mul_le_mul_right _ hlc
    refine .vs b 0 cap sz len cells (cs.toList.take cells.length) hcl hlc (hx b rfl) hall.1 ?_ ?_ ?_
    · intro v hv
      obtain ⟨i, hi⟩ := List.mem_iff_getElem?.1 hv
      have hlt : i < cells.length := by
        rcases Nat.lt_or_ge i (cs.toList.take cells.length).length with h' | h'
        · rw [hall.1] at h'; exact h'
        · simp [List.getElem?_eq_none h'] at hi
      exact (hall.2 i v _ hi (List.getElem?_eq_getElem hlt)).2
    · have := (cellsAt_block hb).sub 0 cells.length
      simp only [Nat.add_zero, List.drop_zero] at this
      exact this
    · intro i v d hv hd
      exact (hall.2 i v d hv hd).1.mono (fun b hb => ⟨hp b hb, rfl⟩)

theorem OutC.unow {x : Option Nat} {w : World} {prot prot' : Nat → Prop} {v : Value} {r : D} (h : OutC x w prot v r) (hp : ∀ b, prot b → prot' b) (hx : ∀ b, x = some b → prot' b) : RP w prot' v (unowC r) := by
  cases r <;> simp only [OutC, unowC] at h ⊢
  case ow sz c len => exact Own1.toVs h hp hx
  all_goals exact h.mono (fun b hb => ⟨hp b hb, rfl⟩)

/-- The result, nothing of it owned. -/
theorem Out.unow {base : Nat} {w : World} {v : Value} {r : D} (h : Out base w v r) : RP w (fun b => base ≤ b ∧ b < w.heap.size) v (unow r) := by
  obtain ⟨x, hx, h⟩ := h
  have hp : ∀ b, (base ≤ b ∧ b < w.heap.size ∧ x ≠ some b) → (base ≤ b ∧ b < w.heap.size) := fun b h => ⟨h.1, h.2.1⟩
  cases r <;> simp only [AM.unow] at h ⊢
  case tup rs =>
    obtain ⟨_, vs, rfl, hall⟩ := h
    refine .tup vs (rs.map unowC) (by simpa using hall.1) ?_
    intro i v d hv hd
    rw [List.getElem?_map] at hd
    cases hr : rs[i]? with
    | none => rw [hr] at hd; cases hd
    | some r0 =>
      rw [hr] at hd; simp at hd; subst hd
      exact (hall.2 i v r0 hv hr).unow hp (fun b hb => hx b hb)
  all_goals exact OutC.unow h hp (fun b hb => hx b hb)

/-- What a call hands back, in new memory, becomes the caller's own block kk. -/
theorem own_res {s : Sg} {h : Heap} (H : RH s h) {kk : Nat} (hkk : ¬ s.used kk) {r : D} {v : Value} {w' : World} (hsame : ∀ b, b < s.w.heap.size → w'.heap[b]? = s.w.heap[b]?) (hsize : s.w.heap.size ≤ w'.heap.size) (hso : SameO s.w w') (ho : Out s.w.heap.size w' v r) :
    ∃ s' : Sg, s'.w = w' ∧ Ext s s' ∧ (∀ k, s'.used k → s.used k ∨ k = kk) ∧ RH s' (thawH kk r h) ∧ RV s' v (thaw kk r) := by
  obtain ⟨x, hx, hout⟩ := ho
  let s' : Sg := { w := w', ρ := fun k => if k = kk then (match owOf r with | some c => some (x, c.length) | none => none) else s.ρ k, μ := fun k => if k = kk then none else s.μ k, prot := fun b => s.prot b ∨ (s.w.heap.size ≤ b ∧ b < w'.heap.size ∧ x ≠ some b), base := s.base, fr := fun b => s.fr b ∨ (s.w.heap.size ≤ b ∧ b < w'.heap.size ∧ x ≠ some b ∧ s.base ≤ b), used := fun k => s.used k ∨ k = kk, next := max s.next (kk + 1) }
  have hne : ∀ k, s.used k → k ≠ kk := fun k hk e => hkk (by rw [← e]; exact hk)
  have hρ : ∀ k, k ≠ kk → s'.ρ k = s.ρ k := fun k hk => by show (if k = kk then _ else _) = _; rw [if_neg hk]
  have hρn : s'.ρ kk = (match owOf r with | some c => some (x, c.length) | none => none) := by show (if kk = kk then _ else _) = _; rw [if_pos rfl]
  have hmu : ∀ i, s.used i → s'.μ i = s.μ i := fun i hi => by
    show (if i = kk then none else s.μ i) = _
    rw [if_neg (hne i hi)]
  have hmus : ∀ i b, s'.used i → s'.μ i = some b → s.used i ∧ s.μ i = some b := by
    intro i b hi hb
    have hb' : (if i = kk then none else s.μ i) = some b := hb
    by_cases e : i = kk
    · rw [if_pos e] at hb'; cases hb'
    · rw [if_neg e] at hb'; exact ⟨hi.resolve_right e, hb'⟩
  have hltb : ∀ b cs e, s.w.heap[b]? = some (.cells cs e (0, 0)) → b < s.w.heap.size := by
    intro b cs e hb
    rcases Nat.lt_or_ge b s.w.heap.size with h' | h'
    · exact h'
    · simp [Array.getElem?_eq_none h'] at hb
  have hE : Ext s s' := by
    refine ⟨Nat.le_max_left _ _, fun _ h => .inl h, hsize, fun b hb => ⟨.inl hb, hsame b (H.lt b hb)⟩, fun k y hk hy => by rw [hρ k (hne k hk)] at hy; exact hy, ?_, hso, hmu, rfl, fun b hb => ⟨.inl hb, hsame b (H.lt b (H.fp b hb).1)⟩⟩
    intro k b n cs e hk _ hb
    exact ⟨cs, (hsame b (hltb b cs e hb)).trans hb, rfl⟩
  have hprot : ∀ b, (s.w.heap.size ≤ b ∧ b < w'.heap.size ∧ x ≠ some b) → s'.prot b ∧ w'.heap[b]? = w'.heap[b]? := fun b hb => ⟨.inr hb, rfl⟩
  -- a component
  have comp : ∀ v r0, OutC x w' (fun b => s.w.heap.size ≤ b ∧ b < w'.heap.size ∧ x ≠ some b) v r0 → (∀ c, isOw r0 = true → owOf r = some c → ∃ sz len, r0 = .ow sz c len) → (isOw r0 = true → (owOf r).isSome) → RV s' v (thawC kk r0) := by
    intro v r0 hc hsame1 hsome
    cases r0 <;> simp only [OutC, thawC] at hc ⊢
    case ow sz c len =>
      obtain ⟨c2, hc2⟩ := Option.isSome_iff_exists.1 (hsome rfl)
      obtain ⟨sz2, len2, h2⟩ := hsame1 c2 rfl hc2
      injection h2 with h3 h4 h5
      subst h4
      obtain ⟨a, cap, rfl, hlc, hcl, h0, hq⟩ := hc
      refine .sl a kk sz 0 len cap (.inr rfl) ?_ hlc ?_
      · intro hl
        cases x with
        | none => have := h0 rfl; omega
        | some b => obtain ⟨_, _, _, _, hna, _⟩ := hq b rfl; exact hna hl
      · intro y n hy
        rw [hρn, hc2] at hy
        injection hy with hy; injection hy with h6 h7
        subst h6; subst h7
        have hle : len * sz ≤ cap * sz := Nat.mul_le_mul_right _ hlc
        refine ⟨by omega, ?_⟩
        cases x with
        | none => exact .inl (h0 rfl)
        | some b =>
          obtain ⟨cs, e, hb, _, _, hcap⟩ := hq b rfl
          rcases hcap with hcap | ⟨rfl, hcap⟩
          · exact .inl hcap
          · exact .inr ⟨b, cs, e, rfl, rfl, hb, by omega⟩
    all_goals exact .pure (hc.mono hprot)
  -- the own block's facts
  have hown : ∀ c, owOf r = some c → ∃ v0 sz len, Own1 x w' (fun b => s.w.heap.size ≤ b ∧ b < w'.heap.size ∧ x ≠ some b) v0 sz c len := by
    intro c hc
    cases r <;> simp only [owOf] at hc <;> try (cases hc; done)
    case ow sz c2 len => injection hc with hc; subst hc; exact ⟨v, sz, len, hout⟩
    case tup rs =>
      obtain ⟨_, vs, rfl, hall⟩ := hout
      have key : ∀ (rs : List D) (us : List Value), All2 (OutC x w' (fun b => s.w.heap.size ≤ b ∧ b < w'.heap.size ∧ x ≠ some b)) us rs → owL rs = some c → ∃ v0 sz len, Own1 x w' (fun b => s.w.heap.size ≤ b ∧ b < w'.heap.size ∧ x ≠ some b) v0 sz c len := by
        intro rs
        induction rs with
        | nil => intro us _ h; simp [owL] at h
        | cons r0 rs ih =>
          intro us hall h
          cases us with
          | nil => have := hall.1; simp at this
          | cons u us =>
            have h0 := hall.2 0 u r0 rfl rfl
            have ht : All2 (OutC x w' (fun b => s.w.heap.size ≤ b ∧ b < w'.heap.size ∧ x ≠ some b)) us rs := by simpa using hall.drop 1
            cases r0 <;> simp only [owL] at h
            case ow sz c2 len => injection h with h; subst h; exact ⟨u, sz, len, h0⟩
            all_goals exact ih us ht h
      exact key rs vs.toList hall hc
  have hH : RH s' (thawH kk r h) := by
    refine ⟨?_, ?_, ?_, ?_, ?_, ?_, fun b hb => .inl (H.bp b hb), fun b hb => hb.elim (fun h => ⟨.inl (H.fp b h).1, (H.fp b h).2⟩) (fun h => ⟨.inr ⟨h.1, h.2.1, h.2.2.1⟩, h.2.2.2⟩)⟩
    · intro b hb
      rcases hb with hb | hb
      · have := H.lt b hb; show b < w'.heap.size; omega
      · exact hb.2.1
    · intro k k' b n n' h1 h2
      have hother : ∀ k n, k ≠ kk → s'.ρ k = some (some b, n) → x ≠ some b := by
        intro k n hk hkb hxb
        rw [hρ k hk] at hkb
        cases e : h k with
        | none => rw [H.dead k e] at hkb; cases hkb
        | some c =>
          obtain ⟨_, _, cs, e2, hb2, _⟩ := H.block e hkb
          have := hltb _ _ _ hb2
          have := (hx b hxb).1
          omega
      have hmine : ∀ n, s'.ρ kk = some (some b, n) → x = some b := by
        intro n hn
        rw [hρn] at hn
        split at hn
        · injection hn with hn; injection hn with h3 _
        · cases hn
      by_cases e1 : k = kk <;> by_cases e2 : k' = kk
      · omega
      · subst e1; exact absurd (hmine n h1) (hother k' n' e2 h2)
      · subst e2; exact absurd (hmine n' h2) (hother k n e1 h1)
      · rw [hρ k e1] at h1; rw [hρ k' e2] at h2; exact H.inj k k' b n n' h1 h2
    · intro k hk
      by_cases e1 : k = kk
      · rw [e1, hρn]
        cases ho : owOf r with
        | none => rfl
        | some c => rw [thawH_some ho, e1] at hk; simp [upd] at hk
      · rw [hρ k e1]
        cases ho : owOf r with
        | none => rw [thawH_none ho] at hk; exact H.dead k hk
        | some c => rw [thawH_some ho] at hk; simp only [upd, if_neg e1] at hk; exact H.dead k hk
    · intro k hk
      show k < max s.next (kk + 1)
      rcases hk with hk | hk
      · have := H.bound k hk; omega
      · omega
    · intro k c hk
      by_cases e1 : k = kk
      · rw [e1] at hk ⊢
        cases hc2 : owOf r with
        | none => rw [thawH_none hc2, H.fresh hkk] at hk; cases hk
        | some c2 =>
          rw [thawH_some hc2] at hk
          simp [upd] at hk
          subst hk
          refine ⟨.inr rfl, x, by rw [hρn, hc2], ?_, ?_⟩
          · intro hxn
            left
            obtain ⟨v0, sz, len, a, cap, _, hlc, hcl, h0, _⟩ := hown c2 hc2
            have := h0 hxn
            obtain rfl : len = 0 := by omega
            exact List.length_eq_zero_iff.1 (by simpa using hcl)
          · intro b hb
            obtain ⟨v0, sz, len, a, cap, _, hlc, hcl, h0, hq⟩ := hown c2 hc2
            obtain ⟨cs, e, hbb, hall, _, hcap⟩ := hq b hb
            refine ⟨?_, cs, e, hbb, by have := hall.1; simp at this; omega, hall.mono fun _ _ h => ⟨.pure (h.1.mono hprot), h.2⟩⟩
            rintro (hp | hp)
            · have := H.lt b hp; have := (hx b hb).1; omega
            · exact hp.2.2 hb
      · have hk' : h k = some c := by
          cases ho : owOf r with
          | none => rw [thawH_none ho] at hk; exact hk
          | some c2 => rw [thawH_some ho] at hk; simpa only [upd, if_neg e1] using hk
        obtain ⟨hu, y, hy, hyn, hq⟩ := H.own k c hk'
        refine ⟨.inl hu, y, by rw [hρ k e1]; exact hy, fun h0 => (hyn h0).imp id fun ⟨l, b2, h1, h2, h3⟩ => ⟨l, b2, h1, (hmu k hu).trans h2, h3.kept (hsame b2 h3.lt)⟩, ?_⟩
        intro b hb
        obtain ⟨hnp, cs, e, hbb, hl, hall⟩ := hq b hb
        have hbl := hltb _ _ _ hbb
        refine ⟨?_, cs, e, (hsame b hbl).trans hbb, hl, hall.mono fun _ _ h => h.mono hE⟩
        rintro (hp | hp)
        · exact hnp hp
        · omega
    · intro i b2 hi hb2
      obtain ⟨h1, h2⟩ := hmus i b2 hi hb2
      obtain ⟨⟨h3, h3m⟩, h4, h5⟩ := H.mu i b2 h1 h2
      refine ⟨⟨by show b2 < w'.heap.size; omega, by show ∃ es clock, w'.heap[b2]? = _; rw [hsame b2 h3]; exact h3m⟩, ?_, fun k' hk' hb' => ?_⟩
      · rintro (hp | hp)
        · exact h4 hp
        · omega
      · obtain ⟨h6, h7⟩ := hmus k' b2 hk' hb'
        exact h5 k' h6 h7
  refine ⟨s', rfl, hE, fun _ h => h, hH, ?_⟩
  cases r <;> simp only [thaw] at hout ⊢
  case tup rs =>
    obtain ⟨hn, vs, rfl, hall⟩ := hout
    refine .tup vs (rs.map (thawC kk)) (by simpa using hall.1) ?_
    intro i v d hv hd
    rw [List.getElem?_map] at hd
    cases hr0 : rs[i]? with
    | none => rw [hr0] at hd; cases hd
    | some r0 =>
      rw [hr0] at hd; simp at hd; subst hd
      have key : ∀ (rs : List D) (i : Nat) (r0 : D), nOw rs ≤ 1 → rs[i]? = some r0 → isOw r0 = true → (∃ c, owL rs = some c) ∧ ∀ c, owL rs = some c → ∃ sz len, r0 = .ow sz c len := by
        intro rs
        induction rs with
        | nil => intro i r0 _ hi _; simp at hi
        | cons a rs ih =>
          intro i r0 hn hi ho
          have hzero : ∀ (l : List D) (j : Nat) (r1 : D), nOw l = 0 → l[j]? = some r1 → isOw r1 = true → False := by
            intro l
            induction l with
            | nil => intro j r1 _ hj _; simp at hj
            | cons b l ihl =>
              intro j r1 hn hj ho
              simp only [nOw] at hn
              cases j with
              | zero => simp at hj; subst hj; rw [ho] at hn; simp at hn
              | succ j => simp at hj; exact ihl j r1 (by omega) hj ho
          cases i with
          | zero =>
            simp at hi
            subst hi
            cases a <;> simp [isOw] at ho
            rename_i sz c len
            exact ⟨⟨c, rfl⟩, fun c2 h2 => by simp [owL] at h2; subst h2; exact ⟨sz, len, rfl⟩⟩
          | succ i =>
            simp at hi
            by_cases ha : isOw a = true
            · simp only [nOw, ha, if_true] at hn
              exact (hzero rs i r0 (by omega) hi ho).elim
            · have hla : owL (a :: rs) = owL rs := by cases a <;> first | rfl | (simp [isOw] at ha)
              rw [hla]
              exact ih i r0 (by simp only [nOw, ha] at hn; simp at hn; exact hn) hi ho
      refine comp v r0 (hall.2 i v r0 hv hr0) ?_ ?_
      · intro c ho hc
        exact (key rs i r0 hn hr0 ho).2 c hc
      · intro ho
        obtain ⟨c, hc⟩ := (key rs i r0 hn hr0 ho).1
        show (owL rs).isSome
        rw [hc]; rfl
  case ow sz c len => exact comp v _ hout (fun c2 _ h2 => by simp [owOf] at h2; subst h2; exact ⟨sz, len, rfl⟩) (fun _ => rfl)
  all_goals exact comp v _ hout (fun c2 h2 => by simp [isOw] at h2) (fun h2 => by simp [isOw] at h2)
/-- Own slices in new memory become an own block of the caller. -/
theorem con_of_pcon {P : Program} {f : Nat} {ds ds' : List D} {r : D} {h : Heap} {Q : D → Heap → Prop} (hp : PCon P f ds' r) (hr : All2 (Rd h) ds ds') (hq : ∀ k, h k = none → Q (thaw k r) (thawH k r h)) : Con P f ds h Q := by
  refine ⟨hp.1, fun s args H A => ?_⟩
  have hargs : All2 (RP s.w (below s.w.heap.size)) args.toList ds' := by
    refine ⟨A.1.trans hr.1, fun i v d' hv hd => ?_⟩
    have hlt : i < ds.length := by
      rcases Nat.lt_or_ge i ds.length with h' | h'
      · exact h'
      · rw [hr.1] at h'; simp [List.getElem?_eq_none h'] at hd
    have hdi := List.getElem?_eq_getElem hlt
    exact hr.2 i _ d' hdi hd s v H.toO (A.2 i v _ hv hdi)
  refine (hp.2 s.w args hargs).mono ?_
  rintro e w' ⟨v, rfl, hsame, hsize, hso, hout⟩
  obtain ⟨s', rfl, hE, _, hH, hv⟩ := own_res H H.next_free hsame hsize hso hout
  exact ⟨v, thaw s.next r, thawH s.next r h, s', rfl, rfl, hE, hH, hv, hq _ (H.fresh H.next_free)⟩

theorem thawC_unow (k : Nat) (r : D) : thawC k (unowC r) = unowC r := by cases r <;> rfl
theorem isOw_unow (r : D) : isOw (unowC r) = false := by cases r <;> rfl
theorem thaw_unow (k : Nat) (r : D) : thaw k (unow r) = unow r := by
  cases r <;> simp only [unow, thaw]
  case tup rs =>
    rw [List.map_map]
    congr 1
    exact List.map_congr_left fun a _ => thawC_unow k a
  all_goals exact thawC_unow k _
theorem owL_unow : ∀ rs : List D, owL (rs.map unowC) = none
  | [] => rfl
  | r :: rs => by cases r <;> simp only [List.map_cons, unowC, owL] <;> exact owL_unow rs
theorem owOf_unow (r : D) : owOf (unow r) = none := by
  cases r <;> simp only [unow, unowC, owOf]
  exact owL_unow _
theorem nOw_unow : ∀ rs : List D, nOw (rs.map unowC) = 0
  | [] => rfl
  | r :: rs => by rw [List.map_cons, nOw, isOw_unow, nOw_unow rs]; rfl
theorem OutC_unow {x : Option Nat} {w : World} {prot prot' : Nat → Prop} {v : Value} {r : D} (h : OutC x w prot v r) (hp : ∀ b, prot b → prot' b) (hx : ∀ b, x = some b → prot' b) : OutC none w prot' v (unowC r) := by
  have := h.unow hp hx
  cases r <;> exact this
/-- A result that is owned may be taken by value. -/
theorem Out_unow {base : Nat} {w : World} {v : Value} {r : D} (h : Out base w v r) : Out base w v (unow r) := by
  obtain ⟨x, hx, h⟩ := h
  have hp : ∀ b, (base ≤ b ∧ b < w.heap.size ∧ x ≠ some b) → (base ≤ b ∧ b < w.heap.size ∧ (none : Option Nat) ≠ some b) := fun b h => ⟨h.1, h.2.1, by simp⟩
  have hx' : ∀ b, x = some b → (base ≤ b ∧ b < w.heap.size ∧ (none : Option Nat) ≠ some b) := fun b hb => ⟨(hx b hb).1, (hx b hb).2, by simp⟩
  refine Exists.intro none (And.intro (fun b hb => by simp at hb) ?_)
  cases r <;> simp only [unow] at h ⊢
  case tup rs =>
    obtain ⟨_, vs, rfl, hall⟩ := h
    refine ⟨by rw [nOw_unow]; omega, vs, rfl, by simpa using hall.1, ?_⟩
    intro i v d hv hd
    rw [List.getElem?_map] at hd
    cases hr : rs[i]? with
    | none => rw [hr] at hd; cases hd
    | some r0 =>
      rw [hr] at hd; simp at hd; subst hd
      exact OutC_unow (hall.2 i v r0 hv hr) hp hx'
  all_goals exact OutC_unow h hp hx'
theorem pcon_unow {P : Program} {f : Nat} {ds : List D} {r : D} (hp : PCon P f ds r) : PCon P f ds (unow r) :=
  ⟨hp.1, fun w args h => (hp.2 w args h).mono fun _ _ ⟨v, h1, h2, h3, h4, h5⟩ => ⟨v, h1, h2, h3, h4, Out_unow h5⟩⟩

/-! ### Results that are known to be new -/
def vnC1 : D → D
  | .vs sz c n => .vn sz c n
  | d => d
def vnC : D → D
  | .vs sz c n => .vn sz c n
  | .agg cs => .agg (cs.map vnC1)
  | d => d
def vnw : D → D
  | .tup rs => .tup (rs.map vnC)
  | d => vnC d
theorem owOf_vnw (r : D) : owOf (vnw (unow r)) = none := by
  have key : ∀ rs : List D, owL ((rs.map unowC).map vnC) = none := by
    intro rs
    induction rs with
    | nil => rfl
    | cons a rs ih => cases a <;> simp only [List.map_cons, unowC, vnC, owL] <;> exact ih
  cases r <;> simp only [unow, unowC, vnw, vnC, owOf]
  exact key _
theorem thaw_vnw (k : Nat) (r : D) : thaw k (vnw (unow r)) = vnw (unow r) := by
  have key : ∀ a : D, thawC k (vnC (unowC a)) = vnC (unowC a) := fun a => by cases a <;> rfl
  cases r <;> simp only [unow, unowC, vnw, vnC, thaw, thawC]
  case tup rs =>
    rw [List.map_map, List.map_map]
    congr 1
    rw [List.map_map]
    exact List.map_congr_left fun a _ => key a
theorem RH.base_le {s : Sg} {h : Heap} (H : RH s h) : s.base ≤ s.w.heap.size := by
  rcases Nat.lt_or_ge s.w.heap.size s.base with h' | h'
  · have := H.lt _ (H.bp _ h'); omega
  · exact h'
theorem own_resN {s : Sg} {h : Heap} (H : RH s h) {r : D} {v : Value} {w' : World} (hsame : ∀ b, b < s.w.heap.size → w'.heap[b]? = s.w.heap[b]?) (hsize : s.w.heap.size ≤ w'.heap.size) (hso : SameO s.w w') (ho : Out s.w.heap.size w' v r) :
    ∃ s' : Sg, s'.w = w' ∧ Ext s s' ∧ (∀ k, s'.used k → s.used k) ∧ RH s' h ∧ RV s' v (vnw (unow r)) := by
  have hbl := H.base_le
  let s' : Sg := { w := w', ρ := s.ρ, μ := s.μ, prot := fun b => s.prot b ∨ (s.w.heap.size ≤ b ∧ b < w'.heap.size), base := s.base, fr := fun b => s.fr b ∨ (s.w.heap.size ≤ b ∧ b < w'.heap.size), used := s.used, next := s.next }
  have hltb : ∀ b cs e, s.w.heap[b]? = some (.cells cs e (0, 0)) → b < s.w.heap.size := by
    intro b cs e hb
    rcases Nat.lt_or_ge b s.w.heap.size with h' | h'
    · exact h'
    · simp [Array.getElem?_eq_none h'] at hb
  have hE : Ext s s' := ⟨Nat.le_refl _, fun _ h => h, hsize, fun b hb => ⟨.inl hb, hsame b (H.lt b hb)⟩, fun _ _ _ h => h, fun k b n cs e _ _ hb => ⟨cs, (hsame b (hltb b cs e hb)).trans hb, rfl⟩, hso, fun _ _ => rfl, rfl, fun b hb => ⟨.inl hb, hsame b (H.lt b (H.fp b hb).1)⟩⟩
  refine ⟨s', rfl, hE, fun _ h => h, ⟨fun b hb => hb.elim (fun h => Nat.lt_of_lt_of_le (H.lt b h) hsize) (fun h => h.2), H.inj, H.dead, H.bound, fun k c hk => ?_, fun k b h1 h2 => ?_, fun b hb => .inl (H.bp b hb), fun b hb => hb.elim (fun h => ⟨.inl (H.fp b h).1, (H.fp b h).2⟩) (fun h => ⟨.inr h, Nat.le_trans hbl h.1⟩)⟩, ?_⟩
  · obtain ⟨hu, x, hx, hn, hq⟩ := H.own k c hk
    refine ⟨hu, x, hx, fun h0 => (hn h0).imp (fun h => h) fun ⟨l, b2, h1, h2, h3⟩ => ⟨l, b2, h1, h2, h3.kept (hsame b2 h3.lt)⟩, fun b hb => ?_⟩
    obtain ⟨hp, cs, e, h2, h3, h4⟩ := hq b hb
    have hbl2 := hltb b cs e h2
    refine ⟨?_, cs, e, (hsame b hbl2).trans h2, h3, h4.mono fun _ _ h => h.mono hE⟩
    rintro (h5 | h5)
    · exact hp h5
    · omega
  · obtain ⟨⟨h3, h3m⟩, h4, h5⟩ := H.mu k b h1 h2
    refine ⟨⟨Nat.lt_of_lt_of_le h3 hsize, by show ∃ es clock, w'.heap[b]? = _; rw [hsame b h3]; exact h3m⟩, ?_, h5⟩
    rintro (h6 | h6)
    · exact h4 h6
    · omega
  · have hp := ho.unow
    have comp1 : ∀ u r0, RP w' (fun b => s.w.heap.size ≤ b ∧ b < w'.heap.size) u r0 → RV s' u (vnC1 r0) := by
      intro u r0 h1
      cases r0 <;> simp only [vnC1]
      case vs sz c n => exact .vn (h1.mono fun b hb => ⟨.inr hb, rfl⟩)
      all_goals exact .pure (h1.mono fun b hb => ⟨.inr hb, rfl⟩)
    have comp : ∀ u r0, RP w' (fun b => s.w.heap.size ≤ b ∧ b < w'.heap.size) u r0 → RV s' u (vnC r0) := by
      intro u r0 h1
      cases r0 <;> simp only [vnC]
      case vs sz c n => exact .vn (h1.mono fun b hb => ⟨.inr hb, rfl⟩)
      case agg rs =>
        cases h1 with
        | agg cs ds hl ho hr =>
          refine .agg cs (rs.map vnC1) (by rw [List.length_map]; exact hl) ho fun i u d hu hd => ?_
          rw [List.getElem?_map] at hd
          cases hr0 : rs[i]? with
          | none => rw [hr0] at hd; cases hd
          | some r0 =>
            rw [hr0] at hd; simp at hd; subst hd
            exact comp1 u r0 (hr i u r0 hu hr0)
      all_goals exact .pure (h1.mono fun b hb => ⟨.inr hb, rfl⟩)
    generalize unow r = r1 at hp
    cases r1 <;> simp only [vnw]
    case tup rs =>
      cases hp with
      | tup cs ds hl hr =>
        refine .tup cs (rs.map vnC) (by rw [List.length_map]; exact hl) fun i u d hu hd => ?_
        rw [List.getElem?_map] at hd
        cases hr0 : rs[i]? with
        | none => rw [hr0] at hd; cases hd
        | some r0 =>
          rw [hr0] at hd; simp at hd; subst hd
          exact comp u r0 (hr i u r0 hu hr0)
    all_goals exact comp v _ hp
theorem con_of_pconN {P : Program} {f : Nat} {ds ds' : List D} {r : D} {h : Heap} {Q : D → Heap → Prop} (hp : PCon P f ds' r) (hr : All2 (Rd h) ds ds') (hq : Q (vnw (unow r)) h) : Con P f ds h Q := by
  refine ⟨hp.1, fun s args H A => ?_⟩
  have hargs : All2 (RP s.w (below s.w.heap.size)) args.toList ds' := by
    refine ⟨A.1.trans hr.1, fun i v d' hv hd => ?_⟩
    have hlt : i < ds.length := by
      rcases Nat.lt_or_ge i ds.length with h' | h'
      · exact h'
      · rw [hr.1] at h'; simp [List.getElem?_eq_none h'] at hd
    have hdi := List.getElem?_eq_getElem hlt
    exact hr.2 i _ d' hdi hd s v H.toO (A.2 i v _ hv hdi)
  refine (hp.2 s.w args hargs).mono ?_
  rintro e w' ⟨v, rfl, hsame, hsize, hso, hout⟩
  obtain ⟨s', rfl, hE, _, hH, hv⟩ := own_resN H hsame hsize hso hout
  exact ⟨v, _, h, s', rfl, rfl, hE, hH, hv, hq⟩

/-! ### Contracts at a heap, within a region that draws its order -/
def Sub (h h2 : Heap) : Prop := ∀ k c, h k = some c → h2 k = some c
theorem Sub.refl (h : Heap) : Sub h h := fun _ _ h => h
/-- Data without keys. -/
def Kl (d : D) : Prop := ∀ (s : Sg) (v : Value), RV s v d → RP s.w s.prot v d
def KlC : D → Prop
  | .ow _ cells _ => (∀ c ∈ cells, Kl c) ∧ ∀ l, cells ≠ [.mpc l]
  | d => Kl d
def KlR : D → Prop
  | .tup rs => ∀ c ∈ rs, KlC c
  | d => KlC d

theorem RV.shr {s s' s2 : Sg} (hw : s2.w = s'.w) (hp : s2.prot = s'.prot) (hfr : s2.fr = s'.fr) (hu : ∀ j, s.used j → s2.used j) (hρ : ∀ j x, s.used j → s2.ρ j = some x → s'.ρ j = some x) (hμ : ∀ j b, s.used j → s'.μ j = some b → s2.μ j = some b) {v : Value} {d : D} (h : RV s' v d) : ∀ v0, RV s v0 d → RV s2 v d := by
  induction h with
  | pure h => intro _ _; exact .pure (by rw [hw, hp]; exact h)
  | sl a k sz off len cap hk hna hlc h =>
    intro v0 h0
    obtain ⟨hk0, _⟩ := h0.inv_sl
    refine .sl a k sz off len cap (hu k hk0) hna hlc (fun x n hx => ?_)
    rw [hw]
    exact h x n (hρ k _ hk0 hx)
  | pt b k off hk h =>
    intro v0 h0
    obtain ⟨hk0, _⟩ := h0.inv_pt
    exact .pt b k off (hu k hk0) (fun x n hx => h x n (hρ k _ hk0 hx))
  | agg cs ds hl ho hr ih =>
    intro v0 h0
    obtain ⟨cs0, _, hall⟩ := h0.inv_agg
    refine .agg cs ds hl ho (fun i v d hv hd => ?_)
    obtain ⟨u, hu, hru⟩ := hall.get hd
    exact ih i v d hv hd u hru.1
  | tup cs ds hl hr ih =>
    intro v0 h0
    obtain ⟨cs0, _, hall⟩ := h0.inv_tup
    refine .tup cs ds hl (fun i v d hv hd => ?_)
    obtain ⟨u, hu, hru⟩ := hall.get hd
    exact ih i v d hv hd u hru
  | fn f as bs ds es hl hm hr hs ih1 ih2 =>
    intro v0 h0
    obtain ⟨as0, bs0, _, ha, hb⟩ := h0.inv_fn
    refine .fn f as bs ds es hl hm (fun i v d hv hd => ?_) (fun i v d hv hd => ?_)
    · obtain ⟨u, hu, hru⟩ := ha.get hd
      exact ih1 i v d hv hd u hru
    · obtain ⟨u, hu, hru⟩ := hb.get hd
      exact ih2 i v d hv hd u hru
  | mp b k hk h =>
    intro v0 h0
    obtain ⟨hk0, _⟩ := h0.inv_mp
    exact .mp b k (hu k hk0) (hμ k b hk0 h)
  | vn h => intro _ _; exact .vn (by rw [hw, hfr]; exact h)

/-- After a call that left the heap as it was, but for a block that it hands over: that block under key kk, and no other key more than before. -/
theorem RH.shrink {s s' : Sg} {h : Heap} (H : RH s h) (hx : Ext s s') {kk : Nat} (hkk : ¬ s.used kk) {k : Nat} {r : D} (hk : owOf r = none ∨ h k = none) (H' : RH s' (thawH k r h)) {v : Value} (hv : RV s' v (thaw k r)) (hr : KlR r) :
    ∃ s2 : Sg, s2.w = s'.w ∧ Ext s s2 ∧ (∀ j, s2.used j → s.used j ∨ j = kk) ∧ RH s2 (thawH kk r h) ∧ RV s2 v (thaw kk r) := by
  let s2 : Sg := { w := s'.w, ρ := fun j => if j = kk then (if owOf r = none then none else s'.ρ k) else if (h j).isSome then s'.ρ j else none, μ := fun j => if j = kk then none else s.μ j, prot := s'.prot, base := s'.base, fr := s'.fr, used := fun j => s.used j ∨ j = kk, next := max s.next (kk + 1) }
  have hne : ∀ j, s.used j → j ≠ kk := fun j hj e => hkk (by rw [← e]; exact hj)
  have hρk : s2.ρ kk = if owOf r = none then none else s'.ρ k := by show (if kk = kk then _ else _) = _; rw [if_pos rfl]
  have hρo : ∀ j x, j ≠ kk → s2.ρ j = some x → (h j).isSome = true ∧ s'.ρ j = some x := by
    intro j x hj hx
    have hx' : (if j = kk then (if owOf r = none then none else s'.ρ k) else if (h j).isSome then s'.ρ j else none) = some x := hx
    rw [if_neg hj] at hx'
    split at hx'
    · rename_i h1; exact ⟨h1, hx'⟩
    · cases hx'
  have hρl : ∀ j c, h j = some c → s2.ρ j = s'.ρ j := by
    intro j c hj
    show (if j = kk then (if owOf r = none then none else s'.ρ k) else if (h j).isSome then s'.ρ j else none) = _
    rw [if_neg (hne j (H.isUsed hj)), hj]; rfl
  have hμo : ∀ j, s.used j → s2.μ j = s.μ j := fun j hj => by show (if j = kk then none else s.μ j) = _; rw [if_neg (hne j hj)]
  have hμk : s2.μ kk = none := by show (if kk = kk then none else s.μ kk) = _; rw [if_pos rfl]
  have hjk : ∀ j c, h j = some c → thawH k r h j = some c := by
    intro j c hj
    cases how : owOf r with
    | none => rw [thawH_none how]; exact hj
    | some c0 =>
      rw [thawH_some how]
      rcases hk with h1 | h1
      · rw [h1] at how; cases how
      · simp only [upd]; rw [if_neg (fun e => by rw [e, h1] at hj; cases hj)]; exact hj
  have hx2 : Ext s s2 := ⟨Nat.le_max_left _ _, fun _ h => .inl h, hx.size, hx.prot, fun j x hj hx1 => hx.key j x hj (hρo j x (hne j hj) hx1).2, fun j b n cs e hj hx1 hb => hx.blk j b n cs e hj (hρo j _ (hne j hj) hx1).2 hb, hx.so, hμo, hx.bs, hx.frm⟩
  have hrv : ∀ {v d} v0, RV s' v d → RV s v0 d → RV s2 v d := fun v0 h1 h2 => RV.shr (s := s) (s' := s') (s2 := s2) rfl rfl rfl (fun _ h => .inl h) (fun j x hj hx1 => (hρo j x (hne j hj) hx1).2) (fun j b hj hb => (hμo j hj).trans ((hx.mu j hj).symm.trans hb)) h1 v0 h2
  have hkl : ∀ {v d}, RV s' v d → Kl d → RV s2 v d := fun h1 h2 => .pure (h2 s' _ h1)
  have comp : ∀ u r0, KlC r0 → (isOw r0 = true → owOf r ≠ none) → RV s' u (thawC k r0) → RV s2 u (thawC kk r0) := by
    intro u r0 h1 h2 h3
    cases r0 <;> simp only [thawC] at h3 ⊢
    case ow sz c len =>
      obtain ⟨_, a, cap, rfl, hna, hlc, hq⟩ := h3.inv_sl
      refine .sl a kk sz 0 len cap (.inr rfl) hna hlc (fun x n hx1 => ?_)
      rw [hρk, if_neg (h2 rfl)] at hx1
      exact hq x n hx1
    all_goals exact hkl h3 h1
  refine ⟨s2, rfl, hx2, fun _ h => h, ⟨H'.lt, ?_, ?_, ?_, ?_, ?_, H'.bp, H'.fp⟩, ?_⟩
  · intro j j' b n n' h1 h2
    have hkn : ∀ j n, j ≠ kk → s2.ρ j = some (some b, n) → ∀ m, s2.ρ kk = some (some b, m) → False := by
      intro j n hj h1 m h2
      obtain ⟨h3, h4⟩ := hρo j _ hj h1
      rw [hρk] at h2
      split at h2
      · cases h2
      · rename_i how
        have := H'.inj j k b _ _ h4 h2
        subst this
        rcases hk with h5 | h5
        · exact how h5
        · rw [h5] at h3; cases h3
    by_cases e1 : j = kk <;> by_cases e2 : j' = kk
    · omega
    · subst e1; exact (hkn j' n' e2 h2 n h1).elim
    · subst e2; exact (hkn j n e1 h1 n' h2).elim
    · exact H'.inj j j' b n n' (hρo j _ e1 h1).2 (hρo j' _ e2 h2).2
  · intro j hj
    by_cases e1 : j = kk
    · rw [e1, hρk]
      cases how : owOf r with
      | none => simp
      | some c => rw [thawH_some how, e1] at hj; simp [upd] at hj
    · have hj' : h j = none := by
        cases how : owOf r with
        | none => rw [thawH_none how] at hj; exact hj
        | some c => rw [thawH_some how] at hj; simpa only [upd, if_neg e1] using hj
      cases h3 : s2.ρ j with
      | none => rfl
      | some x => have := (hρo j x e1 h3).1; rw [hj'] at this; cases this
  · intro j hj
    show j < max s.next (kk + 1)
    rcases hj with hj | hj
    · have := H.bound j hj; omega
    · omega
  · intro j c hj
    by_cases e1 : j = kk
    · subst e1
      cases how : owOf r with
      | none => rw [thawH_none how, H.fresh hkk] at hj; cases hj
      | some c2 =>
        rw [thawH_some how] at hj
        simp [upd] at hj
        subst hj
        have hkc : thawH k r h k = some c2 := by rw [thawH_some how]; simp [upd]
        obtain ⟨_, x, hx1, hn1, hq1⟩ := H'.own k c2 hkc
        -- the cells have no keys
        have hcell : (∀ c ∈ c2, Kl c) ∧ ∀ l, c2 ≠ [.mpc l] := by
          have hL : ∀ rs : List D, (∀ c ∈ rs, KlC c) → owL rs = some c2 → (∀ c ∈ c2, Kl c) ∧ ∀ l, c2 ≠ [.mpc l] := by
            intro rs
            induction rs with
            | nil => intro _ h; simp [owL] at h
            | cons r0 rs ih =>
              intro h1 h2
              cases r0 <;> simp only [owL] at h2
              case ow sz c len => injection h2 with h2; subst h2; exact h1 (.ow sz c len) (by simp)
              all_goals exact ih (fun c hc => h1 c (by simp [hc])) h2
          cases r <;> simp only [owOf] at how <;> try (cases how; done)
          case ow sz c len => injection how with how; subst how; exact hr
          case tup rs => exact hL rs hr how
        refine ⟨.inr rfl, x, by rw [hρk, if_neg (by rw [how]; simp)]; exact hx1, fun h0 => ?_, fun b hb => ?_⟩
        · rcases hn1 h0 with h2 | ⟨l, b, h2, _⟩
          · exact .inl h2
          · exact (hcell.2 l h2).elim
        · obtain ⟨hnp, cs, e, h2, h3, h4⟩ := hq1 b hb
          exact ⟨hnp, cs, e, h2, h3, h4.1, fun i v d hv hd => ⟨hkl (h4.2 i v d hv hd).1 (hcell.1 d (List.mem_of_getElem? hd)), (h4.2 i v d hv hd).2⟩⟩
    · have hj' : h j = some c := by
        cases how : owOf r with
        | none => rw [thawH_none how] at hj; exact hj
        | some c2 => rw [thawH_some how] at hj; simpa only [upd, if_neg e1] using hj
      obtain ⟨hu, x0, hx0, hn0, hq0⟩ := H.own j c hj'
      obtain ⟨_, x, hx1, hn1, hq1⟩ := H'.own j c (hjk j c hj')
      refine ⟨.inl hu, x, by rw [hρl j c hj']; exact hx1, fun h0 => (hn1 h0).imp (fun h => h) fun ⟨l, b, h2, h3, h4⟩ => ⟨l, b, h2, (hμo j hu).trans ((hx.mu j hu).symm.trans h3), h4⟩, fun b hb => ?_⟩
      obtain ⟨hnp, cs, e, h2, h3, h4⟩ := hq1 b hb
      have hxx : x0 = x := by
        have := hx.key j _ hu hx1
        rw [hx0] at this; injection this with this; injection this
      subst hxx
      obtain ⟨_, cs0, e0, _, _, h5⟩ := hq0 b hb
      refine ⟨hnp, cs, e, h2, h3, h4.1, fun i v d hv hd => ?_⟩
      obtain ⟨v0, _, hv0⟩ := h5.get hd
      exact ⟨hrv v0 (h4.2 i v d hv hd).1 hv0.1, (h4.2 i v d hv hd).2⟩
  · intro j b hj hb
    by_cases e1 : j = kk
    · subst e1; rw [hμk] at hb; cases hb
    · have hu := hj.resolve_right e1
      rw [hμo j hu, ← hx.mu j hu] at hb
      obtain ⟨h1, h2, h3⟩ := H'.mu j b (hx.used j hu) hb
      refine ⟨h1, h2, fun j' hj' hb' => ?_⟩
      by_cases e2 : j' = kk
      · subst e2; rw [hμk] at hb'; cases hb'
      · have hu' := hj'.resolve_right e2
        rw [hμo j' hu', ← hx.mu j' hu'] at hb'
        exact h3 j' (hx.used j' hu') hb'
  · cases r <;> simp only [thaw] at hv ⊢
    case tup rs =>
      obtain ⟨us, rfl, hall⟩ := hv.inv_tup
      refine .tup us (rs.map (thawC kk)) (by have := hall.1; simpa using this) ?_
      intro i u d hu hd
      rw [List.getElem?_map] at hd
      cases hr0 : rs[i]? with
      | none => rw [hr0] at hd; cases hd
      | some r0 =>
        rw [hr0] at hd; simp at hd; subst hd
        have hmem := List.mem_of_getElem? hr0
        refine comp u r0 (hr r0 hmem) ?_ (hall.2 i u _ hu (by rw [List.getElem?_map, hr0]; rfl))
        intro ho
        have key : ∀ rs : List D, r0 ∈ rs → owL rs ≠ none := by
          intro rs
          induction rs with
          | nil => intro h; cases h
          | cons a rs ih =>
            intro h
            cases a <;> simp only [owL] <;> first | (intro h2; cases h2; done) | skip
            all_goals
              rcases List.mem_cons.1 h with h2 | h2
              · subst h2; simp [isOw] at ho
              · exact ih h2
        exact key rs hmem
    case ow sz c len => exact comp v (.ow sz c len) hr (fun _ h => by simp [owOf] at h) hv
    all_goals exact comp v _ hr (fun h => by simp [isOw] at h) hv

/-- Called in whatever heap that holds what 'h' does, the function leaves it as it is, but for a block that it hands over. -/
def PK (P : Program) (h : Heap) (ds : List D) (g : Nat) (r : D) : Prop := KlR r ∧ ∀ h2, Sub h h2 → Con P g ds h2 (fun d h' => ∃ k, (owOf r = none ∨ h2 k = none) ∧ d = thaw k r ∧ h' = thawH k r h2)

end Go.AM
