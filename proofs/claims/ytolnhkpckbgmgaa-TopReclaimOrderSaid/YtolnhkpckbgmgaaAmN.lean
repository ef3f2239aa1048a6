/- Contracts by value; regions that draw their order. Generic over the program. -/
import Derived.Test.YtolnhkpckbgmgaaAmM
set_option linter.unusedSimpArgs false
set_option linter.unusedVariables false
namespace Go.AM

/-! ### Contracts by value -/
/-- What is known of the own blocks that a heap names. -/
structure RHo (s : Sg) (h : Heap) : Prop where
  lt : ∀ b, s.prot b → b < s.w.heap.size
  own : ∀ k c, h k = some c → s.used k ∧ ∃ x, s.ρ k = some (x, c.length) ∧ (x = none → c = []) ∧
    ∀ b, x = some b → ¬ s.prot b ∧ ∃ cs e, s.w.heap[b]? = some (.cells cs e (0, 0)) ∧ c.length ≤ cs.size ∧ All2 (RC s) (cs.toList.take c.length) c
theorem RH.toO {s : Sg} {h : Heap} (H : RH s h) : RHo s h := ⟨H.lt, H.own⟩
theorem RHo.hide {s : Sg} {h : Heap} (H : RHo s h) (hf : Nat → Bool) : RHo s (hide hf h) := ⟨H.lt, fun k c hk => H.own k c (hide_some hk).2⟩

def below (n : Nat) : Nat → Prop := fun b => b < n
/-- Data 'd', in a heap, read by value as 'd''. -/
def Rd (h : Heap) (d d' : D) : Prop := ∀ (s : Sg) (v : Value), RHo s h → RV s v d → RP s.w (below s.w.heap.size) v d'

def RPc (w : World) (prot : Nat → Prop) (v : Value) (d : D) : Prop := RP w prot v d ∧ v.oneCell' = true
/-- A slice in a block of its own. -/
def Own1 (x : Option Nat) (w : World) (prot : Nat → Prop) (v : Value) (sz : Nat) (cells : List D) (len : Nat) : Prop :=
  ∃ a cap, v = .slice a len cap ∧ len ≤ cap ∧ cells.length = len * sz ∧ (x = none → cap = 0) ∧
    ∀ b, x = some b → ∃ cs e, w.heap[b]? = some (.cells cs e (0, 0)) ∧ All2 (RPc w prot) (cs.toList.take cells.length) cells ∧ (len ≠ 0 → a ≠ none) ∧ (cap = 0 ∨ (a = some ⟨b, 0, none⟩ ∧ cap * sz ≤ cs.size))
def OutC (x : Option Nat) (w : World) (prot : Nat → Prop) (v : Value) : D → Prop
  | .ow sz cells len => Own1 x w prot v sz cells len
  | r => RP w prot v r
def isOw : D → Bool | .ow _ _ _ => true | _ => false
def nOw : List D → Nat
  | [] => 0
  | d :: r => (if isOw d then 1 else 0) + nOw r
/-- The result is new memory; at most one slice of it, at its top, lies in a block of its own. -/
def Out (base : Nat) (w : World) (v : Value) (r : D) : Prop :=
  ∃ x : Option Nat, (∀ b, x = some b → base ≤ b ∧ b < w.heap.size) ∧
    match r with
    | .tup rs => nOw rs ≤ 1 ∧ ∃ vs, v = .tuple vs ∧ All2 (OutC x w (fun b => base ≤ b ∧ b < w.heap.size ∧ x ≠ some b)) vs.toList rs
    | r => OutC x w (fun b => base ≤ b ∧ b < w.heap.size ∧ x ≠ some b) v r

/-- Called with data by value, the function returns 'r' in new memory; nothing that was there has changed. -/
def PCon (P : Program) (f : Nat) (ds : List D) (r : D) : Prop :=
  Callable P f ∧ ∀ (w : World) (args : Array Value), All2 (RP w (below w.heap.size)) args.toList ds →
    Calls P f args w fun e w' => ∃ v, e = .returned v ∧ (∀ b, b < w.heap.size → w'.heap[b]? = w.heap[b]?) ∧ w.heap.size ≤ w'.heap.size ∧ SameO w w' ∧ Out w.heap.size w' v r

def thawC (k : Nat) : D → D
  | .ow sz _ len => .sl k sz 0 len
  | d => d
def thaw (k : Nat) : D → D
  | .tup rs => .tup (rs.map (thawC k))
  | d => thawC k d
def owL : List D → Option (List D)
  | [] => none
  | .ow _ c _ :: _ => some c
  | _ :: r => owL r
def owOf : D → Option (List D)
  | .tup rs => owL rs
  | .ow _ c _ => some c
  | _ => none
def thawH (k : Nat) (r : D) (h : Heap) : Heap := match owOf r with | some c => upd h k c | none => h
def unowC : D → D
  | .ow sz c len => .vs sz c len
  | d => d
def unow : D → D
  | .tup rs => .tup (rs.map unowC)
  | d => unowC d

theorem thawH_some {k : Nat} {r : D} {h : Heap} {c : List D} (hc : owOf r = some c) : thawH k r h = upd h k c := by simp [thawH, hc]
theorem thawH_none {k : Nat} {r : D} {h : Heap} (hc : owOf r = none) : thawH k r h = h := by simp [thawH, hc]

theorem Own1.toVs {x : Option Nat} {w : World} {prot prot' : Nat → Prop} {v : Value} {sz len : Nat} {cells : List D} (h : Own1 x w prot v sz cells len) (hp : ∀ b, prot b → prot' b) (hx : ∀ b, x = some b → prot' b) : RP w prot' v (.vs sz cells len) := by
  obtain ⟨a, cap, rfl, hlc, hcl, h0, hq⟩ := h
  cases x with
  | none =>
    have := h0 rfl
    obtain rfl : len = 0 := by omega
    obtain rfl : cells = [] := List.length_eq_zero_iff.1 (by simpa using hcl)
    exact .vs0 a cap sz
  | some b =>
    obtain ⟨cs, e, hb, hall, _, hcap⟩ := hq b rfl
    rcases hcap with hcap | ⟨rfl, hcap⟩
    · obtain rfl : len = 0 := by omega
      obtain rfl : cells = [] := List.length_eq_zero_iff.1 (by simpa using hcl)
      exact .vs0 a cap sz
    have hle : len * sz ≤ cap * sz := Nat.mul_le_mul_right _ hlc
    refine .vs b 0 cap sz len cells (cs.toList.take cells.length) hcl hlc (hx b rfl) hall.1 ?_ ?_ ?_
    · intro v hv
      obtain ⟨i, hi⟩ := List.mem_iff_getElem?.1 hv
      have hlt : i < cells.length := by
        rcases Nat.lt_or_ge i (cs.toList.take cells.length).length with h' | h'
        · rw [hall.1] at h'; exact h'
        · simp [List.getElem?_eq_none h'] at hi
      exact (hall.2 i v _ hi (List.getElem?_eq_getElem hlt)).2
    · have := (cellsAt_block hb).sub 0 cells.length
      simp only [Nat.add_zero, List.drop_zero] at this
      exact this
    · intro i v d hv hd
      exact (hall.2 i v d hv hd).1.mono (fun b hb => ⟨hp b hb, rfl⟩)

theorem OutC.unow {x : Option Nat} {w : World} {prot prot' : Nat → Prop} {v : Value} {r : D} (h : OutC x w prot v r) (hp : ∀ b, prot b → prot' b) (hx : ∀ b, x = some b → prot' b) : RP w prot' v (unowC r) := by
  cases r <;> simp only [OutC, unowC] at h ⊢
  case ow sz c len => exact Own1.toVs h hp hx
  all_goals exact h.mono (fun b hb => ⟨hp b hb, rfl⟩)

/-- The result, nothing of it owned. -/
theorem Out.unow {base : Nat} {w : World} {v : Value} {r : D} (h : Out base w v r) : RP w (fun b => base ≤ b ∧ b < w.heap.size) v (unow r) := by
  obtain ⟨x, hx, h⟩ := h
  have hp : ∀ b, (base ≤ b ∧ b < w.heap.size ∧ x ≠ some b) → (base ≤ b ∧ b < w.heap.size) := fun b h => ⟨h.1, h.2.1⟩
  cases r <;> simp only [AM.unow] at h ⊢
  case tup rs =>
    obtain ⟨_, vs, rfl, hall⟩ := h
    refine .tup vs (rs.map unowC) (by simpa using hall.1) ?_
    intro i v d hv hd
    rw [List.getElem?_map] at hd
    cases hr : rs[i]? with
    | none => rw [hr] at hd; cases hd
    | some r0 =>
      rw [hr] at hd; simp at hd; subst hd
      exact (hall.2 i v r0 hv hr).unow hp (fun b hb => hx b hb)
  all_goals exact OutC.unow h hp (fun b hb => hx b hb)

/-- What a call hands back, in new memory, becomes the caller's own block kk. -/
theorem own_res {s : Sg} {h : Heap} (H : RH s h) {kk : Nat} (hkk : ¬ s.used kk) {r : D} {v : Value} {w' : World} (hsame : ∀ b, b < s.w.heap.size → w'.heap[b]? = s.w.heap[b]?) (hsize : s.w.heap.size ≤ w'.heap.size) (hso : SameO s.w w') (ho : Out s.w.heap.size w' v r) :
    ∃ s' : Sg, s'.w = w' ∧ Ext s s' ∧ (∀ k, s'.used k → s.used k ∨ k = kk) ∧ RH s' (thawH kk r h) ∧ RV s' v (thaw kk r) := by
  obtain ⟨x, hx, hout⟩ := ho
  let s' : Sg := { w := w', ρ := fun k => if k = kk then (match owOf r with | some c => some (x, c.length) | none => none) else s.ρ k, prot := fun b => s.prot b ∨ (s.w.heap.size ≤ b ∧ b < w'.heap.size ∧ x ≠ some b), used := fun k => s.used k ∨ k = kk, next := max s.next (kk + 1) }
  have hne : ∀ k, s.used k → k ≠ kk := fun k hk e => hkk (by rw [← e]; exact hk)
  have hρ : ∀ k, k ≠ kk → s'.ρ k = s.ρ k := fun k hk => by show (if k = kk then _ else _) = _; rw [if_neg hk]
  have hρn : s'.ρ kk = (match owOf r with | some c => some (x, c.length) | none => none) := by show (if kk = kk then _ else _) = _; rw [if_pos rfl]
  have hltb : ∀ b cs e, s.w.heap[b]? = some (.cells cs e (0, 0)) → b < s.w.heap.size := by
    intro b cs e hb
    rcases Nat.lt_or_ge b s.w.heap.size with h' | h'
    · exact h'
    · simp [Array.getElem?_eq_none h'] at hb
  have hE : Ext s s' := by
    refine ⟨Nat.le_max_left _ _, fun _ h => .inl h, hsize, fun b hb => ⟨.inl hb, hsame b (H.lt b hb)⟩, fun k y hk hy => by rw [hρ k (hne k hk)] at hy; exact hy, ?_, hso⟩
    intro k b n cs e hk _ hb
    exact ⟨cs, (hsame b (hltb b cs e hb)).trans hb, rfl⟩
  have hprot : ∀ b, (s.w.heap.size ≤ b ∧ b < w'.heap.size ∧ x ≠ some b) → s'.prot b ∧ w'.heap[b]? = w'.heap[b]? := fun b hb => ⟨.inr hb, rfl⟩
  -- a component
  have comp : ∀ v r0, OutC x w' (fun b => s.w.heap.size ≤ b ∧ b < w'.heap.size ∧ x ≠ some b) v r0 → (∀ c, isOw r0 = true → owOf r = some c → ∃ sz len, r0 = .ow sz c len) → (isOw r0 = true → (owOf r).isSome) → RV s' v (thawC kk r0) := by
    intro v r0 hc hsame1 hsome
    cases r0 <;> simp only [OutC, thawC] at hc ⊢
    case ow sz c len =>
      obtain ⟨c2, hc2⟩ := Option.isSome_iff_exists.1 (hsome rfl)
      obtain ⟨sz2, len2, h2⟩ := hsame1 c2 rfl hc2
      injection h2 with h3 h4 h5
      subst h4
      obtain ⟨a, cap, rfl, hlc, hcl, h0, hq⟩ := hc
      refine .sl a kk sz 0 len cap (.inr rfl) ?_ hlc ?_
      · intro hl
        cases x with
        | none => have := h0 rfl; omega
        | some b => obtain ⟨_, _, _, _, hna, _⟩ := hq b rfl; exact hna hl
      · intro y n hy
        rw [hρn, hc2] at hy
        injection hy with hy; injection hy with h6 h7
        subst h6; subst h7
        have hle : len * sz ≤ cap * sz := Nat.mul_le_mul_right _ hlc
        refine ⟨by omega, ?_⟩
        cases x with
        | none => exact .inl (h0 rfl)
        | some b =>
          obtain ⟨cs, e, hb, _, _, hcap⟩ := hq b rfl
          rcases hcap with hcap | ⟨rfl, hcap⟩
          · exact .inl hcap
          · exact .inr ⟨b, cs, e, rfl, rfl, hb, by omega⟩
    all_goals exact .pure (hc.mono hprot)
  -- the own block's facts
  have hown : ∀ c, owOf r = some c → ∃ v0 sz len, Own1 x w' (fun b => s.w.heap.size ≤ b ∧ b < w'.heap.size ∧ x ≠ some b) v0 sz c len := by
    intro c hc
    cases r <;> simp only [owOf] at hc <;> try (cases hc; done)
    case ow sz c2 len => injection hc with hc; subst hc; exact ⟨v, sz, len, hout⟩
    case tup rs =>
      obtain ⟨_, vs, rfl, hall⟩ := hout
      have key : ∀ (rs : List D) (us : List Value), All2 (OutC x w' (fun b => s.w.heap.size ≤ b ∧ b < w'.heap.size ∧ x ≠ some b)) us rs → owL rs = some c → ∃ v0 sz len, Own1 x w' (fun b => s.w.heap.size ≤ b ∧ b < w'.heap.size ∧ x ≠ some b) v0 sz c len := by
        intro rs
        induction rs with
        | nil => intro us _ h; simp [owL] at h
        | cons r0 rs ih =>
          intro us hall h
          cases us with
          | nil => have := hall.1; simp at this
          | cons u us =>
            have h0 := hall.2 0 u r0 rfl rfl
            have ht : All2 (OutC x w' (fun b => s.w.heap.size ≤ b ∧ b < w'.heap.size ∧ x ≠ some b)) us rs := by simpa using hall.drop 1
            cases r0 <;> simp only [owL] at h
            case ow sz c2 len => injection h with h; subst h; exact ⟨u, sz, len, h0⟩
            all_goals exact ih us ht h
      exact key rs vs.toList hall hc
  have hH : RH s' (thawH kk r h) := by
    refine ⟨?_, ?_, ?_, ?_, ?_⟩
    · intro b hb
      rcases hb with hb | hb
      · have := H.lt b hb; show b < w'.heap.size; omega
      · exact hb.2.1
    · intro k k' b n n' h1 h2
      have hother : ∀ k n, k ≠ kk → s'.ρ k = some (some b, n) → x ≠ some b := by
        intro k n hk hkb hxb
        rw [hρ k hk] at hkb
        cases e : h k with
        | none => rw [H.dead k e] at hkb; cases hkb
        | some c =>
          obtain ⟨_, _, cs, e2, hb2, _⟩ := H.block e hkb
          have := hltb _ _ _ hb2
          have := (hx b hxb).1
          omega
      have hmine : ∀ n, s'.ρ kk = some (some b, n) → x = some b := by
        intro n hn
        rw [hρn] at hn
        split at hn
        · injection hn with hn; injection hn with h3 _
        · cases hn
      by_cases e1 : k = kk <;> by_cases e2 : k' = kk
      · omega
      · subst e1; exact absurd (hmine n h1) (hother k' n' e2 h2)
      · subst e2; exact absurd (hmine n' h2) (hother k n e1 h1)
      · rw [hρ k e1] at h1; rw [hρ k' e2] at h2; exact H.inj k k' b n n' h1 h2
    · intro k hk
      by_cases e1 : k = kk
      · rw [e1, hρn]
        cases ho : owOf r with
        | none => rfl
        | some c => rw [thawH_some ho, e1] at hk; simp [upd] at hk
      · rw [hρ k e1]
        cases ho : owOf r with
        | none => rw [thawH_none ho] at hk; exact H.dead k hk
        | some c => rw [thawH_some ho] at hk; simp only [upd, if_neg e1] at hk; exact H.dead k hk
    · intro k hk
      show k < max s.next (kk + 1)
      rcases hk with hk | hk
      · have := H.bound k hk; omega
      · omega
    · intro k c hk
      by_cases e1 : k = kk
      · rw [e1] at hk ⊢
        cases hc2 : owOf r with
        | none => rw [thawH_none hc2, H.fresh hkk] at hk; cases hk
        | some c2 =>
          rw [thawH_some hc2] at hk
          simp [upd] at hk
          subst hk
          refine ⟨.inr rfl, x, by rw [hρn, hc2], ?_, ?_⟩
          · intro hxn
            obtain ⟨v0, sz, len, a, cap, _, hlc, hcl, h0, _⟩ := hown c2 hc2
            have := h0 hxn
            obtain rfl : len = 0 := by omega
            exact List.length_eq_zero_iff.1 (by simpa using hcl)
          · intro b hb
            obtain ⟨v0, sz, len, a, cap, _, hlc, hcl, h0, hq⟩ := hown c2 hc2
            obtain ⟨cs, e, hbb, hall, _, hcap⟩ := hq b hb
            refine ⟨?_, cs, e, hbb, by have := hall.1; simp at this; omega, hall.mono fun _ _ h => ⟨.pure (h.1.mono hprot), h.2⟩⟩
            rintro (hp | hp)
            · have := H.lt b hp; have := (hx b hb).1; omega
            · exact hp.2.2 hb
      · have hk' : h k = some c := by
          cases ho : owOf r with
          | none => rw [thawH_none ho] at hk; exact hk
          | some c2 => rw [thawH_some ho] at hk; simpa only [upd, if_neg e1] using hk
        obtain ⟨hu, y, hy, hyn, hq⟩ := H.own k c hk'
        refine ⟨.inl hu, y, by rw [hρ k e1]; exact hy, hyn, ?_⟩
        intro b hb
        obtain ⟨hnp, cs, e, hbb, hl, hall⟩ := hq b hb
        have hbl := hltb _ _ _ hbb
        refine ⟨?_, cs, e, (hsame b hbl).trans hbb, hl, hall.mono fun _ _ h => h.mono hE⟩
        rintro (hp | hp)
        · exact hnp hp
        · omega
  refine ⟨s', rfl, hE, fun _ h => h, hH, ?_⟩
  cases r <;> simp only [thaw] at hout ⊢
  case tup rs =>
    obtain ⟨hn, vs, rfl, hall⟩ := hout
    refine .tup vs (rs.map (thawC kk)) (by simpa using hall.1) ?_
    intro i v d hv hd
    rw [List.getElem?_map] at hd
    cases hr0 : rs[i]? with
    | none => rw [hr0] at hd; cases hd
    | some r0 =>
      rw [hr0] at hd; simp at hd; subst hd
      have key : ∀ (rs : List D) (i : Nat) (r0 : D), nOw rs ≤ 1 → rs[i]? = some r0 → isOw r0 = true → (∃ c, owL rs = some c) ∧ ∀ c, owL rs = some c → ∃ sz len, r0 = .ow sz c len := by
        intro rs
        induction rs with
        | nil => intro i r0 _ hi _; simp at hi
        | cons a rs ih =>
          intro i r0 hn hi ho
          have hzero : ∀ (l : List D) (j : Nat) (r1 : D), nOw l = 0 → l[j]? = some r1 → isOw r1 = true → False := by
            intro l
            induction l with
            | nil => intro j r1 _ hj _; simp at hj
            | cons b l ihl =>
              intro j r1 hn hj ho
              simp only [nOw] at hn
              cases j with
              | zero => simp at hj; subst hj; rw [ho] at hn; simp at hn
              | succ j => simp at hj; exact ihl j r1 (by omega) hj ho
          cases i with
          | zero =>
            simp at hi
            subst hi
            cases a <;> simp [isOw] at ho
            rename_i sz c len
            exact ⟨⟨c, rfl⟩, fun c2 h2 => by simp [owL] at h2; subst h2; exact ⟨sz, len, rfl⟩⟩
          | succ i =>
            simp at hi
            by_cases ha : isOw a = true
            · simp only [nOw, ha, if_true] at hn
              exact (hzero rs i r0 (by omega) hi ho).elim
            · have hla : owL (a :: rs) = owL rs := by cases a <;> first | rfl | (simp [isOw] at ha)
              rw [hla]
              exact ih i r0 (by simp only [nOw, ha] at hn; simp at hn; exact hn) hi ho
      refine comp v r0 (hall.2 i v r0 hv hr0) ?_ ?_
      · intro c ho hc
        exact (key rs i r0 hn hr0 ho).2 c hc
      · intro ho
        obtain ⟨c, hc⟩ := (key rs i r0 hn hr0 ho).1
        show (owL rs).isSome
        rw [hc]; rfl
  case ow sz c len => exact comp v _ hout (fun c2 _ h2 => by simp [owOf] at h2; subst h2; exact ⟨sz, len, rfl⟩) (fun _ => rfl)
  all_goals exact comp v _ hout (fun c2 h2 => by simp [isOw] at h2) (fun h2 => by simp [isOw] at h2)
/-- Own slices in new memory become an own block of the caller. -/
theorem con_of_pcon {P : Program} {f : Nat} {ds ds' : List D} {r : D} {h : Heap} {Q : D → Heap → Prop} (hp : PCon P f ds' r) (hr : All2 (Rd h) ds ds') (hq : ∀ k, h k = none → Q (thaw k r) (thawH k r h)) : Con P f ds h Q := by
  refine ⟨hp.1, fun s args H A => ?_⟩
  have hargs : All2 (RP s.w (below s.w.heap.size)) args.toList ds' := by
    refine ⟨A.1.trans hr.1, fun i v d' hv hd => ?_⟩
    have hlt : i < ds.length := by
      rcases Nat.lt_or_ge i ds.length with h' | h'
      · exact h'
      · rw [hr.1] at h'; simp [List.getElem?_eq_none h'] at hd
    have hdi := List.getElem?_eq_getElem hlt
    exact hr.2 i _ d' hdi hd s v H.toO (A.2 i v _ hv hdi)
  refine (hp.2 s.w args hargs).mono ?_
  rintro e w' ⟨v, rfl, hsame, hsize, hso, hout⟩
  obtain ⟨s', rfl, hE, _, hH, hv⟩ := own_res H H.next_free hsame hsize hso hout
  exact ⟨v, thaw s.next r, thawH s.next r h, s', rfl, rfl, hE, hH, hv, hq _ (H.fresh H.next_free)⟩

theorem thawC_unow (k : Nat) (r : D) : thawC k (unowC r) = unowC r := by cases r <;> rfl
theorem isOw_unow (r : D) : isOw (unowC r) = false := by cases r <;> rfl
theorem thaw_unow (k : Nat) (r : D) : thaw k (unow r) = unow r := by
  cases r <;> simp only [unow, thaw]
  case tup rs =>
    rw [List.map_map]
    congr 1
    exact List.map_congr_left fun a _ => thawC_unow k a
  all_goals exact thawC_unow k _
theorem owL_unow : ∀ rs : List D, owL (rs.map unowC) = none
  | [] => rfl
  | r :: rs => by cases r <;> simp only [List.map_cons, unowC, owL] <;> exact owL_unow rs
theorem owOf_unow (r : D) : owOf (unow r) = none := by
  cases r <;> simp only [unow, unowC, owOf]
  exact owL_unow _
theorem nOw_unow : ∀ rs : List D, nOw (rs.map unowC) = 0
  | [] => rfl
  | r :: rs => by rw [List.map_cons, nOw, isOw_unow, nOw_unow rs]; rfl
theorem OutC_unow {x : Option Nat} {w : World} {prot prot' : Nat → Prop} {v : Value} {r : D} (h : OutC x w prot v r) (hp : ∀ b, prot b → prot' b) (hx : ∀ b, x = some b → prot' b) : OutC none w prot' v (unowC r) := by
  have := h.unow hp hx
  cases r <;> exact this
/-- A result that is owned may be taken by value. -/
theorem Out_unow {base : Nat} {w : World} {v : Value} {r : D} (h : Out base w v r) : Out base w v (unow r) := by
  obtain ⟨x, hx, h⟩ := h
  have hp : ∀ b, (base ≤ b ∧ b < w.heap.size ∧ x ≠ some b) → (base ≤ b ∧ b < w.heap.size ∧ (none : Option Nat) ≠ some b) := fun b h => ⟨h.1, h.2.1, by simp⟩
  have hx' : ∀ b, x = some b → (base ≤ b ∧ b < w.heap.size ∧ (none : Option Nat) ≠ some b) := fun b hb => ⟨(hx b hb).1, (hx b hb).2, by simp⟩
  refine Exists.intro none (And.intro (fun b hb => by simp at hb) ?_)
  cases r <;> simp only [unow] at h ⊢
  case tup rs =>
    obtain ⟨_, vs, rfl, hall⟩ := h
    refine ⟨by rw [nOw_unow]; omega, vs, rfl, by simpa using hall.1, ?_⟩
    intro i v d hv hd
    rw [List.getElem?_map] at hd
    cases hr : rs[i]? with
    | none => rw [hr] at hd; cases hd
    | some r0 =>
      rw [hr] at hd; simp at hd; subst hd
      exact OutC_unow (hall.2 i v r0 hv hr) hp hx'
  all_goals exact OutC_unow h hp hx'
theorem pcon_unow {P : Program} {f : Nat} {ds : List D} {r : D} (hp : PCon P f ds r) : PCon P f ds (unow r) :=
  ⟨hp.1, fun w args h => (hp.2 w args h).mono fun _ _ ⟨v, h1, h2, h3, h4, h5⟩ => ⟨v, h1, h2, h3, h4, Out_unow h5⟩⟩


end Go.AM
