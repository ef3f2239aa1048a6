/- The abstract machine's code, second part: the compiler, the meaning, and the theorem that the model's code does what it says. Generic over the program. -/
import Derived.Test.YthblalidmmbcoaaAmP
set_option linter.unusedSimpArgs false
set_option linter.unusedVariables false
namespace Go.AM
open Classical

/-! ### Liveness -/
abbrev LS := List Nat
def ins (t : Nat) : LS → LS
  | [] => [t]
  | a :: r => if t < a then t :: a :: r else if t = a then a :: r else a :: ins t r
def uni : LS → LS → LS
  | [], b => b
  | a :: r, b => ins a (uni r b)
def liveIns (o : AIns) (out : LS) : LS := uni (usesI o) (match o.dst with | some t => out.filter (fun a => !(a == t)) | none => out)
def liveOps : List AIns → LS → LS
  | [], out => out
  | o :: r, out => liveIns o (liveOps r out)
def exOf (ex : List (Nat × LS)) (id : Nat) : LS := match ex with | [] => [] | (a, l) :: r => if a = id then l else exOf r id

def befOf (ops : List Oper) : List (List Nat) :=
  ops.foldl (fun acc o => acc ++ [(edgesOf o).foldl (fun l j => uni (ins j (befAt acc j)) l) []]) []

def compC (P : Program) (nt : Nat) : Code → LS → List (Nat × LS) → LS → Option (ACode × LS)
  | .skip, out, _, _ => some (.skip, out)
  | .region _ ops false, out, _, _ => match cOps P nt ops.toList ops.toList with | some il => some (.reg il out, liveOps il out) | none => none
  | .region _ ops true, out, _, _ => match cOps P nt ops.toList ops.toList with
    | some il => if okDraw il (befOf ops.toList) && okBef ops.toList (befOf ops.toList) then some (.dreg il (befOf ops.toList) out, liveOps il out) else if okBef ops.toList (befOf ops.toList) then some (.oreg il (befOf ops.toList) out, liveOps il out) else none
    | none => none
  | .seq a b, out, ex, rt => match compC P nt b out ex rt with
    | some (B, lb) => (match compC P nt a lb ex rt with | some (A, la) => some (.seq A B, la) | none => none)
    | none => none
  | .cond c a b, out, ex, rt => match cO c, compC P nt a out ex rt, compC P nt b out ex rt with
    | some c', some (A, la), some (B, lb) => some (.cond c' la A lb B, uni (usesO c') (uni la lb))
    | _, _, _ => none
  | .block id c, out, ex, rt => match compC P nt c out ((id, out) :: ex) rt with | some (A, la) => some (.block id A, la) | none => none
  | .loop c, _, ex, rt => match compC P nt c [] ex rt with
    | some (_, l0) => (match compC P nt c l0 ex rt with
      | some (_, l1) => (match compC P nt c (uni l0 l1) ex rt with | some (A, l2) => some (.loop A, l2) | none => none)
      | none => none)
    | none => none
  | .exit id, _, ex, _ => some (.exit id, exOf ex id)
  | .ret, _, _, rt => some (.ret, rt)
  | _, _, _, _ => none

inductive ARes where
  | tmp (t : Nat)
  | cell (t : Nat) (agg : Bool) (n : Nat)
  deriving Inhabited
structure AFun where
  nt : Nat
  np : Nat
  results : List ARes
  code : ACode
  deriving Inhabited

def cRes (P : Program) : List ResultVar → Option (List ARes)
  | [] => some []
  | .tmp t :: r => match cRes P r with | some l => some (.tmp t :: l) | none => none
  | .cell a t :: r => match szOf P t, aggOf P t, cRes P r with | some n, some g, some l => if (g && 0 < n) || n == 1 then some (.cell a g n :: l) else none | _, _, _ => none
def resSlots : List ARes → LS
  | [] => []
  | .tmp t :: r => ins t (resSlots r)
  | .cell t _ _ :: r => ins t (resSlots r)

def compF (P : Program) (fn : Func) : Option AFun :=
  match fn.body, cRes P fn.results.toList with
  | some c, some rs => (match compC P fn.ntmps c (resSlots rs) [] (resSlots rs) with | some (A, _) => some { nt := fn.ntmps, np := fn.params.size + fn.nfree, results := rs, code := A } | none => none)
  | _, _ => none

/-! ### The meaning -/
inductive X where
  | normal
  | exit (id : Nat)
  | ret

def X.then (K : St → Prop) (Q : X → St → Prop) : X → St → Prop
  | .normal, st => K st
  | x, st => Q x st
def X.inBlock (id : Nat) (Q : X → St → Prop) : X → St → Prop
  | .exit j, st => if j = id then Q .normal st else Q (.exit j) st
  | x, st => Q x st

def iter (F : (X → St → Prop) → St → Prop) (Q : X → St → Prop) : Nat → St → Prop
  | 0, _ => False
  | n + 1, st => F (X.then (iter F Q n) Q) st

def W (P : Program) : ACode → (X → St → Prop) → St → Prop
  | .skip, Q, st => Q .normal st
  | .reg ops keep, Q, st => Wops P ops st.env st.heap fun e h => Q .normal ⟨norm keep e, h⟩
  | .dreg ops bef keep, Q, st => (∃ rs : Nat → D, ∀ N, (∀ k, N ≤ k → st.heap k = none) → ∃ fin : Look × Heap, dRun P N ops.length rs ops bef (List.range ops.length) (get st.env) st.heap = some fin ∧ Q .normal ⟨normL keep fin.1, fin.2⟩) ∨ Wany P ops bef ops.length (List.range ops.length) st.env st.heap fun e h => Q .normal ⟨norm keep e, h⟩
  | .oreg ops bef keep, Q, st => Wany P ops bef ops.length (List.range ops.length) st.env st.heap fun e h => Q .normal ⟨norm keep e, h⟩
  | .seq a b, Q, st => W P a (X.then (W P b Q) Q) st
  | .cond c ka a kb b, Q, st => match evO (get st.env) c with
    | some (.bool t) => (t = true → W P a Q ⟨norm ka st.env, st.heap⟩) ∧ (t = false → W P b Q ⟨norm kb st.env, st.heap⟩)
    | _ => False
  | .block id c, Q, st => W P c (X.inBlock id Q) st
  | .loop c, Q, st => ∃ n, iter (fun Q' st' => W P c Q' st') Q n st
  | .exit id, Q, st => Q (.exit id) st
  | .ret, Q, st => Q .ret st

def toExit : X → Exit
  | .normal => .normal
  | .exit id => .exit id
  | .ret => .ret

/-- The model's state, held against the abstract one. -/
def SimQ (nt : Nat) (s : Sg) (Q : X → St → Prop) : Exit → Act → World → Prop := fun x a w =>
  ∃ x' st s', x = toExit x' ∧ s'.w = w ∧ Ext s s' ∧ RS nt s' st.env st.heap a ∧ Q x' st

theorem SimQ.ext {nt : Nat} {s s' : Sg} (h : Ext s s') {Q : X → St → Prop} {x : Exit} {a : Act} {w : World} (hq : SimQ nt s' Q x a w) : SimQ nt s Q x a w := by
  obtain ⟨x', st, s2, h1, h2, h3, h4, h5⟩ := hq
  exact ⟨x', st, s2, h1, h2, h.trans h3, h4, h5⟩
theorem SimQ.mk {nt : Nat} {s : Sg} {Q : X → St → Prop} {x : X} {st : St} {a : Act} (R : RS nt s st.env st.heap a) (h : Q x st) : SimQ nt s Q (toExit x) a s.w := ⟨x, st, s, rfl, rfl, .refl s, R, h⟩

theorem RS.norm {nt : Nat} {s : Sg} {e : Env} {h : Heap} {a : Act} (R : RS nt s e h a) (keep : List Nat) : RS nt s (AM.norm keep e) h a := ⟨R.heap, R.env.norm keep, R.size, R.defers⟩

theorem ops_sim {P : Program} {nt : Nat} {ops : Array Oper} {Q : Exit → Act → World → Prop} : ∀ (l : List Oper) (k : Nat) (il : List AIns), ops.toList.drop k = l → cOps P nt ops.toList l = some il →
    ∀ (s : Sg) (e : Env) (h : Heap) (a : Act) (K : Env → Heap → Prop), RS nt s e h a → Wops P il e h K → (∀ s' e' h' a', Ext s s' → RS nt s' e' h' a' → K e' h' → Q .normal a' s'.w) → wpOps P ops Q (List.range' k l.length) a s.w
  | [], k, il, _, hc, s, e, h, a, K, R, hw, hQ => by
    simp [cOps] at hc; subst hc
    exact hQ s e h a (.refl s) R hw
  | o :: r, k, il, hd, hc, s, e, h, a, K, R, hw, hQ => by
    simp only [cOps] at hc
    split at hc
    · rename_i ai l h1 h2
      injection hc with hc; subst hc
      have hk : ops[k]? = some o := by
        have : (ops.toList.drop k)[0]? = some o := by rw [hd]; rfl
        rw [List.getElem?_drop] at this
        simpa using this
      have hdr : ops.toList.drop (k + 1) = r := by
        rw [← List.drop_drop, hd]
        rfl
      simp only [List.length_cons, List.range'_succ, wpOps, hk]
      have main := ins_sim h1 R hw (wpOps P ops Q (List.range' (k + 1) r.length)) Q (fun s' e' h' a' hx R' hK => by
        exact ops_sim r (k + 1) l hdr h2 s' e' h' a' K R' hK (fun s2 e2 h2 a2 hx2 R2 hK2 => hQ s2 e2 h2 a2 (hx.trans hx2) R2 hK2))
      split
      · rename_i hwt; rw [if_pos hwt] at main; exact .inl main
      · rename_i hwt; rw [if_neg hwt] at main; exact main
    · cases hc

theorem rounds_mono {P : Program} {c : Code} {Q Q' : Exit → Act → World → Prop} (hq : ∀ e a w, Q e a w → Q' e a w) : ∀ (n : Nat) (a : Act) (w : World), Code.rounds P c Q n a w → Code.rounds P c Q' n a w
  | 0, _, _, h => h
  | n + 1, a, w, h => by
    rw [rounds_succ] at h ⊢
    refine wp_mono h (fun e a' w' he => ?_)
    cases e with
    | normal => exact rounds_mono hq n a' w' he
    | exit j => exact hq _ _ _ he
    | goto l => exact hq _ _ _ he
    | ret => exact hq _ _ _ he
    | panic c => exact hq _ _ _ he
    | outgrown => exact hq _ _ _ he

theorem code_sim {P : Program} {nt : Nat} (hm : P.follows .mixedOrders = true) : ∀ (c : Code) (out : LS) (ex : List (Nat × LS)) (rt : LS) (A : ACode) (l : LS), compC P nt c out ex rt = some (A, l) →
    ∀ (Q : X → St → Prop) (st : St) (s : Sg) (a : Act), W P A Q st → RS nt s st.env st.heap a → c.wp P (SimQ nt s Q) a s.w := by
  intro c
  induction c with
  | skip =>
    intro out ex rt A l hc Q st s a hw R
    simp [compC] at hc; obtain ⟨rfl, rfl⟩ := hc
    exact wp_skip (SimQ.mk R hw)
  | region id ops draw =>
    intro out ex rt A l hc Q st s a hw R
    have ord : ∀ {il : List AIns}, cOps P nt ops.toList ops.toList = some il → okBef ops.toList (befOf ops.toList) = true → (Wany P il (befOf ops.toList) il.length (List.range il.length) st.env st.heap fun e h => Q .normal ⟨AM.norm out e, h⟩) → Code.wp P (.region id ops true) (SimQ nt s Q) a s.w := by
      intro il hil hob hw
      have hlen : il.length = ops.size := by simpa using (cOps_at hil).1
      rw [hlen] at hw
      refine wp_region_any hm ?_
      let s1 : Sg := { w := { s.w with drawn := s.w.drawn + 1 }, ρ := s.ρ, μ := s.μ, prot := s.prot, base := s.base, fr := s.fr, used := s.used, next := s.next }
      have hx1 : Ext s s1 := ⟨Nat.le_refl _, fun _ h => h, Nat.le_refl _, fun _ h => ⟨h, rfl⟩, fun _ _ _ h => h, fun _ _ _ cs _ _ _ h => ⟨cs, h, rfl⟩, ⟨rfl, rfl, rfl⟩, fun _ _ => rfl, rfl, fun _ h => ⟨h, rfl⟩⟩
      have hH1 : RH s1 st.heap := ⟨R.heap.lt, R.heap.inj, R.heap.dead, R.heap.bound, fun k c hk => by
        obtain ⟨hu, x, hx, hxn, hb⟩ := R.heap.own k c hk
        refine ⟨hu, x, hx, fun h0 => (hxn h0).imp (fun hc => hc) fun ⟨l, b2, h1, h2, h3⟩ => ⟨l, b2, h1, h2, h3.kept rfl⟩, fun b hbx => ?_⟩
        obtain ⟨h1, cs, el, h2, h3, h4⟩ := hb b hbx
        exact ⟨h1, cs, el, h2, h3, h4.mono fun _ _ h => h.mono hx1⟩, R.heap.mu, R.heap.bp, R.heap.fp⟩
      have hrem0 : rem ops.size (Array.replicate ops.size false) = List.range ops.size := by
        unfold rem
        rw [List.filter_eq_self]
        intro i hi
        simp [Array.getD_eq_getD_getElem?, Array.getElem?_replicate]
        split <;> simp
      refine oregion_any hil hob (s0 := s1) (K := fun e h => Q .normal ⟨AM.norm out e, h⟩) (fun s' e' h' a' hx R' hK => SimQ.ext (hx1.trans hx) (SimQ.mk (x := .normal) (st := ⟨AM.norm out e', h'⟩) (R'.norm out) hK))
        ops.size _ s1 st.env st.heap a ?_ (by simp) ?_ (.refl s1) ⟨hH1, R.env.mono hx1, R.size, R.defers⟩ (by rw [hrem0]; exact hw)
      · rw [hrem0]; simp
      · intro i hi
        simp [Array.getD_eq_getD_getElem?, Array.getElem?_replicate] at hi
        split at hi <;> simp at hi
    cases draw with
    | false =>
      simp only [compC] at hc
      split at hc
      · rename_i il hil
        simp at hc; obtain ⟨rfl, rfl⟩ := hc
        refine wp_region ?_
        rw [List.range_eq_range', ← Array.length_toList]
        exact ops_sim ops.toList 0 il (by simp) hil s st.env st.heap a _ R hw (fun s' e' h' a' hx R' hK => SimQ.ext hx (SimQ.mk (x := .normal) (st := ⟨AM.norm out e', h'⟩) (R'.norm out) hK))
      · cases hc
    | true =>
      simp only [compC] at hc
      split at hc
      · rename_i il hil
        split at hc
        · rename_i hok
          simp at hc; obtain ⟨rfl, rfl⟩ := hc
          simp only [Bool.and_eq_true] at hok
          have hlen : il.length = ops.size := by simpa using (cOps_at hil).1
          rcases hw with hw | hw
          rotate_left
          · exact ord hil hok.2 hw
          obtain ⟨rs, hw⟩ := hw
          obtain ⟨fin, hrun, hq⟩ := hw s.next (fun k hk => R.heap.fresh (fun hu => by have := R.heap.bound k hu; omega))
          refine wp_region_any hm ?_
          -- the draw moves a count on
          let s1 : Sg := { w := { s.w with drawn := s.w.drawn + 1 }, ρ := s.ρ, μ := s.μ, prot := s.prot, base := s.base, fr := s.fr, used := s.used, next := s.next }
          have hx1 : Ext s s1 := ⟨Nat.le_refl _, fun _ h => h, Nat.le_refl _, fun _ h => ⟨h, rfl⟩, fun _ _ _ h => h, fun _ _ _ cs _ _ _ h => ⟨cs, h, rfl⟩, ⟨rfl, rfl, rfl⟩, fun _ _ => rfl, rfl, fun _ h => ⟨h, rfl⟩⟩
          have hH1 : RH s1 st.heap := ⟨R.heap.lt, R.heap.inj, R.heap.dead, R.heap.bound, fun k c hk => by
            obtain ⟨hu, x, hx, hxn, hb⟩ := R.heap.own k c hk
            refine ⟨hu, x, hx, fun h0 => (hxn h0).imp (fun hc => hc) fun ⟨l, b2, h1, h2, h3⟩ => ⟨l, b2, h1, h2, h3.kept rfl⟩, fun b hbx => ?_⟩
            obtain ⟨h1, cs, el, h2, h3, h4⟩ := hb b hbx
            exact ⟨h1, cs, el, h2, h3, h4.mono fun _ _ h => h.mono hx1⟩, R.heap.mu, R.heap.bp, R.heap.fp⟩
          rw [hlen] at hrun
          have hrem0 : rem ops.size (Array.replicate ops.size false) = List.range ops.size := by
            unfold rem
            rw [List.filter_eq_self]
            intro i hi
            simp [Array.getD_eq_getD_getElem?, Array.getElem?_replicate]
            split <;> simp
          refine dregion_any hil hok.1 hok.2 (N := s.next) (rs := rs) (fin := fin) (s0 := s1) (fun s' a' hx R' => SimQ.ext (hx1.trans hx) (SimQ.mk (x := .normal) (st := ⟨normL out fin.1, fin.2⟩) ⟨R'.heap, R'.env.normL out, R'.size, R'.defers⟩ hq))
            ops.size _ s1 (get st.env) st.heap a ?_ (by simp) ?_ (.refl s1) ?_ ⟨hH1, R.env.mono hx1, R.size, R.defers⟩ (by rw [hrem0]; exact hrun)
          · rw [hrem0]; simp
          · intro i hi
            simp [Array.getD_eq_getD_getElem?, Array.getElem?_replicate] at hi
            split at hi <;> simp at hi
          · intro i _ _ hu
            have := R.heap.bound _ hu
            omega
        · split at hc
          · rename_i hok
            simp at hc; obtain ⟨rfl, rfl⟩ := hc
            exact ord hil hok hw
          · cases hc
      · cases hc
  | seq x y ihx ihy =>
    intro out ex rt A l hc Q st s a hw R
    simp only [compC] at hc
    split at hc
    · rename_i B lb hB
      split at hc
      · rename_i A' la hA
        simp at hc; obtain ⟨rfl, rfl⟩ := hc
        refine wp_seq (wp_mono (ihx lb ex rt A' _ hA _ st s a hw R) ?_)
        rintro e a' w' ⟨x', st', s', rfl, rfl, hx, R', hq⟩
        cases x' with
        | normal => exact wp_mono (ihy out ex rt B lb hB Q st' s' a' hq R') (fun _ _ _ h => SimQ.ext hx h)
        | exit id => exact SimQ.ext hx (SimQ.mk (x := .exit id) R' hq)
        | ret => exact SimQ.ext hx (SimQ.mk (x := .ret) R' hq)
      · cases hc
    · cases hc
  | cond c x y ihx ihy =>
    intro out ex rt A l hc Q st s a hw R
    simp only [compC] at hc
    split at hc
    · rename_i c' A' la B lb h1 h2 h3
      simp at hc; obtain ⟨rfl, rfl⟩ := hc
      simp only [W] at hw
      split at hw
      · rename_i t ht
        have hv := (cO_sim h1 R.env ht).inv_bool
        refine wp_cond_split hv (fun h => ihx out ex rt A' la h2 Q _ s a (hw.1 h) (R.norm la)) (fun h => ihy out ex rt B lb h3 Q _ s a (hw.2 h) (R.norm lb))
      · exact hw.elim
    · cases hc
  | block id x ihx =>
    intro out ex rt A l hc Q st s a hw R
    simp only [compC] at hc
    split at hc
    · rename_i A' la hA
      simp at hc; obtain ⟨rfl, rfl⟩ := hc
      refine wp_block (wp_mono (ihx out _ rt A' _ hA _ st s a hw R) ?_)
      rintro e a' w' ⟨x', st', s', rfl, rfl, hx, R', hq⟩
      cases x' with
      | normal => exact SimQ.ext hx (SimQ.mk (x := .normal) R' hq)
      | exit j =>
        simp only [toExit, Exit.inBlock]
        simp only [X.inBlock] at hq
        split
        · rename_i hj; rw [if_pos hj] at hq; exact SimQ.ext hx (SimQ.mk (x := .normal) R' hq)
        · rename_i hj; rw [if_neg hj] at hq; exact SimQ.ext hx (SimQ.mk (x := .exit j) R' hq)
      | ret => exact SimQ.ext hx (SimQ.mk (x := .ret) R' hq)
    · cases hc
  | loop x ihx =>
    intro out ex rt A l hc Q st s a hw R
    simp only [compC] at hc
    split at hc
    · split at hc
      · split at hc
        · rename_i A' l2 hA
          simp at hc; obtain ⟨rfl, rfl⟩ := hc
          obtain ⟨n, hn⟩ := hw
          refine wp_loop_rounds n ?_
          have key : ∀ (n : Nat) (st : St) (s : Sg) (a : Act), iter (fun Q' st' => W P A' Q' st') Q n st → RS nt s st.env st.heap a → Code.rounds P x (SimQ nt s Q) n a s.w := by
            intro n
            induction n with
            | zero => intro st s a h _; exact h.elim
            | succ n ih =>
              intro st s a h R
              rw [rounds_succ]
              refine wp_mono (ihx _ ex rt A' _ hA (X.then (iter (fun Q' st' => W P A' Q' st') Q n) Q) st s a h R) ?_
              rintro e a' w' ⟨x', st', s', rfl, rfl, hx, R', hq⟩
              cases x' with
              | normal => exact rounds_mono (fun _ _ _ h => SimQ.ext hx h) n _ _ (ih st' s' a' hq R')
              | exit j => exact SimQ.ext hx (SimQ.mk (x := .exit j) R' hq)
              | ret => exact SimQ.ext hx (SimQ.mk (x := .ret) R' hq)
          exact key n st s a hn R
        · cases hc
      · cases hc
    · cases hc
  | exit id =>
    intro out ex rt A l hc Q st s a hw R
    simp [compC] at hc; obtain ⟨rfl, rfl⟩ := hc
    exact wp_exit (SimQ.mk (x := .exit id) R hw)
  | ret =>
    intro out ex rt A l hc Q st s a hw R
    simp [compC] at hc; obtain ⟨rfl, rfl⟩ := hc
    exact wp_ret (SimQ.mk (x := .ret) R hw)
  | rangeFunc f ps x y _ _ => intro out ex rt A l hc; simp [compC] at hc
  | scope x _ => intro out ex rt A l hc; simp [compC] at hc
  | label l => intro out ex rt A l hc; simp [compC] at hc
  | goto l => intro out ex rt A l hc; simp [compC] at hc
  | refuse y => intro out ex rt A l hc; simp [compC] at hc

end Go.AM
