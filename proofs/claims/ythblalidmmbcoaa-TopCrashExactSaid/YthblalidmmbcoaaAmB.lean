/- The relation between the abstract machine's data and the model's memory, and how it is kept. Generic over the program. -/
import Derived.Test.YthblalidmmbcoaaAmA
import Derived.Maps.Views
import Derived.Maps.Own
set_option linter.unusedSimpArgs false
set_option linter.unusedVariables false
namespace Go.AM

/-- Data without keys: scalars, and slices and pointers into blocks that are kept ('prot'). -/
inductive RP (w : World) (prot : Nat → Prop) : Value → D → Prop
  | int (k : IntKind) (n : Int) : RP w prot (.int k n) (.int k n)
  | bool (b : Bool) : RP w prot (.bool b) (.bool b)
  | str (s : ByteArray) : RP w prot (.string s) (.str s)
  | nil : RP w prot (.slice none 0 0) .nil
  | emp (a : Option Addr) : RP w prot (.slice a 0 0) .emp
  | vs0 (a : Option Addr) (cap sz : Nat) : RP w prot (.slice a 0 cap) (.vs sz [] 0)
  | vs (b off cap sz len : Nat) (cells : List D) (cs : List Value) (hl : cells.length = len * sz) (hc : len ≤ cap) (hb : prot b) (hcs : cs.length = cells.length) (ho : ∀ v ∈ cs, v.oneCell' = true)
      (hm : ∀ (i : Nat) (v : Value), cs[i]? = some v → w.cell? ⟨b, off + i, none⟩ = some v) (hr : ∀ (i : Nat) (v : Value) (d : D), cs[i]? = some v → cells[i]? = some d → RP w prot v d) :
      RP w prot (.slice (some ⟨b, off, none⟩) len cap) (.vs sz cells len)
  | vp (b off o : Nat) (cells : List D) (cs : List Value) (hb : prot b) (hcs : cs.length = cells.length) (ho : ∀ v ∈ cs, v.oneCell' = true)
      (hm : ∀ (i : Nat) (v : Value), cs[i]? = some v → w.cell? ⟨b, o + i, none⟩ = some v) (hr : ∀ (i : Nat) (v : Value) (d : D), cs[i]? = some v → cells[i]? = some d → RP w prot v d) :
      RP w prot (.pointer (some ⟨b, o + off, none⟩)) (.vp cells off)
  | agg (cs : Array Value) (ds : List D) (hl : cs.toList.length = ds.length) (ho : ∀ v ∈ cs.toList, v.oneCell' = true) (hr : ∀ (i : Nat) (v : Value) (d : D), cs.toList[i]? = some v → ds[i]? = some d → RP w prot v d) : RP w prot (.agg cs) (.agg ds)
  | tup (cs : Array Value) (ds : List D) (hl : cs.toList.length = ds.length) (hr : ∀ (i : Nat) (v : Value) (d : D), cs.toList[i]? = some v → ds[i]? = some d → RP w prot v d) : RP w prot (.tuple cs) (.tup ds)
  | fn (f : Nat) (as bs : Array Value) (ds es : List D) (hl : as.toList.length = ds.length) (hm : bs.toList.length = es.length)
      (hr : ∀ (i : Nat) (v : Value) (d : D), as.toList[i]? = some v → ds[i]? = some d → RP w prot v d) (hs : ∀ (i : Nat) (v : Value) (d : D), bs.toList[i]? = some v → es[i]? = some d → RP w prot v d) :
      RP w prot (.func (.func f) as bs) (.fn f ds es)
  | nilp : RP w prot (.pointer none) .nilp
  | nilf : RP w prot .nilFunc .nilf
  | undef (v : Value) : RP w prot v .undef

theorem RP.mono {w w' : World} {prot prot' : Nat → Prop} (hp : ∀ b, prot b → prot' b ∧ w'.heap[b]? = w.heap[b]?) {v : Value} {d : D} (h : RP w prot v d) : RP w' prot' v d := by
  have hcell : ∀ b o, prot b → w'.cell? ⟨b, o, none⟩ = w.cell? ⟨b, o, none⟩ := by
    intro b o hb; simp only [World.cell?, (hp b hb).2]
  induction h with
  | int k n => exact .int k n
  | bool b => exact .bool b
  | str s => exact .str s
  | nil => exact .nil
  | emp a => exact .emp a
  | vs0 a cap sz => exact .vs0 a cap sz
  | vs b off cap sz len cells cs hl hc hb hcs ho hm hr ih => exact .vs b off cap sz len cells cs hl hc (hp b hb).1 hcs ho (fun i v h => (hcell b _ hb).trans (hm i v h)) ih
  | vp b off o cells cs hb hcs ho hm hr ih => exact .vp b off o cells cs (hp b hb).1 hcs ho (fun i v h => (hcell b _ hb).trans (hm i v h)) ih
  | agg cs ds hl ho hr ih => exact .agg cs ds hl ho ih
  | tup cs ds hl hr ih => exact .tup cs ds hl ih
  | fn f as bs ds es hl hm hr hs ih1 ih2 => exact .fn f as bs ds es hl hm ih1 ih2
  | nilp => exact .nilp
  | nilf => exact .nilf
  | undef v => exact .undef v

/-! ### Maps from int to bool that hold 'true' alone -/
def mapD (l : List Int) : DataW Unit := l.foldr (fun n D => D.put (.int .i64 n) (.lit (.bool true))) (.map [])
/-- Block b is a map that holds just these keys. -/
def MapI (w : World) (b : Nat) (l : List Int) : Prop :=
  ∃ (P : Program) (k e : TypeId), P.underlying k = some (.int .i64) ∧ P.underlying e = some .bool ∧ w.ownsMap P k (plainElem P e) b l.length (mapD l)
theorem MapI.lt {w : World} {b : Nat} {l : List Int} (h : MapI w b l) : b < w.heap.size := by
  obtain ⟨_, _, _, _, _, h⟩ := h; exact h.lt
theorem MapI.obj {w : World} {b : Nat} {l : List Int} (h : MapI w b l) : ∃ es clock, w.heap[b]? = some (.map es clock) := by
  obtain ⟨_, _, _, _, _, es, clock, h, _⟩ := h; exact ⟨es, clock, h⟩
theorem MapI.kept {w w' : World} {b : Nat} {l : List Int} (h : MapI w b l) (hw : w'.heap[b]? = w.heap[b]?) : MapI w' b l := by
  obtain ⟨P, k, e, hk, he, es, clock, hb, r⟩ := h
  exact ⟨P, k, e, hk, he, es, clock, hw.trans hb, r⟩
theorem MapI.no_cells {w : World} {b : Nat} {l : List Int} (h : MapI w b l) {cs : Array Value} {e : Nat} {f : Nat × Nat} (hc : w.heap[b]? = some (.cells cs e f)) : False := by
  obtain ⟨es, clock, h⟩ := h.obj
  rw [hc] at h; cases h
theorem keyOf_any {P P' : Program} {k k' : TypeId} (hk : P.underlying k = some (.int .i64)) (hk' : P'.underlying k' = some (.int .i64)) : keyOf P k = keyOf P' k' := by
  funext v
  simp only [keyOf, hk, hk', mapKey]
theorem plain_any {P P' : Program} {e e' : TypeId} (he : P.underlying e = some .bool) (he' : P'.underlying e' = some .bool) : plainElem (H := Unit) P e = plainElem P' e' := by
  funext v
  unfold plainElem
  rw [he, he']
theorem MapI.at {w : World} {b : Nat} {l : List Int} (h : MapI w b l) {P : Program} {k e : TypeId} (hk : P.underlying k = some (.int .i64)) (he : P.underlying e = some .bool) : w.ownsMap P k (plainElem P e) b l.length (mapD l) := by
  obtain ⟨P', k', e', hk', he', es, clock, hb, F, hs, hd⟩ := h
  have hr : ∀ x, Go.WideElems.rd P k (plainElem (H := Unit) P e) x = Go.WideElems.rd P' k' (plainElem P' e') x := fun x => by
    unfold Go.WideElems.rd; rw [keyOf_any hk hk', plain_any he he']
  have hg : Go.WideElems.rg P k (plainElem (H := Unit) P e) = Go.WideElems.rg P' k' (plainElem P' e') := by
    funext x; unfold Go.WideElems.rg; rw [hr]
  exact ⟨es, clock, hb, ⟨F.size, F.stamped, fun x hx => by rw [hr]; exact F.reads x hx⟩, hs, by rw [hg]; exact hd⟩

/-- The view: the world, what each key stands for (a block or none; how many cells), the blocks that are kept, the next key. -/
structure Sg where
  w : World
  ρ : Nat → Option (Option Nat × Nat)
  μ : Nat → Option Nat
  prot : Nat → Prop
  base : Nat
  fr : Nat → Prop
  used : Nat → Prop
  next : Nat

inductive RV (s : Sg) : Value → D → Prop
  | pure {v : Value} {d : D} (h : RP s.w s.prot v d) : RV s v d
  | sl (a : Option Addr) (k sz off len cap : Nat) (hk : s.used k) (hna : len ≠ 0 → a ≠ none) (hlc : len ≤ cap)
      (h : ∀ x n, s.ρ k = some (x, n) → n ≤ off + cap * sz ∧ (cap = 0 ∨ ∃ b cs e, x = some b ∧ a = some ⟨b, off, none⟩ ∧ s.w.heap[b]? = some (.cells cs e (0, 0)) ∧ off + cap * sz ≤ cs.size)) :
      RV s (.slice a len cap) (.sl k sz off len)
  | pt (b k off : Nat) (hk : s.used k) (h : ∀ x n, s.ρ k = some (x, n) → x = some b) : RV s (.pointer (some ⟨b, off, none⟩)) (.pt k off)
  | agg (cs : Array Value) (ds : List D) (hl : cs.toList.length = ds.length) (ho : ∀ v ∈ cs.toList, v.oneCell' = true) (hr : ∀ (i : Nat) (v : Value) (d : D), cs.toList[i]? = some v → ds[i]? = some d → RV s v d) : RV s (.agg cs) (.agg ds)
  | tup (cs : Array Value) (ds : List D) (hl : cs.toList.length = ds.length) (hr : ∀ (i : Nat) (v : Value) (d : D), cs.toList[i]? = some v → ds[i]? = some d → RV s v d) : RV s (.tuple cs) (.tup ds)
  | fn (f : Nat) (as bs : Array Value) (ds es : List D) (hl : as.toList.length = ds.length) (hm : bs.toList.length = es.length)
      (hr : ∀ (i : Nat) (v : Value) (d : D), as.toList[i]? = some v → ds[i]? = some d → RV s v d) (hs : ∀ (i : Nat) (v : Value) (d : D), bs.toList[i]? = some v → es[i]? = some d → RV s v d) :
      RV s (.func (.func f) as bs) (.fn f ds es)
  | mp (b k : Nat) (hk : s.used k) (h : s.μ k = some b) : RV s (.map (some b)) (.mp k)
  | vn {v : Value} {sz len : Nat} {cells : List D} (h : RP s.w s.fr v (.vs sz cells len)) : RV s v (.vn sz cells len)

/-- What no operation here touches. -/
structure SameO (w w' : World) : Prop where
  os : w'.os = w.os
  tape : w'.tape = w.tape
  output : w'.output = w.output
theorem SameO.refl (w : World) : SameO w w := ⟨rfl, rfl, rfl⟩
theorem SameO.trans {a b c : World} (h : SameO a b) (k : SameO b c) : SameO a c := ⟨k.os.trans h.os, k.tape.trans h.tape, k.output.trans h.output⟩

structure Ext (s s' : Sg) : Prop where
  next : s.next ≤ s'.next
  used : ∀ k, s.used k → s'.used k
  size : s.w.heap.size ≤ s'.w.heap.size
  prot : ∀ b, s.prot b → s'.prot b ∧ s'.w.heap[b]? = s.w.heap[b]?
  key : ∀ k x, s.used k → s'.ρ k = some x → s.ρ k = some x
  blk : ∀ k b n cs e, s.used k → s'.ρ k = some (some b, n) → s.w.heap[b]? = some (.cells cs e (0, 0)) → ∃ cs', s'.w.heap[b]? = some (.cells cs' e (0, 0)) ∧ cs'.size = cs.size
  so : SameO s.w s'.w
  mu : ∀ k, s.used k → s'.μ k = s.μ k
  bs : s'.base = s.base
  frm : ∀ b, s.fr b → s'.fr b ∧ s'.w.heap[b]? = s.w.heap[b]?

theorem Ext.refl (s : Sg) : Ext s s := ⟨Nat.le_refl _, fun _ h => h, Nat.le_refl _, fun _ h => ⟨h, rfl⟩, fun _ _ _ h => h, fun _ _ _ cs _ _ _ h => ⟨cs, h, rfl⟩, .refl _, fun _ _ => rfl, rfl, fun _ h => ⟨h, rfl⟩⟩

theorem Ext.trans {s t u : Sg} (h : Ext s t) (h' : Ext t u) : Ext s u where
  next := Nat.le_trans h.next h'.next
  used k hk := h'.used k (h.used k hk)
  size := Nat.le_trans h.size h'.size
  prot b hb := ⟨(h'.prot b (h.prot b hb).1).1, ((h'.prot b (h.prot b hb).1).2).trans (h.prot b hb).2⟩
  key k x hk hx := h.key k x hk (h'.key k x (h.used k hk) hx)
  blk k b n cs e hk hx hh := by
    have hx' := h'.key k _ (h.used k hk) hx
    obtain ⟨c1, h1, e1⟩ := h.blk k b n cs e hk hx' hh
    obtain ⟨c2, h2, e2⟩ := h'.blk k b n c1 e (h.used k hk) hx h1
    exact ⟨c2, h2, e2.trans e1⟩
  so := h.so.trans h'.so
  mu k hk := (h'.mu k (h.used k hk)).trans (h.mu k hk)
  bs := h'.bs.trans h.bs
  frm b hb := ⟨(h'.frm b (h.frm b hb).1).1, ((h'.frm b (h.frm b hb).1).2).trans (h.frm b hb).2⟩

theorem RV.mono {s s' : Sg} (hx : Ext s s') {v : Value} {d : D} (h : RV s v d) : RV s' v d := by
  induction h with
  | pure h => exact .pure (h.mono hx.prot)
  | sl a k sz off len cap hk hna hlc h =>
    refine .sl a k sz off len cap (hx.used k hk) hna hlc (fun x n hn => ?_)
    obtain ⟨h1, h3⟩ := h x n (hx.key k _ hk hn)
    refine ⟨h1, h3.imp id ?_⟩
    rintro ⟨b, cs, e, rfl, ha, hb, hs⟩
    obtain ⟨c', hc', hs'⟩ := hx.blk k b n cs e hk hn hb
    exact ⟨b, c', e, rfl, ha, hc', by omega⟩
  | pt b k off hk h => exact .pt b k off (hx.used k hk) (fun x n hn => h x n (hx.key k _ hk hn))
  | agg cs ds hl ho hr ih => exact .agg cs ds hl ho ih
  | tup cs ds hl hr ih => exact .tup cs ds hl ih
  | fn f as bs ds es hl hm hr hs ih1 ih2 => exact .fn f as bs ds es hl hm ih1 ih2
  | mp b k hk h => exact .mp b k (hx.used k hk) ((hx.mu k hk).trans h)
  | vn h => exact .vn (h.mono hx.frm)

/-- A cell's value. -/
def RC (s : Sg) (v : Value) (d : D) : Prop := RV s v d ∧ v.oneCell' = true
theorem RC.mono {s s' : Sg} (hx : Ext s s') {v : Value} {d : D} (h : RC s v d) : RC s' v d := ⟨h.1.mono hx, h.2⟩

def All2 {α β : Type} (R : α → β → Prop) (xs : List α) (ys : List β) : Prop := xs.length = ys.length ∧ ∀ (i : Nat) (x : α) (y : β), xs[i]? = some x → ys[i]? = some y → R x y

section All2
variable {α β : Type} {R : α → β → Prop}
theorem All2.nil : All2 R [] [] := ⟨rfl, by simp⟩
theorem All2.cons {x : α} {y : β} {xs : List α} {ys : List β} (h : R x y) (t : All2 R xs ys) : All2 R (x :: xs) (y :: ys) := by
  refine ⟨by simp [t.1], ?_⟩
  intro i a b ha hb
  cases i with
  | zero => simp at ha hb; subst ha; subst hb; exact h
  | succ i => simp at ha hb; exact t.2 i a b ha hb
theorem All2.mono {R' : α → β → Prop} (hr : ∀ x y, R x y → R' x y) {xs : List α} {ys : List β} (h : All2 R xs ys) : All2 R' xs ys := ⟨h.1, fun i x y hx hy => hr _ _ (h.2 i x y hx hy)⟩
theorem All2.append {xs xs' : List α} {ys ys' : List β} (h : All2 R xs ys) (h' : All2 R xs' ys') : All2 R (xs ++ xs') (ys ++ ys') := by
  refine ⟨by simp [h.1, h'.1], ?_⟩
  intro i a b ha hb
  rw [List.getElem?_append] at ha hb
  rw [h.1] at ha
  by_cases hi : i < ys.length
  · rw [if_pos hi] at ha hb; exact h.2 i a b ha hb
  · rw [if_neg hi] at ha hb; exact h'.2 _ a b ha hb
theorem All2.take (n : Nat) {xs : List α} {ys : List β} (h : All2 R xs ys) : All2 R (xs.take n) (ys.take n) := by
  refine ⟨by simp [h.1], ?_⟩
  intro i a b ha hb
  rw [List.getElem?_take] at ha hb
  by_cases hi : i < n
  · rw [if_pos hi] at ha hb; exact h.2 i a b ha hb
  · rw [if_neg hi] at ha; simp at ha
theorem All2.drop (n : Nat) {xs : List α} {ys : List β} (h : All2 R xs ys) : All2 R (xs.drop n) (ys.drop n) := by
  refine ⟨by simp [h.1], ?_⟩
  intro i a b ha hb
  rw [List.getElem?_drop] at ha hb
  exact h.2 _ a b ha hb
theorem All2.get {xs : List α} {ys : List β} (h : All2 R xs ys) {i : Nat} {y : β} (hy : ys[i]? = some y) : ∃ x, xs[i]? = some x ∧ R x y := by
  have : i < ys.length := by
    rcases Nat.lt_or_ge i ys.length with h' | h'
    · exact h'
    · simp [List.getElem?_eq_none h'] at hy
  have hx : i < xs.length := by rw [h.1]; exact this
  exact ⟨xs[i], List.getElem?_eq_getElem hx, h.2 i _ _ (List.getElem?_eq_getElem hx) hy⟩
end All2

/-- The own blocks. -/
structure RH (s : Sg) (h : Heap) : Prop where
  lt : ∀ b, s.prot b → b < s.w.heap.size
  inj : ∀ k k' b n n', s.ρ k = some (some b, n) → s.ρ k' = some (some b, n') → k = k'
  dead : ∀ k, h k = none → s.ρ k = none
  bound : ∀ k, s.used k → k < s.next
  own : ∀ k c, h k = some c → s.used k ∧ ∃ x, s.ρ k = some (x, c.length) ∧ (x = none → c = [] ∨ ∃ l b, c = [.mpc l] ∧ s.μ k = some b ∧ MapI s.w b l) ∧
    ∀ b, x = some b → ¬ s.prot b ∧ ∃ cs e, s.w.heap[b]? = some (.cells cs e (0, 0)) ∧ c.length ≤ cs.size ∧ All2 (RC s) (cs.toList.take c.length) c
  mu : ∀ k b, s.used k → s.μ k = some b → (b < s.w.heap.size ∧ ∃ es clock, s.w.heap[b]? = some (.map es clock)) ∧ ¬ s.prot b ∧ ∀ k', s.used k' → s.μ k' = some b → k' = k
  bp : ∀ b, b < s.base → s.prot b
  fp : ∀ b, s.fr b → s.prot b ∧ s.base ≤ b

theorem RH.isUsed {s : Sg} {h : Heap} (H : RH s h) {k : Nat} {c : List D} (hk : h k = .some c) : s.used k := (H.own k c hk).1

theorem RH.fresh {s : Sg} {h : Heap} (H : RH s h) {k : Nat} (hk : ¬ s.used k) : h k = .none := by
  cases e : h k with
  | none => rfl
  | some c => exact absurd (H.own k c e).1 hk

theorem RH.next_free {s : Sg} {h : Heap} (H : RH s h) : ¬ s.used s.next := fun hu => Nat.lt_irrefl _ (H.bound _ hu)

/-- The block that an own key stands for. -/
theorem RH.block {s : Sg} {h : Heap} (H : RH s h) {k : Nat} {c : List D} (hk : h k = .some c) {b : Nat} {n : Nat} (hb : s.ρ k = .some (.some b, n)) :
    n = c.length ∧ ¬ s.prot b ∧ ∃ cs e, s.w.heap[b]? = .some (.cells cs e (0, 0)) ∧ c.length ≤ cs.size ∧ All2 (RC s) (cs.toList.take c.length) c := by
  obtain ⟨_, x, hx, _, hq⟩ := H.own k c hk
  rw [hb] at hx
  injection hx with hx
  injection hx with h1 h2
  subst h1
  exact ⟨h2, hq b rfl⟩

/-- A new block, under a key that is not in use. -/
theorem RH.alloc {s : Sg} {h : Heap} (H : RH s h) (e : Nat) (row : List Value) (c : List D) (hc : All2 (RC s) (row.take c.length) c) (kk : Nat) (hkk : ¬ s.used kk) (w' : World) (hw : w'.heap = s.w.heap.push (.cells row.toArray e (0, 0))) (hso : SameO s.w w') :
    ∃ s' : Sg, s'.w = w' ∧ Ext s s' ∧ RH s' (upd h kk c) ∧ s'.used kk ∧ (∀ k, s'.used k → s.used k ∨ k = kk) ∧
      s'.ρ kk = some (some s.w.heap.size, c.length) ∧ s'.w.heap[s.w.heap.size]? = some (.cells row.toArray e (0, 0)) := by
  have hcl : c.length ≤ row.length := by have := hc.1; simp at this; omega
  let s' : Sg := { w := w', ρ := fun k => if k = kk then some (some s.w.heap.size, c.length) else s.ρ k, μ := fun k => if k = kk then none else s.μ k, prot := s.prot, base := s.base, fr := s.fr, used := fun k => s.used k ∨ k = kk, next := max s.next (kk + 1) }
  have hmu : ∀ k, s.used k → s'.μ k = s.μ k := fun k hk => by
    show (if k = kk then none else s.μ k) = _
    rw [if_neg (fun e => hkk (by rw [← e]; exact hk))]
  have hold : ∀ b, b < s.w.heap.size → s'.w.heap[b]? = s.w.heap[b]? := by
    intro b hb
    show w'.heap[b]? = _
    rw [hw, Array.getElem?_push]
    rw [if_neg (by omega)]
  have hnew : s'.w.heap[s.w.heap.size]? = some (.cells row.toArray e (0, 0)) := by
    show w'.heap[s.w.heap.size]? = _
    rw [hw]; simp
  have hltb : ∀ b cs e, s.w.heap[b]? = some (.cells cs e (0, 0)) → b < s.w.heap.size := by
    intro b cs e hb
    rcases Nat.lt_or_ge b s.w.heap.size with h' | h'
    · exact h'
    · simp [Array.getElem?_eq_none h'] at hb
  have hx : Ext s s' := by
    refine ⟨by show s.next ≤ max s.next (kk + 1); omega, fun k hk => .inl hk, by show s.w.heap.size ≤ w'.heap.size; rw [hw]; simp, fun b hb => ⟨hb, hold b (H.lt b hb)⟩, ?_, ?_, hso, hmu, rfl, fun b hb => ⟨hb, hold b (H.lt b (H.fp b hb).1)⟩⟩
    · intro k x hk hx
      have hx' : (if k = kk then some (some s.w.heap.size, c.length) else s.ρ k) = some x := hx
      rw [if_neg (fun (e : k = kk) => hkk (by rw [← e]; exact hk))] at hx'
      exact hx'
    · intro k b n cs e' hk hx hb
      exact ⟨cs, (hold b (hltb b cs e' hb)).trans hb, rfl⟩
  have hfr : s.ρ kk = none := H.dead _ (H.fresh hkk)
  have hmus : ∀ k b, s'.used k → s'.μ k = some b → s.used k ∧ s.μ k = some b := by
    intro k b hk hb
    have hb' : (if k = kk then none else s.μ k) = some b := hb
    by_cases e : k = kk
    · rw [if_pos e] at hb'; cases hb'
    · rw [if_neg e] at hb'; exact ⟨hk.resolve_right e, hb'⟩
  refine ⟨s', rfl, hx, ⟨?_, ?_, ?_, ?_, ?_, ?_, H.bp, H.fp⟩, .inr rfl, fun k hk => hk, by show (if kk = kk then _ else _) = _; simp, hnew⟩
  · intro b hb
    have := H.lt b hb
    show b < w'.heap.size
    rw [hw]; simp; omega
  · intro k k' b n n' h1 h2
    have h1' : (if k = kk then some (some s.w.heap.size, c.length) else s.ρ k) = some (some b, n) := h1
    have h2' : (if k' = kk then some (some s.w.heap.size, c.length) else s.ρ k') = some (some b, n') := h2
    have hother : ∀ k n, s.ρ k = some (some s.w.heap.size, n) → False := by
      intro k n hk
      cases e : h k with
      | none => rw [H.dead k e] at hk; cases hk
      | some c' =>
        obtain ⟨_, _, cs, e', hb, _⟩ := H.block e hk
        have := hltb _ _ _ hb
        omega
    by_cases hk : k = kk <;> by_cases hk' : k' = kk
    · omega
    · rw [if_pos hk] at h1'; rw [if_neg hk'] at h2'
      simp at h1'; obtain ⟨rfl, _⟩ := h1'
      exact (hother _ _ h2').elim
    · rw [if_neg hk] at h1'; rw [if_pos hk'] at h2'
      simp at h2'; obtain ⟨rfl, _⟩ := h2'
      exact (hother _ _ h1').elim
    · rw [if_neg hk] at h1'; rw [if_neg hk'] at h2'
      exact H.inj k k' b n n' h1' h2'
  · intro k hk
    have hk' : (if k = kk then some c else h k) = none := hk
    show (if k = kk then some (some s.w.heap.size, c.length) else s.ρ k) = none
    by_cases e : k = kk
    · rw [if_pos e] at hk'; cases hk'
    · rw [if_neg e] at hk' ⊢; exact H.dead k hk'
  · intro k hk
    show k < max s.next (kk + 1)
    rcases hk with hk | hk
    · have := H.bound k hk; omega
    · omega
  · intro k c' hk
    have hk' : (if k = kk then some c else h k) = some c' := hk
    by_cases e' : k = kk
    · rw [if_pos e'] at hk'
      injection hk' with hk'
      subst hk'
      refine ⟨.inr e', some s.w.heap.size, by show (if k = kk then _ else _) = _; rw [if_pos e'], by simp, ?_⟩
      intro b hb
      injection hb with hb
      subst hb
      refine ⟨fun hp => absurd (H.lt _ hp) (by omega), row.toArray, e, hnew, by simpa using hcl, ?_⟩
      simpa using hc.mono fun _ _ h => h.mono hx
    · rw [if_neg e'] at hk'
      obtain ⟨hlt, x, hx', hn, hq⟩ := H.own k c' hk'
      refine ⟨.inl hlt, x, by show (if k = kk then _ else _) = _; rw [if_neg e']; exact hx', fun h0 => (hn h0).imp id fun ⟨l, b, h1, h2, h3⟩ => ⟨l, b, h1, (hmu k hlt).trans h2, h3.kept (hold b h3.lt)⟩, ?_⟩
      intro b hb
      obtain ⟨hp, cs, e2, hb2, hl, hall⟩ := hq b hb
      exact ⟨hp, cs, e2, (hold b (hltb b cs e2 hb2)).trans hb2, hl, hall.mono fun _ _ h => h.mono hx⟩
  · intro k b hk hb
    obtain ⟨h1, h2⟩ := hmus k b hk hb
    obtain ⟨⟨h3, h3m⟩, h4, h5⟩ := H.mu k b h1 h2
    refine ⟨⟨by show b < w'.heap.size; rw [hw]; simp; omega, by rw [hold b h3]; exact h3m⟩, h4, fun k' hk' hb' => ?_⟩
    obtain ⟨h6, h7⟩ := hmus k' b hk' hb'
    exact h5 k' h6 h7

/-- Writes to an own block: its row turns from 'cs' to 'cs'', of the same size. -/
theorem RH.write {s : Sg} {h : Heap} (H : RH s h) {k : Nat} {c : List D} (hk : h k = .some c) {b n e : Nat} (hb : s.ρ k = .some (.some b, n)) {cs cs' : Array Value}
    (hh : s.w.heap[b]? = .some (.cells cs e (0, 0))) (hsz : cs'.size = cs.size) (w' : World) (hws : w'.heap.size = s.w.heap.size) (hsame : w'.heap[b]? = .some (.cells cs' e (0, 0))) (hoth : ∀ b', b' ≠ b → w'.heap[b']? = s.w.heap[b']?) (c' : List D) (hcl : c'.length = c.length)
    (hc : All2 (RC s) (cs'.toList.take c.length) c') (hso : SameO s.w w') :
    ∃ s' : Sg, s'.w = w' ∧ Ext s s' ∧ RH s' (upd h k c') ∧ s'.ρ = s.ρ ∧ s'.used = s.used := by
  let s' : Sg := { w := w', ρ := s.ρ, μ := s.μ, prot := s.prot, base := s.base, fr := s.fr, used := s.used, next := s.next }
  obtain ⟨hnl, hnp, _⟩ := H.block hk hb
  have hx : Ext s s' := by
    refine ⟨Nat.le_refl _, fun _ h => h, by show s.w.heap.size ≤ w'.heap.size; omega, fun b' hb' => ⟨hb', hoth b' (fun h => hnp (h ▸ hb'))⟩, fun _ _ _ h => h, ?_, hso, fun _ _ => rfl, rfl, fun b' hb' => ⟨hb', hoth b' (fun h => hnp (h ▸ (H.fp b' hb').1))⟩⟩
    intro k' b' n' cs2 e2 hk' hx' hb'
    by_cases hbb : b' = b
    · subst hbb
      rw [hh] at hb'
      injection hb' with hb'
      injection hb' with h1 h2
      subst h1; subst h2
      exact ⟨cs', hsame, hsz⟩
    · exact ⟨cs2, (hoth b' hbb).trans hb', rfl⟩
  refine ⟨s', rfl, hx, ⟨?_, H.inj, ?_, H.bound, ?_, fun k b h1 h2 => by
    obtain ⟨⟨h3, h3m⟩, h4⟩ := H.mu k b h1 h2
    refine ⟨⟨by show b < w'.heap.size; omega, ?_⟩, h4⟩
    show ∃ es clock, w'.heap[_]? = _
    rw [hoth _ (fun e => by obtain ⟨_, _, h6⟩ := h3m; rw [e, hh] at h6; cases h6)]; exact h3m, H.bp, H.fp⟩, rfl, rfl⟩
  · intro b' hb'
    have := H.lt b' hb'
    show b' < w'.heap.size
    omega
  · intro k' hk'
    have hk2 : (if k' = k then some c' else h k') = none := hk'
    by_cases ek : k' = k
    · rw [if_pos ek] at hk2; cases hk2
    · rw [if_neg ek] at hk2; exact H.dead k' hk2
  · intro k' c2 hk'
    have hk2 : (if k' = k then some c' else h k') = some c2 := hk'
    by_cases ek : k' = k
    · subst ek
      rw [if_pos rfl] at hk2
      injection hk2 with hk2
      subst hk2
      obtain ⟨hl, x, hx', hn, hq⟩ := H.own k' c hk
      rw [hb] at hx'
      injection hx' with hx'
      injection hx' with h1 h2
      subst h1
      refine ⟨hl, some b, by show s.ρ k' = _; rw [hb, hcl, ← h2], by simp, ?_⟩
      intro b2 hb2
      injection hb2 with hb2
      subst hb2
      obtain ⟨hp, cs3, e3, hb3, hl3, _⟩ := hq b rfl
      rw [hh] at hb3
      injection hb3 with hb3
      injection hb3 with h3 h4
      subst h3
      refine ⟨hp, cs', e, hsame, by omega, ?_⟩
      rw [hcl]
      exact hc.mono fun _ _ h => h.mono hx
    · rw [if_neg ek] at hk2
      obtain ⟨hl, x, hx', hn, hq⟩ := H.own k' c2 hk2
      refine ⟨hl, x, hx', fun h0 => (hn h0).imp id fun ⟨l, b2, h1, h2, h3⟩ => ⟨l, b2, h1, h2, h3.kept (hoth b2 (fun e => by subst e; exact h3.no_cells hh))⟩, ?_⟩
      intro b2 hb2
      subst hb2
      obtain ⟨hp, cs3, e3, hb3, hl3, hall⟩ := hq b2 rfl
      have hne : b2 ≠ b := by
        intro hbb
        subst hbb
        exact ek (H.inj k' k b2 _ _ hx' hb)
      exact ⟨hp, cs3, e3, (hoth b2 hne).trans hb3, hl3, hall.mono fun _ _ h => h.mono hx⟩

/-- A key is given up. -/
theorem RH.drop {s : Sg} {h : Heap} (H : RH s h) (k : Nat) :
    ∃ s' : Sg, s'.w = s.w ∧ Ext s s' ∧ RH s' (del h k) ∧ s'.used = s.used := by
  let s' : Sg := { w := s.w, ρ := fun i => if i = k then none else s.ρ i, μ := s.μ, prot := s.prot, base := s.base, fr := s.fr, used := s.used, next := s.next }
  have hρ : ∀ i x, s'.ρ i = some x → i ≠ k ∧ s.ρ i = some x := by
    intro i x hx
    have hx' : (if i = k then none else s.ρ i) = some x := hx
    by_cases e : i = k
    · rw [if_pos e] at hx'; cases hx'
    · rw [if_neg e] at hx'; exact ⟨e, hx'⟩
  have hx : Ext s s' := ⟨Nat.le_refl _, fun _ h => h, Nat.le_refl _, fun _ h => ⟨h, rfl⟩, fun i x _ hx => (hρ i x hx).2, fun _ _ _ cs _ _ _ h => ⟨cs, h, rfl⟩, .refl _, fun _ _ => rfl, rfl, fun _ h => ⟨h, rfl⟩⟩
  refine ⟨s', rfl, hx, ⟨H.lt, ?_, ?_, H.bound, ?_, H.mu, H.bp, H.fp⟩, rfl⟩
  · intro k1 k2 b n n' h1 h2
    exact H.inj k1 k2 b n n' (hρ _ _ h1).2 (hρ _ _ h2).2
  · intro i hi
    have hi' : (if i = k then none else h i) = none := hi
    show (if i = k then none else s.ρ i) = none
    by_cases e : i = k
    · rw [if_pos e]
    · rw [if_neg e] at hi' ⊢; exact H.dead i hi'
  · intro i c hi
    have hi' : (if i = k then none else h i) = some c := hi
    by_cases e : i = k
    · rw [if_pos e] at hi'; cases hi'
    · rw [if_neg e] at hi'
      obtain ⟨hl, x, hx', hn, hq⟩ := H.own i c hi'
      refine ⟨hl, x, by show (if i = k then none else s.ρ i) = _; rw [if_neg e]; exact hx', hn, ?_⟩
      intro b hb
      obtain ⟨hp, cs, e2, hb2, hl2, hall⟩ := hq b hb
      exact ⟨hp, cs, e2, hb2, hl2, hall.mono fun _ _ h => h.mono hx⟩

end Go.AM
