/- Arguments, read by value: from what a row says of its arguments to data by value. Generic over the program. -/
import Derived.Test.YthblalidmmbcoaaAmX
import Derived.OpenShut
import Derived.ProofKit
import Derived.ChangeOld
import Derived.ChangeArms
import Derived.Below
import Derived.Carry
set_option linter.unusedSimpArgs false
set_option linter.unusedVariables false
namespace Go.AM
open Go.ChangeShapes Go.RowKit

/-- Field after field, without gaps. -/
def consec (P : Program) : Nat → List Field → Bool
  | _, [] => true
  | o, f :: r => (f.offset == o) && consec P (o + P.cellsOf f.type) r
def fsum (P : Program) : List Field → Nat
  | [] => 0
  | f :: r => P.cellsOf f.type + fsum P r
/-- The types that data by value stand for. -/
def sup (P : Program) : Nat → TypeId → Bool
  | 0, _ => false
  | n + 1, t => match P.underlying t with
    | some .bool => P.cellsOf t == 1
    | some (.int _) => P.cellsOf t == 1
    | some .string => P.cellsOf t == 1
    | some (.slice e) => P.cellsOf t == 1 && decide (0 < P.cellsOf e) && sup P n e
    | some (.struct fs) => consec P 0 fs.toList && (fsum P fs.toList == P.cellsOf t) && fs.toList.all fun f => sup P n f.type
    | some (.array k e) => (k * P.cellsOf e == P.cellsOf t) && sup P n e
    | _ => false
/-- What the cells of a value of the type look like. -/
def Typed (P : Program) : Nat → TypeId → List D → Prop
  | 0, _, _ => False
  | n + 1, t, ds => match P.underlying t with
    | some .bool => ∃ b, ds = [.bool b]
    | some (.int k) => ∃ x, ds = [.int k x] ∧ (Lit.int k x).wf = true
    | some .string => ∃ s, ds = [.str s] ∧ s.size ≤ maxLen
    | some (.slice e) => ∃ ps : List (List D), ds = [.vs (P.cellsOf e) ps.flatten ps.length] ∧ ps.length ≤ maxLen ∧ ∀ p ∈ ps, Typed P n e p
    | some (.struct fs) => ∃ ps : List (List D), ds = ps.flatten ∧ All2 (fun (f : Field) p => Typed P n f.type p) fs.toList ps
    | some (.array k e) => ∃ ps : List (List D), ds = ps.flatten ∧ ps.length = k ∧ ∀ p ∈ ps, Typed P n e p
    | _ => False

theorem mem_ix {α : Type} {l : List α} {a : α} (h : a ∈ l) : ∃ i, i < l.length ∧ l[i]? = some a := by
  obtain ⟨i, hi⟩ := List.mem_iff_getElem?.1 h
  refine ⟨i, ?_, hi⟩
  rcases Nat.lt_or_ge i l.length with h' | h'
  · exact h'
  · simp [List.getElem?_eq_none h'] at hi
theorem all2_app {α β : Type} {R : α → β → Prop} {a : List α} {b : List β} {a' : List α} {b' : List β} (h : All2 R a b) (h' : All2 R a' b') : All2 R (a ++ a') (b ++ b') := All2.append h h'
/-- Rows of equal length, each read: their joining is read. -/
theorem rows_read {R : Value → D → Prop} {T : List D → Prop} {sz : Nat} : ∀ (n : Nat) (cs : List Value), cs.length = n * sz →
    (∀ i, i < n → ∃ p, All2 R ((cs.drop (i * sz)).take sz) p ∧ T p) → ∃ ps : List (List D), ps.length = n ∧ All2 R cs ps.flatten ∧ (∀ p ∈ ps, T p)
  | 0, cs, hl, _ => by
    have : cs = [] := by cases cs with | nil => rfl | cons _ _ => simp at hl
    subst this
    exact ⟨[], rfl, ⟨rfl, fun i v d h => by simp at h⟩, by simp⟩
  | n + 1, cs, hl, h => by
    obtain ⟨p, hp, ht⟩ := h 0 (by omega)
    simp only [Nat.zero_mul, List.drop_zero] at hp
    have hl' : (cs.drop sz).length = n * sz := by rw [List.length_drop, hl, Nat.add_mul]; omega
    obtain ⟨ps, h1, h2, h3⟩ := rows_read n (cs.drop sz) hl' (fun i hi => by
      obtain ⟨p, hp, ht⟩ := h (i + 1) (by omega)
      refine ⟨p, ?_, ht⟩
      rw [List.drop_drop, show sz + i * sz = (i + 1) * sz by rw [Nat.add_mul]; omega]
      exact hp)
    refine ⟨p :: ps, by simp [h1], ?_, by simpa using ⟨ht, h3⟩⟩
    have := All2.append hp h2
    rw [List.take_append_drop] at this
    simpa using this
theorem fields_read {P : Program} {R : Value → D → Prop} {T : TypeId → List D → Prop} : ∀ (fs : List Field) (o : Nat) (cs : List Value), consec P o fs = true → cs.length = o + fsum P fs →
    (∀ f ∈ fs, ∃ p, All2 R ((cs.drop f.offset).take (P.cellsOf f.type)) p ∧ T f.type p) → ∃ ps : List (List D), All2 R (cs.drop o) ps.flatten ∧ All2 (fun (f : Field) p => T f.type p) fs ps
  | [], o, cs, _, hl, _ => by
    simp only [fsum, Nat.add_zero] at hl
    refine ⟨[], ?_, rfl, fun i v d h => by simp at h⟩
    rw [List.drop_of_length_le (by omega)]
    exact ⟨rfl, fun i v d h => by simp at h⟩
  | f :: r, o, cs, hc, hl, h => by
    simp only [consec, Bool.and_eq_true, beq_iff_eq] at hc
    simp only [fsum] at hl
    obtain ⟨p, hp, ht⟩ := h f (by simp)
    obtain ⟨ps, h1, h2⟩ := fields_read r (o + P.cellsOf f.type) cs hc.2 (by omega) (fun g hg => h g (by simp [hg]))
    refine ⟨p :: ps, ?_, All2.cons ht h2⟩
    rw [hc.1] at hp
    have := All2.append hp h1
    rw [← List.drop_drop, List.take_append_drop] at this
    simpa using this

section
variable {H : Type} {enc : TypeId × Value → H} {P : Program} {w : World} {base : Nat} {spare : Nat → Bool} {held : Bool}
theorem typed_of_trod : ∀ (m : Nat) (n : Nat) (t : TypeId) (cs : List Value) (x : DataW H × List MemPlace), sup P m t = true → DataW.trod enc P w base spare held n t cs = some x →
    ∃ ds, All2 (RPc w (below w.heap.size)) cs ds ∧ Typed P m t ds ∧ cs.length = P.cellsOf t := by
  intro m
  induction m with
  | zero => intro n t cs x hs; simp [sup] at hs
  | succ m ih =>
    intro n t cs x hs h
    unfold sup at hs
    have one : ∀ {v : Value} {d : D}, RPc w (below w.heap.size) v d → All2 (RPc w (below w.heap.size)) [v] [d] := fun h => All2.cons h All2.nil
    split at hs
    · rename_i hu
      obtain ⟨b, rfl, -⟩ := DataW.trod_bool hu h
      refine ⟨[.bool b], one ⟨.bool b, rfl⟩, ?_, ?_⟩
      · unfold Typed; rw [hu]; exact ⟨b, rfl⟩
      · simp at hs ⊢; omega
    · rename_i k hu
      obtain ⟨b, rfl, -, hw⟩ := DataW.trod_int hu h
      refine ⟨[.int k b], one ⟨.int k b, rfl⟩, ?_, ?_⟩
      · unfold Typed; rw [hu]; exact ⟨b, rfl, hw⟩
      · simp at hs ⊢; omega
    · rename_i hu
      obtain ⟨b, rfl, -, hw⟩ := DataW.trod_string hu h
      refine ⟨[.str b], one ⟨.str b, rfl⟩, ?_, ?_⟩
      · unfold Typed; rw [hu]; exact ⟨b, rfl, hw⟩
      · simp at hs ⊢; omega
    · rename_i e hu
      simp only [Bool.and_eq_true, beq_iff_eq, decide_eq_true_eq] at hs
      rcases DataW.trod_slice hu h with ⟨rfl, -⟩ | ⟨a, len, cap, elems, rest, n', _, rfl, -, hb, hl, hm, hlen, hel, -, -⟩
      · refine ⟨[.vs (P.cellsOf e) [] 0], one ⟨.vs0 _ _ _, rfl⟩, ?_, by simp; omega⟩
        unfold Typed; rw [hu]; exact ⟨[], rfl, by simp, by simp⟩
      · by_cases h0 : len = 0
        · subst h0
          refine ⟨[.vs (P.cellsOf e) [] 0], one ⟨.vs0 _ _ _, rfl⟩, ?_, by simp; omega⟩
          unfold Typed; rw [hu]; exact ⟨[], rfl, by simp, by simp⟩
        · have hat : ∀ i, i < len → ∃ cs', cs'.length = P.cellsOf e ∧ (∀ j, j < P.cellsOf e → w.cell? ((a.add (i * P.cellsOf e)).add j) = cs'[j]?) ∧ ∃ p, All2 (RPc w (below w.heap.size)) cs' p ∧ Typed P m e p := by
            intro i hi
            have h1 := hel i hi
            rw [List.getElem?_eq_getElem (by omega), Option.bind_eq_some_iff] at h1
            obtain ⟨cs', h2, h3⟩ := h1
            obtain ⟨_, h4, h5⟩ := World.cells?_some h2
            obtain ⟨p, h6, h7, _⟩ := ih _ _ _ _ hs.2 h3
            exact ⟨cs', h4, h5, p, h6, h7⟩
          obtain ⟨b, off, spot⟩ := a
          have hspot : spot = none := by
            obtain ⟨cs', h1, h2, _⟩ := hat 0 (by omega)
            have h3 := h2 0 (by omega)
            simp only [Nat.zero_mul, Addr.add, if_true] at h3
            rw [List.getElem?_eq_getElem (by omega)] at h3
            exact World.cell?_spot h3
          subst hspot
          have hadd : ∀ i j, ((⟨b, off, none⟩ : Addr).add i).add j = ⟨b, off + (i + j), none⟩ := by
            intro i j
            simp only [Addr.add]
            split <;> split <;> simp <;> omega
          -- the row
          have hcell : ∀ i, i < len * P.cellsOf e → ∃ v, w.cell? ⟨b, off + i, none⟩ = some v := by
            intro i hi
            have hq : i / P.cellsOf e < len := Nat.div_lt_of_lt_mul (by rw [Nat.mul_comm]; exact hi)
            obtain ⟨cs', h1, h2, _⟩ := hat _ hq
            have hr := Nat.mod_lt i hs.1.2
            have h3 := h2 (i % P.cellsOf e) hr
            rw [hadd, Nat.div_add_mod' i (P.cellsOf e), List.getElem?_eq_getElem (by omega)] at h3
            exact ⟨_, h3⟩
          let row : List Value := (List.range (len * P.cellsOf e)).map fun i => (w.cell? ⟨b, off + i, none⟩).getD undef
          have hrow : ∀ (i : Nat) (v : Value), row[i]? = some v → w.cell? ⟨b, off + i, none⟩ = some v := by
            intro i v hv
            simp only [row, List.getElem?_map, Option.map_eq_some_iff] at hv
            obtain ⟨j, hj, rfl⟩ := hv
            obtain ⟨hj1, rfl⟩ := List.getElem?_eq_some_iff.1 hj
            simp only [List.length_range] at hj1
            simp only [List.getElem_range] at *
            obtain ⟨v, hv⟩ := hcell _ hj1
            rw [hv]; rfl
          have hrl : row.length = len * P.cellsOf e := by simp [row]
          obtain ⟨ps, h1, h2, h3⟩ := rows_read (R := RPc w (below w.heap.size)) (T := Typed P m e) (sz := P.cellsOf e) len row hrl (fun i hi => by
            obtain ⟨cs', h4, h5, p, h6, h7⟩ := hat i hi
            refine ⟨p, ?_, h7⟩
            have : (row.drop (i * P.cellsOf e)).take (P.cellsOf e) = cs' := by
              apply List.ext_getElem?
              intro j
              have hi2 : (i + 1) * P.cellsOf e ≤ len * P.cellsOf e := Nat.mul_le_mul_right _ hi
              rw [Nat.add_mul] at hi2
              by_cases hj : j < P.cellsOf e
              · rw [List.getElem?_take_of_lt hj, List.getElem?_drop]
                have h8 := h5 j hj
                rw [hadd, List.getElem?_eq_getElem (by omega)] at h8
                have h9 : i * P.cellsOf e + j < row.length := by rw [hrl]; omega
                have h10 := hrow _ _ (List.getElem?_eq_getElem h9)
                rw [h8] at h10
                rw [List.getElem?_eq_getElem h9, List.getElem?_eq_getElem (by omega), ← Option.some.inj h10]
              · rw [List.getElem?_eq_none (by rw [List.length_take]; omega), List.getElem?_eq_none (by omega)]
            rw [this]; exact h6)
          refine ⟨[.vs (P.cellsOf e) ps.flatten len], one ⟨.vs b off cap (P.cellsOf e) len ps.flatten row (by rw [← h2.1, hrl]) hl ?_ h2.1 ?_ (fun i v hv => hrow i v hv) (fun i v d hv hd => (h2.2 i v d hv hd).1), rfl⟩, ?_, by simp; omega⟩
          · obtain ⟨v, hv⟩ := hcell 0 (by have := Nat.mul_pos (by omega : 0 < len) hs.1.2; omega)
            show b < w.heap.size
            rcases Nat.lt_or_ge b w.heap.size with h' | h'
            · exact h'
            · simp [World.cell?, Array.getElem?_eq_none h'] at hv
          · intro v hv
            obtain ⟨i, hi, hv⟩ := mem_ix hv
            have hi' : i < ps.flatten.length := by rw [← h2.1]; exact hi
            exact (h2.2 i v _ hv (List.getElem?_eq_getElem hi')).2
          · unfold Typed; rw [hu]
            exact ⟨ps, by rw [h1], by rw [h1]; omega, h3⟩
    · rename_i fs hu
      simp only [Bool.and_eq_true, beq_iff_eq] at hs
      obtain ⟨xs, n', _, -, hl, _, hf⟩ := DataW.trod_struct hu h
      obtain ⟨ps, h1, h2⟩ := fields_read (P := P) (R := RPc w (below w.heap.size)) (T := Typed P m) fs.toList 0 cs hs.1.1 (by rw [hl, ← hs.1.2]; omega) (fun f hm => by
        obtain ⟨i, hi, hm2⟩ := mem_ix hm
        have h1 := hf i f (by simpa using hm2)
        have h2 : ∃ y, xs[i]? = some y := by
          have : i < xs.length := by simp at hi; omega
          exact ⟨_, List.getElem?_eq_getElem this⟩
        obtain ⟨y, hy⟩ := h2
        rw [hy] at h1
        obtain ⟨p, h3, h4, _⟩ := ih _ _ _ _ (List.all_eq_true.1 hs.2 f hm) h1
        exact ⟨p, h3, h4⟩)
      refine ⟨ps.flatten, by simpa using h1, ?_, hl⟩
      unfold Typed; rw [hu]
      exact ⟨ps, rfl, h2⟩
    · rename_i k e hu
      simp only [Bool.and_eq_true, beq_iff_eq] at hs
      obtain ⟨xs, n', _, -, hl, hxl, hf⟩ := DataW.trod_array hu h
      obtain ⟨ps, h1, h2, h3⟩ := rows_read (R := RPc w (below w.heap.size)) (T := Typed P m e) (sz := P.cellsOf e) k cs (by rw [hl, hs.1]) (fun i hi => by
        have h1 := hf i hi
        rw [List.getElem?_eq_getElem (by omega)] at h1
        obtain ⟨p, h3, h4, _⟩ := ih _ _ _ _ hs.2 h1
        exact ⟨p, h3, h4⟩)
      refine ⟨ps.flatten, h2, ?_, hl⟩
      unfold Typed; rw [hu]
      exact ⟨ps, rfl, h1, h3⟩
    · cases hs

/-- An argument. -/
def isAgg (P : Program) (t : TypeId) : Bool := match P.underlying t with | some (.struct _) => true | some (.array _ _) => true | _ => false
def TypedA (P : Program) (t : TypeId) (d : D) : Prop := if isAgg P t then ∃ ds, d = .agg ds ∧ Typed P 6 t ds else Typed P 6 t [d]
theorem cells_one {r : Reach} {b0 : Nat} {t : TypeId} {v : Value} (hs : sup P 6 t = true) (ha : isAgg P t = false) (h : Value.okWide P w r b0 t v) : v.cells.toList = [v] := by
  unfold sup at hs
  unfold isAgg at ha
  unfold Value.okWide at h
  cases v with
  | agg cs =>
    exfalso
    split at hs <;> rename_i hu <;> simp only [hu] at h ha <;> first | (cases ha; done) | (cases hs; done) | (simp [Cell.okWide, Cell.ok, hu] at h)
  | _ => rfl
theorem args_open : ∀ (ts : List TypeId) (vs : List Value) (ds : List (DataW H)) (ps : List MemPlace), ts.all (sup P 6) = true → DataW.TrodAll enc P w base spare held ts vs ds ps →
    (∀ (j : Nat) t v, ts[j]? = some t → vs[j]? = some v → ∃ r b0, Value.okWide P w r b0 t v) → ∃ dts, All2 (RP w (below w.heap.size)) vs dts ∧ All2 (TypedA P) ts dts
  | [], [], [], _, _, _, _ => ⟨[], ⟨rfl, fun i v d h => by simp at h⟩, ⟨rfl, fun i v d h => by simp at h⟩⟩
  | t :: ts, v :: vs, d :: ds, ps, hs, h, hv => by
    simp only [List.all_cons, Bool.and_eq_true] at hs
    obtain ⟨p, q, h1, h2, rfl⟩ := h
    obtain ⟨dts, h3, h4⟩ := args_open ts vs ds q hs.2 h2 (fun j t v h h' => hv (j + 1) t v (by simpa using h) (by simpa using h'))
    obtain ⟨n, h1⟩ := h1
    obtain ⟨x, h5, h6, _⟩ := typed_of_trod 6 n t _ _ hs.1 h1
    obtain ⟨r, b0, hok⟩ := hv 0 t v rfl rfl
    cases ha : isAgg P t with
    | false =>
      rw [cells_one hs.1 ha hok] at h5
      obtain ⟨y, rfl⟩ : ∃ y, x = [y] := by
        have := h5.1
        match x, this with
        | [y], _ => exact ⟨y, rfl⟩
      refine ⟨y :: dts, All2.cons (h5.2 0 v y rfl rfl).1 h3, All2.cons ?_ h4⟩
      unfold TypedA; rw [ha]; exact h6
    | true =>
      have hag : ∃ cs, v = .agg cs := by
        unfold isAgg at ha
        unfold Value.okWide at hok
        split at ha <;> rename_i hu <;> first | (cases ha; done) | (simp only [hu] at hok; obtain ⟨cs, rfl, _⟩ := hok; exact ⟨cs, rfl⟩)
      obtain ⟨cs, rfl⟩ := hag
      refine ⟨.agg x :: dts, All2.cons (.agg cs x h5.1 ?_ (fun i v d hv hd => (h5.2 i v d hv hd).1)) h3, All2.cons ?_ h4⟩
      · intro v hv
        obtain ⟨i, hi, hv⟩ := mem_ix hv
        have hi' : i < x.length := by rw [← h5.1]; exact hi
        exact (h5.2 i v _ hv (List.getElem?_eq_getElem hi')).2
      · unfold TypedA; rw [ha]; exact ⟨x, rfl, h6⟩
  | [], _ :: _, _, _, _, h, _ => h.elim
  | [], [], _ :: _, _, _, h, _ => h.elim
  | _ :: _, [], _, _, _, h, _ => h.elim
  | _ :: _, _ :: _, [], _, _, h, _ => h.elim
theorem trodAll_stays {W W' : World} (hl : laidOutB P = true) (hb : Below W.heap.size W W') : ∀ (ts : List TypeId) (vs : List Value) (ds : List (DataW H)) (ps : List MemPlace), ts.all (fun t => P.readableRec t && decide (t < P.types.size)) = true →
    DataW.TrodAll enc P W 0 (fun _ => true) true ts vs ds ps → DataW.TrodAll enc P W' 0 (fun b => decide (b < W.heap.size)) true ts vs ds ps
  | [], [], [], _, _, h => h
  | t :: ts, v :: vs, d :: ds, ps, hs, h => by
    simp only [List.all_cons, Bool.and_eq_true, decide_eq_true_eq] at hs
    obtain ⟨p, q, h1, h2, rfl⟩ := h
    refine ⟨p, q, Below.trod hl hs.1.1 hs.1.2 h1 hb ?_, trodAll_stays hl hb ts vs ds q (by simpa using hs.2) h2, rfl⟩
    obtain ⟨m, hm⟩ := h1
    exact DataW.trod_lt m _ _ _ hm
  | [], _ :: _, _, _, _, h => h.elim
  | [], [], _ :: _, _, _, h => h.elim
  | _ :: _, [], _, _, _, h => h.elim
  | _ :: _, _ :: _, [], _, _, h => h.elim
end

/-! ### Typed data, opened -/
theorem one_arg {R : TypeId → D → Prop} {t : TypeId} {ds : List D} (h : All2 R #[t].toList ds) : ∃ a, ds = [a] ∧ R t a := by
  match ds, h.1 with
  | [a], _ => exact ⟨a, rfl, h.2 0 t a rfl rfl⟩
theorem two_args {R : TypeId → D → Prop} {t u : TypeId} {ds : List D} (h : All2 R #[t, u].toList ds) : ∃ a b, ds = [a, b] ∧ R t a ∧ R u b := by
  match ds, h.1 with
  | [a, b], _ => exact ⟨a, b, rfl, h.2 0 t a rfl rfl, h.2 1 u b rfl rfl⟩
theorem three_args {R : TypeId → D → Prop} {t u v : TypeId} {ds : List D} (h : All2 R #[t, u, v].toList ds) : ∃ a b c, ds = [a, b, c] ∧ R t a ∧ R u b ∧ R v c := by
  match ds, h.1 with
  | [a, b, c], _ => exact ⟨a, b, c, rfl, h.2 0 t a rfl rfl, h.2 1 u b rfl rfl, h.2 2 v c rfl rfl⟩
section
variable {P : Program} {t : TypeId}
theorem typed_int' {n : Nat} {k : IntKind} {ds : List D} (ht : P.underlying t = some (.int k)) (h : Typed P (n + 1) t ds) : ∃ x, ds = [.int k x] ∧ (Lit.int k x).wf = true := by
  unfold Typed at h; rw [ht] at h; exact h
theorem typed_bool' {n : Nat} {ds : List D} (ht : P.underlying t = some .bool) (h : Typed P (n + 1) t ds) : ∃ x, ds = [.bool x] := by
  unfold Typed at h; rw [ht] at h; exact h
theorem typed_slice' {n : Nat} {e : TypeId} {ds : List D} (ht : P.underlying t = some (.slice e)) (h : Typed P (n + 1) t ds) : ∃ ps : List (List D), ds = [.vs (P.cellsOf e) ps.flatten ps.length] ∧ ps.length ≤ maxLen ∧ ∀ p ∈ ps, Typed P n e p := by
  unfold Typed at h; rw [ht] at h; exact h
theorem typed_struct' {n : Nat} {fs : Array Field} {ds : List D} (ht : P.underlying t = some (.struct fs)) (h : Typed P (n + 1) t ds) : ∃ ps : List (List D), ds = ps.flatten ∧ All2 (fun (f : Field) p => Typed P n f.type p) fs.toList ps := by
  unfold Typed at h; rw [ht] at h; exact h
theorem typed_array' {n k : Nat} {e : TypeId} {ds : List D} (ht : P.underlying t = some (.array k e)) (h : Typed P (n + 1) t ds) : ∃ ps : List (List D), ds = ps.flatten ∧ ps.length = k ∧ ∀ p ∈ ps, Typed P n e p := by
  unfold Typed at h; rw [ht] at h; exact h
theorem typed_one {d : D} (ha : isAgg P t = false) (h : TypedA P t d) : Typed P 6 t [d] := by unfold TypedA at h; rw [ha] at h; exact h
theorem typed_agg {d : D} (ha : isAgg P t = true) (h : TypedA P t d) : ∃ ds, d = .agg ds ∧ Typed P 6 t ds := by unfold TypedA at h; rw [ha] at h; exact h
theorem agg_no {u : TypeDesc} (ht : P.underlying t = some u) (hu : (match u with | .struct _ => true | .array _ _ => true | _ => false) = false) : isAgg P t = false := by
  unfold isAgg; rw [ht]
  cases u <;> simp at hu ⊢
theorem agg_yes {u : TypeDesc} (ht : P.underlying t = some u) (hu : (match u with | .struct _ => true | .array _ _ => true | _ => false) = true) : isAgg P t = true := by
  unfold isAgg; rw [ht]
  cases u <;> simp at hu ⊢
theorem typed_int {k : IntKind} {d : D} (ht : P.underlying t = some (.int k)) (h : TypedA P t d) : ∃ x, d = .int k x ∧ (Lit.int k x).wf = true := by
  obtain ⟨x, h1, h2⟩ := typed_int' ht (typed_one (agg_no ht rfl) h)
  injection h1 with h1; exact ⟨x, h1, h2⟩
theorem typed_bool {d : D} (ht : P.underlying t = some .bool) (h : TypedA P t d) : ∃ x, d = .bool x := by
  obtain ⟨x, h1⟩ := typed_bool' ht (typed_one (agg_no ht rfl) h)
  injection h1 with h1; exact ⟨x, h1⟩
theorem typed_slice {e : TypeId} {d : D} (ht : P.underlying t = some (.slice e)) (h : TypedA P t d) : ∃ ps : List (List D), d = .vs (P.cellsOf e) ps.flatten ps.length ∧ ps.length ≤ maxLen ∧ ∀ p ∈ ps, Typed P 5 e p := by
  obtain ⟨x, h1, h2⟩ := typed_slice' ht (typed_one (agg_no ht rfl) h)
  injection h1 with h1; exact ⟨x, h1, h2⟩
theorem all_map {α β : Type} {f : β → α} {q : β → Prop} : ∀ {ps : List α}, (∀ p ∈ ps, ∃ b, p = f b ∧ q b) → ∃ l : List β, ps = l.map f ∧ ∀ b ∈ l, q b
  | [], _ => ⟨[], rfl, by simp⟩
  | p :: r, h => by
    obtain ⟨b, rfl, hb⟩ := h p (by simp)
    obtain ⟨l, rfl, hl⟩ := all_map (ps := r) (fun p hp => h p (by simp [hp]))
    exact ⟨b :: l, rfl, by simpa using ⟨hb, hl⟩⟩
theorem flat_one {α : Type} {f : α → D} (l : List α) : (l.map fun a => [f a]).flatten = l.map f := by induction l with | nil => rfl | cons a r ih => simp [ih]
theorem typed_ints {e : TypeId} {k : IntKind} {d : D} (ht : P.underlying t = some (.slice e)) (he : P.underlying e = some (.int k)) (hc : P.cellsOf e = 1) (h : TypedA P t d) : ∃ l : List Int, d = .vs 1 (l.map (.int k)) l.length ∧ l.length ≤ maxLen ∧ ∀ x ∈ l, (Lit.int k x).wf = true := by
  obtain ⟨ps, rfl, h1, h2⟩ := typed_slice ht h
  obtain ⟨l, rfl, h3⟩ := all_map (f := fun x => [D.int k x]) (q := fun x => (Lit.int k x).wf = true) (fun p hp => typed_int' he (h2 p hp))
  exact ⟨l, by rw [hc, flat_one, List.length_map], by simpa using h1, h3⟩
theorem typed_bools {e : TypeId} {d : D} (ht : P.underlying t = some (.slice e)) (he : P.underlying e = some .bool) (hc : P.cellsOf e = 1) (h : TypedA P t d) : ∃ l : List Bool, d = .vs 1 (l.map .bool) l.length ∧ l.length ≤ maxLen := by
  obtain ⟨ps, rfl, h1, h2⟩ := typed_slice ht h
  obtain ⟨l, rfl, h3⟩ := all_map (f := fun x => [D.bool x]) (q := fun _ => True) (fun p hp => let ⟨x, hx⟩ := typed_bool' he (h2 p hp); ⟨x, hx, trivial⟩)
  exact ⟨l, by rw [hc, flat_one, List.length_map], by simpa using h1⟩
theorem wf_i64 {x : Int} (h : (Lit.int .i64 x).wf = true) : -9223372036854775808 ≤ x ∧ x ≤ 9223372036854775807 := by
  simpa [Lit.wf, IntKind.has, IntKind.min, IntKind.max, IntKind.bits, IntKind.signed] using h
theorem wf_u8 {x : Int} (h : (Lit.int .u8 x).wf = true) : 0 ≤ x ∧ x ≤ 255 := by
  simpa [Lit.wf, IntKind.has, IntKind.min, IntKind.max, IntKind.bits, IntKind.signed] using h
theorem wf_u16 {x : Int} (h : (Lit.int .u16 x).wf = true) : 0 ≤ x ∧ x ≤ 65535 := by
  simpa [Lit.wf, IntKind.has, IntKind.min, IntKind.max, IntKind.bits, IntKind.signed] using h
end
end Go.AM
