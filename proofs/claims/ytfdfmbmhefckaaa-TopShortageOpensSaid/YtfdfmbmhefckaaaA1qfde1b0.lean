import Derived.RangeFuncBox
import Derived.RangeFuncLeaves
import Derived.Shelf.Abstract
import Derived.WalkKit
import Derived.OwnWalkIn
import Derived.TacticsInMore
import Derived.LoopNIn
import Derived.LoopIn
import Derived.Test.YtfdfmbmhefckaaaProg
import Derived.Test.YtfdfmbmhefckaaaAmZ3q6691b6
import Derived.RangeFuncWrites
import Derived.Maps.OwnIn
import Derived.RangeFuncCalls
import Derived.RangeFuncNested
import Derived.RangeFuncBound
import Derived.Shelf.RegionOpen
import Derived.TacticsIn
import Derived.RegionIn
import Derived.Maps.OwnSet
import Derived.Deep.RegionHeld
import Derived.Maps.AppendAt
import Derived.Test.YtfdfmbmhefckaaaAmS
import Derived.Test.YtfdfmbmhefckaaaRows
import Derived.Test.YtfdfmbmhefckaaaAmY
section
/- Generations: the frames in their order, as an iterator. -/
set_option linter.unusedSimpArgs false
set_option linter.unusedVariables false
namespace Go.Proofs.Ytfdfmbmhefckaaa
open Go.RowKit Go.Shelf
attribute [local go_sem] Oper.semAt_some
abbrev I64 := { x : Int // (Lit.int .i64 x).wf = true }
def z0 : I64 := ⟨0, by decide⟩
abbrev K64 := { k : Nat // (Lit.int .i64 (k : Int)).wf = true }
theorem k64_wf {k : Nat} (h : k ≤ 1000000) : (Lit.int .i64 (k : Int)).wf = true := by
  simp [Lit.wf, IntKind.has, IntKind.min, IntKind.max, IntKind.bits, IntKind.signed]
  omega
def k64 (k : Nat) : K64 := if h : (Lit.int .i64 (k : Int)).wf = true then ⟨k, h⟩ else ⟨0, by decide⟩
theorem k64_val {k : Nat} (h : k ≤ 1000000) : (k64 k).1 = k := by unfold k64; rw [dif_pos (k64_wf h)]
def fromRow (z : List I64) (k i : Nat) : List (K64 × I64) := (List.range i).map fun j => (k64 k, z[j]?.getD z0)
theorem fromRow_succ (z : List I64) (k i : Nat) : fromRow z k (i + 1) = fromRow z k i ++ [(k64 k, z[i]?.getD z0)] := by simp [fromRow, List.range_succ]
def fromRows (zs : List (List I64)) (k : Nat) : List (K64 × I64) := (List.range k).flatMap fun j => fromRow (zs[j]?.getD []) j (zs[j]?.getD []).length
theorem fromRows_succ (zs : List (List I64)) (k : Nat) : fromRows zs (k + 1) = fromRows zs k ++ fromRow (zs[k]?.getD []) k (zs[k]?.getD []).length := by simp [fromRows, List.range_succ]
theorem fromRows_le (zs : List (List I64)) {a b : Nat} (h : a ≤ b) : (fromRows zs a).length ≤ (fromRows zs b).length := by
  induction b with
  | zero => have : a = 0 := by omega
            subst this; exact Nat.le_refl _
  | succ b ih =>
    rcases Nat.lt_or_eq_of_le h with h | rfl
    · rw [fromRows_succ, List.length_append]
      have := ih (by omega)
      omega
    · exact Nat.le_refl _
theorem fromRow_pre (z : List I64) (k : Nat) {j : Nat} (h : j ≤ z.length) : fromRow z k j <+: fromRow z k z.length := by
  unfold fromRow
  rw [show z.length = j + (z.length - j) by omega, List.range_add, List.map_append]
  exact List.prefix_append _ _
theorem fromRows_pre' (zs : List (List I64)) {a b : Nat} (h : a ≤ b) : fromRows zs a <+: fromRows zs b := by
  induction b with
  | zero => have : a = 0 := by omega
            subst this; exact List.prefix_refl _
  | succ b ih =>
    rcases Nat.lt_or_eq_of_le h with h | rfl
    · rw [fromRows_succ]
      exact (ih (by omega)).trans (List.prefix_append _ _)
    · exact List.prefix_refl _
theorem fromRows_pre (zs : List (List I64)) {k j : Nat} (hk : k < zs.length) (hj : j ≤ (zs[k]?.getD []).length) : fromRows zs k ++ fromRow (zs[k]?.getD []) k j <+: fromRows zs zs.length := by
  refine List.IsPrefix.trans ?_ (fromRows_pre' zs (show k + 1 ≤ zs.length by omega))
  rw [fromRows_succ]
  exact (List.prefix_append_right_inj _).2 (fromRow_pre _ _ hj)
theorem fromRow_len (z : List I64) (k i : Nat) : (fromRow z k i).length = i := by simp [fromRow]
def IntsAt (n₀ : Nat) (W : World) (sv : Value) (zs : List I64) : Prop :=
  ∃ ad cap, sv = .slice ad zs.length cap ∧ ∀ j, j < zs.length → ∃ b off, ad = some ⟨b, off, none⟩ ∧ b < n₀ ∧ W.cell? ⟨b, off + j, none⟩ = some (.int .i64 (zs[j]?.getD z0).1)
theorem IntsAt.below {n₀ : Nat} {A B : World} (h : Below n₀ A B) {sv : Value} {zs : List I64} : IntsAt n₀ A sv zs → IntsAt n₀ B sv zs
  | ⟨ad, cap, e, hc⟩ => ⟨ad, cap, e, fun j hj => let ⟨b, off, e, hb, h1⟩ := hc j hj; ⟨b, off, e, hb, (h.cell (p := ⟨b, off + j, none⟩) hb).trans h1⟩⟩
def RowsAt (n₀ : Nat) (W : World) (b off : Nat) (zs : List (List I64)) : Prop := ∀ j, j < zs.length → ∃ sv, W.cell? ⟨b, off + j, none⟩ = some sv ∧ IntsAt n₀ W sv (zs[j]?.getD [])
theorem RowsAt.below {n₀ : Nat} {A B : World} (h : Below n₀ A B) {b off : Nat} {zs : List (List I64)} (hb : b < n₀) (hr : RowsAt n₀ A b off zs) : RowsAt n₀ B b off zs := fun j hj => by
  obtain ⟨sv, h1, h2⟩ := hr j hj
  exact ⟨sv, (h.cell (p := ⟨b, off + j, none⟩) hb).trans h1, h2.below h⟩
theorem RowsAt.mono {n₀ n₁ : Nat} (h : n₀ ≤ n₁) {W : World} {b off : Nat} {zs : List (List I64)} (hr : RowsAt n₀ W b off zs) : RowsAt n₁ W b off zs := fun j hj => by
  obtain ⟨sv, h1, ad, cap, h2, h3⟩ := hr j hj
  exact ⟨sv, h1, ad, cap, h2, fun i hi => let ⟨b', o', e, hb, hc⟩ := h3 i hi; ⟨b', o', e, Nat.lt_of_lt_of_le hb h, hc⟩⟩
set_option maxRecDepth 100000 in
set_option maxHeartbeats 4000000 in
theorem all1_in (F : Fence) (n : Nat) (hf : F.fn 93) (hro : F.round = none) (hn : 1 ≤ n) (l Bs n₀ b off cap : Nat) (zs : List (List I64)) (hz : zs.length ≤ 1000000) (hzs : ∀ z ∈ zs, z.length ≤ 1000000) (hb : b < n₀) (J Jx : List (K64 × I64) → World → Prop)
    (hY : ∀ pre x W, J pre W → pre.length < (fromRows zs zs.length).length → YieldAt F (n - 1) Try.prog l #[.int .i64 (x.1.1 : Int), .int .i64 x.2.1] W fun e W' =>
      (e = .returned (.bool true) ∧ J (pre ++ [x]) W' ∧ Below n₀ W W') ∨ (e = .returned (.bool false) ∧ Jx (pre ++ [x]) W'))
    (W : World) (hBs : W.cell? ⟨Bs, 0, none⟩ = some (.slice (some ⟨b, off, none⟩) zs.length cap)) (hc : RowsAt n₀ W b off zs) (h0 : J [] W) :
    CallsIn F n Try.prog 93 #[.func (.yield l) #[] #[], .pointer (some ⟨Bs, 0, none⟩)] W fun e W' => (∃ v, e = .returned v) ∧
      ((∃ ys, ys = fromRows zs zs.length ∧ J ys W') ∨ (∃ pre, pre <+: fromRows zs zs.length ∧ Jx pre W')) := by
  refine callsIn_of_wp Try.func93 rfl hf ?_ hro
  simp only [Try.ntmps93, List.size_toArray, List.length_cons, List.length_nil, Nat.reduceAdd, Nat.reduceSub, Array.replicate_succ, Array.replicate_zero, List.push_toArray, List.append_toArray, List.nil_append, List.cons_append]
  gi_wp2
  gi_loopw [9] (fun i wr => ∃ k : Nat, k ≤ zs.length ∧ i = .int .i64 k ∧ J (fromRows zs k) wr ∧ Below n₀ W wr)
    (fun i _ => zs.length - (intOf i).toNat)
  case atStart => exact ⟨0, Nat.zero_le _, rfl, h0, Below.refl _ _⟩
  case round =>
    obtain ⟨k, hk, rfl, hJs, hnx⟩ := hrel
    by_cases hlt : k < zs.length
    · obtain ⟨sv, hsv, hi⟩ := hc.below hnx hb k hlt
      have hlz : (zs[k]?.getD []).length ≤ 1000000 := by
        rw [List.getElem?_eq_getElem hlt]
        exact hzs _ (List.getElem_mem hlt)
      have hsum : ∀ j, j ≤ (zs[k]?.getD []).length → (fromRows zs k).length + j ≤ (fromRows zs zs.length).length := fun j hj => by
        have := fromRows_le zs (show k + 1 ≤ zs.length by omega)
        rw [fromRows_succ, List.length_append, fromRow_len] at this
        omega
      generalize hzk : zs[k]?.getD [] = z at *
      obtain ⟨ad, cap', rfl, hcs⟩ := hi
      gi_wp2
      gi_loopw [16] (fun i w2 => ∃ j : Nat, j ≤ z.length ∧ i = .int .i64 j ∧ J (fromRows zs k ++ fromRow z k j) w2 ∧ Below n₀ W w2 ∧ Below n₀ wr w2)
        (fun i _ => z.length - (intOf i).toNat)
      case atStart => exact ⟨0, Nat.zero_le _, rfl, by simpa [fromRow] using hJs, hnx, Below.refl _ _⟩
      case round =>
        obtain ⟨j, hj, rfl, hJ2, hn2, hn3⟩ := hrel
        by_cases hjt : j < z.length
        · obtain ⟨b2, off2, rfl, hb2, hcell⟩ := hcs j hjt
          have hcell2 := (hn3.cell (p := ⟨b2, off2 + j, none⟩) hb2).trans hcell
          obtain ⟨x, hx⟩ : ∃ x, z[j]?.getD z0 = x := ⟨_, rfl⟩
          rw [hx] at hcell2
          obtain ⟨fn, tmps, assign, body, hy, hR⟩ := hY _ (k64 k, x) _ hJ2 (by
            have := hsum z.length (Nat.le_refl _)
            rw [List.length_append, fromRow_len]; omega)
          dsimp only at hy
          rw [k64_val (by omega)] at hy
          gi_wp2
          refine hR.mono ?_
          rintro e W3 (⟨rfl, hJ3, hk3⟩ | ⟨rfl, hJx3⟩)
          · gi_wp2
            go_roundw
            case rel => exact ⟨j + 1, by omega, by simp, by rw [fromRow_succ, ← List.append_assoc, hx]; exact hJ3, hn2.trans hk3, hn3.trans hk3⟩
            case measure => simp [intOf]; omega
          · gi_wp2
            refine bodyPost_ret (results_none rfl _ _ _) rfl ?_
            exact ⟨⟨_, rfl⟩, .inr ⟨_, by have := fromRows_pre zs hlt (j := j + 1) (by rw [hzk]; omega); rw [hzk, fromRow_succ, hx, ← List.append_assoc] at this; exact this, hJx3⟩⟩
        · obtain rfl : j = z.length := by omega
          gi_wp2
          exact ⟨⟨k + 1, by omega, by simp, by rw [fromRows_succ, hzk]; exact hJ2, hn2⟩, by simp [intOf]; omega⟩
    · obtain rfl : k = zs.length := by omega
      gi_wp2
      go_end0
      exact ⟨⟨_, rfl⟩, .inl ⟨_, rfl, hJs⟩⟩
set_option maxHeartbeats 1000000 in
theorem all_in (F : Fence) (n : Nat) (hf : F.fn 90) (hro : F.round = none) (a : Option Addr) (len cap : Nat) (w : World) :
    CallsIn F n Try.prog 90 #[.slice a len cap] w fun e w' => e = .returned (.func (.func 93) #[] #[.pointer (some ⟨w.heap.size, 0, none⟩)]) ∧ w' = w.alloc (.cells #[.slice a len cap] 76) := by
  refine callsIn_of_wp Try.func90 rfl hf ?_ hro
  simp only [Try.ntmps90, List.size_toArray, List.length_cons, List.length_nil, Nat.reduceAdd, Nat.reduceSub, Array.replicate_succ, Array.replicate_zero, List.push_toArray, List.append_toArray, List.nil_append, List.cons_append]
  gi_wp2
  go_ret
  exact ⟨rfl, rfl⟩
theorem all_stops (F : Fence) (n : Nat) (hf : F.fn 93) (hro : F.round = none) (hn : 1 ≤ n) (Bs n₀ b off cap : Nat) (zs : List (List I64)) (hz : zs.length ≤ 1000000) (hzs : ∀ z ∈ zs, z.length ≤ 1000000) (w : World) (hBs : Bs < w.heap.size) (hn₀ : n₀ ≤ w.heap.size) (hb : b < n₀)
    (hc : w.cell? ⟨Bs, 0, none⟩ = some (.slice (some ⟨b, off, none⟩) zs.length cap)) (hI : RowsAt n₀ w b off zs) :
    SeqStopsK F n Try.prog 93 #[.pointer (some ⟨Bs, 0, none⟩)] (fun x : K64 × I64 => #[Value.int .i64 (x.1.1 : Int), Value.int .i64 x.2.1]) (Below n₀) (fun ys => ys = fromRows zs zs.length) (fun pre => pre <+: fromRows zs zs.length) (fromRows zs zs.length).length w := fun l J Jx W hW _ _ hY h0 => by
  have hc' := (hW.cell (p := ⟨Bs, 0, none⟩) hBs).trans hc
  refine (all1_in F n hf hro hn l Bs n₀ b off cap zs hz hzs hb J Jx hY W hc' (hI.below (hW.mono hn₀) hb) h0).mono ?_
  rintro e W' ⟨he, ⟨ys, rfl, hj⟩ | ⟨pre, hp, hj⟩⟩
  · exact ⟨he, .inl ⟨_, rfl, hj⟩⟩
  · exact ⟨he, .inr ⟨_, hp, hj⟩⟩
end Go.Proofs.Ytfdfmbmhefckaaa
end
section
/- Generations: the number of the list of each frame. -/
set_option linter.unusedSimpArgs false
set_option linter.unusedVariables false
namespace Go.Proofs.Ytfdfmbmhefckaaa
open Go.RowKit Go.Shelf
attribute [local go_sem] Oper.semAt_some
theorem cell_box_c {W : World} {b : Nat} {v : Value} {t : TypeId} (h : W.heap[b]? = some (.cells #[v] t (0, 0))) : W.cell? ⟨b, 0, none⟩ = some v ∧ W.frozen? ⟨b, 0, none⟩ = false := by
  constructor <;> simp [World.cell?, World.frozen?, h]
theorem cell_new_c (W : World) (v : Value) (t : TypeId) : (W.alloc (.cells #[v] t)).cell? ⟨W.heap.size, 0, none⟩ = some v ∧ (W.alloc (.cells #[v] t)).frozen? ⟨W.heap.size, 0, none⟩ = false :=
  cell_box_c (World.alloc_heap_new W _)
theorem cell_alloc_c {W : World} {a : Addr} {v : Value} (o : Obj) (h : W.cell? a = some v) : (W.alloc o).cell? a = some v := cell_kept h (World.grownBy_alloc W o none) (fun r e => by cases e)
def agesD {H : Type} (xs : List (K64 × I64)) : DataW H := xs.foldl (fun D x => D.put (.int .i64 x.2.1) (.lit (.int .i64 (x.1.1 : Int)))) (.map [])
theorem agesD_snoc {H : Type} (pre : List (K64 × I64)) (x : K64 × I64) : agesD (H := H) (pre ++ [x]) = (agesD pre).put (.int .i64 x.2.1) (.lit (.int .i64 (x.1.1 : Int))) := by simp [agesD]
set_option maxRecDepth 100000 in
set_option maxHeartbeats 4000000 in
theorem ages_in {H : Type} (F : Fence) (n : Nat) (h3 : F.fn 78) (h4 : F.fn 90) (h5 : F.fn 93) (hro : F.round = none) (hn : 3 ≤ n) (b off cap : Nat) (zs : List (List I64)) (hz : zs.length ≤ 1000000) (hzs : ∀ z ∈ zs, z.length ≤ 1000000) (hlen : (fromRows zs zs.length).length ≤ maxLen) (w : World) (hb : b < w.heap.size) (hI : RowsAt w.heap.size w b off zs) :
    CallsIn F n Try.prog 78 #[.slice (some ⟨b, off, none⟩) zs.length cap] w fun e W' => e = .returned (.map (some w.heap.size)) ∧ W'.ownsMap Try.prog 3 (plainElem (H := H) Try.prog 3) w.heap.size (fromRows zs zs.length).length (agesD (fromRows zs zs.length)) ∧ Below w.heap.size w W' := by
  have h1 : 1 ≤ n := by omega
  have hmm := @run_makeMap Try.prog
  refine callsIn_of_wp_marks Try.func78 rfl h3 ?_ hro
  simp only [Try.ntmps78, List.size_toArray, List.length_cons, List.length_nil, Nat.reduceAdd, Nat.reduceSub, Array.replicate_succ, Array.replicate_zero, List.push_toArray, List.append_toArray, List.nil_append, List.cons_append]
  gi_wp2_with (gi_at_call 90; refine (all_in F (n - 1) h4 hro _ _ _ _).mono ?_; rintro e w' ⟨rfl, rfl⟩)
  have hm0 := World.ownsMap_made w Try.prog 3 (plainElem (H := H) Try.prog 3)
  have cS := cell_new_c (w.alloc (.map #[] 0)) (.map (some w.heap.size)) 92
  have cN := cell_new_c ((w.alloc (.map #[] 0)).alloc (.cells #[.map (some w.heap.size)] 92)) (.slice (some ⟨b, off, none⟩) zs.length cap) 76
  simp only [World.size_alloc] at cS cN
  have hB0 : Below w.heap.size w (((w.alloc (.map #[] 0)).alloc (.cells #[.map (some w.heap.size)] 92)).alloc (.cells #[.slice (some ⟨b, off, none⟩) zs.length cap] 76)) := (((Below.refl _ w).alloc (Nat.le_refl _) _).alloc (by simp) _).alloc (by simp; omega) _
  refine wpIn_rangeFunc_ownG hro h1 (gf := 93) (lb := #[.pointer (some ⟨w.heap.size + 1 + 1, 0, none⟩)]) rfl h5 (enters_of Try.func93 (by kernel_rfl) rfl)
    (all_stops F (n - 1) h5 hro (by omega) (w.heap.size + 1 + 1) w.heap.size b off cap zs hz hzs _ (by simp) (by simp; omega) hb cN.1 (hI.below hB0 hb)) belowK_t (belowK_b (by simp; omega)) (Below.refl _ _) (fun _ => rfl)
    (fun pre W => (W.cell? ⟨w.heap.size + 1, 0, none⟩ = some (.map (some w.heap.size)) ∧ W.ownsMap Try.prog 3 (plainElem (H := H) Try.prog 3) w.heap.size pre.length (agesD pre)) ∧ Below w.heap.size w W)
    (fun _ _ _ => False)
    (OwnFrom.and (fun s A B row hs hg hr => ⟨cell_kept hs.1 hg (fun r e => (hr r e).2), hs.2.kept hg (fun e => by have := (hr _ e.symm).1; simp at this; omega)⟩) (ownFrom_below (Nat.le_refl _) (by simp; omega)))
    (fun _ _ _ _ _ hs _ _ => hs)
    ⟨⟨cell_alloc_c _ cS.1, (hm0.alloc _).alloc _⟩, hB0⟩
    (fun x => { tmps := #[.slice (some ⟨b, off, none⟩) zs.length cap, undef, .map none, .pointer (some ⟨w.heap.size + 1, 0, none⟩), .int .i64 (x.1.1 : Int), .int .i64 x.2.1, .map (some w.heap.size), .slice (some ⟨b, off, none⟩) zs.length cap, .func (.func 93) #[] #[.pointer (some ⟨w.heap.size + 1 + 1, 0, none⟩)], .int .i64 (x.1.1 : Int), .int .i64 x.2.1, undef, undef, undef, undef], defers := [] }) ?assign ?body ?done ?stop
  case assign =>
    intro l x W K hK
    gi_wp2
    exact hK
  case body =>
    rintro l pre x W ⟨⟨hc, hown⟩, hB⟩ hlt
    gi_wp2_with (gi_at_mapUpdate; refine wpListIn_mapUpdate_own _ rfl _ _ _ 92 rfl 3 3 (Maps.int_keyed Try.underlying3) Try.underlying92 _ w.heap.size pre.length _ rfl hown (by omega) _ _ _ rfl rfl (Maps.keyOf_int_mk Try.underlying3 x.2.2) _ [] (plainElem_int Try.underlying3 x.1.2) ?_; intro w1 hown1 hgrow1)
    obtain ⟨es, ck, hh, _⟩ := hown
    exact ⟨KeepsFrom.of_grownBy hgrow1 (fun j e => by cases e; simp; omega), (Below.refl _ W).grown hgrow1 hB.size (fun k e => by cases e; exact Nat.le_refl _),
      ⟨cell_kept hc hgrow1 (fun r e => by cases e; exact ⟨_, hh, rfl⟩), by rw [agesD_snoc, List.length_append]; exact hown1⟩, hB.grown hgrow1 hB.size (fun k e => by cases e; exact Nat.le_refl _)⟩
  case done =>
    rintro D ys W hD rfl ⟨⟨hc, hown⟩, hB⟩ hK
    gi_wp2
    refine ⟨by simp, .inl ⟨_, _, rfl, run_takeDeferred hK, ?_⟩⟩
    exact ⟨_, results_tmp rfl _ _ _, rfl, hown.kept (grownBy_putObj' _ D _) (fun e => by cases e; simp at hD; omega), hB.trans (belowK_b (w := w) (Nat.le_refl _) W D _ _ (by simp at hD; omega) hK rfl rfl)⟩
  case stop =>
    rintro D c pre W _ _ h _
    exact h.elim
end Go.Proofs.Ytfdfmbmhefckaaa
end
section
/- Generations: Check, for lists that are valid. -/
set_option linter.unusedSimpArgs false
set_option linter.unusedVariables false
namespace Go.Proofs.Ytfdfmbmhefckaaa
open Go.RowKit Go.Shelf
attribute [local go_sem] Oper.semAt_some
theorem frozen_alloc_c {W : World} {a : Addr} {v : Value} (o : Obj) (h : W.cell? a = some v) (hf : W.frozen? a = false) : (W.alloc o).frozen? a = false := (frozen_kept h (World.grownBy_alloc W o none) (fun r e => by cases e)).trans hf
theorem below_keep {n : Nat} {A B : World} (h : Below n A B) {a : Addr} (ha : a.block < n) : B.cell? a = A.cell? a ∧ B.frozen? a = A.frozen? a := by
  have := h.block a.block ha
  simp [World.cell?, World.frozen?, this]
def okFr (x : Int) : Prop := 0 ≤ x ∧ x < 256
set_option maxHeartbeats 1000000 in
theorem isFrame_in (F : Fence) (n : Nat) (hf : F.fn 77) (hro : F.round = none) (x : Int) (w : World) :
    CallsIn F n Try.prog 77 #[.int .i64 x] w fun e w' => e = .returned (.bool (decide (0 ≤ x) && decide (x < 256))) ∧ w' = w := by
  refine callsIn_of_wp Try.func77 rfl hf ?_ hro
  simp only [Try.ntmps77, List.size_toArray, List.length_cons, List.length_nil, Nat.reduceAdd, Nat.reduceSub, Array.replicate_succ, Array.replicate_zero, List.push_toArray, List.append_toArray, List.nil_append, List.cons_append]
  by_cases h0 : 0 ≤ x
  · by_cases h1 : x < 256
    · gi_wp2
      go_ret
      simp [h0, h1]
    · gi_wp2
      go_ret
      simp [h0, h1]
  · gi_wp2
    go_ret
    simp
    omega
set_option maxRecDepth 100000 in
set_option maxHeartbeats 600000 in
theorem Check_in (F : Fence) (n : Nat) (h2 : F.fn 76) (h6 : F.fn 77) (h3 : F.fn 78) (h4 : F.fn 90) (h5 : F.fn 93) (hro : F.round = none) (hn : 5 ≤ n) (b off cap : Nat) (zs : List (List I64)) (hz : zs.length = 4) (hzs : ∀ z ∈ zs, z.length ≤ 1000000) (hlen : (fromRows zs zs.length).length ≤ maxLen) (w : World) (hb : b < w.heap.size) (hI : RowsAt w.heap.size w b off zs)
    (hok : ∀ x ∈ fromRows zs zs.length, okFr x.2.1) (hdi : Maps.size (agesD (H := Unit) (fromRows zs zs.length)) = (fromRows zs zs.length).length) :
    CallsIn F n Try.prog 76 #[.slice (some ⟨b, off, none⟩) zs.length cap] w fun e W' => e = .returned (.int .i64 0) ∧ Below w.heap.size w W' := by
  have h1 : 1 ≤ n := by omega
  refine callsIn_of_wp_marks Try.func76 rfl h2 ?_ hro
  simp only [Try.ntmps76, List.size_toArray, List.length_cons, List.length_nil, Nat.reduceAdd, Nat.reduceSub, Array.replicate_succ, Array.replicate_zero, List.push_toArray, List.append_toArray, List.nil_append, List.cons_append]
  rw [hz]
  gi_wp2_with (gi_at_call 90; refine (all_in F (n - 1) h4 hro _ _ _ _).mono ?_; rintro e w' ⟨rfl, rfl⟩)
  have c0 := cell_new_c w (.int .i64 0) 3
  have c1 := cell_new_c (w.alloc (.cells #[.int .i64 0] 3)) (.int .i64 0) 3
  have cN := cell_new_c ((w.alloc (.cells #[.int .i64 0] 3)).alloc (.cells #[.int .i64 0] 3)) (.slice (some ⟨b, off, none⟩) 4 cap) 76
  simp only [World.size_alloc] at c1 cN
  have hB0 : Below w.heap.size w (((w.alloc (.cells #[.int .i64 0] 3)).alloc (.cells #[.int .i64 0] 3)).alloc (.cells #[.slice (some ⟨b, off, none⟩) 4 cap] 76)) := (((Below.refl _ w).alloc (Nat.le_refl _) _).alloc (by simp) _).alloc (by simp; omega) _
  refine wpIn_rangeFunc_ownG hro h1 (gf := 93) (lb := #[.pointer (some ⟨w.heap.size + 1 + 1, 0, none⟩)]) rfl h5 (enters_of Try.func93 (by kernel_rfl) rfl)
    (all_stops F (n - 1) h5 hro (by omega) (w.heap.size + 1 + 1) w.heap.size b off cap zs (by omega) hzs _ (by simp) (by simp; omega) hb (by rw [hz]; exact cN.1) (hI.below hB0 hb)) belowK_t (belowK_b (by simp; omega)) (Below.refl _ _) (fun _ => rfl)
    (fun pre W => ((W.cell? ⟨w.heap.size, 0, none⟩ = some (.int .i64 0) ∧ W.frozen? ⟨w.heap.size, 0, none⟩ = false) ∧ (W.cell? ⟨w.heap.size + 1, 0, none⟩ = some (.int .i64 pre.length) ∧ W.frozen? ⟨w.heap.size + 1, 0, none⟩ = false)) ∧ Below w.heap.size w W)
    (fun _ pre _ => ∃ x ∈ pre, ¬ okFr x.2.1)
    (OwnFrom.and (fun s A B row hs hg hr => ⟨⟨cell_kept hs.1.1 hg (fun r e => (hr r e).2), (frozen_kept hs.1.1 hg (fun r e => (hr r e).2)).trans hs.1.2⟩, cell_kept hs.2.1 hg (fun r e => (hr r e).2), (frozen_kept hs.2.1 hg (fun r e => (hr r e).2)).trans hs.2.2⟩) (ownFrom_below (Nat.le_refl _) (by simp; omega)))
    (fun _ _ _ _ _ hs _ _ => hs)
    ⟨⟨⟨cell_alloc_c _ (cell_alloc_c _ c0.1), frozen_alloc_c _ (cell_alloc_c _ c0.1) (frozen_alloc_c _ c0.1 c0.2)⟩, cell_alloc_c _ c1.1, frozen_alloc_c _ c1.1 c1.2⟩, hB0⟩
    (fun x => { tmps := #[.slice (some ⟨b, off, none⟩) 4 cap, undef, .pointer (some ⟨w.heap.size, 0, none⟩), .pointer (some ⟨w.heap.size + 1, 0, none⟩), undef, .int .i64 x.2.1, .slice (some ⟨b, off, none⟩) 4 cap, .int .i64 4, .bool false, .slice (some ⟨b, off, none⟩) 4 cap, .func (.func 93) #[] #[.pointer (some ⟨w.heap.size + 1 + 1, 0, none⟩)], .int .i64 (x.1.1 : Int), .int .i64 x.2.1, undef, undef, undef, undef, undef, undef, undef, undef, undef, undef], defers := [] }) ?assign ?body ?done ?stop
  case assign =>
    intro l x W K hK
    gi_wp2
    exact hK
  case body =>
    rintro l pre x W ⟨⟨⟨hc0, hf0⟩, hc1, hf1⟩, hB⟩ hlt
    have hn1 : 1 ≤ n - 1 - 1 := by omega
    by_cases hx : okFr x.2.1
    · obtain ⟨hx0, hx1⟩ := hx
      gi_wp2
      refine (CallsIn.inRound l (isFrame_in F (n - 1 - 1 - 1) h6 hro x.2.1 W)).mono ?_
      rintro e w' ⟨rfl, rfl⟩
      have hd0 : decide (0 ≤ x.2.1) = true := decide_eq_true hx0
      have hd1 : decide (x.2.1 < 256) = true := decide_eq_true hx1
      gi_wp2
      have hpl : wrap64 ((pre.length : Int) + 1) = ((pre ++ [x]).length : Int) := by
        have hm : maxLen ≤ 9223372036854775807 := by decide
        rw [IntWalk.wrap64_in _ (by constructor <;> omega), List.length_append]; rfl
      rw [hpl]
      exact ⟨(KeepsOthers.setCell _ _ _).from _, (Below.refl w.heap.size w').setCell (p := ⟨w.heap.size + 1, 0, none⟩) (Nat.le_succ _) _,
        ⟨⟨(World.cell?_setCell_far w' ⟨w.heap.size + 1, 0, none⟩ ⟨w.heap.size, 0, none⟩ _ (Nat.succ_ne_self _)).trans hc0, by rw [World.frozen?_setCell]; exact hf0⟩, World.cell?_setCell_same' _ _ _ (by rw [hc1]; rfl), by rw [World.frozen?_setCell]; exact hf1⟩, hB.setCell (p := ⟨w.heap.size + 1, 0, none⟩) (Nat.le_succ _) _⟩
    · gi_wp2
      refine (CallsIn.inRound l (isFrame_in F (n - 1 - 1 - 1) h6 hro x.2.1 W)).mono ?_
      rintro e w' ⟨rfl, rfl⟩
      have hd : (decide (0 ≤ x.2.1) && decide (x.2.1 < 256)) = false := by
        rw [← Bool.not_eq_true, Bool.and_eq_true, decide_eq_true_iff, decide_eq_true_iff]; exact hx
      rw [hd]
      gi_wp2
      exact ⟨(KeepsOthers.setCell _ _ _).from _, ⟨x, by simp, hx⟩⟩
  case done =>
    rintro D ys W hD rfl ⟨⟨⟨hc0, hf0⟩, hc1, hf1⟩, hB⟩ hK
    gi_wp2
    have hmx : Try.prog.follows .mixedOrders = true := by kernel_rfl
    have hag : ∀ W1 : World, Below w.heap.size w W1 → CallsIn F (n - 1) Try.prog 78 #[.slice (some ⟨b, off, none⟩) 4 cap] W1 fun e W' => e = .returned (.map (some W1.heap.size)) ∧ (Builtin.len_ #[92] 3 #[.map (some W1.heap.size)]).run Try.prog W' = .ok (.int .i64 (fromRows zs zs.length).length) W' ∧ Below W1.heap.size W1 W' := fun W1 h => by
      have := ages_in (H := Unit) F (n - 1) h3 h4 h5 hro (by omega) b off cap zs (by omega) hzs hlen W1 (Nat.lt_of_lt_of_le hb h.size) ((hI.below h hb).mono h.size)
      have e4 : (Value.slice (some ⟨b, off, none⟩) zs.length cap) = .slice (some ⟨b, off, none⟩) 4 cap := by rw [hz]
      rw [e4] at this
      refine this.mono ?_
      rintro e W' ⟨h1, h2, h3⟩
      have h4 := h2.len Try.underlying92 3
      rw [hdi] at h4
      exact ⟨h1, h4, h3⟩
    have hBd : Below w.heap.size w W.drew := hB.trans ((Below.refl _ _).drew)
    generalize (fromRows zs zs.length).length = m at *
    have hDW : D < W.heap.size := (Array.getElem?_eq_some_iff.1 hK).1
    have hD2 : w.heap.size + 2 < W.heap.size := by simp at hD; omega
    gi_region_with_o (gi_at_call 78; refine (hag _ hBd).mono ?_; rintro e w' ⟨rfl, hL, hB2⟩; have hL : (Builtin.len_ #[92] 3 #[.map (some W.heap.size)]).run Try.prog w' = .ok (.int .i64 m) w' := hL; have hc0' := (below_keep hB2 (a := ⟨w.heap.size, 0, none⟩) (show w.heap.size < W.heap.size by omega)).1.trans hc0; have hf0' := (below_keep hB2 (a := ⟨w.heap.size, 0, none⟩) (show w.heap.size < W.heap.size by omega)).2.trans hf0; have hc1' := (below_keep hB2 (a := ⟨w.heap.size + 1, 0, none⟩) (show w.heap.size + 1 < W.heap.size by omega)).1.trans hc1; have hK' := (hB2.block D (show D < W.heap.size from hDW)).trans hK)
    all_goals gi_wp2
    all_goals
      have hK2 := (KeepsOthers.setCell w' ⟨w.heap.size, 0, none⟩ (.int .i64 0)).same D _ hK' rfl
      refine ⟨by simp, .inl ⟨_, _, rfl, run_takeDeferred hK2, ?_⟩⟩
      have hc5 := cell_kept (World.cell?_setCell_same' w' ⟨w.heap.size, 0, none⟩ (.int .i64 0) (by rw [hc0']; rfl)) (grownBy_putObj' _ D (.deferred none)) (fun r e => by cases e; exact ⟨_, hK2, rfl⟩)
      refine ⟨.int .i64 0, ?_, rfl, hBd.trans ((hB2.mono (show w.heap.size ≤ W.heap.size by omega)).trans (((Below.refl w.heap.size w').setCell (p := ⟨w.heap.size, 0, none⟩) (Nat.le_refl _) _).trans (belowK_b (w := w) (Nat.le_refl _) _ D _ _ (by simp at hD; omega) hK2 rfl rfl)))⟩
      simp [results, Try.f76, go_sem, hc5]
  case stop =>
    rintro D c pre W hD hp ⟨x, hx, hnx⟩ _
    exact absurd (hok x (hp.subset hx)) hnx
end Go.Proofs.Ytfdfmbmhefckaaa
end
section
/- Generations: Where, for a frame that is there. -/
set_option linter.unusedSimpArgs false
set_option linter.unusedVariables false
namespace Go.Proofs.Ytfdfmbmhefckaaa
open Go.RowKit Go.Shelf
attribute [local go_sem] Oper.semAt_some
set_option maxRecDepth 100000 in
set_option maxHeartbeats 1000000 in
theorem Where_in (F : Fence) (n : Nat) (h1 : F.fn 60) (h2 : F.fn 76) (h6 : F.fn 77) (h3 : F.fn 78) (h4 : F.fn 90) (h5 : F.fn 93) (hro : F.round = none) (hn : 6 ≤ n) (b off cap : Nat) (zs : List (List I64)) (hz : zs.length = 4) (hzs : ∀ z ∈ zs, z.length ≤ 1000000) (hlen : (fromRows zs zs.length).length ≤ maxLen) (w : World) (hb : b < w.heap.size) (hI : RowsAt w.heap.size w b off zs)
    (hok : ∀ x ∈ fromRows zs zs.length, okFr x.2.1) (hdi : Maps.size (agesD (H := Unit) (fromRows zs zs.length)) = (fromRows zs zs.length).length) (f : Int) (hf : (Lit.int .i64 f).wf = true) (c : Int)
    (hhas : Maps.has (agesD (H := Unit) (fromRows zs zs.length)) (.int .i64 f) = true) (hat : (agesD (H := Unit) (fromRows zs zs.length)).atKey (.int .i64 f) (.lit (.int .i64 0)) = .lit (.int .i64 c)) :
    CallsIn F n Try.prog 60 #[.slice (some ⟨b, off, none⟩) zs.length cap, .int .i64 f] w fun e W' => e = .returned (.int .i64 c) ∧ Below w.heap.size w W' := by
  have hck : CallsIn F (n - 1) Try.prog 76 #[.slice (some ⟨b, off, none⟩) 4 cap] w fun e W' => e = .returned (.int .i64 0) ∧ Below w.heap.size w W' := by
    have := Check_in F (n - 1) h2 h6 h3 h4 h5 hro (by omega) b off cap zs hz hzs hlen w hb hI hok hdi
    have e4 : (Value.slice (some ⟨b, off, none⟩) zs.length cap) = .slice (some ⟨b, off, none⟩) 4 cap := by rw [hz]
    rwa [e4] at this
  have hag : ∀ W1 : World, Below w.heap.size w W1 → CallsIn F (n - 1) Try.prog 78 #[.slice (some ⟨b, off, none⟩) 4 cap] W1 fun e W' => e = .returned (.map (some W1.heap.size)) ∧ W'.ownsMap Try.prog 3 (plainElem (H := Unit) Try.prog 3) W1.heap.size (fromRows zs zs.length).length (agesD (fromRows zs zs.length)) ∧ Below W1.heap.size W1 W' := fun W1 h => by
    have := ages_in (H := Unit) F (n - 1) h3 h4 h5 hro (by omega) b off cap zs (by omega) hzs hlen W1 (Nat.lt_of_lt_of_le hb h.size) ((hI.below h hb).mono h.size)
    have e4 : (Value.slice (some ⟨b, off, none⟩) zs.length cap) = .slice (some ⟨b, off, none⟩) 4 cap := by rw [hz]
    rwa [e4] at this
  have e4 : (Value.slice (some ⟨b, off, none⟩) zs.length cap) = .slice (some ⟨b, off, none⟩) 4 cap := by rw [hz]
  rw [e4]
  clear e4
  have hn1 : 1 ≤ n := by omega
  generalize fromRows zs zs.length = rows at *
  generalize hD : agesD (H := Unit) rows = DD at *
  refine callsIn_of_wp Try.func60 rfl h1 ?_ hro
  simp only [Try.ntmps60, List.size_toArray, List.length_cons, List.length_nil, Nat.reduceAdd, Nat.reduceSub, Array.replicate_succ, Array.replicate_zero, List.push_toArray, List.append_toArray, List.nil_append, List.cons_append]
  gi_wp2_with (first
    | (gi_at_call 76; refine hck.mono ?_; clear hck; rintro e w1 ⟨rfl, hB1⟩)
    | (gi_at_call 78; refine (hag w1 hB1).mono ?_; clear hag; rintro e w2 ⟨rfl, hown, hB2⟩)
    | (gi_at_lookup; refine wpListIn_lookup_own_ok_int _ rfl _ _ 92 rfl 3 3 .i64 (Maps.int_keyed Try.underlying3) Try.underlying92 Try.underlying3 (Try.zeroValue3 _) _ rows.length _ rfl hown _ _ rfl (Maps.keyOf_int_mk Try.underlying3 hf) ?_; intro c' hc' hwc; obtain rfl : c' = c := by rw [hat] at hc'; cases hc'; rfl))
  go_ret
  exact ⟨rfl, hB1.trans (hB2.mono hB1.size)⟩
end Go.Proofs.Ytfdfmbmhefckaaa
end
section
/- Generations: Add, to empty lists. -/
set_option linter.unusedSimpArgs false
set_option linter.unusedVariables false
namespace Go.Proofs.Ytfdfmbmhefckaaa
open Go.RowKit Go.Shelf
attribute [local go_sem] Oper.semAt_some
set_option maxRecDepth 100000 in
set_option maxHeartbeats 1000000 in
theorem cloneI_in (F : Fence) (n : Nat) (hf : F.fn 91) (hro : F.round = none) (w : World) :
    CallsIn F n Try.prog 91 #[.slice none 0 0] w fun e w' => e = .returned (.slice none 0 0) ∧ w' = w := by
  refine callsIn_of_wp Try.func91 rfl hf ?_ hro
  simp only [Try.ntmps91, List.size_toArray, List.length_cons, List.length_nil, Nat.reduceAdd, Nat.reduceSub, Array.replicate_succ, Array.replicate_zero, List.push_toArray, List.append_toArray, List.nil_append, List.cons_append]
  have heq : (binOp .eql 46 (.slice none 0 0) (.slice none 0 0)).run Try.prog w = .ok (.bool true) w := by kernel_rfl
  gi_wp2
  go_ret
  exact ⟨rfl, rfl⟩
set_option maxRecDepth 100000 in
theorem mk4 (w : World) : (Instr.makeSlice 76 (.int .i64 4) (.int .i64 4)).run Try.prog w = .ok (.slice (some ⟨w.heap.size, 0, none⟩) 4 4) (w.alloc (.cells #[.slice none 0 0, .slice none 0 0, .slice none 0 0, .slice none 0 0] 46)) := by kernel_rfl
theorem cells4 (w : World) {j : Nat} (hj : j < 4) : (w.alloc (.cells #[.slice none 0 0, .slice none 0 0, .slice none 0 0, .slice none 0 0] 46)).cell? ⟨w.heap.size, 0 + j, none⟩ = some (.slice none 0 0) ∧ (w.alloc (.cells #[.slice none 0 0, .slice none 0 0, .slice none 0 0, .slice none 0 0] 46)).frozen? ⟨w.heap.size, 0 + j, none⟩ = false := by
  have h := World.alloc_heap_new w (.cells #[.slice none 0 0, .slice none 0 0, .slice none 0 0, .slice none 0 0] 46)
  obtain rfl | rfl | rfl | rfl : j = 0 ∨ j = 1 ∨ j = 2 ∨ j = 3 := by omega
  all_goals constructor <;> simp only [World.cell?, World.frozen?, h] <;> rfl
def Nils (W : World) (b off : Nat) : Prop := ∀ j, j < 4 → W.cell? ⟨b, off + j, none⟩ = some (.slice none 0 0)
set_option maxRecDepth 100000 in
set_option maxHeartbeats 1000000 in
theorem clone_in (F : Fence) (n : Nat) (h1 : F.fn 79) (h2 : F.fn 91) (hro : F.round = none) (hn : 2 ≤ n) (b off cap : Nat) (w : World) (hb : b < w.heap.size) (hI : Nils w b off) :
    CallsIn F n Try.prog 79 #[.slice (some ⟨b, off, none⟩) 4 cap] w fun e W' => ∃ r, e = .returned (.slice (some ⟨r, 0, none⟩) 4 4) ∧ w.heap.size ≤ r ∧ (∀ j, j < 4 → W'.cell? ⟨r, 0 + j, none⟩ = some (.slice none 0 0) ∧ W'.frozen? ⟨r, 0 + j, none⟩ = false) ∧ Below w.heap.size w W' := by
  have hn1 : 1 ≤ n := by omega
  refine callsIn_of_wp Try.func79 rfl h1 ?_ hro
  simp only [Try.ntmps79, List.size_toArray, List.length_cons, List.length_nil, Nat.reduceAdd, Nat.reduceSub, Array.replicate_succ, Array.replicate_zero, List.push_toArray, List.append_toArray, List.nil_append, List.cons_append]
  have hmk := mk4 w
  have hc4 := @cells4 w
  gi_wp2
  gi_loopw [10] (fun i wr => ∃ k : Nat, k ≤ 4 ∧ i = .int .i64 k ∧ (∀ j, j < 4 → wr.cell? ⟨w.heap.size, 0 + j, none⟩ = some (.slice none 0 0) ∧ wr.frozen? ⟨w.heap.size, 0 + j, none⟩ = false) ∧ Below w.heap.size w wr)
    (fun i _ => 4 - (intOf i).toNat)
  case atStart => exact ⟨0, by omega, rfl, fun j hj => hc4 hj, (Below.refl _ w).alloc (Nat.le_refl _) _⟩
  case round =>
    obtain ⟨k, hk, rfl, hcs, hB⟩ := hrel
    by_cases hlt : k < 4
    · have h1 := (hB.cell (p := ⟨b, off + k, none⟩) hb).trans (hI k hlt)
      have h2' : wr.cell? ⟨w.heap.size, k, none⟩ = some (.slice none 0 0) := by simpa using (hcs k hlt).1
      have h3 : wr.frozen? ⟨w.heap.size, k, none⟩ = false := by simpa using (hcs k hlt).2
      gi_wp2_with (gi_at_call 91; refine (cloneI_in F (n - 1) h2 hro _).mono ?_; rintro e w' ⟨rfl, rfl⟩)
      refine ⟨⟨k + 1, by omega, by simp, fun j hj => ?_, hB.setCell (p := ⟨w.heap.size, k, none⟩) (Nat.le_refl _) _⟩, by simp [intOf]; omega⟩
      refine ⟨?_, by rw [World.frozen?_setCell]; exact (hcs j hj).2⟩
      by_cases hjk : j = k
      · subst hjk
        rw [Nat.zero_add]
        exact World.cell?_setCell_same' _ _ _ (by rw [h2']; rfl)
      · exact (World.cell?_setCell_other (w := w') (a := ⟨w.heap.size, k, none⟩) (b := ⟨w.heap.size, 0 + j, none⟩) (v := .slice none 0 0) (by simp <;> omega)).trans (hcs j hj).1
    · obtain rfl : k = 4 := by omega
      gi_wp2
      go_ret
      exact ⟨_, rfl, Nat.le_refl _, hcs, hB⟩
end Go.Proofs.Ytfdfmbmhefckaaa
end
section
/- Generations: Add of a frame to empty lists. -/
set_option linter.unusedSimpArgs false
set_option linter.unusedVariables false
namespace Go.Proofs.Ytfdfmbmhefckaaa
open Go.RowKit Go.Shelf
attribute [local go_sem] Oper.semAt_some
theorem infoI : (Try.prog.info? 3).map (fun i => (i.zero, i.size, i.bytes)) = some (some (.int .i64 0), 1, 8) := by kernel_rfl
theorem lt_of_cell {W : World} {a : Addr} {v : Value} (h : W.cell? a = some v) : a.block < W.heap.size := by
  rcases Nat.lt_or_ge a.block W.heap.size with h1 | h1
  · exact h1
  · exfalso
    have : W.heap[a.block]? = none := Array.getElem?_eq_none h1
    simp [World.cell?, this] at h
abbrev zs4 : List (List I64) := [[], [], [], []]
theorem rows4 : fromRows zs4 zs4.length = [] := by decide
theorem Nils.rows {w : World} {b off : Nat} (n₀ : Nat) (h : Nils w b off) : RowsAt n₀ w b off zs4 := fun j hj => by
  refine ⟨_, h j hj, none, 0, ?_, fun i hi => ?_⟩
  · obtain rfl | rfl | rfl | rfl : j = 0 ∨ j = 1 ∨ j = 2 ∨ j = 3 := by simp at hj; omega
    all_goals rfl
  · exfalso
    obtain rfl | rfl | rfl | rfl : j = 0 ∨ j = 1 ∨ j = 2 ∨ j = 3 := by simp at hj; omega
    all_goals simp at hi
set_option maxRecDepth 100000 in
set_option maxHeartbeats 2000000 in
theorem Add_in (F : Fence) (n : Nat) (h0 : F.fn 58) (h2 : F.fn 76) (h6 : F.fn 77) (h3 : F.fn 78) (h4 : F.fn 90) (h5 : F.fn 93) (h7 : F.fn 79) (h8 : F.fn 91) (hro : F.round = none) (hn : 6 ≤ n) (b off cap : Nat) (w : World) (hb : b < w.heap.size) (hI : Nils w b off) (f : Int) (hf0 : 0 ≤ f) (hf1 : f < 256) (hfw : (Lit.int .i64 f).wf = true) :
    CallsIn F n Try.prog 58 #[.slice (some ⟨b, off, none⟩) 4 cap, .int .i64 0, .int .i64 f] w fun e W' => ∃ r c cap2, e = .returned (.tuple #[.slice (some ⟨r, 0, none⟩) 4 4, .int .i64 0]) ∧ (w.heap.size ≤ r ∧ r < W'.heap.size) ∧ (w.heap.size ≤ c ∧ c < W'.heap.size) ∧
      W'.cell? ⟨r, 0, none⟩ = some (.slice (some ⟨c, 0, none⟩) 1 cap2) ∧ (∀ j, 0 < j → j < 4 → W'.cell? ⟨r, 0 + j, none⟩ = some (.slice none 0 0)) ∧ W'.cell? ⟨c, 0, none⟩ = some (.int .i64 f) ∧ 1 ≤ cap2 ∧ Below w.heap.size w W' := by
  have hck : CallsIn F (n - 1) Try.prog 76 #[.slice (some ⟨b, off, none⟩) 4 cap] w fun e W' => e = .returned (.int .i64 0) ∧ Below w.heap.size w W' :=
    Check_in F (n - 1) h2 h6 h3 h4 h5 hro (by omega) b off cap zs4 rfl (by simp) (by rw [rows4]; simp) w hb (hI.rows _) (by rw [rows4]; simp) (by rw [rows4]; rfl)
  have hag : ∀ W1 : World, Below w.heap.size w W1 → CallsIn F (n - 1) Try.prog 78 #[.slice (some ⟨b, off, none⟩) 4 cap] W1 fun e W' => e = .returned (.map (some W1.heap.size)) ∧ W'.ownsMap Try.prog 3 (plainElem (H := Unit) Try.prog 3) W1.heap.size 0 (.map []) ∧ Below W1.heap.size W1 W' := fun W1 h => by
    have := ages_in (H := Unit) F (n - 1) h3 h4 h5 hro (by omega) b off cap zs4 (by decide) (by simp) (by rw [rows4]; simp) W1 (Nat.lt_of_lt_of_le hb h.size) ((((hI.rows w.heap.size).below h hb)).mono h.size)
    rw [rows4] at this
    exact this
  have hcl : ∀ W1 : World, Below w.heap.size w W1 → CallsIn F (n - 1) Try.prog 79 #[.slice (some ⟨b, off, none⟩) 4 cap] W1 fun e W' => ∃ r, e = .returned (.slice (some ⟨r, 0, none⟩) 4 4) ∧ W1.heap.size ≤ r ∧ (∀ j, j < 4 → W'.cell? ⟨r, 0 + j, none⟩ = some (.slice none 0 0) ∧ W'.frozen? ⟨r, 0 + j, none⟩ = false) ∧ Below W1.heap.size W1 W' := fun W1 h =>
    clone_in F (n - 1) h7 h8 hro (by omega) b off cap W1 (Nat.lt_of_lt_of_le hb h.size) (fun j hj => (h.cell (p := ⟨b, off + j, none⟩) hb).trans (hI j hj))
  have hn1 : 1 ≤ n := by omega
  obtain ⟨i0, hi, hz0, hz1, hz2⟩ := info_parts infoI
  have hd0 : decide (0 ≤ f) = true := decide_eq_true hf0
  have hd1 : decide (f < 256) = true := decide_eq_true hf1
  refine callsIn_of_wp Try.func58 rfl h0 ?_ hro
  simp only [Try.ntmps58, List.size_toArray, List.length_cons, List.length_nil, Nat.reduceAdd, Nat.reduceSub, Array.replicate_succ, Array.replicate_zero, List.push_toArray, List.append_toArray, List.nil_append, List.cons_append]
  gi_wp2_with (first
    | (gi_at_call 76; refine hck.mono ?_; clear hck; rintro e w1 ⟨rfl, hB1⟩)
    | (gi_at_call 77; refine (isFrame_in F (n - 1) h6 hro f w1).mono ?_; rintro e w1' ⟨rfl, rfl⟩)
    | (gi_at_call 78; refine (hag _ hB1).mono ?_; clear hag; rintro e w2 ⟨rfl, hown, hB2⟩)
    | (gi_at_lookup; refine wpListIn_lookup_own_ok_int _ rfl _ _ 92 rfl 3 3 .i64 (Maps.int_keyed Try.underlying3) Try.underlying92 Try.underlying3 (Try.zeroValue3 _) _ 0 _ rfl hown _ _ rfl (Maps.keyOf_int_mk Try.underlying3 hfw) ?_; intro c' hc' hwc)
    | (gi_at_call 79; refine (hcl _ (hB1.trans (hB2.mono hB1.size))).mono ?_; clear hcl; rintro e w3 ⟨r, rfl, hr, hcs, hB3⟩; have hr0 : w3.cell? ⟨r, 0, none⟩ = some (.slice none 0 0) := (hcs 0 (by omega)).1; have hr1 : w3.frozen? ⟨r, 0, none⟩ = false := (hcs 0 (by omega)).2)
    | (gi_at_builtin; refine wpListIn_append_own _ rfl _ _ 46 rfl (w3.heap.size + 1) 3 i0 (.int .i64 0) 1 8 Try.underlying46 hi hz0 hz1 hz2 rfl (by decide) _ 0 [] rfl (World.ownsRow_nil _ _ _ _) ⟨w3.heap.size, 0, none⟩ 1 1 [.int .i64 f] rfl rfl (cell_one_new _ _ _) (by simp [Value.oneCell']) (by decide) (by decide) (by simp) ?_; intro v' w4 hown4 hgrow _; obtain ⟨c, cap2, rfl⟩ := ownsRow_succ hown4; have hr0' : w4.cell? ⟨r, 0, none⟩ = some (.slice none 0 0) := cell_kept (cell_alloc_c _ hr0) hgrow (fun r e => by cases e); have hr1' : w4.frozen? ⟨r, 0, none⟩ = false := (frozen_kept (cell_alloc_c _ hr0) hgrow (fun r e => by cases e)).trans (frozen_alloc_c _ hr0 hr1)))
  go_ret2
  obtain ⟨_, ⟨_, h0⟩ | ⟨g, cap3, cur, e1, hg, hcur, hle, _, hcs3, htk⟩⟩ := hown4
  · omega
  injection e1 with e1 _ e2
  injection e1 with e1
  injection e1 with e1
  subst e1 e2
  have hsz : w.heap.size ≤ w1'.heap.size := hB1.size
  have hsz2 := hB2.size
  have hsz3 := hB3.size
  have hrl := lt_of_cell hr0
  have hc4 : w4.cell? ⟨c, 0, none⟩ = some (.int .i64 f) := by
    have h1 : cur.toList[0]? = some (.int .i64 f) := by
      have := congrArg (fun l => l[0]?) htk
      simpa using this
    simp [World.cell?, hcur]
    simpa using h1
  have hB4 : Below w.heap.size w w4 := by
    have h3 := hB1.trans ((hB2.mono hB1.size).trans (hB3.mono (by omega)))
    have h4 := h3.trans ((Below.refl w.heap.size w3).alloc h3.size (.cells #[.int .i64 f] 3))
    exact h4.grown hgrow h4.size (fun k e => by cases e)
  refine ⟨r, c, cap2, rfl, ⟨by omega, ?_⟩, ⟨by omega, ?_⟩, World.cell?_setCell_same' _ _ _ (by rw [hr0']; rfl), fun j h0 hj => ?_, ?_, by omega, hB4.setCell (p := ⟨r, 0, none⟩) (by show w.heap.size ≤ r; omega) _⟩
  · rw [World.size_setCell]; exact lt_of_cell hr0'
  · rw [World.size_setCell]; exact lt_of_cell hc4
  · refine (World.cell?_setCell_other (w := w4) (a := ⟨r, 0, none⟩) (b := ⟨r, 0 + j, none⟩) (v := _) (fun h => by have := congrArg Addr.off h; simp at this; omega)).trans ?_
    exact cell_kept (cell_alloc_c _ (hcs j hj).1) hgrow (fun r e => by cases e)
  · refine (World.cell?_setCell_far w4 ⟨r, 0, none⟩ ⟨c, 0, none⟩ _ (by show r ≠ c; simp at hrl; omega)).trans hc4
end Go.Proofs.Ytfdfmbmhefckaaa
end
section
/- The compiled functions of this seat, in named pieces, each with the proof that it is what the compiler gives of the model's code. -/
set_option linter.unusedSimpArgs false
set_option linter.unusedVariables false
namespace Go.Proofs.Ytfdfmbmhefckaaa
open Go.AM
set_option maxRecDepth 100000
theorem mixed : Try.prog.follows .mixedOrders = true := by kernel_rfl
/- estovers/estoverslaw39.ReclaimplanChecks -/
/- estovers/estoverslaw39.ReclaimplanReasons -/
/- estovers/estoverslaw39.ReclaimplanNext -/
/- estovers/estoverslaw39.ReclaimplanCounts -/
/- estovers/estoverslaw39.ReclaimplanVerifies -/
/- estovers/estoverslaw39.ReclaimplanEither -/
/- estovers/estoverslaw39.ReclaimplanSound -/
/- estovers/estoverslaw39.ReclaimplanFloors -/
/- estovers/estoverslaw39.ReclaimplanOldest -/
/- estovers/estoverstop.TopSharesKept -/
/- estovers/estoverstop.TopShortageOpens -/
abbrev A13r1 : List AIns := [⟨(some 4), (.mv (.cst (.bool false))), none⟩]
abbrev A13r2 : List AIns := [⟨(some 10), (.call (.fnc 35) []), none⟩, ⟨(some 11), (.un .not (.tmp 10)), none⟩, ⟨(some 12), (.mv (.tmp 11)), none⟩, ⟨(some 13), (.mv (.tmp 0)), (some (12, false))⟩, ⟨(some 14), (.call (.fnc 33) [(.tmp 13)]), (some (12, false))⟩, ⟨(some 15), (.bin .neq (.tmp 14) (.cst (.int .i64 0))), (some (12, false))⟩, ⟨(some 16), (.pick (.tmp 12) (.cst (.bool true)) (.tmp 15)), none⟩]
abbrev A13r3 : List AIns := [⟨(some 17), (.call (.fnc 35) []), none⟩, ⟨(some 4), (.mv (.tmp 17)), none⟩]
abbrev A13r4 : List AIns := [⟨(some 19), (.mv (.tmp 0)), none⟩, ⟨(some 20), (.mv (.tmp 1)), none⟩, ⟨(some 21), (.call (.fnc 38) [(.tmp 19), (.tmp 20)]), none⟩, ⟨(some 18), (.mv (.tmp 21)), none⟩, ⟨(some 22), (.extract 0 (.tmp 18)), none⟩, ⟨(some 23), (.extract 1 (.tmp 18)), none⟩, ⟨(some 5), (.mv (.tmp 22)), none⟩, ⟨(some 6), (.mv (.tmp 23)), none⟩]
abbrev A13r5 : List AIns := [⟨(some 24), (.mv (.tmp 0)), none⟩, ⟨(some 25), (.call (.fnc 39) [(.tmp 24)]), none⟩, ⟨(some 7), (.mv (.tmp 25)), none⟩]
abbrev A13r6 : List AIns := [⟨(some 26), (.mv (.tmp 6)), none⟩, ⟨(some 27), (.bin .neq (.tmp 26) (.cst (.int .i64 0))), none⟩, ⟨(some 28), (.mv (.tmp 27)), none⟩, ⟨(some 29), (.mv (.tmp 5)), (some (28, false))⟩, ⟨(some 30), (.bin .neq (.tmp 29) (.cst (.int .i64 (-1)))), (some (28, false))⟩, ⟨(some 31), (.pick (.tmp 28) (.cst (.bool true)) (.tmp 30)), none⟩, ⟨(some 32), (.mv (.tmp 31)), none⟩, ⟨(some 33), (.mv (.tmp 7)), (some (32, false))⟩, ⟨(some 34), (.len (.tmp 33)), (some (32, false))⟩, ⟨(some 35), (.mv (.tmp 0)), (some (32, false))⟩, ⟨(some 36), (.iaddr 5 (.tmp 35) (.cst (.int .i64 0))), (some (32, false))⟩, ⟨(some 37), (.faddr 1 (.tmp 36)), (some (32, false))⟩, ⟨(some 38), (.load false 1 (.tmp 37)), (some (32, false))⟩, ⟨(some 39), (.bin .neq (.tmp 34) (.tmp 38)), (some (32, false))⟩, ⟨(some 40), (.pick (.tmp 32) (.cst (.bool true)) (.tmp 39)), none⟩]
abbrev A13r7 : List AIns := [⟨(some 4), (.mv (.cst (.bool true))), none⟩]
abbrev A13r8 : List AIns := [⟨(some 41), (.mv (.tmp 7)), none⟩, ⟨(some 42), (.len (.tmp 41)), none⟩, ⟨(some 43), (.bin .add (.tmp 42) (.cst (.int .i64 1))), none⟩, ⟨(some 44), (.mv (.cst (.int .i64 0))), none⟩]
abbrev A13r10 : List AIns := [⟨(some 45), (.bin .lss (.tmp 44) (.tmp 43)), none⟩]
abbrev A13r11 : List AIns := [⟨(some 46), (.mv (.tmp 7)), none⟩, ⟨(some 47), (.mv (.tmp 0)), none⟩, ⟨(some 48), (.call (.fnc 37) [(.tmp 46), (.tmp 47), (.cst (.int .i64 0))]), none⟩, ⟨(some 8), (.mv (.tmp 48)), none⟩]
abbrev A13r12 : List AIns := [⟨(some 49), (.mv (.tmp 7)), none⟩, ⟨(some 50), (.mv (.tmp 0)), none⟩, ⟨(some 51), (.call (.fnc 25) [(.tmp 49), (.tmp 50), (.cst (.int .i64 (-1))), (.cst (.bool false))]), none⟩, ⟨(some 9), (.mv (.tmp 51)), none⟩]
abbrev A13r13 : List AIns := [⟨(some 52), (.mv (.tmp 9)), none⟩, ⟨(some 53), (.bin .eql (.tmp 52) (.cst (.int .i64 (-1)))), none⟩]
abbrev A13r14 : List AIns := [⟨(some 54), (.mv (.tmp 8)), none⟩, ⟨(some 55), (.mv (.tmp 1)), none⟩, ⟨(some 56), (.bin .leq (.tmp 54) (.tmp 55)), none⟩, ⟨(some 4), (.mv (.tmp 56)), none⟩]
abbrev A13r15 : List AIns := [⟨(some 57), (.mv (.tmp 9)), none⟩, ⟨(some 58), (.bin .lss (.tmp 57) (.cst (.int .i64 0))), none⟩, ⟨(some 59), (.mv (.tmp 58)), none⟩, ⟨(some 60), (.mv (.tmp 9)), (some (59, false))⟩, ⟨(some 61), (.mv (.tmp 7)), (some (59, false))⟩, ⟨(some 62), (.len (.tmp 61)), (some (59, false))⟩, ⟨(some 63), (.bin .geq (.tmp 60) (.tmp 62)), (some (59, false))⟩, ⟨(some 64), (.pick (.tmp 59) (.cst (.bool true)) (.tmp 63)), none⟩, ⟨(some 65), (.mv (.tmp 64)), none⟩, ⟨(some 66), (.mv (.tmp 7)), (some (65, false))⟩, ⟨(some 67), (.mv (.tmp 9)), (some (65, false))⟩, ⟨(some 68), (.iaddr 7 (.tmp 66) (.tmp 67)), (some (65, false))⟩, ⟨(some 69), (.faddr 6 (.tmp 68)), (some (65, false))⟩, ⟨(some 70), (.load false 1 (.tmp 69)), (some (65, false))⟩, ⟨(some 71), (.pick (.tmp 65) (.cst (.bool true)) (.tmp 70)), none⟩]
abbrev A13r16 : List AIns := [⟨(some 4), (.mv (.cst (.bool false))), none⟩]
abbrev A13r17 : List AIns := [⟨(some 72), (.mv (.tmp 7)), none⟩, ⟨(some 73), (.mv (.tmp 9)), none⟩, ⟨(some 74), (.iaddr 7 (.tmp 72) (.tmp 73)), none⟩, ⟨(some 75), (.faddr 6 (.tmp 74)), none⟩, ⟨none, (.store 1 (.tmp 75) (.cst (.bool true))), none⟩]
abbrev A13c18 : ACode := (.seq (.reg A13r11 [0, 1, 7, 8, 43, 44]) (.seq (.reg A13r12 [0, 1, 7, 8, 9, 43, 44]) (.seq (.seq (.reg A13r13 [0, 1, 7, 8, 9, 43, 44, 53]) (.cond (.tmp 53) [1, 8] (.seq (.reg A13r14 [4]) .ret) [0, 1, 7, 9, 43, 44] .skip)) (.seq (.seq (.reg A13r15 [0, 1, 7, 9, 43, 44, 71]) (.cond (.tmp 71) [] (.seq (.reg A13r16 [4]) .ret) [0, 1, 7, 9, 43, 44] .skip)) (.reg A13r17 [0, 1, 7, 43, 44])))))
abbrev A13r19 : List AIns := [⟨(some 76), (.bin .add (.tmp 44) (.cst (.int .i64 1))), none⟩, ⟨(some 44), (.mv (.tmp 76)), none⟩]
abbrev A13l9 : ACode := (.seq (.reg A13r10 [0, 1, 7, 43, 44, 45]) (.seq (.cond (.tmp 45) [0, 1, 7, 43, 44] .skip [] (.exit 0)) (.seq (.block 1 A13c18) (.reg A13r19 [0, 1, 7, 43, 44]))))
abbrev A13r20 : List AIns := [⟨(some 4), (.mv (.cst (.bool false))), none⟩]
def A13 : AFun := ⟨77, 2, [(.tmp 4)], (.seq (.reg A13r1 [0, 1]) (.seq (.seq (.reg A13r2 [0, 1, 16]) (.cond (.tmp 16) [] (.seq (.reg A13r3 [4]) .ret) [0, 1] .skip)) (.seq (.reg A13r4 [0, 1, 5, 6]) (.seq (.reg A13r5 [0, 1, 5, 6, 7]) (.seq (.seq (.reg A13r6 [0, 1, 7, 40]) (.cond (.tmp 40) [] (.seq (.reg A13r7 [4]) .ret) [0, 1, 7] .skip)) (.seq (.seq (.reg A13r8 [0, 1, 7, 43, 44]) (.block 0 (.loop A13l9))) (.seq (.reg A13r20 [4]) .ret)))))))⟩
theorem A13c : compF Try.prog Try.f13 = some A13 := by kernel_rfl
theorem A13k : Callable Try.prog 13 := fun a w => Try.call13 a w
theorem A13p {ds : List D} {r : D} (hl : ds.length ≤ A13.nt) (hw : W Try.prog A13.code (Fin A13.results r) ⟨argEnv 0 ds, fun _ => none⟩) : PCon Try.prog 13 ds r := pcon_of_W mixed Try.func13 A13k A13c hl hw
/- estovers/estoverstop.TopLocking -/
/- estovers/estoverslaw39.awake -/
/- estovers/estoversref39.Few -/
/- estovers/reclaimplan.Check -/
abbrev A17r1 : List AIns := [⟨(some 4), (.mv (.cst (.int .i64 0))), none⟩]
abbrev A17r2 : List AIns := [⟨(some 9), (.mv (.tmp 1)), none⟩, ⟨(some 10), (.call (.fnc 41) [(.tmp 9)]), none⟩, ⟨(some 5), (.mv (.tmp 10)), none⟩]
abbrev A17r3 : List AIns := [⟨(some 11), (.mv (.tmp 5)), none⟩, ⟨(some 12), (.bin .neq (.tmp 11) (.cst (.int .i64 0))), none⟩]
abbrev A17r4 : List AIns := [⟨(some 13), (.mv (.tmp 5)), none⟩, ⟨(some 4), (.mv (.tmp 13)), none⟩]
abbrev A17r5 : List AIns := [⟨(some 6), (.mv (.cst (.int .i64 (-1)))), none⟩]
abbrev A17r6 : List AIns := [⟨(some 14), (.mv (.tmp 0)), none⟩, ⟨(some 15), (.len (.tmp 14)), none⟩, ⟨(some 16), (.mv (.cst (.int .i64 0))), none⟩]
abbrev A17r8 : List AIns := [⟨(some 17), (.bin .lss (.tmp 16) (.tmp 15)), none⟩]
abbrev A17r9 : List AIns := [⟨(some 18), (.iaddr 7 (.tmp 14) (.tmp 16)), none⟩, ⟨(some 19), (.load true 7 (.tmp 18)), none⟩, ⟨(some 8), (.alloc [(.int .i64 0), (.int .i64 0), (.int .i64 0), (.int .i64 0), (.int .i64 0), (.bool false), (.bool false)]), none⟩, ⟨none, (.store 7 (.tmp 8) (.tmp 19)), none⟩]
abbrev A17r10 : List AIns := [⟨(some 21), (.faddr 0 (.tmp 8)), none⟩, ⟨(some 22), (.load false 1 (.tmp 21)), none⟩, ⟨(some 23), (.bin .lss (.tmp 22) (.cst (.int .i64 0))), none⟩, ⟨(some 24), (.mv (.tmp 23)), none⟩, ⟨(some 25), (.faddr 0 (.tmp 8)), (some (24, false))⟩, ⟨(some 26), (.load false 1 (.tmp 25)), (some (24, false))⟩, ⟨(some 27), (.bin .geq (.tmp 26) (.cst (.int .i64 256))), (some (24, false))⟩, ⟨(some 28), (.pick (.tmp 24) (.cst (.bool true)) (.tmp 27)), none⟩, ⟨(some 29), (.mv (.tmp 28)), none⟩, ⟨(some 30), (.faddr 1 (.tmp 8)), (some (29, false))⟩, ⟨(some 31), (.load false 1 (.tmp 30)), (some (29, false))⟩, ⟨(some 32), (.bin .lss (.tmp 31) (.cst (.int .i64 (-1)))), (some (29, false))⟩, ⟨(some 33), (.pick (.tmp 29) (.cst (.bool true)) (.tmp 32)), none⟩, ⟨(some 34), (.mv (.tmp 33)), none⟩, ⟨(some 35), (.faddr 1 (.tmp 8)), (some (34, false))⟩, ⟨(some 36), (.load false 1 (.tmp 35)), (some (34, false))⟩, ⟨(some 37), (.mv (.tmp 1)), (some (34, false))⟩, ⟨(some 38), (.len (.tmp 37)), (some (34, false))⟩, ⟨(some 39), (.bin .geq (.tmp 36) (.tmp 38)), (some (34, false))⟩, ⟨(some 40), (.pick (.tmp 34) (.cst (.bool true)) (.tmp 39)), none⟩, ⟨(some 20), (.mv (.tmp 40)), none⟩]
abbrev A17r11 : List AIns := [⟨(some 4), (.mv (.cst (.int .i64 2))), none⟩]
abbrev A17r12 : List AIns := [⟨(some 42), (.faddr 0 (.tmp 8)), none⟩, ⟨(some 43), (.load false 1 (.tmp 42)), none⟩, ⟨(some 44), (.mv (.tmp 6)), none⟩, ⟨(some 45), (.bin .leq (.tmp 43) (.tmp 44)), none⟩, ⟨(some 41), (.mv (.tmp 45)), none⟩]
abbrev A17r13 : List AIns := [⟨(some 4), (.mv (.cst (.int .i64 10))), none⟩]
abbrev A17r14 : List AIns := [⟨(some 47), (.faddr 3 (.tmp 8)), none⟩, ⟨(some 48), (.load false 1 (.tmp 47)), none⟩, ⟨(some 49), (.bin .lss (.tmp 48) (.cst (.int .i64 0))), none⟩, ⟨(some 50), (.mv (.tmp 49)), none⟩, ⟨(some 51), (.faddr 3 (.tmp 8)), (some (50, false))⟩, ⟨(some 52), (.load false 1 (.tmp 51)), (some (50, false))⟩, ⟨(some 53), (.bin .gtr (.tmp 52) (.cst (.int .i64 10))), (some (50, false))⟩, ⟨(some 54), (.pick (.tmp 50) (.cst (.bool true)) (.tmp 53)), none⟩, ⟨(some 55), (.mv (.tmp 54)), none⟩, ⟨(some 56), (.faddr 2 (.tmp 8)), (some (55, false))⟩, ⟨(some 57), (.load false 1 (.tmp 56)), (some (55, false))⟩, ⟨(some 58), (.bin .lss (.tmp 57) (.cst (.int .i64 (-1)))), (some (55, false))⟩, ⟨(some 59), (.pick (.tmp 55) (.cst (.bool true)) (.tmp 58)), none⟩, ⟨(some 60), (.mv (.tmp 59)), none⟩, ⟨(some 61), (.faddr 4 (.tmp 8)), (some (60, false))⟩, ⟨(some 62), (.load false 1 (.tmp 61)), (some (60, false))⟩, ⟨(some 63), (.bin .lss (.tmp 62) (.cst (.int .i64 (-1)))), (some (60, false))⟩, ⟨(some 64), (.pick (.tmp 60) (.cst (.bool true)) (.tmp 63)), none⟩, ⟨(some 46), (.mv (.tmp 64)), none⟩]
abbrev A17r15 : List AIns := [⟨(some 4), (.mv (.cst (.int .i64 1))), none⟩]
abbrev A17r16 : List AIns := [⟨(some 66), (.faddr 3 (.tmp 8)), none⟩, ⟨(some 67), (.load false 1 (.tmp 66)), none⟩, ⟨(some 68), (.bin .eql (.tmp 67) (.cst (.int .i64 0))), none⟩, ⟨(some 69), (.mv (.tmp 68)), none⟩, ⟨(some 70), (.faddr 6 (.tmp 8)), (some (69, true))⟩, ⟨(some 71), (.load false 1 (.tmp 70)), (some (69, true))⟩, ⟨(some 72), (.un .not (.tmp 71)), (some (69, true))⟩, ⟨(some 73), (.pick (.tmp 69) (.tmp 72) (.cst (.bool false))), none⟩, ⟨(some 74), (.mv (.tmp 73)), none⟩, ⟨(some 75), (.faddr 2 (.tmp 8)), (some (74, true))⟩, ⟨(some 76), (.load false 1 (.tmp 75)), (some (74, true))⟩, ⟨(some 77), (.bin .eql (.tmp 76) (.cst (.int .i64 (-1)))), (some (74, true))⟩, ⟨(some 78), (.pick (.tmp 74) (.tmp 77) (.cst (.bool false))), none⟩, ⟨(some 65), (.mv (.tmp 78)), none⟩]
abbrev A17r17 : List AIns := [⟨(some 4), (.mv (.cst (.int .i64 3))), none⟩]
abbrev A17c18 : ACode := (.seq (.reg A17r16 [1, 8, 14, 15, 16, 65]) (.cond (.tmp 65) [] (.seq (.reg A17r17 [4]) .ret) [1, 8, 14, 15, 16] .skip))
abbrev A17c19 : ACode := (.seq (.reg A17r14 [1, 8, 14, 15, 16, 46]) (.cond (.tmp 46) [] (.seq (.reg A17r15 [4]) .ret) [1, 8, 14, 15, 16] A17c18))
abbrev A17c20 : ACode := (.seq (.reg A17r12 [1, 8, 14, 15, 16, 41]) (.cond (.tmp 41) [] (.seq (.reg A17r13 [4]) .ret) [1, 8, 14, 15, 16] A17c19))
abbrev A17c21 : ACode := (.seq (.reg A17r10 [1, 6, 8, 14, 15, 16, 20]) (.cond (.tmp 20) [] (.seq (.reg A17r11 [4]) .ret) [1, 6, 8, 14, 15, 16] A17c20))
abbrev A17r22 : List AIns := [⟨(some 79), (.faddr 0 (.tmp 8)), none⟩, ⟨(some 80), (.load false 1 (.tmp 79)), none⟩, ⟨(some 6), (.mv (.tmp 80)), none⟩]
abbrev A17c23 : ACode := (.seq (.reg A17r9 [1, 6, 8, 14, 15, 16]) (.seq (.block 2 A17c21) (.reg A17r22 [1, 6, 14, 15, 16])))
abbrev A17r24 : List AIns := [⟨(some 81), (.bin .add (.tmp 16) (.cst (.int .i64 1))), none⟩, ⟨(some 16), (.mv (.tmp 81)), none⟩]
abbrev A17l7 : ACode := (.seq (.reg A17r8 [1, 6, 14, 15, 16, 17]) (.seq (.cond (.tmp 17) [1, 6, 14, 15, 16] .skip [] (.exit 0)) (.seq (.block 1 A17c23) (.reg A17r24 [1, 6, 14, 15, 16]))))
abbrev A17r25 : List AIns := [⟨(some 4), (.mv (.cst (.int .i64 0))), none⟩]
def A17 : AFun := ⟨82, 2, [(.tmp 4)], (.seq (.reg A17r1 [0, 1]) (.seq (.seq (.reg A17r2 [0, 1, 5]) (.seq (.reg A17r3 [0, 1, 5, 12]) (.cond (.tmp 12) [5] (.seq (.reg A17r4 [4]) .ret) [0, 1] .skip))) (.seq (.reg A17r5 [0, 1, 6]) (.seq (.seq (.reg A17r6 [1, 6, 14, 15, 16]) (.block 0 (.loop A17l7))) (.seq (.reg A17r25 [4]) .ret)))))⟩
theorem A17c : compF Try.prog Try.f17 = some A17 := by kernel_rfl
theorem A17k : Callable Try.prog 17 := fun a w => Try.call17 a w
theorem A17p {ds : List D} {r : D} (hl : ds.length ≤ A17.nt) (hw : W Try.prog A17.code (Fin A17.results r) ⟨argEnv 0 ds, fun _ => none⟩) : PCon Try.prog 17 ds r := pcon_of_W mixed Try.func17 A17k A17c hl hw
/- estovers/estoversref39.Check -/
/- estovers/estoverslaw39.Few -/
/- estovers/reclaimplan.Reason -/
/- estovers/estoversref39.Reason -/
/- estovers/estoversref39.Same -/
/- estovers/reclaimplan.Witness -/
/- estovers/estoversref39.Witness -/
/- estovers/reclaimplan.Next -/
abbrev A25r1 : List AIns := [⟨(some 8), (.mv (.cst (.int .i64 0))), none⟩]
abbrev A25r2 : List AIns := [⟨(some 17), (.mv (.tmp 0)), none⟩, ⟨(some 18), (.mv (.tmp 1)), none⟩, ⟨(some 19), (.mv (.tmp 2)), none⟩, ⟨(some 20), (.mv (.tmp 3)), none⟩, ⟨(some 21), (.call (.fnc 42) [(.tmp 17), (.tmp 18), (.tmp 19), (.tmp 20)]), none⟩, ⟨(some 16), (.mv (.tmp 21)), none⟩, ⟨(some 22), (.extract 0 (.tmp 16)), none⟩, ⟨(some 23), (.extract 1 (.tmp 16)), none⟩, ⟨(some 9), (.mv (.tmp 22)), none⟩, ⟨(some 10), (.mv (.tmp 23)), none⟩]
abbrev A25r3 : List AIns := [⟨(some 24), (.mv (.tmp 10)), none⟩, ⟨(some 25), (.bin .neq (.tmp 24) (.cst (.int .i64 0))), none⟩]
abbrev A25r4 : List AIns := [⟨(some 8), (.mv (.cst (.int .i64 (-1)))), none⟩]
abbrev A25r5 : List AIns := [⟨(some 11), (.mv (.cst (.int .i64 (-1)))), none⟩, ⟨(some 12), (.mv (.cst (.bool false))), none⟩]
abbrev A25r6 : List AIns := [⟨(some 26), (.mv (.tmp 0)), none⟩, ⟨(some 27), (.len (.tmp 26)), none⟩, ⟨(some 28), (.mv (.cst (.int .i64 0))), none⟩]
abbrev A25r8 : List AIns := [⟨(some 29), (.bin .lss (.tmp 28) (.tmp 27)), none⟩]
abbrev A25r9 : List AIns := [⟨(some 30), (.mv (.tmp 28)), none⟩, ⟨(some 31), (.iaddr 7 (.tmp 26) (.tmp 28)), none⟩, ⟨(some 32), (.load true 7 (.tmp 31)), none⟩, ⟨(some 14), (.alloc [(.int .i64 0), (.int .i64 0), (.int .i64 0), (.int .i64 0), (.int .i64 0), (.bool false), (.bool false)]), none⟩, ⟨(some 13), (.mv (.tmp 30)), none⟩, ⟨none, (.store 7 (.tmp 14) (.tmp 32)), none⟩]
abbrev A25r10 : List AIns := [⟨(some 33), (.mv (.tmp 9)), none⟩, ⟨(some 34), (.load true 7 (.tmp 14)), none⟩, ⟨(some 35), (.call (.fnc 43) [(.tmp 33), (.tmp 34)]), none⟩, ⟨(some 36), (.bin .neq (.tmp 35) (.cst (.int .i64 0))), none⟩]
abbrev A25d11 : List AIns := [⟨(some 37), (.faddr 1 (.tmp 14)), none⟩, ⟨(some 38), (.load false 1 (.tmp 37)), none⟩, ⟨(some 39), (.bin .lss (.tmp 38) (.cst (.int .i64 0))), none⟩, ⟨(some 40), (.mv (.tmp 39)), none⟩, ⟨(some 41), (.mv (.tmp 9)), (some (40, false))⟩, ⟨(some 42), (.nilck (.tmp 41)), (some (40, false))⟩, ⟨(some 43), (.faddr 5 (.tmp 42)), (some (40, false))⟩, ⟨(some 44), (.load false 1 (.tmp 43)), (some (40, false))⟩, ⟨(some 45), (.faddr 1 (.tmp 14)), (some (40, false))⟩, ⟨(some 46), (.load false 1 (.tmp 45)), (some (40, false))⟩, ⟨(some 47), (.iaddr 1 (.tmp 44) (.tmp 46)), (some (40, false))⟩, ⟨(some 48), (.load false 1 (.tmp 47)), (some (40, false))⟩, ⟨(some 49), (.un .not (.tmp 48)), (some (40, false))⟩, ⟨(some 50), (.pick (.tmp 40) (.cst (.bool true)) (.tmp 49)), none⟩, ⟨(some 15), (.mv (.tmp 50)), none⟩]
abbrev A25d12 : List AIns := [⟨(some 51), (.mv (.tmp 11)), none⟩, ⟨(some 52), (.bin .lss (.tmp 51) (.cst (.int .i64 0))), none⟩, ⟨(some 53), (.mv (.tmp 52)), none⟩, ⟨(some 54), (.mv (.tmp 15)), (some (53, false))⟩, ⟨(some 55), (.mv (.tmp 54)), (some (53, false))⟩, ⟨(some 56), (.mv (.tmp 12)), (some (55, true))⟩, ⟨(some 57), (.un .not (.tmp 56)), (some (55, true))⟩, ⟨(some 58), (.pick (.tmp 55) (.tmp 57) (.cst (.bool false))), (some (53, false))⟩, ⟨(some 59), (.pick (.tmp 53) (.cst (.bool true)) (.tmp 58)), none⟩, ⟨(some 60), (.mv (.tmp 59)), none⟩, ⟨(some 61), (.mv (.tmp 15)), (some (60, false))⟩, ⟨(some 62), (.mv (.tmp 12)), (some (60, false))⟩, ⟨(some 63), (.eqB false (.tmp 61) (.tmp 62)), (some (60, false))⟩, ⟨(some 64), (.mv (.tmp 63)), (some (60, false))⟩, ⟨(some 65), (.faddr 2 (.tmp 14)), (some (64, true))⟩, ⟨(some 66), (.load false 1 (.tmp 65)), (some (64, true))⟩, ⟨(some 67), (.mv (.tmp 0)), (some (64, true))⟩, ⟨(some 68), (.mv (.tmp 11)), (some (64, true))⟩, ⟨(some 69), (.iaddr 7 (.tmp 67) (.tmp 68)), (some (64, true))⟩, ⟨(some 70), (.faddr 2 (.tmp 69)), (some (64, true))⟩, ⟨(some 71), (.load false 1 (.tmp 70)), (some (64, true))⟩, ⟨(some 72), (.bin .lss (.tmp 66) (.tmp 71)), (some (64, true))⟩, ⟨(some 73), (.pick (.tmp 64) (.tmp 72) (.cst (.bool false))), (some (60, false))⟩, ⟨(some 74), (.pick (.tmp 60) (.cst (.bool true)) (.tmp 73)), none⟩]
abbrev A25r13 : List AIns := [⟨(some 75), (.mv (.tmp 13)), none⟩, ⟨(some 76), (.mv (.tmp 15)), none⟩, ⟨(some 11), (.mv (.tmp 75)), none⟩, ⟨(some 12), (.mv (.tmp 76)), none⟩]
abbrev A25c14 : ACode := (.seq (.reg A25r9 [0, 9, 11, 12, 13, 14, 26, 27, 28]) (.seq (.seq (.reg A25r10 [0, 9, 11, 12, 13, 14, 26, 27, 28, 36]) (.cond (.tmp 36) [0, 9, 11, 12, 26, 27, 28] (.exit 1) [0, 9, 11, 12, 13, 14, 26, 27, 28] .skip)) (.seq (.dreg A25d11 [[], [0], [0, 1], [0, 1, 2], [0, 1, 2, 3], [0, 1, 2, 3, 4], [0, 1, 2, 3, 4, 5], [0, 1, 2, 3, 4, 5, 6], [0, 1, 2, 3], [0, 1, 2, 3, 8], [0, 1, 2, 3, 4, 5, 6, 7, 8, 9], [0, 1, 2, 3, 4, 5, 6, 7, 8, 9, 10], [0, 1, 2, 3, 4, 5, 6, 7, 8, 9, 10, 11], [0, 1, 2, 3, 4, 5, 6, 7, 8, 9, 10, 11, 12], [0, 1, 2, 3, 4, 5, 6, 7, 8, 9, 10, 11, 12, 13]] [0, 9, 11, 12, 13, 14, 15, 26, 27, 28]) (.seq (.dreg A25d12 [[], [0], [0, 1], [0, 1, 2], [0, 1, 2, 3], [0, 1, 2, 3, 4], [0, 1, 2, 3, 4, 5], [0, 1, 2, 3, 4, 5, 6], [0, 1, 2, 3, 4, 5, 6, 7], [0, 1, 2, 3, 4, 5, 6, 7, 8], [0, 1, 2, 3, 4, 5, 6, 7, 8, 9], [0, 1, 2, 3, 4, 5, 6, 7, 8, 9], [0, 1, 2, 3, 4, 5, 6, 7, 8, 9, 10, 11], [0, 1, 2, 3, 4, 5, 6, 7, 8, 9, 10, 11, 12], [0, 1, 2, 3, 4, 5, 6, 7, 8, 9, 10, 11, 12, 13], [0, 1, 2, 3, 4, 5, 6, 7, 8, 9, 10, 11, 12, 13, 14], [0, 1, 2, 3, 4, 5, 6, 7, 8, 9, 10, 11, 12, 13], [0, 1, 2, 3, 4, 5, 6, 7, 8, 9, 10, 11, 12, 13], [0, 1, 2, 3, 4, 5, 6, 7, 8, 9, 10, 11, 12, 13, 16, 17], [0, 1, 2, 3, 4, 5, 6, 7, 8, 9, 10, 11, 12, 13, 16, 17, 18], [0, 1, 2, 3, 4, 5, 6, 7, 8, 9, 10, 11, 12, 13, 16, 17, 18, 19], [0, 1, 2, 3, 4, 5, 6, 7, 8, 9, 10, 11, 12, 13, 14, 15, 16, 17, 18, 19, 20], [0, 1, 2, 3, 4, 5, 6, 7, 8, 9, 10, 11, 12, 13, 14, 15, 16, 17, 18, 19, 20, 21], [0, 1, 2, 3, 4, 5, 6, 7, 8, 9, 10, 11, 12, 13, 14, 15, 16, 17, 18, 19, 20, 21, 22]] [0, 9, 11, 12, 13, 15, 26, 27, 28, 74]) (.cond (.tmp 74) [0, 9, 13, 15, 26, 27, 28] (.reg A25r13 [0, 9, 11, 12, 26, 27, 28]) [0, 9, 11, 12, 26, 27, 28] .skip)))))
abbrev A25r15 : List AIns := [⟨(some 77), (.bin .add (.tmp 28) (.cst (.int .i64 1))), none⟩, ⟨(some 28), (.mv (.tmp 77)), none⟩]
abbrev A25l7 : ACode := (.seq (.reg A25r8 [0, 9, 11, 12, 26, 27, 28, 29]) (.seq (.cond (.tmp 29) [0, 9, 11, 12, 26, 27, 28] .skip [11] (.exit 0)) (.seq (.block 1 A25c14) (.reg A25r15 [0, 9, 11, 12, 26, 27, 28]))))
abbrev A25r16 : List AIns := [⟨(some 78), (.mv (.tmp 11)), none⟩, ⟨(some 8), (.mv (.tmp 78)), none⟩]
def A25 : AFun := ⟨79, 4, [(.tmp 8)], (.seq (.reg A25r1 [0, 1, 2, 3]) (.seq (.reg A25r2 [0, 9, 10]) (.seq (.seq (.reg A25r3 [0, 9, 25]) (.cond (.tmp 25) [] (.seq (.reg A25r4 [8]) .ret) [0, 9] .skip)) (.seq (.reg A25r5 [0, 9, 11, 12]) (.seq (.seq (.reg A25r6 [0, 9, 11, 12, 26, 27, 28]) (.block 0 (.loop A25l7))) (.seq (.reg A25r16 [8]) .ret))))))⟩
theorem A25c : compF Try.prog Try.f25 = some A25 := by kernel_rfl
theorem A25k : Callable Try.prog 25 := fun a w => Try.call25 a w
theorem A25p {ds : List D} {r : D} (hl : ds.length ≤ A25.nt) (hw : W Try.prog A25.code (Fin A25.results r) ⟨argEnv 0 ds, fun _ => none⟩) : PCon Try.prog 25 ds r := pcon_of_W mixed Try.func25 A25k A25c hl hw
/- estovers/estoversref39.Next -/
/- estovers/reclaimplan.Useful -/
/- estovers/estoversref39.Useful -/
/- estovers/reclaimplan.Transit -/
/- estovers/estoversref39.Transit -/
/- estovers/reclaimplan.Verify -/
/- estovers/estoversref39.Verify -/
/- estovers/estoversref19.Check -/
abbrev A33r1 : List AIns := [⟨(some 2), (.mv (.cst (.int .i64 0))), none⟩]
abbrev A33r2 : List AIns := [⟨(some 7), (.mv (.tmp 0)), none⟩, ⟨(some 8), (.len (.tmp 7)), none⟩, ⟨(some 9), (.bin .lss (.tmp 8) (.cst (.int .i64 1))), none⟩, ⟨(some 10), (.mv (.tmp 9)), none⟩, ⟨(some 11), (.mv (.tmp 0)), (some (10, false))⟩, ⟨(some 12), (.len (.tmp 11)), (some (10, false))⟩, ⟨(some 13), (.bin .gtr (.tmp 12) (.cst (.int .i64 8))), (some (10, false))⟩, ⟨(some 14), (.pick (.tmp 10) (.cst (.bool true)) (.tmp 13)), none⟩]
abbrev A33r3 : List AIns := [⟨(some 2), (.mv (.cst (.int .i64 9))), none⟩]
abbrev A33r4 : List AIns := [⟨(some 3), (.mv (.cst (.int .i64 0))), none⟩]
abbrev A33r6 : List AIns := [⟨(some 15), (.mv (.tmp 3)), none⟩, ⟨(some 16), (.mv (.tmp 0)), none⟩, ⟨(some 17), (.len (.tmp 16)), none⟩, ⟨(some 18), (.bin .lss (.tmp 15) (.tmp 17)), none⟩]
abbrev A33r7 : List AIns := [⟨(some 21), (.mv (.tmp 3)), none⟩, ⟨(some 22), (.bin .eql (.tmp 21) (.cst (.int .i64 0))), none⟩, ⟨(some 23), (.mv (.tmp 22)), none⟩, ⟨(some 24), (.mv (.tmp 0)), (some (23, true))⟩, ⟨(some 25), (.mv (.tmp 3)), (some (23, true))⟩, ⟨(some 26), (.iaddr 5 (.tmp 24) (.tmp 25)), (some (23, true))⟩, ⟨(some 27), (.faddr 0 (.tmp 26)), (some (23, true))⟩, ⟨(some 28), (.load false 1 (.tmp 27)), (some (23, true))⟩, ⟨(some 29), (.bin .neq (.tmp 28) (.cst (.int .i64 (-1)))), (some (23, true))⟩, ⟨(some 30), (.pick (.tmp 23) (.tmp 29) (.cst (.bool false))), none⟩, ⟨(some 31), (.mv (.tmp 30)), none⟩, ⟨(some 32), (.mv (.tmp 3)), (some (31, false))⟩, ⟨(some 33), (.bin .gtr (.tmp 32) (.cst (.int .i64 0))), (some (31, false))⟩, ⟨(some 34), (.mv (.tmp 33)), (some (31, false))⟩, ⟨(some 35), (.mv (.tmp 0)), (some (34, true))⟩, ⟨(some 36), (.mv (.tmp 3)), (some (34, true))⟩, ⟨(some 37), (.iaddr 5 (.tmp 35) (.tmp 36)), (some (34, true))⟩, ⟨(some 38), (.faddr 0 (.tmp 37)), (some (34, true))⟩, ⟨(some 39), (.load false 1 (.tmp 38)), (some (34, true))⟩, ⟨(some 40), (.bin .lss (.tmp 39) (.cst (.int .i64 0))), (some (34, true))⟩, ⟨(some 41), (.mv (.tmp 40)), (some (34, true))⟩, ⟨(some 42), (.mv (.tmp 0)), (some (41, false))⟩, ⟨(some 43), (.mv (.tmp 3)), (some (41, false))⟩, ⟨(some 44), (.iaddr 5 (.tmp 42) (.tmp 43)), (some (41, false))⟩, ⟨(some 45), (.faddr 0 (.tmp 44)), (some (41, false))⟩, ⟨(some 46), (.load false 1 (.tmp 45)), (some (41, false))⟩, ⟨(some 47), (.mv (.tmp 3)), (some (41, false))⟩, ⟨(some 48), (.bin .geq (.tmp 46) (.tmp 47)), (some (41, false))⟩, ⟨(some 49), (.pick (.tmp 41) (.cst (.bool true)) (.tmp 48)), (some (34, true))⟩, ⟨(some 50), (.pick (.tmp 34) (.tmp 49) (.cst (.bool false))), (some (31, false))⟩, ⟨(some 51), (.pick (.tmp 31) (.cst (.bool true)) (.tmp 50)), none⟩]
abbrev A33r8 : List AIns := [⟨(some 2), (.mv (.cst (.int .i64 1))), none⟩]
abbrev A33c9 : ACode := (.seq (.reg A33r7 [0, 3, 51]) (.cond (.tmp 51) [] (.seq (.reg A33r8 [2]) .ret) [0, 3] .skip))
abbrev A33r10 : List AIns := [⟨(some 19), (.mv (.tmp 3)), none⟩, ⟨(some 20), (.bin .add (.tmp 19) (.cst (.int .i64 1))), none⟩, ⟨(some 3), (.mv (.tmp 20)), none⟩]
abbrev A33l5 : ACode := (.seq (.seq (.reg A33r6 [0, 3, 18]) (.cond (.tmp 18) [0, 3] .skip [0] (.exit 0))) (.seq (.block 1 A33c9) (.reg A33r10 [0, 3])))
abbrev A33r11 : List AIns := [⟨(some 4), (.mv (.cst (.int .i64 0))), none⟩]
abbrev A33r13 : List AIns := [⟨(some 52), (.mv (.tmp 4)), none⟩, ⟨(some 53), (.mv (.tmp 0)), none⟩, ⟨(some 54), (.len (.tmp 53)), none⟩, ⟨(some 55), (.bin .lss (.tmp 52) (.tmp 54)), none⟩]
abbrev A33r14 : List AIns := [⟨(some 58), (.mv (.tmp 0)), none⟩, ⟨(some 59), (.mv (.tmp 4)), none⟩, ⟨(some 60), (.iaddr 5 (.tmp 58) (.tmp 59)), none⟩, ⟨(some 61), (.faddr 1 (.tmp 60)), none⟩, ⟨(some 62), (.load false 1 (.tmp 61)), none⟩, ⟨(some 63), (.call (.fnc 54) [(.tmp 62)]), none⟩, ⟨(some 64), (.un .not (.tmp 63)), none⟩, ⟨(some 65), (.mv (.tmp 64)), none⟩, ⟨(some 66), (.mv (.tmp 0)), (some (65, false))⟩, ⟨(some 67), (.mv (.tmp 4)), (some (65, false))⟩, ⟨(some 68), (.iaddr 5 (.tmp 66) (.tmp 67)), (some (65, false))⟩, ⟨(some 69), (.faddr 2 (.tmp 68)), (some (65, false))⟩, ⟨(some 70), (.load false 1 (.tmp 69)), (some (65, false))⟩, ⟨(some 71), (.call (.fnc 54) [(.tmp 70)]), (some (65, false))⟩, ⟨(some 72), (.un .not (.tmp 71)), (some (65, false))⟩, ⟨(some 73), (.pick (.tmp 65) (.cst (.bool true)) (.tmp 72)), none⟩, ⟨(some 74), (.mv (.tmp 73)), none⟩, ⟨(some 75), (.mv (.tmp 0)), (some (74, false))⟩, ⟨(some 76), (.mv (.tmp 4)), (some (74, false))⟩, ⟨(some 77), (.iaddr 5 (.tmp 75) (.tmp 76)), (some (74, false))⟩, ⟨(some 78), (.faddr 3 (.tmp 77)), (some (74, false))⟩, ⟨(some 79), (.load false 1 (.tmp 78)), (some (74, false))⟩, ⟨(some 80), (.call (.fnc 54) [(.tmp 79)]), (some (74, false))⟩, ⟨(some 81), (.un .not (.tmp 80)), (some (74, false))⟩, ⟨(some 82), (.pick (.tmp 74) (.cst (.bool true)) (.tmp 81)), none⟩, ⟨(some 83), (.mv (.tmp 82)), none⟩, ⟨(some 84), (.mv (.tmp 0)), (some (83, false))⟩, ⟨(some 85), (.mv (.tmp 4)), (some (83, false))⟩, ⟨(some 86), (.iaddr 5 (.tmp 84) (.tmp 85)), (some (83, false))⟩, ⟨(some 87), (.faddr 4 (.tmp 86)), (some (83, false))⟩, ⟨(some 88), (.load false 1 (.tmp 87)), (some (83, false))⟩, ⟨(some 89), (.call (.fnc 54) [(.tmp 88)]), (some (83, false))⟩, ⟨(some 90), (.un .not (.tmp 89)), (some (83, false))⟩, ⟨(some 91), (.pick (.tmp 83) (.cst (.bool true)) (.tmp 90)), none⟩]
abbrev A33r15 : List AIns := [⟨(some 2), (.mv (.cst (.int .i64 2))), none⟩]
abbrev A33c16 : ACode := (.seq (.reg A33r14 [0, 4, 91]) (.cond (.tmp 91) [] (.seq (.reg A33r15 [2]) .ret) [0, 4] .skip))
abbrev A33r17 : List AIns := [⟨(some 56), (.mv (.tmp 4)), none⟩, ⟨(some 57), (.bin .add (.tmp 56) (.cst (.int .i64 1))), none⟩, ⟨(some 4), (.mv (.tmp 57)), none⟩]
abbrev A33l12 : ACode := (.seq (.seq (.reg A33r13 [0, 4, 55]) (.cond (.tmp 55) [0, 4] .skip [0] (.exit 2))) (.seq (.block 3 A33c16) (.reg A33r17 [0, 4])))
abbrev A33r18 : List AIns := [⟨(some 92), (.mv (.tmp 0)), none⟩, ⟨(some 93), (.iaddr 5 (.tmp 92) (.cst (.int .i64 0))), none⟩, ⟨(some 94), (.faddr 2 (.tmp 93)), none⟩, ⟨(some 95), (.load false 1 (.tmp 94)), none⟩, ⟨(some 96), (.bin .neq (.tmp 95) (.cst (.int .i64 0))), none⟩, ⟨(some 97), (.mv (.tmp 96)), none⟩, ⟨(some 98), (.mv (.tmp 0)), (some (97, false))⟩, ⟨(some 99), (.iaddr 5 (.tmp 98) (.cst (.int .i64 0))), (some (97, false))⟩, ⟨(some 100), (.faddr 3 (.tmp 99)), (some (97, false))⟩, ⟨(some 101), (.load false 1 (.tmp 100)), (some (97, false))⟩, ⟨(some 102), (.bin .neq (.tmp 101) (.cst (.int .i64 0))), (some (97, false))⟩, ⟨(some 103), (.pick (.tmp 97) (.cst (.bool true)) (.tmp 102)), none⟩]
abbrev A33r19 : List AIns := [⟨(some 2), (.mv (.cst (.int .i64 2))), none⟩]
abbrev A33r20 : List AIns := [⟨(some 5), (.mv (.cst (.int .i64 0))), none⟩]
abbrev A33r22 : List AIns := [⟨(some 104), (.mv (.tmp 5)), none⟩, ⟨(some 105), (.mv (.tmp 0)), none⟩, ⟨(some 106), (.len (.tmp 105)), none⟩, ⟨(some 107), (.bin .lss (.tmp 104) (.tmp 106)), none⟩]
abbrev A33d23 : List AIns := [⟨(some 110), (.mv (.tmp 0)), none⟩, ⟨(some 111), (.mv (.tmp 5)), none⟩, ⟨(some 112), (.iaddr 5 (.tmp 110) (.tmp 111)), none⟩, ⟨(some 113), (.faddr 1 (.tmp 112)), none⟩, ⟨(some 114), (.load false 1 (.tmp 113)), none⟩, ⟨(some 115), (.mv (.tmp 0)), none⟩, ⟨(some 116), (.mv (.tmp 5)), none⟩, ⟨(some 117), (.iaddr 5 (.tmp 115) (.tmp 116)), none⟩, ⟨(some 118), (.faddr 4 (.tmp 117)), none⟩, ⟨(some 119), (.load false 1 (.tmp 118)), none⟩, ⟨(some 120), (.bin .gtr (.tmp 114) (.tmp 119)), none⟩]
abbrev A33r24 : List AIns := [⟨(some 2), (.mv (.cst (.int .i64 17))), none⟩]
abbrev A33c25 : ACode := (.seq (.dreg A33d23 [[], [], [0, 1], [0, 1, 2], [0, 1, 2, 3], [], [], [5, 6], [5, 6, 7], [5, 6, 7, 8], [0, 1, 2, 3, 4, 5, 6, 7, 8, 9]] [0, 5, 120]) (.cond (.tmp 120) [] (.seq (.reg A33r24 [2]) .ret) [0, 5] .skip))
abbrev A33r26 : List AIns := [⟨(some 108), (.mv (.tmp 5)), none⟩, ⟨(some 109), (.bin .add (.tmp 108) (.cst (.int .i64 1))), none⟩, ⟨(some 5), (.mv (.tmp 109)), none⟩]
abbrev A33l21 : ACode := (.seq (.seq (.reg A33r22 [0, 5, 107]) (.cond (.tmp 107) [0, 5] .skip [0] (.exit 4))) (.seq (.block 5 A33c25) (.reg A33r26 [0, 5])))
abbrev A33r27 : List AIns := [⟨(some 6), (.mv (.cst (.int .i64 0))), none⟩]
abbrev A33r29 : List AIns := [⟨(some 121), (.mv (.tmp 6)), none⟩, ⟨(some 122), (.mv (.tmp 0)), none⟩, ⟨(some 123), (.len (.tmp 122)), none⟩, ⟨(some 124), (.bin .lss (.tmp 121) (.tmp 123)), none⟩]
abbrev A33d30 : List AIns := [⟨(some 127), (.mv (.tmp 0)), none⟩, ⟨(some 128), (.mv (.tmp 6)), none⟩, ⟨(some 129), (.iaddr 5 (.tmp 127) (.tmp 128)), none⟩, ⟨(some 130), (.faddr 1 (.tmp 129)), none⟩, ⟨(some 131), (.load false 1 (.tmp 130)), none⟩, ⟨(some 132), (.mv (.tmp 0)), none⟩, ⟨(some 133), (.mv (.tmp 6)), none⟩, ⟨(some 134), (.call (.fnc 55) [(.tmp 132), (.tmp 133)]), none⟩, ⟨(some 135), (.bin .lss (.tmp 131) (.tmp 134)), none⟩]
abbrev A33r31 : List AIns := [⟨(some 2), (.mv (.cst (.int .i64 11))), none⟩]
abbrev A33c32 : ACode := (.seq (.dreg A33d30 [[], [], [0, 1], [0, 1, 2], [0, 1, 2, 3], [], [], [5, 6], [0, 1, 2, 3, 4, 5, 6, 7]] [0, 6, 135]) (.cond (.tmp 135) [] (.seq (.reg A33r31 [2]) .ret) [0, 6] .skip))
abbrev A33r33 : List AIns := [⟨(some 125), (.mv (.tmp 6)), none⟩, ⟨(some 126), (.bin .add (.tmp 125) (.cst (.int .i64 1))), none⟩, ⟨(some 6), (.mv (.tmp 126)), none⟩]
abbrev A33l28 : ACode := (.seq (.seq (.reg A33r29 [0, 6, 124]) (.cond (.tmp 124) [0, 6] .skip [] (.exit 6))) (.seq (.block 7 A33c32) (.reg A33r33 [0, 6])))
abbrev A33r34 : List AIns := [⟨(some 2), (.mv (.cst (.int .i64 0))), none⟩]
def A33 : AFun := ⟨136, 1, [(.tmp 2)], (.seq (.reg A33r1 [0]) (.seq (.seq (.reg A33r2 [0, 14]) (.cond (.tmp 14) [] (.seq (.reg A33r3 [2]) .ret) [0] .skip)) (.seq (.seq (.reg A33r4 [0, 3]) (.block 0 (.loop A33l5))) (.seq (.seq (.reg A33r11 [0, 4]) (.block 2 (.loop A33l12))) (.seq (.seq (.reg A33r18 [0, 103]) (.cond (.tmp 103) [] (.seq (.reg A33r19 [2]) .ret) [0] .skip)) (.seq (.seq (.reg A33r20 [0, 5]) (.block 4 (.loop A33l21))) (.seq (.seq (.reg A33r27 [0, 6]) (.block 6 (.loop A33l28))) (.seq (.reg A33r34 [2]) .ret))))))))⟩
theorem A33c : compF Try.prog Try.f33 = some A33 := by kernel_rfl
theorem A33k : Callable Try.prog 33 := fun a w => Try.call33 a w
theorem A33p {ds : List D} {r : D} (hl : ds.length ≤ A33.nt) (hw : W Try.prog A33.code (Fin A33.results r) ⟨argEnv 0 ds, fun _ => none⟩) : PCon Try.prog 33 ds r := pcon_of_W mixed Try.func33 A33k A33c hl hw
/- estovers/estoversref19.Inside -/
abbrev A34r1 : List AIns := [⟨(some 6), (.mv (.cst (.bool false))), none⟩]
abbrev A34r2 : List AIns := [⟨(some 9), (.mv (.tmp 0)), none⟩, ⟨(some 10), (.mv (.tmp 1)), none⟩, ⟨(some 11), (.call (.fnc 56) [(.tmp 9), (.tmp 10)]), none⟩, ⟨(some 12), (.un .not (.tmp 11)), none⟩]
abbrev A34r3 : List AIns := [⟨(some 6), (.mv (.cst (.bool false))), none⟩]
abbrev A34r4 : List AIns := [⟨(some 13), (.mv (.tmp 2)), none⟩, ⟨(some 14), (.bin .eql (.tmp 13) (.cst (.int .i64 (-1)))), none⟩]
abbrev A34r5 : List AIns := [⟨(some 6), (.mv (.cst (.bool true))), none⟩]
abbrev A34r6 : List AIns := [⟨(some 15), (.mv (.tmp 0)), none⟩, ⟨(some 16), (.mv (.tmp 1)), none⟩, ⟨(some 17), (.call (.fnc 57) [(.tmp 15), (.tmp 16)]), none⟩, ⟨(some 7), (.mv (.tmp 17)), none⟩]
abbrev A34r7 : List AIns := [⟨(some 8), (.mv (.cst (.int .i64 0))), none⟩]
abbrev A34r9 : List AIns := [⟨(some 18), (.mv (.tmp 8)), none⟩, ⟨(some 19), (.mv (.tmp 7)), none⟩, ⟨(some 20), (.len (.tmp 19)), none⟩, ⟨(some 21), (.bin .lss (.tmp 18) (.tmp 20)), none⟩]
abbrev A34r10 : List AIns := [⟨(some 24), (.mv (.tmp 7)), none⟩, ⟨(some 25), (.mv (.tmp 8)), none⟩, ⟨(some 26), (.iaddr 1 (.tmp 24) (.tmp 25)), none⟩, ⟨(some 27), (.load false 1 (.tmp 26)), none⟩, ⟨(some 28), (.mv (.tmp 2)), none⟩, ⟨(some 29), (.bin .eql (.tmp 27) (.tmp 28)), none⟩]
abbrev A34r11 : List AIns := [⟨(some 6), (.mv (.cst (.bool true))), none⟩]
abbrev A34c12 : ACode := (.seq (.reg A34r10 [2, 7, 8, 29]) (.cond (.tmp 29) [] (.seq (.reg A34r11 [6]) .ret) [2, 7, 8] .skip))
abbrev A34r13 : List AIns := [⟨(some 22), (.mv (.tmp 8)), none⟩, ⟨(some 23), (.bin .add (.tmp 22) (.cst (.int .i64 1))), none⟩, ⟨(some 8), (.mv (.tmp 23)), none⟩]
abbrev A34l8 : ACode := (.seq (.seq (.reg A34r9 [2, 7, 8, 21]) (.cond (.tmp 21) [2, 7, 8] .skip [] (.exit 0))) (.seq (.block 1 A34c12) (.reg A34r13 [2, 7, 8])))
abbrev A34r14 : List AIns := [⟨(some 6), (.mv (.cst (.bool false))), none⟩]
def A34 : AFun := ⟨30, 3, [(.tmp 6)], (.seq (.reg A34r1 [0, 1, 2]) (.seq (.seq (.reg A34r2 [0, 1, 2, 12]) (.cond (.tmp 12) [] (.seq (.reg A34r3 [6]) .ret) [0, 1, 2] .skip)) (.seq (.seq (.reg A34r4 [0, 1, 2, 14]) (.cond (.tmp 14) [] (.seq (.reg A34r5 [6]) .ret) [0, 1, 2] .skip)) (.seq (.reg A34r6 [2, 7]) (.seq (.seq (.reg A34r7 [2, 7, 8]) (.block 0 (.loop A34l8))) (.seq (.reg A34r14 [6]) .ret))))))⟩
theorem A34c : compF Try.prog Try.f34 = some A34 := by kernel_rfl
theorem A34k : Callable Try.prog 34 := fun a w => Try.call34 a w
theorem A34p {ds : List D} {r : D} (hl : ds.length ≤ A34.nt) (hw : W Try.prog A34.code (Fin A34.results r) ⟨argEnv 0 ds, fun _ => none⟩) : PCon Try.prog 34 ds r := pcon_of_W mixed Try.func34 A34k A34c hl hw
/- estovers/estoverstop.awake20 -/
abbrev A35r1 : List AIns := [⟨(some 0), (.mv (.cst (.bool false))), none⟩]
abbrev A35r2 : List AIns := [⟨(some 7), (.build [(.int .i64 0), (.int .i64 0), (.int .i64 0), (.int .i64 0), (.int .i64 0)] [(0, (1, (.cst (.int .i64 (-1))))), (1, (1, (.cst (.int .i64 3)))), (4, (1, (.cst (.int .i64 9))))]), none⟩, ⟨(some 8), (.build [(.int .i64 0), (.int .i64 0), (.int .i64 0), (.int .i64 0), (.int .i64 0)] [(1, (1, (.cst (.int .i64 3)))), (2, (1, (.cst (.int .i64 2)))), (4, (1, (.cst (.int .i64 9))))]), none⟩, ⟨(some 9), (.buildS 5 [(.int .i64 0), (.int .i64 0), (.int .i64 0), (.int .i64 0), (.int .i64 0)] 2 [(0, (5, (.tmp 7))), (5, (5, (.tmp 8)))]), none⟩, ⟨(some 1), (.mv (.tmp 9)), none⟩]
abbrev A35r3 : List AIns := [⟨(some 10), (.mv (.tmp 1)), none⟩, ⟨(some 11), (.call (.fnc 39) [(.tmp 10)]), none⟩, ⟨(some 2), (.mv (.tmp 11)), none⟩]
abbrev A35r4 : List AIns := [⟨(some 13), (.mv (.tmp 1)), none⟩, ⟨(some 14), (.call (.fnc 36) [(.tmp 13)]), none⟩, ⟨(some 12), (.mv (.tmp 14)), none⟩, ⟨(some 15), (.extract 0 (.tmp 12)), none⟩, ⟨(some 16), (.extract 1 (.tmp 12)), none⟩, ⟨(some 3), (.mv (.tmp 15)), none⟩, ⟨(some 4), (.mv (.tmp 16)), none⟩]
abbrev A35r5 : List AIns := [⟨(some 18), (.call (.fnc 59) []), none⟩, ⟨(some 19), (.call (.fnc 58) [(.tmp 18), (.cst (.int .i64 0)), (.cst (.int .i64 7))]), none⟩, ⟨(some 17), (.mv (.tmp 19)), none⟩, ⟨(some 20), (.extract 0 (.tmp 17)), none⟩, ⟨(some 21), (.extract 1 (.tmp 17)), none⟩, ⟨(some 5), (.mv (.tmp 20)), none⟩, ⟨(some 6), (.mv (.tmp 21)), none⟩]
abbrev A35r6 : List AIns := [⟨(some 22), (.mv (.tmp 4)), none⟩, ⟨(some 23), (.bin .eql (.tmp 22) (.cst (.int .i64 0))), none⟩, ⟨(some 24), (.mv (.tmp 23)), none⟩, ⟨(some 25), (.mv (.tmp 3)), (some (24, true))⟩, ⟨(some 26), (.len (.tmp 25)), (some (24, true))⟩, ⟨(some 27), (.bin .eql (.tmp 26) (.cst (.int .i64 2))), (some (24, true))⟩, ⟨(some 28), (.pick (.tmp 24) (.tmp 27) (.cst (.bool false))), none⟩, ⟨(some 29), (.mv (.tmp 28)), none⟩, ⟨(some 30), (.mv (.tmp 3)), (some (29, true))⟩, ⟨(some 31), (.iaddr 1 (.tmp 30) (.cst (.int .i64 1))), (some (29, true))⟩, ⟨(some 32), (.load false 1 (.tmp 31)), (some (29, true))⟩, ⟨(some 33), (.bin .eql (.tmp 32) (.cst (.int .i64 2))), (some (29, true))⟩, ⟨(some 34), (.pick (.tmp 29) (.tmp 33) (.cst (.bool false))), none⟩, ⟨(some 35), (.mv (.tmp 34)), none⟩, ⟨(some 36), (.mv (.tmp 2)), (some (35, true))⟩, ⟨(some 37), (.mv (.tmp 1)), (some (35, true))⟩, ⟨(some 38), (.call (.fnc 25) [(.tmp 36), (.tmp 37), (.cst (.int .i64 (-1))), (.cst (.bool false))]), (some (35, true))⟩, ⟨(some 39), (.bin .eql (.tmp 38) (.cst (.int .i64 0))), (some (35, true))⟩, ⟨(some 40), (.pick (.tmp 35) (.tmp 39) (.cst (.bool false))), none⟩, ⟨(some 41), (.mv (.tmp 40)), none⟩, ⟨(some 42), (.mv (.tmp 6)), (some (41, true))⟩, ⟨(some 43), (.bin .eql (.tmp 42) (.cst (.int .i64 0))), (some (41, true))⟩, ⟨(some 44), (.pick (.tmp 41) (.tmp 43) (.cst (.bool false))), none⟩, ⟨(some 45), (.mv (.tmp 44)), none⟩, ⟨(some 46), (.mv (.tmp 5)), (some (45, true))⟩, ⟨(some 47), (.call (.fnc 60) [(.tmp 46), (.cst (.int .i64 7))]), (some (45, true))⟩, ⟨(some 48), (.bin .eql (.tmp 47) (.cst (.int .i64 0))), (some (45, true))⟩, ⟨(some 49), (.pick (.tmp 45) (.tmp 48) (.cst (.bool false))), none⟩, ⟨(some 50), (.mv (.tmp 49)), none⟩, ⟨(some 51), (.mv (.tmp 1)), (some (50, true))⟩, ⟨(some 52), (.buildS 1 [(.int .i64 0)] 2 [(0, (1, (.cst (.int .i64 0)))), (1, (1, (.cst (.int .i64 0))))]), (some (50, true))⟩, ⟨(some 53), (.call (.fnc 61) [(.tmp 51), (.tmp 52), (.cst (.int .i64 0))]), (some (50, true))⟩, ⟨(some 54), (.bin .eql (.tmp 53) (.cst (.int .i64 1))), (some (50, true))⟩, ⟨(some 55), (.pick (.tmp 50) (.tmp 54) (.cst (.bool false))), none⟩, ⟨(some 0), (.mv (.tmp 55)), none⟩]
def A35 : AFun := ⟨56, 0, [(.tmp 0)], (.seq (.reg A35r1 []) (.seq (.reg A35r2 [1]) (.seq (.reg A35r3 [1, 2]) (.seq (.reg A35r4 [1, 2, 3, 4]) (.seq (.reg A35r5 [1, 2, 3, 4, 5, 6]) (.seq (.reg A35r6 [0]) .ret))))))⟩
theorem A35c : compF Try.prog Try.f35 = some A35 := by kernel_rfl
theorem A35k : Callable Try.prog 35 := fun a w => Try.call35 a w
theorem A35p {ds : List D} {r : D} (hl : ds.length ≤ A35.nt) (hw : W Try.prog A35.code (Fin A35.results r) ⟨argEnv 0 ds, fun _ => none⟩) : PCon Try.prog 35 ds r := pcon_of_W mixed Try.func35 A35k A35c hl hw
/- estovers/protection.Effective -/
abbrev A36r1 : List AIns := [⟨(some 1), (.box (.tmp 0)), none⟩, ⟨(some 2), (.mv (.cst .nil)), none⟩, ⟨(some 3), (.mv (.cst (.int .i64 0))), none⟩]
abbrev A36r2 : List AIns := [⟨(some 12), (.load false 1 (.tmp 1)), none⟩, ⟨(some 13), (.call (.fnc 41) [(.tmp 12)]), none⟩, ⟨(some 4), (.mv (.tmp 13)), none⟩]
abbrev A36r3 : List AIns := [⟨(some 14), (.mv (.tmp 4)), none⟩, ⟨(some 15), (.bin .neq (.tmp 14) (.cst (.int .i64 0))), none⟩]
abbrev A36r4 : List AIns := [⟨(some 16), (.mv (.tmp 4)), none⟩, ⟨(some 2), (.mv (.cst .nil)), none⟩, ⟨(some 3), (.mv (.tmp 16)), none⟩]
abbrev A36r5 : List AIns := [⟨(some 17), (.mkfn 62 [] [(.tmp 1)]), none⟩, ⟨(some 5), (.mv (.tmp 17)), none⟩]
abbrev A36r6 : List AIns := [⟨(some 18), (.load false 1 (.tmp 1)), none⟩, ⟨(some 19), (.len (.tmp 18)), none⟩, ⟨(some 20), (.mkslice 1 8 [(.int .i64 0)] (.tmp 19) (.tmp 19)), none⟩, ⟨(some 6), (.mv (.tmp 20)), none⟩]
abbrev A36r7 : List AIns := [⟨(some 21), (.load false 1 (.tmp 1)), none⟩, ⟨(some 22), (.len (.tmp 21)), none⟩, ⟨(some 23), (.bin .sub (.tmp 22) (.cst (.int .i64 1))), none⟩, ⟨(some 7), (.mv (.tmp 23)), none⟩]
abbrev A36r9 : List AIns := [⟨(some 24), (.mv (.tmp 7)), none⟩, ⟨(some 25), (.bin .gtr (.tmp 24) (.cst (.int .i64 0))), none⟩]
abbrev A36d10 : List AIns := [⟨(some 28), (.mv (.tmp 6)), none⟩, ⟨(some 29), (.load false 1 (.tmp 1)), none⟩, ⟨(some 30), (.mv (.tmp 7)), none⟩, ⟨(some 31), (.iaddr 5 (.tmp 29) (.tmp 30)), none⟩, ⟨(some 32), (.faddr 0 (.tmp 31)), none⟩, ⟨(some 33), (.load false 1 (.tmp 32)), none⟩, ⟨(some 34), (.iaddr 1 (.tmp 28) (.tmp 33)), none⟩, ⟨(some 35), (.load false 1 (.tmp 34)), none⟩, ⟨(some 36), (.mv (.tmp 5)), none⟩, ⟨(some 37), (.mv (.tmp 7)), none⟩, ⟨(some 38), (.call (.tmp 36) [(.tmp 37)]), none⟩, ⟨(some 39), (.bin .add (.tmp 35) (.tmp 38)), none⟩, ⟨(some 40), (.iaddr 1 (.tmp 28) (.tmp 33)), none⟩, ⟨none, (.store 1 (.tmp 40) (.tmp 39)), none⟩]
abbrev A36d10p : List AIns := [⟨(some 28), (.mv (.tmp 6)), none⟩, ⟨(some 29), (.load false 1 (.tmp 1)), none⟩, ⟨(some 30), (.mv (.tmp 7)), none⟩, ⟨(some 31), (.iaddr 5 (.tmp 29) (.tmp 30)), none⟩, ⟨(some 32), (.faddr 0 (.tmp 31)), none⟩, ⟨(some 33), (.load false 1 (.tmp 32)), none⟩, ⟨(some 34), (.iaddr 1 (.tmp 28) (.tmp 33)), none⟩, ⟨(some 35), (.load false 1 (.tmp 34)), none⟩, ⟨(some 36), (.mv (.tmp 5)), none⟩, ⟨(some 37), (.mv (.tmp 7)), none⟩, ⟨(some 38), (.call (.tmp 36) [(.tmp 37)]), none⟩, ⟨(some 39), (.bin .add (.tmp 35) (.tmp 38)), none⟩, ⟨(some 40), (.iaddr 1 (.tmp 28) (.tmp 33)), none⟩]
abbrev A36c11 : ACode := (.dreg A36d10 [[], [], [], [1, 2], [1, 2, 3], [1, 2, 3, 4], [0, 1, 2, 3, 4, 5], [0, 1, 2, 3, 4, 5, 6], [], [], [8, 9], [0, 1, 2, 3, 4, 5, 6, 7, 8, 9, 10], [0, 1, 2, 3, 4, 5, 6, 7, 8, 9, 10, 11], [0, 1, 2, 3, 4, 5, 6, 7, 8, 9, 10, 11, 12]] [1, 5, 6, 7])
abbrev A36r12 : List AIns := [⟨(some 26), (.mv (.tmp 7)), none⟩, ⟨(some 27), (.bin .sub (.tmp 26) (.cst (.int .i64 1))), none⟩, ⟨(some 7), (.mv (.tmp 27)), none⟩]
abbrev A36l8 : ACode := (.seq (.seq (.reg A36r9 [1, 5, 6, 7, 25]) (.cond (.tmp 25) [1, 5, 6, 7] .skip [1, 5, 6] (.exit 0))) (.seq (.block 1 A36c11) (.reg A36r12 [1, 5, 6, 7])))
abbrev A36r13 : List AIns := [⟨(some 41), (.load false 1 (.tmp 1)), none⟩, ⟨(some 42), (.len (.tmp 41)), none⟩, ⟨(some 43), (.mkslice 1 8 [(.int .i64 0)] (.tmp 42) (.tmp 42)), none⟩, ⟨(some 8), (.mv (.tmp 43)), none⟩]
abbrev A36r14 : List AIns := [⟨(some 44), (.mv (.tmp 8)), none⟩, ⟨(some 45), (.load false 1 (.tmp 1)), none⟩, ⟨(some 46), (.iaddr 5 (.tmp 45) (.cst (.int .i64 0))), none⟩, ⟨(some 47), (.faddr 1 (.tmp 46)), none⟩, ⟨(some 48), (.load false 1 (.tmp 47)), none⟩, ⟨(some 49), (.iaddr 1 (.tmp 44) (.cst (.int .i64 0))), none⟩, ⟨none, (.store 1 (.tmp 49) (.tmp 48)), none⟩]
abbrev A36r15 : List AIns := [⟨(some 9), (.mv (.cst (.int .i64 1))), none⟩]
abbrev A36r17 : List AIns := [⟨(some 50), (.mv (.tmp 9)), none⟩, ⟨(some 51), (.load false 1 (.tmp 1)), none⟩, ⟨(some 52), (.len (.tmp 51)), none⟩, ⟨(some 53), (.bin .lss (.tmp 50) (.tmp 52)), none⟩]
abbrev A36d18 : List AIns := [⟨(some 56), (.mv (.tmp 8)), none⟩, ⟨(some 57), (.load false 1 (.tmp 1)), none⟩, ⟨(some 58), (.mv (.tmp 9)), none⟩, ⟨(some 59), (.iaddr 5 (.tmp 57) (.tmp 58)), none⟩, ⟨(some 60), (.faddr 0 (.tmp 59)), none⟩, ⟨(some 61), (.load false 1 (.tmp 60)), none⟩, ⟨(some 62), (.iaddr 1 (.tmp 56) (.tmp 61)), none⟩, ⟨(some 63), (.load false 1 (.tmp 62)), none⟩, ⟨(some 64), (.mv (.tmp 6)), none⟩, ⟨(some 65), (.load false 1 (.tmp 1)), none⟩, ⟨(some 66), (.mv (.tmp 9)), none⟩, ⟨(some 67), (.iaddr 5 (.tmp 65) (.tmp 66)), none⟩, ⟨(some 68), (.faddr 0 (.tmp 67)), none⟩, ⟨(some 69), (.load false 1 (.tmp 68)), none⟩, ⟨(some 70), (.iaddr 1 (.tmp 64) (.tmp 69)), none⟩, ⟨(some 71), (.load false 1 (.tmp 70)), none⟩, ⟨(some 10), (.mv (.tmp 63)), none⟩, ⟨(some 11), (.mv (.tmp 71)), none⟩]
abbrev A36r19 : List AIns := [⟨(some 72), (.mv (.tmp 8)), none⟩, ⟨(some 73), (.mv (.tmp 9)), none⟩, ⟨(some 74), (.mv (.tmp 5)), none⟩, ⟨(some 75), (.mv (.tmp 9)), none⟩, ⟨(some 76), (.call (.tmp 74) [(.tmp 75)]), none⟩, ⟨(some 77), (.iaddr 1 (.tmp 72) (.tmp 73)), none⟩, ⟨none, (.store 1 (.tmp 77) (.tmp 76)), none⟩]
abbrev A36r20 : List AIns := [⟨(some 78), (.mv (.tmp 11)), none⟩, ⟨(some 79), (.mv (.tmp 10)), none⟩, ⟨(some 80), (.bin .gtr (.tmp 78) (.tmp 79)), none⟩]
abbrev A36r21 : List AIns := [⟨(some 81), (.mv (.tmp 8)), none⟩, ⟨(some 82), (.mv (.tmp 9)), none⟩, ⟨(some 83), (.mv (.tmp 8)), none⟩, ⟨(some 84), (.mv (.tmp 9)), none⟩, ⟨(some 85), (.iaddr 1 (.tmp 83) (.tmp 84)), none⟩, ⟨(some 86), (.load false 1 (.tmp 85)), none⟩, ⟨(some 87), (.mv (.tmp 10)), none⟩, ⟨(some 88), (.bin .mul (.tmp 86) (.tmp 87)), none⟩, ⟨(some 89), (.mv (.tmp 11)), none⟩, ⟨(some 90), (.bin .quo (.tmp 88) (.tmp 89)), none⟩, ⟨(some 91), (.iaddr 1 (.tmp 81) (.tmp 82)), none⟩, ⟨none, (.store 1 (.tmp 91) (.tmp 90)), none⟩]
abbrev A36c22 : ACode := (.seq (.dreg A36d18 [[], [], [], [1, 2], [1, 2, 3], [1, 2, 3, 4], [0, 1, 2, 3, 4, 5], [0, 1, 2, 3, 4, 5, 6], [], [], [], [9, 10], [9, 10, 11], [9, 10, 11, 12], [8, 9, 10, 11, 12, 13], [8, 9, 10, 11, 12, 13, 14], [0, 1, 2, 3, 4, 5, 6, 7], [0, 1, 2, 3, 4, 5, 6, 7, 8, 9, 10, 11, 12, 13, 14, 15, 16]] [1, 5, 6, 8, 9, 10, 11]) (.seq (.reg A36r19 [1, 5, 6, 8, 9, 10, 11]) (.seq (.reg A36r20 [1, 5, 6, 8, 9, 10, 11, 80]) (.cond (.tmp 80) [1, 5, 6, 8, 9, 10, 11] (.reg A36r21 [1, 5, 6, 8, 9]) [1, 5, 6, 8, 9] .skip))))
abbrev A36r23 : List AIns := [⟨(some 54), (.mv (.tmp 9)), none⟩, ⟨(some 55), (.bin .add (.tmp 54) (.cst (.int .i64 1))), none⟩, ⟨(some 9), (.mv (.tmp 55)), none⟩]
abbrev A36l16 : ACode := (.seq (.seq (.reg A36r17 [1, 5, 6, 8, 9, 53]) (.cond (.tmp 53) [1, 5, 6, 8, 9] .skip [8] (.exit 2))) (.seq (.block 3 A36c22) (.reg A36r23 [1, 5, 6, 8, 9])))
abbrev A36r24 : List AIns := [⟨(some 92), (.mv (.tmp 8)), none⟩, ⟨(some 2), (.mv (.tmp 92)), none⟩, ⟨(some 3), (.mv (.cst (.int .i64 0))), none⟩]
def A36 : AFun := ⟨93, 1, [(.tmp 2), (.tmp 3)], (.seq (.reg A36r1 [1]) (.seq (.seq (.reg A36r2 [1, 4]) (.seq (.reg A36r3 [1, 4, 15]) (.cond (.tmp 15) [4] (.seq (.reg A36r4 [2, 3]) .ret) [1] .skip))) (.seq (.reg A36r5 [1, 5]) (.seq (.reg A36r6 [1, 5, 6]) (.seq (.seq (.reg A36r7 [1, 5, 6, 7]) (.block 0 (.loop A36l8))) (.seq (.reg A36r13 [1, 5, 6, 8]) (.seq (.reg A36r14 [1, 5, 6, 8]) (.seq (.seq (.reg A36r15 [1, 5, 6, 8, 9]) (.block 2 (.loop A36l16))) (.seq (.reg A36r24 [2, 3]) .ret)))))))))⟩
theorem A36c : compF Try.prog Try.f36 = some A36 := by kernel_rfl
theorem A36k : Callable Try.prog 36 := fun a w => Try.call36 a w
theorem A36p {ds : List D} {r : D} (hl : ds.length ≤ A36.nt) (hw : W Try.prog A36.code (Fin A36.results r) ⟨argEnv 0 ds, fun _ => none⟩) : PCon Try.prog 36 ds r := pcon_of_W mixed Try.func36 A36k A36c hl hw
/- estovers/estoverstop.restOf -/
abbrev A37r1 : List AIns := [⟨(some 6), (.mv (.cst (.int .i64 0))), none⟩]
abbrev A37r2 : List AIns := [⟨(some 10), (.mv (.tmp 1)), none⟩, ⟨(some 11), (.mv (.tmp 2)), none⟩, ⟨(some 12), (.iaddr 5 (.tmp 10) (.tmp 11)), none⟩, ⟨(some 13), (.faddr 1 (.tmp 12)), none⟩, ⟨(some 14), (.load false 1 (.tmp 13)), none⟩, ⟨(some 7), (.mv (.tmp 14)), none⟩]
abbrev A37r3 : List AIns := [⟨(some 15), (.mv (.tmp 0)), none⟩, ⟨(some 16), (.len (.tmp 15)), none⟩, ⟨(some 17), (.mv (.cst (.int .i64 0))), none⟩]
abbrev A37r5 : List AIns := [⟨(some 18), (.bin .lss (.tmp 17) (.tmp 16)), none⟩]
abbrev A37r6 : List AIns := [⟨(some 19), (.iaddr 7 (.tmp 15) (.tmp 17)), none⟩, ⟨(some 20), (.load true 7 (.tmp 19)), none⟩, ⟨(some 9), (.alloc [(.int .i64 0), (.int .i64 0), (.int .i64 0), (.int .i64 0), (.int .i64 0), (.bool false), (.bool false)]), none⟩, ⟨none, (.store 7 (.tmp 9) (.tmp 20)), none⟩]
abbrev A37r7 : List AIns := [⟨(some 21), (.faddr 6 (.tmp 9)), none⟩, ⟨(some 22), (.load false 1 (.tmp 21)), none⟩, ⟨(some 23), (.mv (.tmp 22)), none⟩, ⟨(some 24), (.mv (.tmp 1)), (some (23, true))⟩, ⟨(some 25), (.faddr 1 (.tmp 9)), (some (23, true))⟩, ⟨(some 26), (.load false 1 (.tmp 25)), (some (23, true))⟩, ⟨(some 27), (.mv (.tmp 2)), (some (23, true))⟩, ⟨(some 28), (.call (.fnc 34) [(.tmp 24), (.tmp 26), (.tmp 27)]), (some (23, true))⟩, ⟨(some 29), (.pick (.tmp 23) (.tmp 28) (.cst (.bool false))), none⟩]
abbrev A37r8 : List AIns := [⟨(some 30), (.mv (.tmp 7)), none⟩, ⟨(some 31), (.bin .sub (.tmp 30) (.cst (.int .i64 1))), none⟩, ⟨(some 7), (.mv (.tmp 31)), none⟩]
abbrev A37c9 : ACode := (.seq (.reg A37r6 [1, 2, 7, 9, 15, 16, 17]) (.seq (.reg A37r7 [1, 2, 7, 15, 16, 17, 29]) (.cond (.tmp 29) [1, 2, 7, 15, 16, 17] (.reg A37r8 [1, 2, 7, 15, 16, 17]) [1, 2, 7, 15, 16, 17] .skip)))
abbrev A37r10 : List AIns := [⟨(some 32), (.bin .add (.tmp 17) (.cst (.int .i64 1))), none⟩, ⟨(some 17), (.mv (.tmp 32)), none⟩]
abbrev A37l4 : ACode := (.seq (.reg A37r5 [1, 2, 7, 15, 16, 17, 18]) (.seq (.cond (.tmp 18) [1, 2, 7, 15, 16, 17] .skip [7] (.exit 0)) (.seq (.block 1 A37c9) (.reg A37r10 [1, 2, 7, 15, 16, 17]))))
abbrev A37r11 : List AIns := [⟨(some 33), (.mv (.tmp 7)), none⟩, ⟨(some 6), (.mv (.tmp 33)), none⟩]
def A37 : AFun := ⟨34, 3, [(.tmp 6)], (.seq (.reg A37r1 [0, 1, 2]) (.seq (.reg A37r2 [0, 1, 2, 7]) (.seq (.seq (.reg A37r3 [1, 2, 7, 15, 16, 17]) (.block 0 (.loop A37l4))) (.seq (.reg A37r11 [6]) .ret))))⟩
theorem A37c : compF Try.prog Try.f37 = some A37 := by kernel_rfl
theorem A37k : Callable Try.prog 37 := fun a w => Try.call37 a w
theorem A37p {ds : List D} {r : D} (hl : ds.length ≤ A37.nt) (hw : W Try.prog A37.code (Fin A37.results r) ⟨argEnv 0 ds, fun _ => none⟩) : PCon Try.prog 37 ds r := pcon_of_W mixed Try.func37 A37k A37c hl hw
/- estovers/protection.Overcommit -/
abbrev A38r1 : List AIns := [⟨(some 4), (.mv (.cst (.int .i64 0))), none⟩, ⟨(some 5), (.mv (.cst (.int .i64 0))), none⟩]
abbrev A38r2 : List AIns := [⟨(some 12), (.mv (.tmp 0)), none⟩, ⟨(some 13), (.call (.fnc 41) [(.tmp 12)]), none⟩, ⟨(some 6), (.mv (.tmp 13)), none⟩]
abbrev A38r3 : List AIns := [⟨(some 14), (.mv (.tmp 6)), none⟩, ⟨(some 15), (.bin .neq (.tmp 14) (.cst (.int .i64 0))), none⟩]
abbrev A38r4 : List AIns := [⟨(some 16), (.mv (.tmp 6)), none⟩, ⟨(some 4), (.mv (.cst (.int .i64 0))), none⟩, ⟨(some 5), (.mv (.tmp 16)), none⟩]
abbrev A38r5 : List AIns := [⟨(some 17), (.mv (.tmp 1)), none⟩, ⟨(some 18), (.bin .lss (.tmp 17) (.cst (.int .i64 0))), none⟩, ⟨(some 19), (.mv (.tmp 18)), none⟩, ⟨(some 20), (.mv (.tmp 1)), (some (19, false))⟩, ⟨(some 21), (.bin .gtr (.tmp 20) (.cst (.int .i64 1048576))), (some (19, false))⟩, ⟨(some 22), (.pick (.tmp 19) (.cst (.bool true)) (.tmp 21)), none⟩]
abbrev A38r6 : List AIns := [⟨(some 4), (.mv (.cst (.int .i64 0))), none⟩, ⟨(some 5), (.mv (.cst (.int .i64 2))), none⟩]
abbrev A38r7 : List AIns := [⟨(some 23), (.mv (.tmp 0)), none⟩, ⟨(some 24), (.len (.tmp 23)), none⟩, ⟨(some 25), (.mkslice 1 8 [(.int .i64 0)] (.tmp 24) (.tmp 24)), none⟩, ⟨(some 7), (.mv (.tmp 25)), none⟩]
abbrev A38r8 : List AIns := [⟨(some 26), (.mv (.tmp 0)), none⟩, ⟨(some 27), (.slice 5 (.tmp 26) (some (.cst (.int .i64 1))) none), none⟩, ⟨(some 28), (.len (.tmp 27)), none⟩, ⟨(some 29), (.mv (.cst (.int .i64 0))), none⟩]
abbrev A38r10 : List AIns := [⟨(some 30), (.bin .lss (.tmp 29) (.tmp 28)), none⟩]
abbrev A38r11 : List AIns := [⟨(some 31), (.iaddr 5 (.tmp 27) (.tmp 29)), none⟩, ⟨(some 32), (.load true 5 (.tmp 31)), none⟩, ⟨(some 9), (.alloc [(.int .i64 0), (.int .i64 0), (.int .i64 0), (.int .i64 0), (.int .i64 0)]), none⟩, ⟨none, (.store 5 (.tmp 9) (.tmp 32)), none⟩]
abbrev A38d12 : List AIns := [⟨(some 33), (.mv (.tmp 7)), none⟩, ⟨(some 34), (.faddr 0 (.tmp 9)), none⟩, ⟨(some 35), (.load false 1 (.tmp 34)), none⟩, ⟨(some 36), (.iaddr 1 (.tmp 33) (.tmp 35)), none⟩, ⟨(some 37), (.load false 1 (.tmp 36)), none⟩, ⟨(some 38), (.faddr 2 (.tmp 9)), none⟩, ⟨(some 39), (.load false 1 (.tmp 38)), none⟩, ⟨(some 40), (.bin .add (.tmp 37) (.tmp 39)), none⟩, ⟨(some 41), (.iaddr 1 (.tmp 33) (.tmp 35)), none⟩, ⟨none, (.store 1 (.tmp 41) (.tmp 40)), none⟩]
abbrev A38d12p : List AIns := [⟨(some 33), (.mv (.tmp 7)), none⟩, ⟨(some 34), (.faddr 0 (.tmp 9)), none⟩, ⟨(some 35), (.load false 1 (.tmp 34)), none⟩, ⟨(some 36), (.iaddr 1 (.tmp 33) (.tmp 35)), none⟩, ⟨(some 37), (.load false 1 (.tmp 36)), none⟩, ⟨(some 38), (.faddr 2 (.tmp 9)), none⟩, ⟨(some 39), (.load false 1 (.tmp 38)), none⟩, ⟨(some 40), (.bin .add (.tmp 37) (.tmp 39)), none⟩, ⟨(some 41), (.iaddr 1 (.tmp 33) (.tmp 35)), none⟩]
abbrev A38c13 : ACode := (.seq (.reg A38r11 [0, 1, 7, 9, 27, 28, 29]) (.dreg A38d12 [[], [], [1], [0, 1, 2], [0, 1, 2, 3], [], [5], [0, 1, 2, 3, 4, 5, 6], [0, 1, 2, 3, 4, 5, 6, 7], [0, 1, 2, 3, 4, 5, 6, 7, 8]] [0, 1, 7, 27, 28, 29]))
abbrev A38r14 : List AIns := [⟨(some 42), (.bin .add (.tmp 29) (.cst (.int .i64 1))), none⟩, ⟨(some 29), (.mv (.tmp 42)), none⟩]
abbrev A38l9 : ACode := (.seq (.reg A38r10 [0, 1, 7, 27, 28, 29, 30]) (.seq (.cond (.tmp 30) [0, 1, 7, 27, 28, 29] .skip [0, 1, 7] (.exit 0)) (.seq (.block 1 A38c13) (.reg A38r14 [0, 1, 7, 27, 28, 29]))))
abbrev A38r15 : List AIns := [⟨(some 43), (.mv (.tmp 7)), none⟩, ⟨(some 44), (.len (.tmp 43)), none⟩, ⟨(some 45), (.mv (.cst (.int .i64 0))), none⟩]
abbrev A38r17 : List AIns := [⟨(some 46), (.bin .lss (.tmp 45) (.tmp 44)), none⟩]
abbrev A38r18 : List AIns := [⟨(some 47), (.mv (.tmp 45)), none⟩, ⟨(some 48), (.iaddr 1 (.tmp 43) (.tmp 45)), none⟩, ⟨(some 49), (.load false 1 (.tmp 48)), none⟩, ⟨(some 10), (.mv (.tmp 47)), none⟩, ⟨(some 11), (.mv (.tmp 49)), none⟩]
abbrev A38r19 : List AIns := [⟨(some 50), (.mv (.tmp 10)), none⟩, ⟨(some 51), (.bin .eql (.tmp 50) (.cst (.int .i64 0))), none⟩, ⟨(some 52), (.mv (.tmp 51)), none⟩, ⟨(some 53), (.mv (.tmp 11)), (some (52, true))⟩, ⟨(some 54), (.mv (.tmp 1)), (some (52, true))⟩, ⟨(some 55), (.bin .gtr (.tmp 53) (.tmp 54)), (some (52, true))⟩, ⟨(some 56), (.pick (.tmp 52) (.tmp 55) (.cst (.bool false))), none⟩, ⟨(some 57), (.mv (.tmp 56)), none⟩, ⟨(some 58), (.mv (.tmp 10)), (some (57, false))⟩, ⟨(some 59), (.bin .gtr (.tmp 58) (.cst (.int .i64 0))), (some (57, false))⟩, ⟨(some 60), (.mv (.tmp 59)), (some (57, false))⟩, ⟨(some 61), (.mv (.tmp 11)), (some (60, true))⟩, ⟨(some 62), (.mv (.tmp 0)), (some (60, true))⟩, ⟨(some 63), (.mv (.tmp 10)), (some (60, true))⟩, ⟨(some 64), (.iaddr 5 (.tmp 62) (.tmp 63)), (some (60, true))⟩, ⟨(some 65), (.faddr 2 (.tmp 64)), (some (60, true))⟩, ⟨(some 66), (.load false 1 (.tmp 65)), (some (60, true))⟩, ⟨(some 67), (.bin .gtr (.tmp 61) (.tmp 66)), (some (60, true))⟩, ⟨(some 68), (.pick (.tmp 60) (.tmp 67) (.cst (.bool false))), (some (57, false))⟩, ⟨(some 69), (.pick (.tmp 57) (.cst (.bool true)) (.tmp 68)), none⟩]
abbrev A38r20 : List AIns := [⟨(some 70), (.mv (.tmp 10)), none⟩, ⟨(some 4), (.mv (.tmp 70)), none⟩, ⟨(some 5), (.mv (.cst (.int .i64 0))), none⟩]
abbrev A38c21 : ACode := (.seq (.reg A38r18 [0, 1, 10, 11, 43, 44, 45]) (.seq (.reg A38r19 [0, 1, 10, 43, 44, 45, 69]) (.cond (.tmp 69) [10] (.seq (.reg A38r20 [4, 5]) .ret) [0, 1, 43, 44, 45] .skip)))
abbrev A38r22 : List AIns := [⟨(some 71), (.bin .add (.tmp 45) (.cst (.int .i64 1))), none⟩, ⟨(some 45), (.mv (.tmp 71)), none⟩]
abbrev A38l16 : ACode := (.seq (.reg A38r17 [0, 1, 43, 44, 45, 46]) (.seq (.cond (.tmp 46) [0, 1, 43, 44, 45] .skip [] (.exit 2)) (.seq (.block 3 A38c21) (.reg A38r22 [0, 1, 43, 44, 45]))))
abbrev A38r23 : List AIns := [⟨(some 4), (.mv (.cst (.int .i64 (-1)))), none⟩, ⟨(some 5), (.mv (.cst (.int .i64 0))), none⟩]
def A38 : AFun := ⟨72, 2, [(.tmp 4), (.tmp 5)], (.seq (.reg A38r1 [0, 1]) (.seq (.seq (.reg A38r2 [0, 1, 6]) (.seq (.reg A38r3 [0, 1, 6, 15]) (.cond (.tmp 15) [6] (.seq (.reg A38r4 [4, 5]) .ret) [0, 1] .skip))) (.seq (.seq (.reg A38r5 [0, 1, 22]) (.cond (.tmp 22) [] (.seq (.reg A38r6 [4, 5]) .ret) [0, 1] .skip)) (.seq (.reg A38r7 [0, 1, 7]) (.seq (.seq (.reg A38r8 [0, 1, 7, 27, 28, 29]) (.block 0 (.loop A38l9))) (.seq (.seq (.reg A38r15 [0, 1, 43, 44, 45]) (.block 2 (.loop A38l16))) (.seq (.reg A38r23 [4, 5]) .ret)))))))⟩
theorem A38c : compF Try.prog Try.f38 = some A38 := by kernel_rfl
theorem A38k : Callable Try.prog 38 := fun a w => Try.call38 a w
theorem A38p {ds : List D} {r : D} (hl : ds.length ≤ A38.nt) (hw : W Try.prog A38.code (Fin A38.results r) ⟨argEnv 0 ds, fun _ => none⟩) : PCon Try.prog 38 ds r := pcon_of_W mixed Try.func38 A38k A38c hl hw
/- estovers/estoverstop.ownPages -/
abbrev A39r1 : List AIns := [⟨(some 2), (.mv (.cst .nil)), none⟩]
abbrev A39r2 : List AIns := [⟨(some 3), (.mv (.cst .nil)), none⟩]
abbrev A39r3 : List AIns := [⟨(some 5), (.mv (.tmp 0)), none⟩, ⟨(some 6), (.len (.tmp 5)), none⟩, ⟨(some 7), (.mv (.cst (.int .i64 0))), none⟩]
abbrev A39r5 : List AIns := [⟨(some 8), (.bin .lss (.tmp 7) (.tmp 6)), none⟩]
abbrev A39r6 : List AIns := [⟨(some 9), (.mv (.tmp 7)), none⟩, ⟨(some 4), (.mv (.tmp 9)), none⟩]
abbrev A39r7 : List AIns := [⟨(some 10), (.mv (.tmp 0)), none⟩, ⟨(some 11), (.mv (.tmp 4)), none⟩, ⟨(some 12), (.call (.fnc 63) [(.tmp 10), (.tmp 11)]), none⟩, ⟨(some 13), (.mima false [(.tmp 12), (.cst (.int .i64 300))]), none⟩, ⟨(some 14), (.mima true [(.cst (.int .i64 0)), (.tmp 13)]), none⟩, ⟨(some 15), (.mv (.cst (.int .i64 0))), none⟩]
abbrev A39r9 : List AIns := [⟨(some 16), (.bin .lss (.tmp 15) (.tmp 14)), none⟩]
abbrev A39r10 : List AIns := [⟨(some 17), (.mv (.tmp 3)), none⟩, ⟨(some 18), (.mv (.tmp 3)), none⟩, ⟨(some 19), (.len (.tmp 18)), none⟩, ⟨(some 20), (.mv (.tmp 4)), none⟩, ⟨(some 21), (.mv (.tmp 3)), none⟩, ⟨(some 22), (.len (.tmp 21)), none⟩, ⟨(some 23), (.build [(.int .i64 0), (.int .i64 0), (.int .i64 0), (.int .i64 0), (.int .i64 0), (.bool false), (.bool false)] [(0, (1, (.tmp 19))), (1, (1, (.tmp 20))), (2, (1, (.tmp 22))), (4, (1, (.cst (.int .i64 (-1))))), (5, (1, (.cst (.bool true))))]), none⟩, ⟨(some 24), (.buildS 7 [(.int .i64 0), (.int .i64 0), (.int .i64 0), (.int .i64 0), (.int .i64 0), (.bool false), (.bool false)] 1 [(0, (7, (.tmp 23)))]), none⟩, ⟨(some 25), (.append 7 48 (.tmp 17) (.tmp 24)), none⟩, ⟨(some 3), (.mv (.tmp 25)), none⟩]
abbrev A39r11 : List AIns := [⟨(some 26), (.bin .add (.tmp 15) (.cst (.int .i64 1))), none⟩, ⟨(some 15), (.mv (.tmp 26)), none⟩]
abbrev A39l8 : ACode := (.seq (.reg A39r9 [0, 3, 4, 6, 7, 14, 15, 16]) (.seq (.cond (.tmp 16) [0, 3, 4, 6, 7, 14, 15] .skip [0, 3, 6, 7] (.exit 2)) (.seq (.block 3 (.reg A39r10 [0, 3, 4, 6, 7, 14, 15])) (.reg A39r11 [0, 3, 4, 6, 7, 14, 15]))))
abbrev A39c12 : ACode := (.seq (.reg A39r6 [0, 3, 4, 6, 7]) (.seq (.reg A39r7 [0, 3, 4, 6, 7, 14, 15]) (.block 2 (.loop A39l8))))
abbrev A39r13 : List AIns := [⟨(some 27), (.bin .add (.tmp 7) (.cst (.int .i64 1))), none⟩, ⟨(some 7), (.mv (.tmp 27)), none⟩]
abbrev A39l4 : ACode := (.seq (.reg A39r5 [0, 3, 6, 7, 8]) (.seq (.cond (.tmp 8) [0, 3, 6, 7] .skip [3] (.exit 0)) (.seq (.block 1 A39c12) (.reg A39r13 [0, 3, 6, 7]))))
abbrev A39r14 : List AIns := [⟨(some 28), (.mv (.tmp 3)), none⟩, ⟨(some 29), (.len (.tmp 28)), none⟩, ⟨(some 30), (.bin .gtr (.tmp 29) (.cst (.int .i64 256))), none⟩]
abbrev A39r15 : List AIns := [⟨(some 2), (.mv (.cst .nil)), none⟩]
abbrev A39r16 : List AIns := [⟨(some 31), (.mv (.tmp 3)), none⟩, ⟨(some 2), (.mv (.tmp 31)), none⟩]
def A39 : AFun := ⟨32, 1, [(.tmp 2)], (.seq (.reg A39r1 [0]) (.seq (.reg A39r2 [0, 3]) (.seq (.seq (.reg A39r3 [0, 3, 6, 7]) (.block 0 (.loop A39l4))) (.seq (.seq (.reg A39r14 [3, 30]) (.cond (.tmp 30) [] (.seq (.reg A39r15 [2]) .ret) [3] .skip)) (.seq (.reg A39r16 [2]) .ret)))))⟩
theorem A39c : compF Try.prog Try.f39 = some A39 := by kernel_rfl
theorem A39k : Callable Try.prog 39 := fun a w => Try.call39 a w
theorem A39p {ds : List D} {r : D} (hl : ds.length ≤ A39.nt) (hw : W Try.prog A39.code (Fin A39.results r) ⟨argEnv 0 ds, fun _ => none⟩) : PCon Try.prog 39 ds r := pcon_of_W mixed Try.func39 A39k A39c hl hw
/- estovers/estoverslaw39.example -/
/- estovers/accounts.Check -/
abbrev A41r1 : List AIns := [⟨(some 2), (.mv (.cst (.int .i64 0))), none⟩]
abbrev A41r2 : List AIns := [⟨(some 4), (.mv (.tmp 0)), none⟩, ⟨(some 5), (.len (.tmp 4)), none⟩, ⟨(some 6), (.bin .lss (.tmp 5) (.cst (.int .i64 1))), none⟩, ⟨(some 7), (.mv (.tmp 6)), none⟩, ⟨(some 8), (.mv (.tmp 0)), (some (7, false))⟩, ⟨(some 9), (.len (.tmp 8)), (some (7, false))⟩, ⟨(some 10), (.bin .gtr (.tmp 9) (.cst (.int .i64 8))), (some (7, false))⟩, ⟨(some 11), (.pick (.tmp 7) (.cst (.bool true)) (.tmp 10)), none⟩, ⟨(some 3), (.mv (.tmp 11)), none⟩]
abbrev A41r3 : List AIns := [⟨(some 2), (.mv (.cst (.int .i64 9))), none⟩]
abbrev A41r4 : List AIns := [⟨(some 13), (.mv (.tmp 0)), none⟩, ⟨(some 14), (.call (.fnc 64) [(.tmp 13)]), none⟩, ⟨(some 15), (.un .not (.tmp 14)), none⟩, ⟨(some 12), (.mv (.tmp 15)), none⟩]
abbrev A41r5 : List AIns := [⟨(some 2), (.mv (.cst (.int .i64 1))), none⟩]
abbrev A41r6 : List AIns := [⟨(some 17), (.mv (.tmp 0)), none⟩, ⟨(some 18), (.call (.fnc 65) [(.tmp 17)]), none⟩, ⟨(some 19), (.un .not (.tmp 18)), none⟩, ⟨(some 16), (.mv (.tmp 19)), none⟩]
abbrev A41r7 : List AIns := [⟨(some 2), (.mv (.cst (.int .i64 2))), none⟩]
abbrev A41r8 : List AIns := [⟨(some 21), (.mv (.tmp 0)), none⟩, ⟨(some 22), (.call (.fnc 66) [(.tmp 21), (.fnc 67)]), none⟩, ⟨(some 20), (.mv (.tmp 22)), none⟩]
abbrev A41r9 : List AIns := [⟨(some 2), (.mv (.cst (.int .i64 17))), none⟩]
abbrev A41r10 : List AIns := [⟨(some 24), (.mv (.tmp 0)), none⟩, ⟨(some 25), (.call (.fnc 69) [(.tmp 24)]), none⟩, ⟨(some 26), (.call (.fnc 68) [(.tmp 25)]), none⟩, ⟨(some 27), (.bin .lss (.tmp 26) (.cst (.int .i64 0))), none⟩, ⟨(some 23), (.mv (.tmp 27)), none⟩]
abbrev A41r11 : List AIns := [⟨(some 2), (.mv (.cst (.int .i64 11))), none⟩]
abbrev A41c12 : ACode := (.seq (.reg A41r10 [23]) (.cond (.tmp 23) [] (.seq (.reg A41r11 [2]) .ret) [] .skip))
abbrev A41c13 : ACode := (.seq (.reg A41r8 [0, 20]) (.cond (.tmp 20) [] (.seq (.reg A41r9 [2]) .ret) [0] A41c12))
abbrev A41c14 : ACode := (.seq (.reg A41r6 [0, 16]) (.cond (.tmp 16) [] (.seq (.reg A41r7 [2]) .ret) [0] A41c13))
abbrev A41c15 : ACode := (.seq (.reg A41r4 [0, 12]) (.cond (.tmp 12) [] (.seq (.reg A41r5 [2]) .ret) [0] A41c14))
abbrev A41c16 : ACode := (.seq (.reg A41r2 [0, 3]) (.cond (.tmp 3) [] (.seq (.reg A41r3 [2]) .ret) [0] A41c15))
abbrev A41r17 : List AIns := [⟨(some 2), (.mv (.cst (.int .i64 0))), none⟩]
def A41 : AFun := ⟨28, 1, [(.tmp 2)], (.seq (.reg A41r1 [0]) (.seq (.block 0 A41c16) (.seq (.reg A41r17 [2]) .ret)))⟩
theorem A41c : compF Try.prog Try.f41 = some A41 := by kernel_rfl
theorem A41k : Callable Try.prog 41 := fun a w => Try.call41 a w
theorem A41p {ds : List D} {r : D} (hl : ds.length ≤ A41.nt) (hw : W Try.prog A41.code (Fin A41.results r) ⟨argEnv 0 ds, fun _ => none⟩) : PCon Try.prog 41 ds r := pcon_of_W mixed Try.func41 A41k A41c hl hw
/- estovers/reclaimplan.ask -/
abbrev A42r1 : List AIns := [⟨(some 8), (.mv (.cst .nilp)), none⟩, ⟨(some 9), (.mv (.cst (.int .i64 0))), none⟩]
abbrev A42r2 : List AIns := [⟨(some 16), (.mv (.tmp 0)), none⟩, ⟨(some 17), (.mv (.tmp 1)), none⟩, ⟨(some 18), (.call (.fnc 17) [(.tmp 16), (.tmp 17)]), none⟩, ⟨(some 10), (.mv (.tmp 18)), none⟩]
abbrev A42r3 : List AIns := [⟨(some 19), (.mv (.tmp 10)), none⟩, ⟨(some 20), (.bin .neq (.tmp 19) (.cst (.int .i64 0))), none⟩]
abbrev A42r4 : List AIns := [⟨(some 21), (.mv (.tmp 10)), none⟩, ⟨(some 8), (.mv (.cst .nilp)), none⟩, ⟨(some 9), (.mv (.tmp 21)), none⟩]
abbrev A42r5 : List AIns := [⟨(some 22), (.mv (.tmp 2)), none⟩, ⟨(some 23), (.bin .lss (.tmp 22) (.cst (.int .i64 (-1)))), none⟩, ⟨(some 24), (.mv (.tmp 23)), none⟩, ⟨(some 25), (.mv (.tmp 2)), (some (24, false))⟩, ⟨(some 26), (.mv (.tmp 1)), (some (24, false))⟩, ⟨(some 27), (.len (.tmp 26)), (some (24, false))⟩, ⟨(some 28), (.bin .geq (.tmp 25) (.tmp 27)), (some (24, false))⟩, ⟨(some 29), (.pick (.tmp 24) (.cst (.bool true)) (.tmp 28)), none⟩]
abbrev A42r6 : List AIns := [⟨(some 8), (.mv (.cst .nilp)), none⟩, ⟨(some 9), (.mv (.cst (.int .i64 2))), none⟩]
abbrev A42r7 : List AIns := [⟨(some 30), (.mv (.tmp 1)), none⟩, ⟨(some 31), (.len (.tmp 30)), none⟩, ⟨(some 32), (.mkslice 1 8 [(.int .i64 0)] (.tmp 31) (.tmp 31)), none⟩, ⟨(some 11), (.mv (.tmp 32)), none⟩]
abbrev A42r8 : List AIns := [⟨(some 33), (.mv (.tmp 0)), none⟩, ⟨(some 34), (.len (.tmp 33)), none⟩, ⟨(some 35), (.mv (.cst (.int .i64 0))), none⟩]
abbrev A42r10 : List AIns := [⟨(some 36), (.bin .lss (.tmp 35) (.tmp 34)), none⟩]
abbrev A42r11 : List AIns := [⟨(some 37), (.iaddr 7 (.tmp 33) (.tmp 35)), none⟩, ⟨(some 38), (.load true 7 (.tmp 37)), none⟩, ⟨(some 13), (.alloc [(.int .i64 0), (.int .i64 0), (.int .i64 0), (.int .i64 0), (.int .i64 0), (.bool false), (.bool false)]), none⟩, ⟨none, (.store 7 (.tmp 13) (.tmp 38)), none⟩]
abbrev A42r12 : List AIns := [⟨(some 39), (.faddr 6 (.tmp 13)), none⟩, ⟨(some 40), (.load false 1 (.tmp 39)), none⟩, ⟨(some 41), (.mv (.tmp 40)), none⟩, ⟨(some 42), (.faddr 1 (.tmp 13)), (some (41, true))⟩, ⟨(some 43), (.load false 1 (.tmp 42)), (some (41, true))⟩, ⟨(some 44), (.bin .geq (.tmp 43) (.cst (.int .i64 0))), (some (41, true))⟩, ⟨(some 45), (.pick (.tmp 41) (.tmp 44) (.cst (.bool false))), none⟩]
abbrev A42r13 : List AIns := [⟨(some 46), (.mv (.tmp 11)), none⟩, ⟨(some 47), (.faddr 1 (.tmp 13)), none⟩, ⟨(some 48), (.load false 1 (.tmp 47)), none⟩, ⟨(some 49), (.iaddr 1 (.tmp 46) (.tmp 48)), none⟩, ⟨(some 50), (.load false 1 (.tmp 49)), none⟩, ⟨(some 51), (.bin .add (.tmp 50) (.cst (.int .i64 1))), none⟩, ⟨(some 52), (.iaddr 1 (.tmp 46) (.tmp 48)), none⟩, ⟨none, (.store 1 (.tmp 52) (.tmp 51)), none⟩]
abbrev A42c14 : ACode := (.seq (.reg A42r11 [0, 1, 2, 3, 11, 13, 33, 34, 35]) (.seq (.reg A42r12 [0, 1, 2, 3, 11, 13, 33, 34, 35, 45]) (.cond (.tmp 45) [0, 1, 2, 3, 11, 13, 33, 34, 35] (.reg A42r13 [0, 1, 2, 3, 11, 33, 34, 35]) [0, 1, 2, 3, 11, 33, 34, 35] .skip)))
abbrev A42r15 : List AIns := [⟨(some 53), (.bin .add (.tmp 35) (.cst (.int .i64 1))), none⟩, ⟨(some 35), (.mv (.tmp 53)), none⟩]
abbrev A42l9 : ACode := (.seq (.reg A42r10 [0, 1, 2, 3, 11, 33, 34, 35, 36]) (.seq (.cond (.tmp 36) [0, 1, 2, 3, 11, 33, 34, 35] .skip [0, 1, 2, 3, 11] (.exit 0)) (.seq (.block 1 A42c14) (.reg A42r15 [0, 1, 2, 3, 11, 33, 34, 35]))))
abbrev A42r16 : List AIns := [⟨(some 54), (.mv (.tmp 0)), none⟩, ⟨(some 55), (.mv (.tmp 2)), none⟩, ⟨(some 56), (.mv (.tmp 3)), none⟩, ⟨(some 57), (.build [.nil, (.int .i64 0), (.bool false), .nil, .nil, .nil] [(0, (1, (.tmp 54))), (1, (1, (.tmp 55))), (2, (1, (.tmp 56)))]), none⟩, ⟨(some 58), (.box (.tmp 57)), none⟩, ⟨(some 14), (.mv (.tmp 58)), none⟩]
abbrev A42r17 : List AIns := [⟨(some 59), (.mv (.tmp 1)), none⟩, ⟨(some 60), (.len (.tmp 59)), none⟩, ⟨(some 61), (.mv (.cst (.int .i64 0))), none⟩]
abbrev A42r19 : List AIns := [⟨(some 62), (.bin .lss (.tmp 61) (.tmp 60)), none⟩]
abbrev A42r20 : List AIns := [⟨(some 63), (.mv (.tmp 61)), none⟩, ⟨(some 15), (.mv (.tmp 63)), none⟩]
abbrev A42d21 : List AIns := [⟨(some 64), (.mv (.tmp 14)), none⟩, ⟨(some 65), (.mv (.tmp 14)), none⟩, ⟨(some 66), (.nilck (.tmp 65)), none⟩, ⟨(some 67), (.faddr 3 (.tmp 66)), none⟩, ⟨(some 68), (.load false 1 (.tmp 67)), none⟩, ⟨(some 69), (.mv (.tmp 1)), none⟩, ⟨(some 70), (.mv (.tmp 15)), none⟩, ⟨(some 71), (.mv (.tmp 2)), none⟩, ⟨(some 72), (.call (.fnc 70) [(.tmp 69), (.tmp 70), (.tmp 71)]), none⟩, ⟨(some 73), (.buildS 1 [(.bool false)] 1 [(0, (1, (.tmp 72)))]), none⟩, ⟨(some 74), (.append 1 1 (.tmp 68) (.tmp 73)), none⟩, ⟨(some 75), (.nilck (.tmp 64)), none⟩, ⟨(some 76), (.faddr 3 (.tmp 75)), none⟩, ⟨none, (.store 1 (.tmp 76) (.tmp 74)), none⟩]
abbrev A42d21a : List AIns := [⟨(some 64), (.mv (.tmp 14)), none⟩, ⟨(some 65), (.mv (.tmp 14)), none⟩, ⟨(some 66), (.nilck (.tmp 65)), none⟩, ⟨(some 67), (.faddr 3 (.tmp 66)), none⟩, ⟨(some 68), (.load false 1 (.tmp 67)), none⟩, ⟨(some 69), (.mv (.tmp 1)), none⟩, ⟨(some 70), (.mv (.tmp 15)), none⟩, ⟨(some 71), (.mv (.tmp 2)), none⟩, ⟨(some 72), (.call (.fnc 70) [(.tmp 69), (.tmp 70), (.tmp 71)]), none⟩]
abbrev A42d21b : List AIns := [⟨(some 73), (.buildS 1 [(.bool false)] 1 [(0, (1, (.tmp 72)))]), none⟩, ⟨(some 74), (.append 1 1 (.tmp 68) (.tmp 73)), none⟩, ⟨(some 75), (.nilck (.tmp 64)), none⟩, ⟨(some 76), (.faddr 3 (.tmp 75)), none⟩, ⟨none, (.store 1 (.tmp 76) (.tmp 74)), none⟩]
abbrev A42d22 : List AIns := [⟨(some 77), (.mv (.tmp 14)), none⟩, ⟨(some 78), (.mv (.tmp 14)), none⟩, ⟨(some 79), (.nilck (.tmp 78)), none⟩, ⟨(some 80), (.faddr 4 (.tmp 79)), none⟩, ⟨(some 81), (.load false 1 (.tmp 80)), none⟩, ⟨(some 82), (.mv (.tmp 1)), none⟩, ⟨(some 83), (.mv (.tmp 11)), none⟩, ⟨(some 84), (.mv (.tmp 15)), none⟩, ⟨(some 85), (.mv (.tmp 2)), none⟩, ⟨(some 86), (.call (.fnc 71) [(.tmp 82), (.tmp 83), (.tmp 84), (.tmp 85), (.cst (.bool false))]), none⟩, ⟨(some 87), (.buildS 1 [(.bool false)] 1 [(0, (1, (.tmp 86)))]), none⟩, ⟨(some 88), (.append 1 1 (.tmp 81) (.tmp 87)), none⟩, ⟨(some 89), (.nilck (.tmp 77)), none⟩, ⟨(some 90), (.faddr 4 (.tmp 89)), none⟩, ⟨none, (.store 1 (.tmp 90) (.tmp 88)), none⟩]
abbrev A42d22a : List AIns := [⟨(some 77), (.mv (.tmp 14)), none⟩, ⟨(some 78), (.mv (.tmp 14)), none⟩, ⟨(some 79), (.nilck (.tmp 78)), none⟩, ⟨(some 80), (.faddr 4 (.tmp 79)), none⟩, ⟨(some 81), (.load false 1 (.tmp 80)), none⟩, ⟨(some 82), (.mv (.tmp 1)), none⟩, ⟨(some 83), (.mv (.tmp 11)), none⟩, ⟨(some 84), (.mv (.tmp 15)), none⟩, ⟨(some 85), (.mv (.tmp 2)), none⟩, ⟨(some 86), (.call (.fnc 71) [(.tmp 82), (.tmp 83), (.tmp 84), (.tmp 85), (.cst (.bool false))]), none⟩]
abbrev A42d22b : List AIns := [⟨(some 87), (.buildS 1 [(.bool false)] 1 [(0, (1, (.tmp 86)))]), none⟩, ⟨(some 88), (.append 1 1 (.tmp 81) (.tmp 87)), none⟩, ⟨(some 89), (.nilck (.tmp 77)), none⟩, ⟨(some 90), (.faddr 4 (.tmp 89)), none⟩, ⟨none, (.store 1 (.tmp 90) (.tmp 88)), none⟩]
abbrev A42d23 : List AIns := [⟨(some 91), (.mv (.tmp 14)), none⟩, ⟨(some 92), (.mv (.tmp 14)), none⟩, ⟨(some 93), (.nilck (.tmp 92)), none⟩, ⟨(some 94), (.faddr 5 (.tmp 93)), none⟩, ⟨(some 95), (.load false 1 (.tmp 94)), none⟩, ⟨(some 96), (.mv (.tmp 1)), none⟩, ⟨(some 97), (.mv (.tmp 11)), none⟩, ⟨(some 98), (.mv (.tmp 15)), none⟩, ⟨(some 99), (.mv (.tmp 2)), none⟩, ⟨(some 100), (.call (.fnc 71) [(.tmp 96), (.tmp 97), (.tmp 98), (.tmp 99), (.cst (.bool true))]), none⟩, ⟨(some 101), (.buildS 1 [(.bool false)] 1 [(0, (1, (.tmp 100)))]), none⟩, ⟨(some 102), (.append 1 1 (.tmp 95) (.tmp 101)), none⟩, ⟨(some 103), (.nilck (.tmp 91)), none⟩, ⟨(some 104), (.faddr 5 (.tmp 103)), none⟩, ⟨none, (.store 1 (.tmp 104) (.tmp 102)), none⟩]
abbrev A42d23a : List AIns := [⟨(some 91), (.mv (.tmp 14)), none⟩, ⟨(some 92), (.mv (.tmp 14)), none⟩, ⟨(some 93), (.nilck (.tmp 92)), none⟩, ⟨(some 94), (.faddr 5 (.tmp 93)), none⟩, ⟨(some 95), (.load false 1 (.tmp 94)), none⟩, ⟨(some 96), (.mv (.tmp 1)), none⟩, ⟨(some 97), (.mv (.tmp 11)), none⟩, ⟨(some 98), (.mv (.tmp 15)), none⟩, ⟨(some 99), (.mv (.tmp 2)), none⟩, ⟨(some 100), (.call (.fnc 71) [(.tmp 96), (.tmp 97), (.tmp 98), (.tmp 99), (.cst (.bool true))]), none⟩]
abbrev A42d23b : List AIns := [⟨(some 101), (.buildS 1 [(.bool false)] 1 [(0, (1, (.tmp 100)))]), none⟩, ⟨(some 102), (.append 1 1 (.tmp 95) (.tmp 101)), none⟩, ⟨(some 103), (.nilck (.tmp 91)), none⟩, ⟨(some 104), (.faddr 5 (.tmp 103)), none⟩, ⟨none, (.store 1 (.tmp 104) (.tmp 102)), none⟩]
abbrev A42c24 : ACode := (.seq (.reg A42r20 [1, 2, 11, 14, 15, 60, 61]) (.seq (.dreg A42d21 [[], [], [1], [1, 2], [1, 2, 3], [], [], [], [5, 6, 7], [5, 6, 7, 8], [1, 2, 3, 4, 5, 6, 7, 8, 9], [0, 1, 2, 3, 4, 5, 6, 7, 8, 9, 10], [0, 1, 2, 3, 4, 5, 6, 7, 8, 9, 10, 11], [0, 1, 2, 3, 4, 5, 6, 7, 8, 9, 10, 11, 12]] [1, 2, 11, 14, 15, 60, 61]) (.seq (.dreg A42d22 [[], [], [1], [1, 2], [1, 2, 3], [], [], [], [], [5, 6, 7, 8], [5, 6, 7, 8, 9], [1, 2, 3, 4, 5, 6, 7, 8, 9, 10], [0, 1, 2, 3, 4, 5, 6, 7, 8, 9, 10, 11], [0, 1, 2, 3, 4, 5, 6, 7, 8, 9, 10, 11, 12], [0, 1, 2, 3, 4, 5, 6, 7, 8, 9, 10, 11, 12, 13]] [1, 2, 11, 14, 15, 60, 61]) (.dreg A42d23 [[], [], [1], [1, 2], [1, 2, 3], [], [], [], [], [5, 6, 7, 8], [5, 6, 7, 8, 9], [1, 2, 3, 4, 5, 6, 7, 8, 9, 10], [0, 1, 2, 3, 4, 5, 6, 7, 8, 9, 10, 11], [0, 1, 2, 3, 4, 5, 6, 7, 8, 9, 10, 11, 12], [0, 1, 2, 3, 4, 5, 6, 7, 8, 9, 10, 11, 12, 13]] [1, 2, 11, 14, 60, 61]))))
abbrev A42r25 : List AIns := [⟨(some 105), (.bin .add (.tmp 61) (.cst (.int .i64 1))), none⟩, ⟨(some 61), (.mv (.tmp 105)), none⟩]
abbrev A42l18 : ACode := (.seq (.reg A42r19 [1, 2, 11, 14, 60, 61, 62]) (.seq (.cond (.tmp 62) [1, 2, 11, 14, 60, 61] .skip [14] (.exit 2)) (.seq (.block 3 A42c24) (.reg A42r25 [1, 2, 11, 14, 60, 61]))))
abbrev A42r26 : List AIns := [⟨(some 106), (.mv (.tmp 14)), none⟩, ⟨(some 8), (.mv (.tmp 106)), none⟩, ⟨(some 9), (.mv (.cst (.int .i64 0))), none⟩]
def A42 : AFun := ⟨107, 4, [(.tmp 8), (.tmp 9)], (.seq (.reg A42r1 [0, 1, 2, 3]) (.seq (.seq (.reg A42r2 [0, 1, 2, 3, 10]) (.seq (.reg A42r3 [0, 1, 2, 3, 10, 20]) (.cond (.tmp 20) [10] (.seq (.reg A42r4 [8, 9]) .ret) [0, 1, 2, 3] .skip))) (.seq (.seq (.reg A42r5 [0, 1, 2, 3, 29]) (.cond (.tmp 29) [] (.seq (.reg A42r6 [8, 9]) .ret) [0, 1, 2, 3] .skip)) (.seq (.reg A42r7 [0, 1, 2, 3, 11]) (.seq (.seq (.reg A42r8 [0, 1, 2, 3, 11, 33, 34, 35]) (.block 0 (.loop A42l9))) (.seq (.reg A42r16 [1, 2, 11, 14]) (.seq (.seq (.reg A42r17 [1, 2, 11, 14, 60, 61]) (.block 2 (.loop A42l18))) (.seq (.reg A42r26 [8, 9]) .ret))))))))⟩
theorem A42c : compF Try.prog Try.f42 = some A42 := by kernel_rfl
theorem A42k : Callable Try.prog 42 := fun a w => Try.call42 a w
/- (*estovers/reclaimplan.question).reason -/
abbrev A43r1 : List AIns := [⟨(some 3), (.box (.tmp 1)), none⟩, ⟨(some 4), (.mv (.cst (.int .i64 0))), none⟩]
abbrev A43r2 : List AIns := [⟨(some 6), (.mv (.tmp 0)), none⟩, ⟨(some 7), (.load true 7 (.tmp 3)), none⟩, ⟨(some 8), (.call (.fnc 72) [(.tmp 6), (.tmp 7)]), none⟩, ⟨(some 5), (.mv (.tmp 8)), none⟩]
abbrev A43r3 : List AIns := [⟨(some 4), (.mv (.cst (.int .i64 13))), none⟩]
abbrev A43r4 : List AIns := [⟨(some 10), (.mv (.tmp 0)), none⟩, ⟨(some 11), (.nilck (.tmp 10)), none⟩, ⟨(some 12), (.faddr 2 (.tmp 11)), none⟩, ⟨(some 13), (.load false 1 (.tmp 12)), none⟩, ⟨(some 14), (.mv (.tmp 13)), none⟩, ⟨(some 15), (.faddr 5 (.tmp 3)), (some (14, true))⟩, ⟨(some 16), (.load false 1 (.tmp 15)), (some (14, true))⟩, ⟨(some 17), (.un .not (.tmp 16)), (some (14, true))⟩, ⟨(some 18), (.pick (.tmp 14) (.tmp 17) (.cst (.bool false))), none⟩, ⟨(some 9), (.mv (.tmp 18)), none⟩]
abbrev A43r5 : List AIns := [⟨(some 4), (.mv (.cst (.int .i64 12))), none⟩]
abbrev A43r6 : List AIns := [⟨(some 20), (.faddr 6 (.tmp 3)), none⟩, ⟨(some 21), (.load false 1 (.tmp 20)), none⟩, ⟨(some 19), (.mv (.tmp 21)), none⟩]
abbrev A43r7 : List AIns := [⟨(some 4), (.mv (.cst (.int .i64 8))), none⟩]
abbrev A43r8 : List AIns := [⟨(some 23), (.faddr 3 (.tmp 3)), none⟩, ⟨(some 24), (.load false 1 (.tmp 23)), none⟩, ⟨(some 25), (.bin .neq (.tmp 24) (.cst (.int .i64 0))), none⟩, ⟨(some 26), (.mv (.tmp 25)), none⟩, ⟨(some 27), (.faddr 3 (.tmp 3)), (some (26, true))⟩, ⟨(some 28), (.load false 1 (.tmp 27)), (some (26, true))⟩, ⟨(some 29), (.bin .neq (.tmp 28) (.cst (.int .i64 8))), (some (26, true))⟩, ⟨(some 30), (.pick (.tmp 26) (.tmp 29) (.cst (.bool false))), none⟩, ⟨(some 22), (.mv (.tmp 30)), none⟩]
abbrev A43r9 : List AIns := [⟨(some 31), (.faddr 3 (.tmp 3)), none⟩, ⟨(some 32), (.load false 1 (.tmp 31)), none⟩, ⟨(some 4), (.mv (.tmp 32)), none⟩]
abbrev A43r10 : List AIns := [⟨(some 34), (.mv (.tmp 0)), none⟩, ⟨(some 35), (.load true 7 (.tmp 3)), none⟩, ⟨(some 36), (.call (.fnc 73) [(.tmp 34), (.tmp 35)]), none⟩, ⟨(some 33), (.mv (.tmp 36)), none⟩]
abbrev A43r11 : List AIns := [⟨(some 4), (.mv (.cst (.int .i64 11))), none⟩]
abbrev A43c12 : ACode := (.seq (.reg A43r10 [3, 33]) (.cond (.tmp 33) [] (.seq (.reg A43r11 [4]) .ret) [3] .skip))
abbrev A43c13 : ACode := (.seq (.reg A43r8 [0, 3, 22]) (.cond (.tmp 22) [3] (.seq (.reg A43r9 [4]) .ret) [0, 3] A43c12))
abbrev A43c14 : ACode := (.seq (.reg A43r6 [0, 3, 19]) (.cond (.tmp 19) [] (.seq (.reg A43r7 [4]) .ret) [0, 3] A43c13))
abbrev A43c15 : ACode := (.seq (.reg A43r4 [0, 3, 9]) (.cond (.tmp 9) [] (.seq (.reg A43r5 [4]) .ret) [0, 3] A43c14))
abbrev A43c16 : ACode := (.seq (.reg A43r2 [0, 3, 5]) (.cond (.tmp 5) [] (.seq (.reg A43r3 [4]) .ret) [0, 3] A43c15))
abbrev A43r17 : List AIns := [⟨(some 37), (.faddr 3 (.tmp 3)), none⟩, ⟨(some 38), (.load false 1 (.tmp 37)), none⟩, ⟨(some 4), (.mv (.tmp 38)), none⟩]
def A43 : AFun := ⟨39, 2, [(.tmp 4)], (.seq (.reg A43r1 [0, 3]) (.seq (.block 0 A43c16) (.seq (.reg A43r17 [4]) .ret)))⟩
theorem A43c : compF Try.prog Try.f43 = some A43 := by kernel_rfl
theorem A43k : Callable Try.prog 43 := fun a w => Try.call43 a w
theorem A43p {ds : List D} {r : D} (hl : ds.length ≤ A43.nt) (hw : W Try.prog A43.code (Fin A43.results r) ⟨argEnv 0 ds, fun _ => none⟩) : PCon Try.prog 43 ds r := pcon_of_W mixed Try.func43 A43k A43c hl hw
/- estovers/estoversref39.Question -/
/- estovers/estoversref39.reason -/
/- estovers/estoversref39.Leaving -/
/- slices.Clone[[]estovers/api.Page,estovers/api.Page] -/
/- estovers/estoversref39.guarded -/
/- estovers/estoversref39.outside -/
/- slices.ContainsFunc[[]estovers/api.Page,estovers/api.Page] -/
/- (*estovers/reclaimplan.question).transit -/
/- (*estovers/reclaimplan.question).holds -/
/- estovers/estoversref39.holds -/
/- estovers/estoversref19.in -/
abbrev A54r1 : List AIns := [⟨(some 2), (.mv (.cst (.bool false))), none⟩]
abbrev A54r2 : List AIns := [⟨(some 3), (.mv (.tmp 0)), none⟩, ⟨(some 4), (.bin .geq (.tmp 3) (.cst (.int .i64 0))), none⟩, ⟨(some 5), (.mv (.tmp 4)), none⟩, ⟨(some 6), (.mv (.tmp 0)), (some (5, true))⟩, ⟨(some 7), (.bin .leq (.tmp 6) (.cst (.int .i64 1048576))), (some (5, true))⟩, ⟨(some 8), (.pick (.tmp 5) (.tmp 7) (.cst (.bool false))), none⟩, ⟨(some 2), (.mv (.tmp 8)), none⟩]
def A54 : AFun := ⟨9, 1, [(.tmp 2)], (.seq (.reg A54r1 [0]) (.seq (.reg A54r2 [2]) .ret))⟩
theorem A54c : compF Try.prog Try.f54 = some A54 := by kernel_rfl
theorem A54k : Callable Try.prog 54 := fun a w => Try.call54 a w
theorem A54p {ds : List D} {r : D} (hl : ds.length ≤ A54.nt) (hw : W Try.prog A54.code (Fin A54.results r) ⟨argEnv 0 ds, fun _ => none⟩) : PCon Try.prog 54 ds r := pcon_of_W mixed Try.func54 A54k A54c hl hw
/- estovers/estoversref19.kids -/
abbrev A55r1 : List AIns := [⟨(some 4), (.mv (.cst (.int .i64 0))), none⟩]
abbrev A55r2 : List AIns := [⟨(some 5), (.mv (.cst (.int .i64 0))), none⟩]
abbrev A55r3 : List AIns := [⟨(some 6), (.mv (.cst (.int .i64 1))), none⟩]
abbrev A55r5 : List AIns := [⟨(some 7), (.mv (.tmp 6)), none⟩, ⟨(some 8), (.mv (.tmp 0)), none⟩, ⟨(some 9), (.len (.tmp 8)), none⟩, ⟨(some 10), (.bin .lss (.tmp 7) (.tmp 9)), none⟩]
abbrev A55r6 : List AIns := [⟨(some 13), (.mv (.tmp 0)), none⟩, ⟨(some 14), (.mv (.tmp 6)), none⟩, ⟨(some 15), (.iaddr 5 (.tmp 13) (.tmp 14)), none⟩, ⟨(some 16), (.faddr 0 (.tmp 15)), none⟩, ⟨(some 17), (.load false 1 (.tmp 16)), none⟩, ⟨(some 18), (.mv (.tmp 1)), none⟩, ⟨(some 19), (.bin .eql (.tmp 17) (.tmp 18)), none⟩]
abbrev A55r7 : List AIns := [⟨(some 20), (.mv (.tmp 5)), none⟩, ⟨(some 21), (.mv (.tmp 0)), none⟩, ⟨(some 22), (.mv (.tmp 6)), none⟩, ⟨(some 23), (.iaddr 5 (.tmp 21) (.tmp 22)), none⟩, ⟨(some 24), (.faddr 1 (.tmp 23)), none⟩, ⟨(some 25), (.load false 1 (.tmp 24)), none⟩, ⟨(some 26), (.bin .add (.tmp 20) (.tmp 25)), none⟩, ⟨(some 5), (.mv (.tmp 26)), none⟩]
abbrev A55c8 : ACode := (.seq (.reg A55r6 [0, 1, 5, 6, 19]) (.cond (.tmp 19) [0, 1, 5, 6] (.reg A55r7 [0, 1, 5, 6]) [0, 1, 5, 6] .skip))
abbrev A55r9 : List AIns := [⟨(some 11), (.mv (.tmp 6)), none⟩, ⟨(some 12), (.bin .add (.tmp 11) (.cst (.int .i64 1))), none⟩, ⟨(some 6), (.mv (.tmp 12)), none⟩]
abbrev A55l4 : ACode := (.seq (.seq (.reg A55r5 [0, 1, 5, 6, 10]) (.cond (.tmp 10) [0, 1, 5, 6] .skip [5] (.exit 0))) (.seq (.block 1 A55c8) (.reg A55r9 [0, 1, 5, 6])))
abbrev A55r10 : List AIns := [⟨(some 27), (.mv (.tmp 5)), none⟩, ⟨(some 4), (.mv (.tmp 27)), none⟩]
def A55 : AFun := ⟨28, 2, [(.tmp 4)], (.seq (.reg A55r1 [0, 1]) (.seq (.reg A55r2 [0, 1, 5]) (.seq (.seq (.reg A55r3 [0, 1, 5, 6]) (.block 0 (.loop A55l4))) (.seq (.reg A55r10 [4]) .ret))))⟩
theorem A55c : compF Try.prog Try.f55 = some A55 := by kernel_rfl
theorem A55k : Callable Try.prog 55 := fun a w => Try.call55 a w
theorem A55p {ds : List D} {r : D} (hl : ds.length ≤ A55.nt) (hw : W Try.prog A55.code (Fin A55.results r) ⟨argEnv 0 ds, fun _ => none⟩) : PCon Try.prog 55 ds r := pcon_of_W mixed Try.func55 A55k A55c hl hw
/- estovers/estoversref19.has -/
abbrev A56r1 : List AIns := [⟨(some 4), (.mv (.cst (.bool false))), none⟩]
abbrev A56r2 : List AIns := [⟨(some 5), (.mv (.tmp 0)), none⟩, ⟨(some 6), (.call (.fnc 33) [(.tmp 5)]), none⟩, ⟨(some 7), (.bin .eql (.tmp 6) (.cst (.int .i64 0))), none⟩, ⟨(some 8), (.mv (.tmp 7)), none⟩, ⟨(some 9), (.mv (.tmp 1)), (some (8, true))⟩, ⟨(some 10), (.bin .geq (.tmp 9) (.cst (.int .i64 0))), (some (8, true))⟩, ⟨(some 11), (.pick (.tmp 8) (.tmp 10) (.cst (.bool false))), none⟩, ⟨(some 12), (.mv (.tmp 11)), none⟩, ⟨(some 13), (.mv (.tmp 1)), (some (12, true))⟩, ⟨(some 14), (.mv (.tmp 0)), (some (12, true))⟩, ⟨(some 15), (.len (.tmp 14)), (some (12, true))⟩, ⟨(some 16), (.bin .lss (.tmp 13) (.tmp 15)), (some (12, true))⟩, ⟨(some 17), (.pick (.tmp 12) (.tmp 16) (.cst (.bool false))), none⟩, ⟨(some 4), (.mv (.tmp 17)), none⟩]
def A56 : AFun := ⟨18, 2, [(.tmp 4)], (.seq (.reg A56r1 [0, 1]) (.seq (.reg A56r2 [4]) .ret))⟩
theorem A56c : compF Try.prog Try.f56 = some A56 := by kernel_rfl
theorem A56k : Callable Try.prog 56 := fun a w => Try.call56 a w
theorem A56p {ds : List D} {r : D} (hl : ds.length ≤ A56.nt) (hw : W Try.prog A56.code (Fin A56.results r) ⟨argEnv 0 ds, fun _ => none⟩) : PCon Try.prog 56 ds r := pcon_of_W mixed Try.func56 A56k A56c hl hw
/- estovers/estoversref19.Path -/
abbrev A57r1 : List AIns := [⟨(some 4), (.mv (.cst .nil)), none⟩]
abbrev A57r2 : List AIns := [⟨(some 6), (.mv (.tmp 0)), none⟩, ⟨(some 7), (.mv (.tmp 1)), none⟩, ⟨(some 8), (.call (.fnc 56) [(.tmp 6), (.tmp 7)]), none⟩, ⟨(some 9), (.un .not (.tmp 8)), none⟩]
abbrev A57r3 : List AIns := [⟨(some 4), (.mv (.cst .nil)), none⟩]
abbrev A57r4 : List AIns := [⟨(some 5), (.mv (.cst .nil)), none⟩]
abbrev A57r6 : List AIns := [⟨(some 10), (.mv (.tmp 1)), none⟩, ⟨(some 11), (.bin .geq (.tmp 10) (.cst (.int .i64 0))), none⟩]
abbrev A57r7 : List AIns := [⟨(some 12), (.mv (.tmp 5)), none⟩, ⟨(some 13), (.mv (.tmp 1)), none⟩, ⟨(some 14), (.buildS 1 [(.int .i64 0)] 1 [(0, (1, (.tmp 13)))]), none⟩, ⟨(some 15), (.append 1 8 (.tmp 12) (.tmp 14)), none⟩, ⟨(some 5), (.mv (.tmp 15)), none⟩]
abbrev A57r8 : List AIns := [⟨(some 16), (.mv (.tmp 0)), none⟩, ⟨(some 17), (.mv (.tmp 1)), none⟩, ⟨(some 18), (.iaddr 5 (.tmp 16) (.tmp 17)), none⟩, ⟨(some 19), (.faddr 0 (.tmp 18)), none⟩, ⟨(some 20), (.load false 1 (.tmp 19)), none⟩, ⟨(some 1), (.mv (.tmp 20)), none⟩]
abbrev A57l5 : ACode := (.seq (.seq (.reg A57r6 [0, 1, 5, 11]) (.cond (.tmp 11) [0, 1, 5] .skip [5] (.exit 0))) (.block 1 (.seq (.reg A57r7 [0, 1, 5]) (.reg A57r8 [0, 1, 5]))))
abbrev A57r9 : List AIns := [⟨(some 21), (.mv (.tmp 5)), none⟩, ⟨(some 4), (.mv (.tmp 21)), none⟩]
def A57 : AFun := ⟨22, 2, [(.tmp 4)], (.seq (.reg A57r1 [0, 1]) (.seq (.seq (.reg A57r2 [0, 1, 9]) (.cond (.tmp 9) [] (.seq (.reg A57r3 [4]) .ret) [0, 1] .skip)) (.seq (.reg A57r4 [0, 1, 5]) (.seq (.block 0 (.loop A57l5)) (.seq (.reg A57r9 [4]) .ret)))))⟩
theorem A57c : compF Try.prog Try.f57 = some A57 := by kernel_rfl
theorem A57k : Callable Try.prog 57 := fun a w => Try.call57 a w
theorem A57p {ds : List D} {r : D} (hl : ds.length ≤ A57.nt) (hw : W Try.prog A57.code (Fin A57.results r) ⟨argEnv 0 ds, fun _ => none⟩) : PCon Try.prog 57 ds r := pcon_of_W mixed Try.func57 A57k A57c hl hw
/- estovers/generations.Add -/
theorem A58k : Callable Try.prog 58 := fun a w => Try.call58 a w
/- estovers/generations.New -/
abbrev A59r1 : List AIns := [⟨(some 0), (.mv (.cst .nil)), none⟩]
abbrev A59r2 : List AIns := [⟨(some 1), (.mkslice 1 24 [.nil] (.cst (.int .i64 4)) (.cst (.int .i64 4))), none⟩, ⟨(some 0), (.mv (.tmp 1)), none⟩]
def A59 : AFun := ⟨2, 0, [(.tmp 0)], (.seq (.reg A59r1 []) (.seq (.reg A59r2 [0]) .ret))⟩
theorem A59c : compF Try.prog Try.f59 = some A59 := by kernel_rfl
theorem A59k : Callable Try.prog 59 := fun a w => Try.call59 a w
theorem A59p {ds : List D} {r : D} (hl : ds.length ≤ A59.nt) (hw : W Try.prog A59.code (Fin A59.results r) ⟨argEnv 0 ds, fun _ => none⟩) : PCon Try.prog 59 ds r := pcon_of_W mixed Try.func59 A59k A59c hl hw
/- estovers/generations.Where -/
theorem A60k : Callable Try.prog 60 := fun a w => Try.call60 a w
/- estovers/protection.Open -/
abbrev A61r1 : List AIns := [⟨(some 6), (.mv (.cst (.int .i64 0))), none⟩]
abbrev A61r2 : List AIns := [⟨(some 8), (.mv (.tmp 0)), none⟩, ⟨(some 9), (.mv (.tmp 1)), none⟩, ⟨(some 10), (.call (.fnc 80) [(.tmp 8), (.tmp 9)]), none⟩, ⟨(some 11), (.un .not (.tmp 10)), none⟩]
abbrev A61r3 : List AIns := [⟨(some 6), (.mv (.cst (.int .i64 (-1)))), none⟩]
abbrev A61r4 : List AIns := [⟨(some 12), (.mv (.tmp 0)), none⟩, ⟨(some 13), (.len (.tmp 12)), none⟩, ⟨(some 14), (.mv (.cst (.int .i64 0))), none⟩]
abbrev A61r6 : List AIns := [⟨(some 15), (.bin .lss (.tmp 14) (.tmp 13)), none⟩]
abbrev A61r7 : List AIns := [⟨(some 16), (.mv (.tmp 14)), none⟩, ⟨(some 7), (.mv (.tmp 16)), none⟩]
abbrev A61d8 : List AIns := [⟨(some 17), (.mv (.tmp 0)), none⟩, ⟨(some 18), (.mv (.tmp 7)), none⟩, ⟨(some 19), (.call (.fnc 81) [(.tmp 17), (.tmp 18)]), none⟩, ⟨(some 20), (.mv (.tmp 1)), none⟩, ⟨(some 21), (.mv (.tmp 7)), none⟩, ⟨(some 22), (.iaddr 1 (.tmp 20) (.tmp 21)), none⟩, ⟨(some 23), (.load false 1 (.tmp 22)), none⟩, ⟨(some 24), (.bin .gtr (.tmp 19) (.tmp 23)), none⟩, ⟨(some 25), (.mv (.tmp 24)), none⟩, ⟨(some 26), (.mv (.tmp 0)), (some (25, true))⟩, ⟨(some 27), (.mv (.tmp 1)), (some (25, true))⟩, ⟨(some 28), (.mv (.tmp 7)), (some (25, true))⟩, ⟨(some 29), (.mv (.tmp 2)), (some (25, true))⟩, ⟨(some 30), (.call (.fnc 71) [(.tmp 26), (.tmp 27), (.tmp 28), (.tmp 29), (.cst (.bool false))]), (some (25, true))⟩, ⟨(some 31), (.un .not (.tmp 30)), (some (25, true))⟩, ⟨(some 32), (.pick (.tmp 25) (.tmp 31) (.cst (.bool false))), none⟩]
abbrev A61r9 : List AIns := [⟨(some 33), (.mv (.tmp 7)), none⟩, ⟨(some 6), (.mv (.tmp 33)), none⟩]
abbrev A61c10 : ACode := (.seq (.reg A61r7 [0, 1, 2, 7, 13, 14]) (.seq (.dreg A61d8 [[], [], [0, 1], [], [], [3, 4], [3, 4, 5], [0, 1, 2, 3, 4, 5, 6], [0, 1, 2, 3, 4, 5, 6, 7], [0, 1, 2, 3, 4, 5, 6, 7, 8], [0, 1, 2, 3, 4, 5, 6, 7, 8], [0, 1, 2, 3, 4, 5, 6, 7, 8], [0, 1, 2, 3, 4, 5, 6, 7, 8], [0, 1, 2, 3, 4, 5, 6, 7, 8, 9, 10, 11, 12], [0, 1, 2, 3, 4, 5, 6, 7, 8, 9, 10, 11, 12, 13], [0, 1, 2, 3, 4, 5, 6, 7, 8, 9, 10, 11, 12, 13, 14]] [0, 1, 2, 7, 13, 14, 32]) (.cond (.tmp 32) [7] (.seq (.reg A61r9 [6]) .ret) [0, 1, 2, 13, 14] .skip)))
abbrev A61r11 : List AIns := [⟨(some 34), (.bin .add (.tmp 14) (.cst (.int .i64 1))), none⟩, ⟨(some 14), (.mv (.tmp 34)), none⟩]
abbrev A61l5 : ACode := (.seq (.reg A61r6 [0, 1, 2, 13, 14, 15]) (.seq (.cond (.tmp 15) [0, 1, 2, 13, 14] .skip [] (.exit 0)) (.seq (.block 1 A61c10) (.reg A61r11 [0, 1, 2, 13, 14]))))
abbrev A61r12 : List AIns := [⟨(some 6), (.mv (.cst (.int .i64 (-1)))), none⟩]
def A61 : AFun := ⟨35, 3, [(.tmp 6)], (.seq (.reg A61r1 [0, 1, 2]) (.seq (.seq (.reg A61r2 [0, 1, 2, 11]) (.cond (.tmp 11) [] (.seq (.reg A61r3 [6]) .ret) [0, 1, 2] .skip)) (.seq (.seq (.reg A61r4 [0, 1, 2, 13, 14]) (.block 0 (.loop A61l5))) (.seq (.reg A61r12 [6]) .ret))))⟩
theorem A61c : compF Try.prog Try.f61 = some A61 := by kernel_rfl
theorem A61k : Callable Try.prog 61 := fun a w => Try.call61 a w
theorem A61p {ds : List D} {r : D} (hl : ds.length ≤ A61.nt) (hw : W Try.prog A61.code (Fin A61.results r) ⟨argEnv 0 ds, fun _ => none⟩) : PCon Try.prog 61 ds r := pcon_of_W mixed Try.func61 A61k A61c hl hw
/- estovers/protection.Effective$1 -/
abbrev A62r1 : List AIns := [⟨(some 3), (.mv (.cst (.int .i64 0))), none⟩]
abbrev A62d2 : List AIns := [⟨(some 4), (.load false 1 (.tmp 1)), none⟩, ⟨(some 5), (.mv (.tmp 0)), none⟩, ⟨(some 6), (.iaddr 5 (.tmp 4) (.tmp 5)), none⟩, ⟨(some 7), (.faddr 2 (.tmp 6)), none⟩, ⟨(some 8), (.load false 1 (.tmp 7)), none⟩, ⟨(some 9), (.load false 1 (.tmp 1)), none⟩, ⟨(some 10), (.mv (.tmp 0)), none⟩, ⟨(some 11), (.iaddr 5 (.tmp 9) (.tmp 10)), none⟩, ⟨(some 12), (.faddr 1 (.tmp 11)), none⟩, ⟨(some 13), (.load false 1 (.tmp 12)), none⟩, ⟨(some 14), (.mima false [(.tmp 8), (.tmp 13)]), none⟩, ⟨(some 3), (.mv (.tmp 14)), none⟩]
def A62 : AFun := ⟨15, 2, [(.tmp 3)], (.seq (.reg A62r1 [0, 1]) (.seq (.dreg A62d2 [[], [], [0, 1], [0, 1, 2], [0, 1, 2, 3], [], [], [5, 6], [5, 6, 7], [5, 6, 7, 8], [0, 1, 2, 3, 4, 5, 6, 7, 8, 9], [0, 1, 2, 3, 4, 5, 6, 7, 8, 9, 10]] [3]) .ret))⟩
theorem A62c : compF Try.prog Try.f62 = some A62 := by kernel_rfl
theorem A62k : Callable Try.prog 62 := fun a w => Try.call62 a w
theorem A62p {ds : List D} {r : D} (hl : ds.length ≤ A62.nt) (hw : W Try.prog A62.code (Fin A62.results r) ⟨argEnv 0 ds, fun _ => none⟩) : PCon Try.prog 62 ds r := pcon_of_W mixed Try.func62 A62k A62c hl hw
/- estovers/estoversref19.Own -/
abbrev A63r1 : List AIns := [⟨(some 4), (.mv (.cst (.int .i64 0))), none⟩]
abbrev A63r2 : List AIns := [⟨(some 5), (.mv (.tmp 0)), none⟩, ⟨(some 6), (.mv (.tmp 1)), none⟩, ⟨(some 7), (.call (.fnc 56) [(.tmp 5), (.tmp 6)]), none⟩, ⟨(some 8), (.un .not (.tmp 7)), none⟩]
abbrev A63r3 : List AIns := [⟨(some 4), (.mv (.cst (.int .i64 (-1)))), none⟩]
abbrev A63d4 : List AIns := [⟨(some 9), (.mv (.tmp 0)), none⟩, ⟨(some 10), (.mv (.tmp 1)), none⟩, ⟨(some 11), (.iaddr 5 (.tmp 9) (.tmp 10)), none⟩, ⟨(some 12), (.faddr 1 (.tmp 11)), none⟩, ⟨(some 13), (.load false 1 (.tmp 12)), none⟩, ⟨(some 14), (.mv (.tmp 0)), none⟩, ⟨(some 15), (.mv (.tmp 1)), none⟩, ⟨(some 16), (.call (.fnc 55) [(.tmp 14), (.tmp 15)]), none⟩, ⟨(some 17), (.bin .sub (.tmp 13) (.tmp 16)), none⟩, ⟨(some 4), (.mv (.tmp 17)), none⟩]
def A63 : AFun := ⟨18, 2, [(.tmp 4)], (.seq (.reg A63r1 [0, 1]) (.seq (.seq (.reg A63r2 [0, 1, 8]) (.cond (.tmp 8) [] (.seq (.reg A63r3 [4]) .ret) [0, 1] .skip)) (.seq (.dreg A63d4 [[], [], [0, 1], [0, 1, 2], [0, 1, 2, 3], [], [], [5, 6], [0, 1, 2, 3, 4, 5, 6, 7], [0, 1, 2, 3, 4, 5, 6, 7, 8]] [4]) .ret)))⟩
theorem A63c : compF Try.prog Try.f63 = some A63 := by kernel_rfl
theorem A63k : Callable Try.prog 63 := fun a w => Try.call63 a w
theorem A63p {ds : List D} {r : D} (hl : ds.length ≤ A63.nt) (hw : W Try.prog A63.code (Fin A63.results r) ⟨argEnv 0 ds, fun _ => none⟩) : PCon Try.prog 63 ds r := pcon_of_W mixed Try.func63 A63k A63c hl hw
/- estovers/accounts.tree -/
abbrev A64r1 : List AIns := [⟨(some 2), (.mv (.cst (.bool false))), none⟩]
abbrev A64r2 : List AIns := [⟨(some 5), (.mv (.tmp 0)), none⟩, ⟨(some 6), (.len (.tmp 5)), none⟩, ⟨(some 7), (.mv (.cst (.int .i64 0))), none⟩]
abbrev A64r4 : List AIns := [⟨(some 8), (.bin .lss (.tmp 7) (.tmp 6)), none⟩]
abbrev A64r5 : List AIns := [⟨(some 9), (.mv (.tmp 7)), none⟩, ⟨(some 10), (.iaddr 5 (.tmp 5) (.tmp 7)), none⟩, ⟨(some 11), (.load true 5 (.tmp 10)), none⟩, ⟨(some 4), (.alloc [(.int .i64 0), (.int .i64 0), (.int .i64 0), (.int .i64 0), (.int .i64 0)]), none⟩, ⟨(some 3), (.mv (.tmp 9)), none⟩, ⟨none, (.store 5 (.tmp 4) (.tmp 11)), none⟩]
abbrev A64r6 : List AIns := [⟨(some 12), (.mv (.tmp 3)), none⟩, ⟨(some 13), (.bin .eql (.tmp 12) (.cst (.int .i64 0))), none⟩, ⟨(some 14), (.mv (.tmp 13)), none⟩, ⟨(some 15), (.faddr 0 (.tmp 4)), (some (14, true))⟩, ⟨(some 16), (.load false 1 (.tmp 15)), (some (14, true))⟩, ⟨(some 17), (.bin .neq (.tmp 16) (.cst (.int .i64 (-1)))), (some (14, true))⟩, ⟨(some 18), (.pick (.tmp 14) (.tmp 17) (.cst (.bool false))), none⟩, ⟨(some 19), (.mv (.tmp 18)), none⟩, ⟨(some 20), (.mv (.tmp 3)), (some (19, false))⟩, ⟨(some 21), (.bin .gtr (.tmp 20) (.cst (.int .i64 0))), (some (19, false))⟩, ⟨(some 22), (.mv (.tmp 21)), (some (19, false))⟩, ⟨(some 23), (.faddr 0 (.tmp 4)), (some (22, true))⟩, ⟨(some 24), (.load false 1 (.tmp 23)), (some (22, true))⟩, ⟨(some 25), (.bin .lss (.tmp 24) (.cst (.int .i64 0))), (some (22, true))⟩, ⟨(some 26), (.mv (.tmp 25)), (some (22, true))⟩, ⟨(some 27), (.faddr 0 (.tmp 4)), (some (26, false))⟩, ⟨(some 28), (.load false 1 (.tmp 27)), (some (26, false))⟩, ⟨(some 29), (.mv (.tmp 3)), (some (26, false))⟩, ⟨(some 30), (.bin .geq (.tmp 28) (.tmp 29)), (some (26, false))⟩, ⟨(some 31), (.pick (.tmp 26) (.cst (.bool true)) (.tmp 30)), (some (22, true))⟩, ⟨(some 32), (.pick (.tmp 22) (.tmp 31) (.cst (.bool false))), (some (19, false))⟩, ⟨(some 33), (.pick (.tmp 19) (.cst (.bool true)) (.tmp 32)), none⟩]
abbrev A64r7 : List AIns := [⟨(some 2), (.mv (.cst (.bool false))), none⟩]
abbrev A64c8 : ACode := (.seq (.reg A64r5 [3, 4, 5, 6, 7]) (.seq (.reg A64r6 [5, 6, 7, 33]) (.cond (.tmp 33) [] (.seq (.reg A64r7 [2]) .ret) [5, 6, 7] .skip)))
abbrev A64r9 : List AIns := [⟨(some 34), (.bin .add (.tmp 7) (.cst (.int .i64 1))), none⟩, ⟨(some 7), (.mv (.tmp 34)), none⟩]
abbrev A64l3 : ACode := (.seq (.reg A64r4 [5, 6, 7, 8]) (.seq (.cond (.tmp 8) [5, 6, 7] .skip [] (.exit 0)) (.seq (.block 1 A64c8) (.reg A64r9 [5, 6, 7]))))
abbrev A64r10 : List AIns := [⟨(some 2), (.mv (.cst (.bool true))), none⟩]
def A64 : AFun := ⟨35, 1, [(.tmp 2)], (.seq (.reg A64r1 [0]) (.seq (.seq (.reg A64r2 [5, 6, 7]) (.block 0 (.loop A64l3))) (.seq (.reg A64r10 [2]) .ret)))⟩
theorem A64c : compF Try.prog Try.f64 = some A64 := by kernel_rfl
theorem A64k : Callable Try.prog 64 := fun a w => Try.call64 a w
theorem A64p {ds : List D} {r : D} (hl : ds.length ≤ A64.nt) (hw : W Try.prog A64.code (Fin A64.results r) ⟨argEnv 0 ds, fun _ => none⟩) : PCon Try.prog 64 ds r := pcon_of_W mixed Try.func64 A64k A64c hl hw
/- estovers/accounts.amounts -/
abbrev A65r1 : List AIns := [⟨(some 2), (.mv (.cst (.bool false))), none⟩]
abbrev A65r2 : List AIns := [⟨(some 5), (.mv (.tmp 0)), none⟩, ⟨(some 6), (.len (.tmp 5)), none⟩, ⟨(some 7), (.mv (.cst (.int .i64 0))), none⟩]
abbrev A65r4 : List AIns := [⟨(some 8), (.bin .lss (.tmp 7) (.tmp 6)), none⟩]
abbrev A65r5 : List AIns := [⟨(some 9), (.iaddr 5 (.tmp 5) (.tmp 7)), none⟩, ⟨(some 10), (.load true 5 (.tmp 9)), none⟩, ⟨(some 4), (.alloc [(.int .i64 0), (.int .i64 0), (.int .i64 0), (.int .i64 0), (.int .i64 0)]), none⟩, ⟨none, (.store 5 (.tmp 4) (.tmp 10)), none⟩]
abbrev A65r6 : List AIns := [⟨(some 11), (.faddr 1 (.tmp 4)), none⟩, ⟨(some 12), (.load false 1 (.tmp 11)), none⟩, ⟨(some 13), (.call (.fnc 82) [(.tmp 12)]), none⟩, ⟨(some 14), (.un .not (.tmp 13)), none⟩, ⟨(some 15), (.mv (.tmp 14)), none⟩, ⟨(some 16), (.faddr 2 (.tmp 4)), (some (15, false))⟩, ⟨(some 17), (.load false 1 (.tmp 16)), (some (15, false))⟩, ⟨(some 18), (.call (.fnc 82) [(.tmp 17)]), (some (15, false))⟩, ⟨(some 19), (.un .not (.tmp 18)), (some (15, false))⟩, ⟨(some 20), (.pick (.tmp 15) (.cst (.bool true)) (.tmp 19)), none⟩, ⟨(some 21), (.mv (.tmp 20)), none⟩, ⟨(some 22), (.faddr 3 (.tmp 4)), (some (21, false))⟩, ⟨(some 23), (.load false 1 (.tmp 22)), (some (21, false))⟩, ⟨(some 24), (.call (.fnc 82) [(.tmp 23)]), (some (21, false))⟩, ⟨(some 25), (.un .not (.tmp 24)), (some (21, false))⟩, ⟨(some 26), (.pick (.tmp 21) (.cst (.bool true)) (.tmp 25)), none⟩, ⟨(some 27), (.mv (.tmp 26)), none⟩, ⟨(some 28), (.faddr 4 (.tmp 4)), (some (27, false))⟩, ⟨(some 29), (.load false 1 (.tmp 28)), (some (27, false))⟩, ⟨(some 30), (.call (.fnc 82) [(.tmp 29)]), (some (27, false))⟩, ⟨(some 31), (.un .not (.tmp 30)), (some (27, false))⟩, ⟨(some 32), (.pick (.tmp 27) (.cst (.bool true)) (.tmp 31)), none⟩]
abbrev A65r7 : List AIns := [⟨(some 2), (.mv (.cst (.bool false))), none⟩]
abbrev A65c8 : ACode := (.seq (.reg A65r5 [0, 4, 5, 6, 7]) (.seq (.reg A65r6 [0, 5, 6, 7, 32]) (.cond (.tmp 32) [] (.seq (.reg A65r7 [2]) .ret) [0, 5, 6, 7] .skip)))
abbrev A65r9 : List AIns := [⟨(some 33), (.bin .add (.tmp 7) (.cst (.int .i64 1))), none⟩, ⟨(some 7), (.mv (.tmp 33)), none⟩]
abbrev A65l3 : ACode := (.seq (.reg A65r4 [0, 5, 6, 7, 8]) (.seq (.cond (.tmp 8) [0, 5, 6, 7] .skip [0] (.exit 0)) (.seq (.block 1 A65c8) (.reg A65r9 [0, 5, 6, 7]))))
abbrev A65r10 : List AIns := [⟨(some 34), (.mv (.tmp 0)), none⟩, ⟨(some 35), (.iaddr 5 (.tmp 34) (.cst (.int .i64 0))), none⟩, ⟨(some 36), (.faddr 2 (.tmp 35)), none⟩, ⟨(some 37), (.load false 1 (.tmp 36)), none⟩, ⟨(some 38), (.bin .eql (.tmp 37) (.cst (.int .i64 0))), none⟩, ⟨(some 39), (.mv (.tmp 38)), none⟩, ⟨(some 40), (.mv (.tmp 0)), (some (39, true))⟩, ⟨(some 41), (.iaddr 5 (.tmp 40) (.cst (.int .i64 0))), (some (39, true))⟩, ⟨(some 42), (.faddr 3 (.tmp 41)), (some (39, true))⟩, ⟨(some 43), (.load false 1 (.tmp 42)), (some (39, true))⟩, ⟨(some 44), (.bin .eql (.tmp 43) (.cst (.int .i64 0))), (some (39, true))⟩, ⟨(some 45), (.pick (.tmp 39) (.tmp 44) (.cst (.bool false))), none⟩, ⟨(some 2), (.mv (.tmp 45)), none⟩]
def A65 : AFun := ⟨46, 1, [(.tmp 2)], (.seq (.reg A65r1 [0]) (.seq (.seq (.reg A65r2 [0, 5, 6, 7]) (.block 0 (.loop A65l3))) (.seq (.reg A65r10 [2]) .ret)))⟩
theorem A65c : compF Try.prog Try.f65 = some A65 := by kernel_rfl
theorem A65k : Callable Try.prog 65 := fun a w => Try.call65 a w
theorem A65p {ds : List D} {r : D} (hl : ds.length ≤ A65.nt) (hw : W Try.prog A65.code (Fin A65.results r) ⟨argEnv 0 ds, fun _ => none⟩) : PCon Try.prog 65 ds r := pcon_of_W mixed Try.func65 A65k A65c hl hw
/- slices.ContainsFunc[[]estovers/api.Account,estovers/api.Account] -/
abbrev A66r1 : List AIns := [⟨(some 4), (.mv (.cst (.bool false))), none⟩]
abbrev A66r2 : List AIns := [⟨(some 5), (.mv (.tmp 0)), none⟩, ⟨(some 6), (.mv (.tmp 1)), none⟩, ⟨(some 7), (.call (.fnc 83) [(.tmp 5), (.tmp 6)]), none⟩, ⟨(some 8), (.bin .geq (.tmp 7) (.cst (.int .i64 0))), none⟩, ⟨(some 4), (.mv (.tmp 8)), none⟩]
def A66 : AFun := ⟨9, 2, [(.tmp 4)], (.seq (.reg A66r1 [0, 1]) (.seq (.reg A66r2 [4]) .ret))⟩
theorem A66c : compF Try.prog Try.f66 = some A66 := by kernel_rfl
theorem A66k : Callable Try.prog 66 := fun a w => Try.call66 a w
theorem A66p {ds : List D} {r : D} (hl : ds.length ≤ A66.nt) (hw : W Try.prog A66.code (Fin A66.results r) ⟨argEnv 0 ds, fun _ => none⟩) : PCon Try.prog 66 ds r := pcon_of_W mixed Try.func66 A66k A66c hl hw
/- estovers/accounts.Check$1 -/
abbrev A67r1 : List AIns := [⟨(some 1), (.box (.tmp 0)), none⟩, ⟨(some 2), (.mv (.cst (.bool false))), none⟩]
abbrev A67r2 : List AIns := [⟨(some 3), (.faddr 1 (.tmp 1)), none⟩, ⟨(some 4), (.load false 1 (.tmp 3)), none⟩, ⟨(some 5), (.faddr 4 (.tmp 1)), none⟩, ⟨(some 6), (.load false 1 (.tmp 5)), none⟩, ⟨(some 7), (.bin .gtr (.tmp 4) (.tmp 6)), none⟩, ⟨(some 2), (.mv (.tmp 7)), none⟩]
def A67 : AFun := ⟨8, 1, [(.tmp 2)], (.seq (.reg A67r1 [1]) (.seq (.reg A67r2 [2]) .ret))⟩
theorem A67c : compF Try.prog Try.f67 = some A67 := by kernel_rfl
theorem A67k : Callable Try.prog 67 := fun a w => Try.call67 a w
theorem A67p {ds : List D} {r : D} (hl : ds.length ≤ A67.nt) (hw : W Try.prog A67.code (Fin A67.results r) ⟨argEnv 0 ds, fun _ => none⟩) : PCon Try.prog 67 ds r := pcon_of_W mixed Try.func67 A67k A67c hl hw
/- slices.Min[[]int,int] -/
abbrev A68r1 : List AIns := [⟨(some 2), (.mv (.cst (.int .i64 0))), none⟩]
abbrev A68r2 : List AIns := [⟨(some 5), (.mv (.tmp 0)), none⟩, ⟨(some 6), (.len (.tmp 5)), none⟩, ⟨(some 7), (.bin .lss (.tmp 6) (.cst (.int .i64 1))), none⟩]
abbrev A68r3 : List AIns := [⟨(some 8), .bad, none⟩, ⟨none, .bad, none⟩]
abbrev A68r4 : List AIns := [⟨(some 9), (.mv (.tmp 0)), none⟩, ⟨(some 10), (.iaddr 1 (.tmp 9) (.cst (.int .i64 0))), none⟩, ⟨(some 11), (.load false 1 (.tmp 10)), none⟩, ⟨(some 3), (.mv (.tmp 11)), none⟩]
abbrev A68r5 : List AIns := [⟨(some 4), (.mv (.cst (.int .i64 1))), none⟩]
abbrev A68r7 : List AIns := [⟨(some 12), (.mv (.tmp 4)), none⟩, ⟨(some 13), (.mv (.tmp 0)), none⟩, ⟨(some 14), (.len (.tmp 13)), none⟩, ⟨(some 15), (.bin .lss (.tmp 12) (.tmp 14)), none⟩]
abbrev A68r8 : List AIns := [⟨(some 18), (.mv (.tmp 3)), none⟩, ⟨(some 19), (.mv (.tmp 0)), none⟩, ⟨(some 20), (.mv (.tmp 4)), none⟩, ⟨(some 21), (.iaddr 1 (.tmp 19) (.tmp 20)), none⟩, ⟨(some 22), (.load false 1 (.tmp 21)), none⟩, ⟨(some 23), (.mima false [(.tmp 18), (.tmp 22)]), none⟩, ⟨(some 3), (.mv (.tmp 23)), none⟩]
abbrev A68r9 : List AIns := [⟨(some 16), (.mv (.tmp 4)), none⟩, ⟨(some 17), (.bin .add (.tmp 16) (.cst (.int .i64 1))), none⟩, ⟨(some 4), (.mv (.tmp 17)), none⟩]
abbrev A68l6 : ACode := (.seq (.seq (.reg A68r7 [0, 3, 4, 15]) (.cond (.tmp 15) [0, 3, 4] .skip [3] (.exit 0))) (.seq (.block 1 (.reg A68r8 [0, 3, 4])) (.reg A68r9 [0, 3, 4])))
abbrev A68r10 : List AIns := [⟨(some 24), (.mv (.tmp 3)), none⟩, ⟨(some 2), (.mv (.tmp 24)), none⟩]
def A68 : AFun := ⟨25, 1, [(.tmp 2)], (.seq (.reg A68r1 [0]) (.seq (.seq (.reg A68r2 [0, 7]) (.cond (.tmp 7) [0] (.reg A68r3 [0]) [0] .skip)) (.seq (.reg A68r4 [0, 3]) (.seq (.seq (.reg A68r5 [0, 3, 4]) (.block 0 (.loop A68l6))) (.seq (.reg A68r10 [2]) .ret)))))⟩
theorem A68c : compF Try.prog Try.f68 = some A68 := by kernel_rfl
theorem A68k : Callable Try.prog 68 := fun a w => Try.call68 a w
theorem A68p {ds : List D} {r : D} (hl : ds.length ≤ A68.nt) (hw : W Try.prog A68.code (Fin A68.results r) ⟨argEnv 0 ds, fun _ => none⟩) : PCon Try.prog 68 ds r := pcon_of_W mixed Try.func68 A68k A68c hl hw
/- estovers/accounts.own -/
abbrev A69r1 : List AIns := [⟨(some 2), (.mv (.cst .nil)), none⟩]
abbrev A69r2 : List AIns := [⟨(some 6), (.mv (.tmp 0)), none⟩, ⟨(some 7), (.len (.tmp 6)), none⟩, ⟨(some 8), (.mkslice 1 8 [(.int .i64 0)] (.tmp 7) (.tmp 7)), none⟩, ⟨(some 3), (.mv (.tmp 8)), none⟩]
abbrev A69r3 : List AIns := [⟨(some 9), (.mv (.tmp 0)), none⟩, ⟨(some 10), (.len (.tmp 9)), none⟩, ⟨(some 11), (.mv (.cst (.int .i64 0))), none⟩]
abbrev A69r5 : List AIns := [⟨(some 12), (.bin .lss (.tmp 11) (.tmp 10)), none⟩]
abbrev A69r6 : List AIns := [⟨(some 13), (.mv (.tmp 11)), none⟩, ⟨(some 14), (.iaddr 5 (.tmp 9) (.tmp 11)), none⟩, ⟨(some 15), (.load true 5 (.tmp 14)), none⟩, ⟨(some 5), (.alloc [(.int .i64 0), (.int .i64 0), (.int .i64 0), (.int .i64 0), (.int .i64 0)]), none⟩, ⟨(some 4), (.mv (.tmp 13)), none⟩, ⟨none, (.store 5 (.tmp 5) (.tmp 15)), none⟩]
abbrev A69d7 : List AIns := [⟨(some 16), (.mv (.tmp 3)), none⟩, ⟨(some 17), (.mv (.tmp 4)), none⟩, ⟨(some 18), (.iaddr 1 (.tmp 16) (.tmp 17)), none⟩, ⟨(some 19), (.load false 1 (.tmp 18)), none⟩, ⟨(some 20), (.faddr 1 (.tmp 5)), none⟩, ⟨(some 21), (.load false 1 (.tmp 20)), none⟩, ⟨(some 22), (.bin .add (.tmp 19) (.tmp 21)), none⟩, ⟨(some 23), (.iaddr 1 (.tmp 16) (.tmp 17)), none⟩, ⟨none, (.store 1 (.tmp 23) (.tmp 22)), none⟩]
abbrev A69d7p : List AIns := [⟨(some 16), (.mv (.tmp 3)), none⟩, ⟨(some 17), (.mv (.tmp 4)), none⟩, ⟨(some 18), (.iaddr 1 (.tmp 16) (.tmp 17)), none⟩, ⟨(some 19), (.load false 1 (.tmp 18)), none⟩, ⟨(some 20), (.faddr 1 (.tmp 5)), none⟩, ⟨(some 21), (.load false 1 (.tmp 20)), none⟩, ⟨(some 22), (.bin .add (.tmp 19) (.tmp 21)), none⟩, ⟨(some 23), (.iaddr 1 (.tmp 16) (.tmp 17)), none⟩]
abbrev A69r8 : List AIns := [⟨(some 24), (.mv (.tmp 4)), none⟩, ⟨(some 25), (.bin .gtr (.tmp 24) (.cst (.int .i64 0))), none⟩]
abbrev A69d9 : List AIns := [⟨(some 26), (.mv (.tmp 3)), none⟩, ⟨(some 27), (.faddr 0 (.tmp 5)), none⟩, ⟨(some 28), (.load false 1 (.tmp 27)), none⟩, ⟨(some 29), (.iaddr 1 (.tmp 26) (.tmp 28)), none⟩, ⟨(some 30), (.load false 1 (.tmp 29)), none⟩, ⟨(some 31), (.faddr 1 (.tmp 5)), none⟩, ⟨(some 32), (.load false 1 (.tmp 31)), none⟩, ⟨(some 33), (.bin .sub (.tmp 30) (.tmp 32)), none⟩, ⟨(some 34), (.iaddr 1 (.tmp 26) (.tmp 28)), none⟩, ⟨none, (.store 1 (.tmp 34) (.tmp 33)), none⟩]
abbrev A69d9p : List AIns := [⟨(some 26), (.mv (.tmp 3)), none⟩, ⟨(some 27), (.faddr 0 (.tmp 5)), none⟩, ⟨(some 28), (.load false 1 (.tmp 27)), none⟩, ⟨(some 29), (.iaddr 1 (.tmp 26) (.tmp 28)), none⟩, ⟨(some 30), (.load false 1 (.tmp 29)), none⟩, ⟨(some 31), (.faddr 1 (.tmp 5)), none⟩, ⟨(some 32), (.load false 1 (.tmp 31)), none⟩, ⟨(some 33), (.bin .sub (.tmp 30) (.tmp 32)), none⟩, ⟨(some 34), (.iaddr 1 (.tmp 26) (.tmp 28)), none⟩]
abbrev A69c10 : ACode := (.dreg A69d9 [[], [], [1], [0, 1, 2], [0, 1, 2, 3], [], [5], [0, 1, 2, 3, 4, 5, 6], [0, 1, 2, 3, 4, 5, 6, 7], [0, 1, 2, 3, 4, 5, 6, 7, 8]] [3, 9, 10, 11])
abbrev A69c11 : ACode := (.seq (.reg A69r6 [3, 4, 5, 9, 10, 11]) (.seq (.dreg A69d7 [[], [], [0, 1], [0, 1, 2], [], [4], [0, 1, 2, 3, 4, 5], [0, 1, 2, 3, 4, 5, 6], [0, 1, 2, 3, 4, 5, 6, 7]] [3, 4, 5, 9, 10, 11]) (.seq (.reg A69r8 [3, 5, 9, 10, 11, 25]) (.cond (.tmp 25) [3, 5, 9, 10, 11] A69c10 [3, 9, 10, 11] .skip))))
abbrev A69r12 : List AIns := [⟨(some 35), (.bin .add (.tmp 11) (.cst (.int .i64 1))), none⟩, ⟨(some 11), (.mv (.tmp 35)), none⟩]
abbrev A69l4 : ACode := (.seq (.reg A69r5 [3, 9, 10, 11, 12]) (.seq (.cond (.tmp 12) [3, 9, 10, 11] .skip [3] (.exit 0)) (.seq (.block 1 A69c11) (.reg A69r12 [3, 9, 10, 11]))))
abbrev A69r13 : List AIns := [⟨(some 36), (.mv (.tmp 3)), none⟩, ⟨(some 2), (.mv (.tmp 36)), none⟩]
def A69 : AFun := ⟨37, 1, [(.tmp 2)], (.seq (.reg A69r1 [0]) (.seq (.reg A69r2 [0, 3]) (.seq (.seq (.reg A69r3 [3, 9, 10, 11]) (.block 0 (.loop A69l4))) (.seq (.reg A69r13 [2]) .ret))))⟩
theorem A69c : compF Try.prog Try.f69 = some A69 := by kernel_rfl
theorem A69k : Callable Try.prog 69 := fun a w => Try.call69 a w
theorem A69p {ds : List D} {r : D} (hl : ds.length ≤ A69.nt) (hw : W Try.prog A69.code (Fin A69.results r) ⟨argEnv 0 ds, fun _ => none⟩) : PCon Try.prog 69 ds r := pcon_of_W mixed Try.func69 A69k A69c hl hw
/- estovers/accounts.Inside -/
abbrev A70r1 : List AIns := [⟨(some 6), (.mv (.cst (.bool false))), none⟩]
abbrev A70r2 : List AIns := [⟨(some 7), (.mv (.tmp 0)), none⟩, ⟨(some 8), (.mv (.tmp 1)), none⟩, ⟨(some 9), (.call (.fnc 84) [(.tmp 7), (.tmp 8)]), none⟩, ⟨(some 10), (.mv (.tmp 9)), none⟩, ⟨(some 11), (.mv (.tmp 2)), (some (10, true))⟩, ⟨(some 12), (.bin .eql (.tmp 11) (.cst (.int .i64 (-1)))), (some (10, true))⟩, ⟨(some 13), (.mv (.tmp 12)), (some (10, true))⟩, ⟨(some 14), (.mv (.tmp 0)), (some (13, false))⟩, ⟨(some 15), (.mv (.tmp 1)), (some (13, false))⟩, ⟨(some 16), (.call (.fnc 86) [(.tmp 14), (.tmp 15)]), (some (13, false))⟩, ⟨(some 17), (.mv (.tmp 2)), (some (13, false))⟩, ⟨(some 18), (.call (.fnc 85) [(.tmp 16), (.tmp 17)]), (some (13, false))⟩, ⟨(some 19), (.pick (.tmp 13) (.cst (.bool true)) (.tmp 18)), (some (10, true))⟩, ⟨(some 20), (.pick (.tmp 10) (.tmp 19) (.cst (.bool false))), none⟩, ⟨(some 6), (.mv (.tmp 20)), none⟩]
def A70 : AFun := ⟨21, 3, [(.tmp 6)], (.seq (.reg A70r1 [0, 1, 2]) (.seq (.reg A70r2 [6]) .ret))⟩
theorem A70c : compF Try.prog Try.f70 = some A70 := by kernel_rfl
theorem A70k : Callable Try.prog 70 := fun a w => Try.call70 a w
theorem A70p {ds : List D} {r : D} (hl : ds.length ≤ A70.nt) (hw : W Try.prog A70.code (Fin A70.results r) ⟨argEnv 0 ds, fun _ => none⟩) : PCon Try.prog 70 ds r := pcon_of_W mixed Try.func70 A70k A70c hl hw
/- estovers/protection.Guarded -/
abbrev A71r1 : List AIns := [⟨(some 10), (.mv (.cst (.bool false))), none⟩]
abbrev A71r2 : List AIns := [⟨(some 16), (.mv (.tmp 0)), none⟩, ⟨(some 17), (.mv (.tmp 1)), none⟩, ⟨(some 18), (.call (.fnc 80) [(.tmp 16), (.tmp 17)]), none⟩, ⟨(some 19), (.un .not (.tmp 18)), none⟩, ⟨(some 20), (.mv (.tmp 19)), none⟩, ⟨(some 21), (.mv (.tmp 2)), (some (20, false))⟩, ⟨(some 22), (.bin .lss (.tmp 21) (.cst (.int .i64 0))), (some (20, false))⟩, ⟨(some 23), (.pick (.tmp 20) (.cst (.bool true)) (.tmp 22)), none⟩, ⟨(some 24), (.mv (.tmp 23)), none⟩, ⟨(some 25), (.mv (.tmp 2)), (some (24, false))⟩, ⟨(some 26), (.mv (.tmp 0)), (some (24, false))⟩, ⟨(some 27), (.len (.tmp 26)), (some (24, false))⟩, ⟨(some 28), (.bin .geq (.tmp 25) (.tmp 27)), (some (24, false))⟩, ⟨(some 29), (.pick (.tmp 24) (.cst (.bool true)) (.tmp 28)), none⟩, ⟨(some 30), (.mv (.tmp 29)), none⟩, ⟨(some 31), (.mv (.tmp 3)), (some (30, false))⟩, ⟨(some 32), (.bin .lss (.tmp 31) (.cst (.int .i64 (-1)))), (some (30, false))⟩, ⟨(some 33), (.pick (.tmp 30) (.cst (.bool true)) (.tmp 32)), none⟩, ⟨(some 34), (.mv (.tmp 33)), none⟩, ⟨(some 35), (.mv (.tmp 3)), (some (34, false))⟩, ⟨(some 36), (.mv (.tmp 0)), (some (34, false))⟩, ⟨(some 37), (.len (.tmp 36)), (some (34, false))⟩, ⟨(some 38), (.bin .geq (.tmp 35) (.tmp 37)), (some (34, false))⟩, ⟨(some 39), (.pick (.tmp 34) (.cst (.bool true)) (.tmp 38)), none⟩]
abbrev A71r3 : List AIns := [⟨(some 10), (.mv (.cst (.bool true))), none⟩]
abbrev A71r4 : List AIns := [⟨(some 40), (.mv (.tmp 0)), none⟩, ⟨(some 41), (.mv (.tmp 1)), none⟩, ⟨(some 42), (.call (.fnc 87) [(.tmp 40), (.tmp 41)]), none⟩, ⟨(some 11), (.mv (.tmp 42)), none⟩]
abbrev A71r5 : List AIns := [⟨(some 43), (.mv (.tmp 3)), none⟩, ⟨(some 44), (.mima true [(.tmp 43), (.cst (.int .i64 0))]), none⟩, ⟨(some 12), (.mv (.tmp 44)), none⟩]
abbrev A71r6 : List AIns := [⟨(some 13), (.mv (.cst (.bool false))), none⟩]
abbrev A71r7 : List AIns := [⟨(some 45), (.mv (.tmp 2)), none⟩, ⟨(some 14), (.mv (.tmp 45)), none⟩]
abbrev A71r9 : List AIns := [⟨(some 46), (.mv (.tmp 14)), none⟩, ⟨(some 47), (.mv (.tmp 12)), none⟩, ⟨(some 48), (.bin .gtr (.tmp 46) (.tmp 47)), none⟩]
abbrev A71r10 : List AIns := [⟨(some 49), (.mv (.tmp 0)), none⟩, ⟨(some 50), (.mv (.tmp 14)), none⟩, ⟨(some 51), (.iaddr 5 (.tmp 49) (.tmp 50)), none⟩, ⟨(some 52), (.faddr 2 (.tmp 51)), none⟩, ⟨(some 53), (.load false 1 (.tmp 52)), none⟩, ⟨(some 15), (.mv (.tmp 53)), none⟩]
abbrev A71r11 : List AIns := [⟨(some 54), (.mv (.tmp 4)), none⟩]
abbrev A71r12 : List AIns := [⟨(some 55), (.mv (.tmp 0)), none⟩, ⟨(some 56), (.mv (.tmp 14)), none⟩, ⟨(some 57), (.iaddr 5 (.tmp 55) (.tmp 56)), none⟩, ⟨(some 58), (.faddr 3 (.tmp 57)), none⟩, ⟨(some 59), (.load false 1 (.tmp 58)), none⟩, ⟨(some 15), (.mv (.tmp 59)), none⟩]
abbrev A71d13 : List AIns := [⟨(some 60), (.mv (.tmp 13)), none⟩, ⟨(some 61), (.mv (.tmp 60)), none⟩, ⟨(some 62), (.mv (.tmp 0)), (some (61, false))⟩, ⟨(some 63), (.mv (.tmp 14)), (some (61, false))⟩, ⟨(some 64), (.iaddr 5 (.tmp 62) (.tmp 63)), (some (61, false))⟩, ⟨(some 65), (.faddr 1 (.tmp 64)), (some (61, false))⟩, ⟨(some 66), (.load false 1 (.tmp 65)), (some (61, false))⟩, ⟨(some 67), (.mv (.tmp 11)), (some (61, false))⟩, ⟨(some 68), (.mv (.tmp 14)), (some (61, false))⟩, ⟨(some 69), (.iaddr 1 (.tmp 67) (.tmp 68)), (some (61, false))⟩, ⟨(some 70), (.load false 1 (.tmp 69)), (some (61, false))⟩, ⟨(some 71), (.bin .sub (.tmp 66) (.tmp 70)), (some (61, false))⟩, ⟨(some 72), (.mv (.tmp 15)), (some (61, false))⟩, ⟨(some 73), (.bin .leq (.tmp 71) (.tmp 72)), (some (61, false))⟩, ⟨(some 74), (.pick (.tmp 61) (.cst (.bool true)) (.tmp 73)), none⟩, ⟨(some 13), (.mv (.tmp 74)), none⟩]
abbrev A71r14 : List AIns := [⟨(some 75), (.mv (.tmp 0)), none⟩, ⟨(some 76), (.mv (.tmp 14)), none⟩, ⟨(some 77), (.iaddr 5 (.tmp 75) (.tmp 76)), none⟩, ⟨(some 78), (.faddr 0 (.tmp 77)), none⟩, ⟨(some 79), (.load false 1 (.tmp 78)), none⟩, ⟨(some 14), (.mv (.tmp 79)), none⟩]
abbrev A71c15 : ACode := (.seq (.reg A71r10 [0, 4, 11, 12, 13, 14, 15]) (.seq (.seq (.reg A71r11 [0, 4, 11, 12, 13, 14, 15, 54]) (.cond (.tmp 54) [0, 4, 11, 12, 13, 14] (.reg A71r12 [0, 4, 11, 12, 13, 14, 15]) [0, 4, 11, 12, 13, 14, 15] .skip)) (.seq (.dreg A71d13 [[], [0], [0, 1], [0, 1], [0, 1, 2, 3], [0, 1, 2, 3, 4], [0, 1, 2, 3, 4, 5], [0, 1], [0, 1], [0, 1, 7, 8], [0, 1, 7, 8, 9], [0, 1, 2, 3, 4, 5, 6, 7, 8, 9, 10], [0, 1], [0, 1, 2, 3, 4, 5, 6, 7, 8, 9, 10, 11, 12], [0, 1, 2, 3, 4, 5, 6, 7, 8, 9, 10, 11, 12, 13], [0, 1, 2, 3, 4, 5, 6, 7, 8, 9, 10, 11, 12, 13, 14]] [0, 4, 11, 12, 13, 14]) (.reg A71r14 [0, 4, 11, 12, 13, 14]))))
abbrev A71l8 : ACode := (.seq (.seq (.reg A71r9 [0, 4, 11, 12, 13, 14, 48]) (.cond (.tmp 48) [0, 4, 11, 12, 13, 14] .skip [12, 13, 14] (.exit 0))) (.block 1 A71c15))
abbrev A71r16 : List AIns := [⟨(some 80), (.mv (.tmp 13)), none⟩, ⟨(some 81), (.mv (.tmp 80)), none⟩, ⟨(some 82), (.mv (.tmp 14)), (some (81, false))⟩, ⟨(some 83), (.mv (.tmp 12)), (some (81, false))⟩, ⟨(some 84), (.bin .neq (.tmp 82) (.tmp 83)), (some (81, false))⟩, ⟨(some 85), (.pick (.tmp 81) (.cst (.bool true)) (.tmp 84)), none⟩, ⟨(some 10), (.mv (.tmp 85)), none⟩]
def A71 : AFun := ⟨86, 5, [(.tmp 10)], (.seq (.reg A71r1 [0, 1, 2, 3, 4]) (.seq (.seq (.reg A71r2 [0, 1, 2, 3, 4, 39]) (.cond (.tmp 39) [] (.seq (.reg A71r3 [10]) .ret) [0, 1, 2, 3, 4] .skip)) (.seq (.reg A71r4 [0, 2, 3, 4, 11]) (.seq (.reg A71r5 [0, 2, 4, 11, 12]) (.seq (.reg A71r6 [0, 2, 4, 11, 12, 13]) (.seq (.reg A71r7 [0, 4, 11, 12, 13, 14]) (.seq (.block 0 (.loop A71l8)) (.seq (.reg A71r16 [10]) .ret))))))))⟩
theorem A71c : compF Try.prog Try.f71 = some A71 := by kernel_rfl
theorem A71k : Callable Try.prog 71 := fun a w => Try.call71 a w
theorem A71p {ds : List D} {r : D} (hl : ds.length ≤ A71.nt) (hw : W Try.prog A71.code (Fin A71.results r) ⟨argEnv 0 ds, fun _ => none⟩) : PCon Try.prog 71 ds r := pcon_of_W mixed Try.func71 A71k A71c hl hw
/- (*estovers/reclaimplan.question).outside -/
abbrev A72r1 : List AIns := [⟨(some 3), (.box (.tmp 1)), none⟩, ⟨(some 4), (.mv (.cst (.bool false))), none⟩]
abbrev A72d2 : List AIns := [⟨(some 5), (.mv (.tmp 0)), none⟩, ⟨(some 6), (.nilck (.tmp 5)), none⟩, ⟨(some 7), (.faddr 1 (.tmp 6)), none⟩, ⟨(some 8), (.load false 1 (.tmp 7)), none⟩, ⟨(some 9), (.bin .geq (.tmp 8) (.cst (.int .i64 0))), none⟩, ⟨(some 10), (.mv (.tmp 9)), none⟩, ⟨(some 11), (.faddr 1 (.tmp 3)), (some (10, true))⟩, ⟨(some 12), (.load false 1 (.tmp 11)), (some (10, true))⟩, ⟨(some 13), (.bin .lss (.tmp 12) (.cst (.int .i64 0))), (some (10, true))⟩, ⟨(some 14), (.mv (.tmp 13)), (some (10, true))⟩, ⟨(some 15), (.mv (.tmp 0)), (some (14, false))⟩, ⟨(some 16), (.nilck (.tmp 15)), (some (14, false))⟩, ⟨(some 17), (.faddr 3 (.tmp 16)), (some (14, false))⟩, ⟨(some 18), (.load false 1 (.tmp 17)), (some (14, false))⟩, ⟨(some 19), (.faddr 1 (.tmp 3)), (some (14, false))⟩, ⟨(some 20), (.load false 1 (.tmp 19)), (some (14, false))⟩, ⟨(some 21), (.iaddr 1 (.tmp 18) (.tmp 20)), (some (14, false))⟩, ⟨(some 22), (.load false 1 (.tmp 21)), (some (14, false))⟩, ⟨(some 23), (.un .not (.tmp 22)), (some (14, false))⟩, ⟨(some 24), (.pick (.tmp 14) (.cst (.bool true)) (.tmp 23)), (some (10, true))⟩, ⟨(some 25), (.pick (.tmp 10) (.tmp 24) (.cst (.bool false))), none⟩, ⟨(some 4), (.mv (.tmp 25)), none⟩]
def A72 : AFun := ⟨26, 2, [(.tmp 4)], (.seq (.reg A72r1 [0, 3]) (.seq (.dreg A72d2 [[], [0], [0, 1], [0, 1, 2], [0, 1, 2, 3], [0, 1, 2, 3, 4], [0, 1, 2, 3, 4, 5], [0, 1, 2, 3, 4, 5, 6], [0, 1, 2, 3, 4, 5, 6, 7], [0, 1, 2, 3, 4, 5, 6, 7, 8], [0, 1, 2, 3, 4, 5, 6, 7, 8, 9], [0, 1, 2, 3, 4, 5, 6, 7, 8, 9, 10], [0, 1, 2, 3, 4, 5, 6, 7, 8, 9, 10, 11], [0, 1, 2, 3, 4, 5, 6, 7, 8, 9, 10, 11, 12], [0, 1, 2, 3, 4, 5, 6, 7, 8, 9], [0, 1, 2, 3, 4, 5, 6, 7, 8, 9, 14], [0, 1, 2, 3, 4, 5, 6, 7, 8, 9, 10, 11, 12, 13, 14, 15], [0, 1, 2, 3, 4, 5, 6, 7, 8, 9, 10, 11, 12, 13, 14, 15, 16], [0, 1, 2, 3, 4, 5, 6, 7, 8, 9, 10, 11, 12, 13, 14, 15, 16, 17], [0, 1, 2, 3, 4, 5, 6, 7, 8, 9, 10, 11, 12, 13, 14, 15, 16, 17, 18], [0, 1, 2, 3, 4, 5, 6, 7, 8, 9, 10, 11, 12, 13, 14, 15, 16, 17, 18, 19], [0, 1, 2, 3, 4, 5, 6, 7, 8, 9, 10, 11, 12, 13, 14, 15, 16, 17, 18, 19, 20]] [4]) .ret))⟩
theorem A72c : compF Try.prog Try.f72 = some A72 := by kernel_rfl
theorem A72k : Callable Try.prog 72 := fun a w => Try.call72 a w
theorem A72p {ds : List D} {r : D} (hl : ds.length ≤ A72.nt) (hw : W Try.prog A72.code (Fin A72.results r) ⟨argEnv 0 ds, fun _ => none⟩) : PCon Try.prog 72 ds r := pcon_of_W mixed Try.func72 A72k A72c hl hw
/- (*estovers/reclaimplan.question).guarded -/
abbrev A73r1 : List AIns := [⟨(some 3), (.box (.tmp 1)), none⟩, ⟨(some 4), (.mv (.cst (.bool false))), none⟩]
abbrev A73d2 : List AIns := [⟨(some 5), (.faddr 1 (.tmp 3)), none⟩, ⟨(some 6), (.load false 1 (.tmp 5)), none⟩, ⟨(some 7), (.bin .geq (.tmp 6) (.cst (.int .i64 0))), none⟩, ⟨(some 8), (.mv (.tmp 7)), none⟩, ⟨(some 9), (.mv (.tmp 0)), (some (8, true))⟩, ⟨(some 10), (.nilck (.tmp 9)), (some (8, true))⟩, ⟨(some 11), (.faddr 4 (.tmp 10)), (some (8, true))⟩, ⟨(some 12), (.load false 1 (.tmp 11)), (some (8, true))⟩, ⟨(some 13), (.faddr 1 (.tmp 3)), (some (8, true))⟩, ⟨(some 14), (.load false 1 (.tmp 13)), (some (8, true))⟩, ⟨(some 15), (.iaddr 1 (.tmp 12) (.tmp 14)), (some (8, true))⟩, ⟨(some 16), (.load false 1 (.tmp 15)), (some (8, true))⟩, ⟨(some 17), (.pick (.tmp 8) (.tmp 16) (.cst (.bool false))), none⟩, ⟨(some 4), (.mv (.tmp 17)), none⟩]
def A73 : AFun := ⟨18, 2, [(.tmp 4)], (.seq (.reg A73r1 [0, 3]) (.seq (.dreg A73d2 [[], [0], [0, 1], [0, 1, 2], [0, 1, 2, 3], [0, 1, 2, 3, 4], [0, 1, 2, 3, 4, 5], [0, 1, 2, 3, 4, 5, 6], [0, 1, 2, 3], [0, 1, 2, 3, 8], [0, 1, 2, 3, 4, 5, 6, 7, 8, 9], [0, 1, 2, 3, 4, 5, 6, 7, 8, 9, 10], [0, 1, 2, 3, 4, 5, 6, 7, 8, 9, 10, 11], [0, 1, 2, 3, 4, 5, 6, 7, 8, 9, 10, 11, 12]] [4]) .ret))⟩
theorem A73c : compF Try.prog Try.f73 = some A73 := by kernel_rfl
theorem A73k : Callable Try.prog 73 := fun a w => Try.call73 a w
theorem A73p {ds : List D} {r : D} (hl : ds.length ≤ A73.nt) (hw : W Try.prog A73.code (Fin A73.results r) ⟨argEnv 0 ds, fun _ => none⟩) : PCon Try.prog 73 ds r := pcon_of_W mixed Try.func73 A73k A73c hl hw
/- estovers/estoversref20.Guarded -/
/- slices.IndexFunc[[]estovers/api.Page,estovers/api.Page] -/
/- estovers/generations.isFrame -/
/- estovers/generations.clone -/
/- estovers/protection.valid -/
abbrev A80r1 : List AIns := [⟨(some 4), (.mv (.cst (.bool false))), none⟩]
abbrev A80r2 : List AIns := [⟨(some 7), (.mv (.tmp 0)), none⟩, ⟨(some 8), (.call (.fnc 41) [(.tmp 7)]), none⟩, ⟨(some 9), (.bin .neq (.tmp 8) (.cst (.int .i64 0))), none⟩, ⟨(some 10), (.mv (.tmp 9)), none⟩, ⟨(some 11), (.mv (.tmp 1)), (some (10, false))⟩, ⟨(some 12), (.len (.tmp 11)), (some (10, false))⟩, ⟨(some 13), (.mv (.tmp 0)), (some (10, false))⟩, ⟨(some 14), (.len (.tmp 13)), (some (10, false))⟩, ⟨(some 15), (.bin .neq (.tmp 12) (.tmp 14)), (some (10, false))⟩, ⟨(some 16), (.pick (.tmp 10) (.cst (.bool true)) (.tmp 15)), none⟩]
abbrev A80r3 : List AIns := [⟨(some 4), (.mv (.cst (.bool false))), none⟩]
abbrev A80r4 : List AIns := [⟨(some 17), (.mv (.tmp 1)), none⟩, ⟨(some 18), (.len (.tmp 17)), none⟩, ⟨(some 19), (.mv (.cst (.int .i64 0))), none⟩]
abbrev A80r6 : List AIns := [⟨(some 20), (.bin .lss (.tmp 19) (.tmp 18)), none⟩]
abbrev A80r7 : List AIns := [⟨(some 21), (.iaddr 1 (.tmp 17) (.tmp 19)), none⟩, ⟨(some 22), (.load false 1 (.tmp 21)), none⟩, ⟨(some 6), (.mv (.tmp 22)), none⟩]
abbrev A80r8 : List AIns := [⟨(some 23), (.mv (.tmp 6)), none⟩, ⟨(some 24), (.bin .lss (.tmp 23) (.cst (.int .i64 0))), none⟩, ⟨(some 25), (.mv (.tmp 24)), none⟩, ⟨(some 26), (.mv (.tmp 6)), (some (25, false))⟩, ⟨(some 27), (.bin .gtr (.tmp 26) (.cst (.int .i64 1048576))), (some (25, false))⟩, ⟨(some 28), (.pick (.tmp 25) (.cst (.bool true)) (.tmp 27)), none⟩]
abbrev A80r9 : List AIns := [⟨(some 4), (.mv (.cst (.bool false))), none⟩]
abbrev A80c10 : ACode := (.seq (.reg A80r7 [6, 17, 18, 19]) (.seq (.reg A80r8 [17, 18, 19, 28]) (.cond (.tmp 28) [] (.seq (.reg A80r9 [4]) .ret) [17, 18, 19] .skip)))
abbrev A80r11 : List AIns := [⟨(some 29), (.bin .add (.tmp 19) (.cst (.int .i64 1))), none⟩, ⟨(some 19), (.mv (.tmp 29)), none⟩]
abbrev A80l5 : ACode := (.seq (.reg A80r6 [17, 18, 19, 20]) (.seq (.cond (.tmp 20) [17, 18, 19] .skip [] (.exit 0)) (.seq (.block 1 A80c10) (.reg A80r11 [17, 18, 19]))))
abbrev A80r12 : List AIns := [⟨(some 4), (.mv (.cst (.bool true))), none⟩]
def A80 : AFun := ⟨30, 2, [(.tmp 4)], (.seq (.reg A80r1 [0, 1]) (.seq (.seq (.reg A80r2 [1, 16]) (.cond (.tmp 16) [] (.seq (.reg A80r3 [4]) .ret) [1] .skip)) (.seq (.seq (.reg A80r4 [17, 18, 19]) (.block 0 (.loop A80l5))) (.seq (.reg A80r12 [4]) .ret))))⟩
theorem A80c : compF Try.prog Try.f80 = some A80 := by kernel_rfl
theorem A80k : Callable Try.prog 80 := fun a w => Try.call80 a w
theorem A80p {ds : List D} {r : D} (hl : ds.length ≤ A80.nt) (hw : W Try.prog A80.code (Fin A80.results r) ⟨argEnv 0 ds, fun _ => none⟩) : PCon Try.prog 80 ds r := pcon_of_W mixed Try.func80 A80k A80c hl hw
/- estovers/accounts.Own -/
abbrev A81r1 : List AIns := [⟨(some 4), (.mv (.cst (.int .i64 0))), none⟩]
abbrev A81r2 : List AIns := [⟨(some 5), (.mv (.tmp 0)), none⟩, ⟨(some 6), (.mv (.tmp 1)), none⟩, ⟨(some 7), (.call (.fnc 84) [(.tmp 5), (.tmp 6)]), none⟩, ⟨(some 8), (.un .not (.tmp 7)), none⟩]
abbrev A81r3 : List AIns := [⟨(some 4), (.mv (.cst (.int .i64 (-1)))), none⟩]
abbrev A81r4 : List AIns := [⟨(some 9), (.mv (.tmp 0)), none⟩, ⟨(some 10), (.call (.fnc 69) [(.tmp 9)]), none⟩, ⟨(some 11), (.mv (.tmp 1)), none⟩, ⟨(some 12), (.iaddr 1 (.tmp 10) (.tmp 11)), none⟩, ⟨(some 13), (.load false 1 (.tmp 12)), none⟩, ⟨(some 4), (.mv (.tmp 13)), none⟩]
def A81 : AFun := ⟨14, 2, [(.tmp 4)], (.seq (.reg A81r1 [0, 1]) (.seq (.seq (.reg A81r2 [0, 1, 8]) (.cond (.tmp 8) [] (.seq (.reg A81r3 [4]) .ret) [0, 1] .skip)) (.seq (.reg A81r4 [4]) .ret)))⟩
theorem A81c : compF Try.prog Try.f81 = some A81 := by kernel_rfl
theorem A81k : Callable Try.prog 81 := fun a w => Try.call81 a w
theorem A81p {ds : List D} {r : D} (hl : ds.length ≤ A81.nt) (hw : W Try.prog A81.code (Fin A81.results r) ⟨argEnv 0 ds, fun _ => none⟩) : PCon Try.prog 81 ds r := pcon_of_W mixed Try.func81 A81k A81c hl hw
/- estovers/accounts.in -/
abbrev A82r1 : List AIns := [⟨(some 2), (.mv (.cst (.bool false))), none⟩]
abbrev A82r2 : List AIns := [⟨(some 3), (.mv (.tmp 0)), none⟩, ⟨(some 4), (.bin .geq (.tmp 3) (.cst (.int .i64 0))), none⟩, ⟨(some 5), (.mv (.tmp 4)), none⟩, ⟨(some 6), (.mv (.tmp 0)), (some (5, true))⟩, ⟨(some 7), (.bin .leq (.tmp 6) (.cst (.int .i64 1048576))), (some (5, true))⟩, ⟨(some 8), (.pick (.tmp 5) (.tmp 7) (.cst (.bool false))), none⟩, ⟨(some 2), (.mv (.tmp 8)), none⟩]
def A82 : AFun := ⟨9, 1, [(.tmp 2)], (.seq (.reg A82r1 [0]) (.seq (.reg A82r2 [2]) .ret))⟩
theorem A82c : compF Try.prog Try.f82 = some A82 := by kernel_rfl
theorem A82k : Callable Try.prog 82 := fun a w => Try.call82 a w
theorem A82p {ds : List D} {r : D} (hl : ds.length ≤ A82.nt) (hw : W Try.prog A82.code (Fin A82.results r) ⟨argEnv 0 ds, fun _ => none⟩) : PCon Try.prog 82 ds r := pcon_of_W mixed Try.func82 A82k A82c hl hw
/- slices.IndexFunc[[]estovers/api.Account,estovers/api.Account] -/
abbrev A83r1 : List AIns := [⟨(some 4), (.mv (.cst (.int .i64 0))), none⟩]
abbrev A83r2 : List AIns := [⟨(some 6), (.mv (.tmp 0)), none⟩, ⟨(some 7), (.len (.tmp 6)), none⟩, ⟨(some 8), (.mv (.cst (.int .i64 0))), none⟩]
abbrev A83r4 : List AIns := [⟨(some 9), (.bin .lss (.tmp 8) (.tmp 7)), none⟩]
abbrev A83r5 : List AIns := [⟨(some 10), (.mv (.tmp 8)), none⟩, ⟨(some 5), (.mv (.tmp 10)), none⟩]
abbrev A83r6 : List AIns := [⟨(some 11), (.mv (.tmp 1)), none⟩, ⟨(some 12), (.mv (.tmp 0)), none⟩, ⟨(some 13), (.mv (.tmp 5)), none⟩, ⟨(some 14), (.iaddr 5 (.tmp 12) (.tmp 13)), none⟩, ⟨(some 15), (.load true 5 (.tmp 14)), none⟩, ⟨(some 16), (.call (.tmp 11) [(.tmp 15)]), none⟩]
abbrev A83r7 : List AIns := [⟨(some 17), (.mv (.tmp 5)), none⟩, ⟨(some 4), (.mv (.tmp 17)), none⟩]
abbrev A83c8 : ACode := (.seq (.reg A83r5 [0, 1, 5, 7, 8]) (.seq (.reg A83r6 [0, 1, 5, 7, 8, 16]) (.cond (.tmp 16) [5] (.seq (.reg A83r7 [4]) .ret) [0, 1, 7, 8] .skip)))
abbrev A83r9 : List AIns := [⟨(some 18), (.bin .add (.tmp 8) (.cst (.int .i64 1))), none⟩, ⟨(some 8), (.mv (.tmp 18)), none⟩]
abbrev A83l3 : ACode := (.seq (.reg A83r4 [0, 1, 7, 8, 9]) (.seq (.cond (.tmp 9) [0, 1, 7, 8] .skip [] (.exit 0)) (.seq (.block 1 A83c8) (.reg A83r9 [0, 1, 7, 8]))))
abbrev A83r10 : List AIns := [⟨(some 4), (.mv (.cst (.int .i64 (-1)))), none⟩]
def A83 : AFun := ⟨19, 2, [(.tmp 4)], (.seq (.reg A83r1 [0, 1]) (.seq (.seq (.reg A83r2 [0, 1, 7, 8]) (.block 0 (.loop A83l3))) (.seq (.reg A83r10 [4]) .ret)))⟩
theorem A83c : compF Try.prog Try.f83 = some A83 := by kernel_rfl
theorem A83k : Callable Try.prog 83 := fun a w => Try.call83 a w
theorem A83p {ds : List D} {r : D} (hl : ds.length ≤ A83.nt) (hw : W Try.prog A83.code (Fin A83.results r) ⟨argEnv 0 ds, fun _ => none⟩) : PCon Try.prog 83 ds r := pcon_of_W mixed Try.func83 A83k A83c hl hw
/- estovers/accounts.is -/
abbrev A84r1 : List AIns := [⟨(some 4), (.mv (.cst (.bool false))), none⟩]
abbrev A84r2 : List AIns := [⟨(some 5), (.mv (.tmp 0)), none⟩, ⟨(some 6), (.call (.fnc 41) [(.tmp 5)]), none⟩, ⟨(some 7), (.bin .eql (.tmp 6) (.cst (.int .i64 0))), none⟩, ⟨(some 8), (.mv (.tmp 7)), none⟩, ⟨(some 9), (.mv (.tmp 1)), (some (8, true))⟩, ⟨(some 10), (.bin .geq (.tmp 9) (.cst (.int .i64 0))), (some (8, true))⟩, ⟨(some 11), (.pick (.tmp 8) (.tmp 10) (.cst (.bool false))), none⟩, ⟨(some 12), (.mv (.tmp 11)), none⟩, ⟨(some 13), (.mv (.tmp 1)), (some (12, true))⟩, ⟨(some 14), (.mv (.tmp 0)), (some (12, true))⟩, ⟨(some 15), (.len (.tmp 14)), (some (12, true))⟩, ⟨(some 16), (.bin .lss (.tmp 13) (.tmp 15)), (some (12, true))⟩, ⟨(some 17), (.pick (.tmp 12) (.tmp 16) (.cst (.bool false))), none⟩, ⟨(some 4), (.mv (.tmp 17)), none⟩]
def A84 : AFun := ⟨18, 2, [(.tmp 4)], (.seq (.reg A84r1 [0, 1]) (.seq (.reg A84r2 [4]) .ret))⟩
theorem A84c : compF Try.prog Try.f84 = some A84 := by kernel_rfl
theorem A84k : Callable Try.prog 84 := fun a w => Try.call84 a w
theorem A84p {ds : List D} {r : D} (hl : ds.length ≤ A84.nt) (hw : W Try.prog A84.code (Fin A84.results r) ⟨argEnv 0 ds, fun _ => none⟩) : PCon Try.prog 84 ds r := pcon_of_W mixed Try.func84 A84k A84c hl hw
/- slices.Contains[[]int,int] -/
abbrev A85r1 : List AIns := [⟨(some 4), (.mv (.cst (.bool false))), none⟩]
abbrev A85r2 : List AIns := [⟨(some 5), (.mv (.tmp 0)), none⟩, ⟨(some 6), (.mv (.tmp 1)), none⟩, ⟨(some 7), (.call (.fnc 92) [(.tmp 5), (.tmp 6)]), none⟩, ⟨(some 8), (.bin .geq (.tmp 7) (.cst (.int .i64 0))), none⟩, ⟨(some 4), (.mv (.tmp 8)), none⟩]
def A85 : AFun := ⟨9, 2, [(.tmp 4)], (.seq (.reg A85r1 [0, 1]) (.seq (.reg A85r2 [4]) .ret))⟩
theorem A85c : compF Try.prog Try.f85 = some A85 := by kernel_rfl
theorem A85k : Callable Try.prog 85 := fun a w => Try.call85 a w
theorem A85p {ds : List D} {r : D} (hl : ds.length ≤ A85.nt) (hw : W Try.prog A85.code (Fin A85.results r) ⟨argEnv 0 ds, fun _ => none⟩) : PCon Try.prog 85 ds r := pcon_of_W mixed Try.func85 A85k A85c hl hw
/- estovers/accounts.Path -/
abbrev A86r1 : List AIns := [⟨(some 4), (.mv (.cst .nil)), none⟩]
abbrev A86r2 : List AIns := [⟨(some 7), (.mv (.tmp 0)), none⟩, ⟨(some 8), (.mv (.tmp 1)), none⟩, ⟨(some 9), (.call (.fnc 84) [(.tmp 7), (.tmp 8)]), none⟩, ⟨(some 10), (.un .not (.tmp 9)), none⟩]
abbrev A86r3 : List AIns := [⟨(some 4), (.mv (.cst .nil)), none⟩]
abbrev A86r4 : List AIns := [⟨(some 5), (.mv (.cst .nil)), none⟩]
abbrev A86r5 : List AIns := [⟨(some 11), (.mv (.tmp 1)), none⟩, ⟨(some 6), (.mv (.tmp 11)), none⟩]
abbrev A86r7 : List AIns := [⟨(some 12), (.mv (.tmp 6)), none⟩, ⟨(some 13), (.bin .geq (.tmp 12) (.cst (.int .i64 0))), none⟩]
abbrev A86r8 : List AIns := [⟨(some 19), (.mv (.tmp 5)), none⟩, ⟨(some 20), (.mv (.tmp 6)), none⟩, ⟨(some 21), (.buildS 1 [(.int .i64 0)] 1 [(0, (1, (.tmp 20)))]), none⟩, ⟨(some 22), (.append 1 8 (.tmp 19) (.tmp 21)), none⟩, ⟨(some 5), (.mv (.tmp 22)), none⟩]
abbrev A86r9 : List AIns := [⟨(some 14), (.mv (.tmp 0)), none⟩, ⟨(some 15), (.mv (.tmp 6)), none⟩, ⟨(some 16), (.iaddr 5 (.tmp 14) (.tmp 15)), none⟩, ⟨(some 17), (.faddr 0 (.tmp 16)), none⟩, ⟨(some 18), (.load false 1 (.tmp 17)), none⟩, ⟨(some 6), (.mv (.tmp 18)), none⟩]
abbrev A86l6 : ACode := (.seq (.seq (.reg A86r7 [0, 5, 6, 13]) (.cond (.tmp 13) [0, 5, 6] .skip [5] (.exit 0))) (.seq (.block 1 (.reg A86r8 [0, 5, 6])) (.reg A86r9 [0, 5, 6])))
abbrev A86r10 : List AIns := [⟨(some 23), (.mv (.tmp 5)), none⟩, ⟨(some 4), (.mv (.tmp 23)), none⟩]
def A86 : AFun := ⟨24, 2, [(.tmp 4)], (.seq (.reg A86r1 [0, 1]) (.seq (.seq (.reg A86r2 [0, 1, 10]) (.cond (.tmp 10) [] (.seq (.reg A86r3 [4]) .ret) [0, 1] .skip)) (.seq (.reg A86r4 [0, 1, 5]) (.seq (.seq (.reg A86r5 [0, 5, 6]) (.block 0 (.loop A86l6))) (.seq (.reg A86r10 [4]) .ret)))))⟩
theorem A86c : compF Try.prog Try.f86 = some A86 := by kernel_rfl
theorem A86k : Callable Try.prog 86 := fun a w => Try.call86 a w
theorem A86p {ds : List D} {r : D} (hl : ds.length ≤ A86.nt) (hw : W Try.prog A86.code (Fin A86.results r) ⟨argEnv 0 ds, fun _ => none⟩) : PCon Try.prog 86 ds r := pcon_of_W mixed Try.func86 A86k A86c hl hw
/- estovers/protection.inside -/
abbrev A87r1 : List AIns := [⟨(some 4), (.mv (.cst .nil)), none⟩]
abbrev A87r2 : List AIns := [⟨(some 7), (.mv (.tmp 0)), none⟩, ⟨(some 8), (.len (.tmp 7)), none⟩, ⟨(some 9), (.mkslice 1 8 [(.int .i64 0)] (.tmp 8) (.tmp 8)), none⟩, ⟨(some 5), (.mv (.tmp 9)), none⟩]
abbrev A87r3 : List AIns := [⟨(some 10), (.mv (.tmp 0)), none⟩, ⟨(some 11), (.len (.tmp 10)), none⟩, ⟨(some 12), (.bin .sub (.tmp 11) (.cst (.int .i64 1))), none⟩, ⟨(some 6), (.mv (.tmp 12)), none⟩]
abbrev A87r5 : List AIns := [⟨(some 13), (.mv (.tmp 6)), none⟩, ⟨(some 14), (.bin .geq (.tmp 13) (.cst (.int .i64 0))), none⟩]
abbrev A87d6 : List AIns := [⟨(some 17), (.mv (.tmp 5)), none⟩, ⟨(some 18), (.mv (.tmp 6)), none⟩, ⟨(some 19), (.iaddr 1 (.tmp 17) (.tmp 18)), none⟩, ⟨(some 20), (.load false 1 (.tmp 19)), none⟩, ⟨(some 21), (.mv (.tmp 1)), none⟩, ⟨(some 22), (.mv (.tmp 6)), none⟩, ⟨(some 23), (.iaddr 1 (.tmp 21) (.tmp 22)), none⟩, ⟨(some 24), (.load false 1 (.tmp 23)), none⟩, ⟨(some 25), (.bin .add (.tmp 20) (.tmp 24)), none⟩, ⟨(some 26), (.iaddr 1 (.tmp 17) (.tmp 18)), none⟩, ⟨none, (.store 1 (.tmp 26) (.tmp 25)), none⟩]
abbrev A87d6p : List AIns := [⟨(some 17), (.mv (.tmp 5)), none⟩, ⟨(some 18), (.mv (.tmp 6)), none⟩, ⟨(some 19), (.iaddr 1 (.tmp 17) (.tmp 18)), none⟩, ⟨(some 20), (.load false 1 (.tmp 19)), none⟩, ⟨(some 21), (.mv (.tmp 1)), none⟩, ⟨(some 22), (.mv (.tmp 6)), none⟩, ⟨(some 23), (.iaddr 1 (.tmp 21) (.tmp 22)), none⟩, ⟨(some 24), (.load false 1 (.tmp 23)), none⟩, ⟨(some 25), (.bin .add (.tmp 20) (.tmp 24)), none⟩, ⟨(some 26), (.iaddr 1 (.tmp 17) (.tmp 18)), none⟩]
abbrev A87r7 : List AIns := [⟨(some 27), (.mv (.tmp 6)), none⟩, ⟨(some 28), (.bin .gtr (.tmp 27) (.cst (.int .i64 0))), none⟩]
abbrev A87d8 : List AIns := [⟨(some 29), (.mv (.tmp 5)), none⟩, ⟨(some 30), (.mv (.tmp 0)), none⟩, ⟨(some 31), (.mv (.tmp 6)), none⟩, ⟨(some 32), (.iaddr 5 (.tmp 30) (.tmp 31)), none⟩, ⟨(some 33), (.faddr 0 (.tmp 32)), none⟩, ⟨(some 34), (.load false 1 (.tmp 33)), none⟩, ⟨(some 35), (.iaddr 1 (.tmp 29) (.tmp 34)), none⟩, ⟨(some 36), (.load false 1 (.tmp 35)), none⟩, ⟨(some 37), (.mv (.tmp 5)), none⟩, ⟨(some 38), (.mv (.tmp 6)), none⟩, ⟨(some 39), (.iaddr 1 (.tmp 37) (.tmp 38)), none⟩, ⟨(some 40), (.load false 1 (.tmp 39)), none⟩, ⟨(some 41), (.bin .add (.tmp 36) (.tmp 40)), none⟩, ⟨(some 42), (.iaddr 1 (.tmp 29) (.tmp 34)), none⟩, ⟨none, (.store 1 (.tmp 42) (.tmp 41)), none⟩]
abbrev A87d8p : List AIns := [⟨(some 29), (.mv (.tmp 5)), none⟩, ⟨(some 30), (.mv (.tmp 0)), none⟩, ⟨(some 31), (.mv (.tmp 6)), none⟩, ⟨(some 32), (.iaddr 5 (.tmp 30) (.tmp 31)), none⟩, ⟨(some 33), (.faddr 0 (.tmp 32)), none⟩, ⟨(some 34), (.load false 1 (.tmp 33)), none⟩, ⟨(some 35), (.iaddr 1 (.tmp 29) (.tmp 34)), none⟩, ⟨(some 36), (.load false 1 (.tmp 35)), none⟩, ⟨(some 37), (.mv (.tmp 5)), none⟩, ⟨(some 38), (.mv (.tmp 6)), none⟩, ⟨(some 39), (.iaddr 1 (.tmp 37) (.tmp 38)), none⟩, ⟨(some 40), (.load false 1 (.tmp 39)), none⟩, ⟨(some 41), (.bin .add (.tmp 36) (.tmp 40)), none⟩, ⟨(some 42), (.iaddr 1 (.tmp 29) (.tmp 34)), none⟩]
abbrev A87c9 : ACode := (.dreg A87d8 [[], [], [], [1, 2], [1, 2, 3], [1, 2, 3, 4], [0, 1, 2, 3, 4, 5], [0, 1, 2, 3, 4, 5, 6], [], [], [8, 9], [8, 9, 10], [0, 1, 2, 3, 4, 5, 6, 7, 8, 9, 10, 11], [0, 1, 2, 3, 4, 5, 6, 7, 8, 9, 10, 11, 12], [0, 1, 2, 3, 4, 5, 6, 7, 8, 9, 10, 11, 12, 13]] [0, 1, 5, 6])
abbrev A87c10 : ACode := (.seq (.dreg A87d6 [[], [], [0, 1], [0, 1, 2], [], [], [4, 5], [4, 5, 6], [0, 1, 2, 3, 4, 5, 6, 7], [0, 1, 2, 3, 4, 5, 6, 7, 8], [0, 1, 2, 3, 4, 5, 6, 7, 8, 9]] [0, 1, 5, 6]) (.seq (.reg A87r7 [0, 1, 5, 6, 28]) (.cond (.tmp 28) [0, 1, 5, 6] A87c9 [0, 1, 5, 6] .skip)))
abbrev A87r11 : List AIns := [⟨(some 15), (.mv (.tmp 6)), none⟩, ⟨(some 16), (.bin .sub (.tmp 15) (.cst (.int .i64 1))), none⟩, ⟨(some 6), (.mv (.tmp 16)), none⟩]
abbrev A87l4 : ACode := (.seq (.seq (.reg A87r5 [0, 1, 5, 6, 14]) (.cond (.tmp 14) [0, 1, 5, 6] .skip [5] (.exit 0))) (.seq (.block 1 A87c10) (.reg A87r11 [0, 1, 5, 6])))
abbrev A87r12 : List AIns := [⟨(some 43), (.mv (.tmp 5)), none⟩, ⟨(some 4), (.mv (.tmp 43)), none⟩]
def A87 : AFun := ⟨44, 2, [(.tmp 4)], (.seq (.reg A87r1 [0, 1]) (.seq (.reg A87r2 [0, 1, 5]) (.seq (.seq (.reg A87r3 [0, 1, 5, 6]) (.block 0 (.loop A87l4))) (.seq (.reg A87r12 [4]) .ret))))⟩
theorem A87c : compF Try.prog Try.f87 = some A87 := by kernel_rfl
theorem A87k : Callable Try.prog 87 := fun a w => Try.call87 a w
theorem A87p {ds : List D} {r : D} (hl : ds.length ≤ A87.nt) (hw : W Try.prog A87.code (Fin A87.results r) ⟨argEnv 0 ds, fun _ => none⟩) : PCon Try.prog 87 ds r := pcon_of_W mixed Try.func87 A87k A87c hl hw
/- estovers/estoversref20.valid -/
/- estovers/estoversref20.inside -/
/- estovers/generations.all -/
/- slices.Clone[[]int,int] -/
/- slices.Index[[]int,int] -/
abbrev A92r1 : List AIns := [⟨(some 4), (.mv (.cst (.int .i64 0))), none⟩]
abbrev A92r2 : List AIns := [⟨(some 6), (.mv (.tmp 0)), none⟩, ⟨(some 7), (.len (.tmp 6)), none⟩, ⟨(some 8), (.mv (.cst (.int .i64 0))), none⟩]
abbrev A92r4 : List AIns := [⟨(some 9), (.bin .lss (.tmp 8) (.tmp 7)), none⟩]
abbrev A92r5 : List AIns := [⟨(some 10), (.mv (.tmp 8)), none⟩, ⟨(some 5), (.mv (.tmp 10)), none⟩]
abbrev A92r6 : List AIns := [⟨(some 11), (.mv (.tmp 1)), none⟩, ⟨(some 12), (.mv (.tmp 0)), none⟩, ⟨(some 13), (.mv (.tmp 5)), none⟩, ⟨(some 14), (.iaddr 1 (.tmp 12) (.tmp 13)), none⟩, ⟨(some 15), (.load false 1 (.tmp 14)), none⟩, ⟨(some 16), (.bin .eql (.tmp 11) (.tmp 15)), none⟩]
abbrev A92r7 : List AIns := [⟨(some 17), (.mv (.tmp 5)), none⟩, ⟨(some 4), (.mv (.tmp 17)), none⟩]
abbrev A92c8 : ACode := (.seq (.reg A92r5 [0, 1, 5, 7, 8]) (.seq (.reg A92r6 [0, 1, 5, 7, 8, 16]) (.cond (.tmp 16) [5] (.seq (.reg A92r7 [4]) .ret) [0, 1, 7, 8] .skip)))
abbrev A92r9 : List AIns := [⟨(some 18), (.bin .add (.tmp 8) (.cst (.int .i64 1))), none⟩, ⟨(some 8), (.mv (.tmp 18)), none⟩]
abbrev A92l3 : ACode := (.seq (.reg A92r4 [0, 1, 7, 8, 9]) (.seq (.cond (.tmp 9) [0, 1, 7, 8] .skip [] (.exit 0)) (.seq (.block 1 A92c8) (.reg A92r9 [0, 1, 7, 8]))))
abbrev A92r10 : List AIns := [⟨(some 4), (.mv (.cst (.int .i64 (-1)))), none⟩]
def A92 : AFun := ⟨19, 2, [(.tmp 4)], (.seq (.reg A92r1 [0, 1]) (.seq (.seq (.reg A92r2 [0, 1, 7, 8]) (.block 0 (.loop A92l3))) (.seq (.reg A92r10 [4]) .ret)))⟩
theorem A92c : compF Try.prog Try.f92 = some A92 := by kernel_rfl
theorem A92k : Callable Try.prog 92 := fun a w => Try.call92 a w
theorem A92p {ds : List D} {r : D} (hl : ds.length ≤ A92.nt) (hw : W Try.prog A92.code (Fin A92.results r) ⟨argEnv 0 ds, fun _ => none⟩) : PCon Try.prog 92 ds r := pcon_of_W mixed Try.func92 A92k A92c hl hw
/- estovers/generations.all$1 -/
end Go.Proofs.Ytfdfmbmhefckaaa
end
section
/- Generations: contracts for the example's two calls. -/
set_option linter.unusedSimpArgs false
set_option linter.unusedVariables false
namespace Go.Proofs.Ytfdfmbmhefckaaa
open Go.AM Go.RowKit
theorem RP.nil_inv {w : World} {p : Nat → Prop} {v : Value} (h : RP w p v .nil) : v = .slice none 0 0 := by cases h; rfl
theorem RP.int_inv {w : World} {p : Nat → Prop} {v : Value} {k : IntKind} {n : Int} (h : RP w p v (.int k n)) : v = .int k n := by cases h; rfl
theorem sameO_below {B : Nat} {w w' : World} (h : Below B w w') : SameO w w' := ⟨h.os, h.tape, h.output⟩
theorem nils_of {w : World} {p : Nat → Prop} {v : Value} (h : RP w p v (.vs 1 [.nil, .nil, .nil, .nil] 4)) : ∃ b off cap, v = .slice (some ⟨b, off, none⟩) 4 cap ∧ p b ∧ Nils w b off := by
  cases h with
  | vs b off cap sz len cells cs hl hc hb hcs ho hm hr =>
    refine ⟨b, off, cap, rfl, hb, fun j hj => ?_⟩
    have hcl : cs.length = 4 := hcs
    have hjc : j < cs.length := by omega
    have h1 := hm j _ (List.getElem?_eq_getElem hjc)
    rw [h1]
    have h2 : ([.nil, .nil, .nil, .nil] : List D)[j]? = some .nil := by
      obtain rfl | rfl | rfl | rfl : j = 0 ∨ j = 1 ∨ j = 2 ∨ j = 3 := by omega
      all_goals rfl
    rw [RP.nil_inv (hr j _ _ (List.getElem?_eq_getElem hjc) h2)]
theorem RP.one {w : World} {p : Nat → Prop} {b cap : Nat} {v : Value} {d : D} (hb : p b) (hc : 1 ≤ cap) (hm : w.cell? ⟨b, 0, none⟩ = some v) (ho : v.oneCell' = true) (hr : RP w p v d) : RP w p (.slice (some ⟨b, 0, none⟩) 1 cap) (.vs 1 [d] 1) := by
  refine .vs b 0 cap 1 1 [d] [v] rfl hc hb rfl (by simpa using ho) ?_ ?_
  · intro i u hu
    obtain rfl : i = 0 := by cases i with
      | zero => rfl
      | succ i => simp at hu
    simp at hu; subst hu; exact hm
  · intro i u e hu he
    obtain rfl : i = 0 := by cases i with
      | zero => rfl
      | succ i => simp at hu
    simp at hu he; subst hu he; exact hr
theorem add_p : PCon Try.prog 58 [.vs 1 [.nil, .nil, .nil, .nil] 4, .int .i64 0, .int .i64 7] (.tup [.vs 1 [.vs 1 [.int .i64 7] 1, .nil, .nil, .nil] 4, .int .i64 0]) := by
  refine ⟨A58k, fun w args hA => ?_⟩
  obtain ⟨args⟩ := args
  match args, hA.1 with
  | [v1, v2, v3], _ =>
    obtain ⟨b, off, cap, rfl, hb, hn⟩ := nils_of (hA.2 0 v1 _ rfl rfl)
    obtain rfl := RP.int_inv (hA.2 1 v2 _ rfl rfl)
    obtain rfl := RP.int_inv (hA.2 2 v3 _ rfl rfl)
    have h := Add_in Fence.wide 6 trivial trivial trivial trivial trivial trivial trivial trivial rfl (by omega) b off cap w hb hn 7 (by decide) (by decide) (by decide)
    refine (callsIn_wide.1 h).mono ?_
    rintro e w' ⟨r, c, cap2, rfl, hr, hc, hc0, hcj, hcc, hcap, hB⟩
    refine ⟨_, rfl, fun b hb => hB.block b hb, hB.size, sameO_below hB, none, by simp, by simp [nOw, isOw], _, rfl, ?_⟩
    refine ⟨rfl, fun i v d hv hd => ?_⟩
    obtain rfl | rfl : i = 0 ∨ i = 1 := by
      have : i < 2 := by
        rcases Nat.lt_or_ge i 2 with h | h
        · exact h
        · simp [List.getElem?_eq_none (show ([_, _] : List D).length ≤ i from h)] at hd
      omega
    · simp at hv hd
      subst hv hd
      show RP w' _ _ _
      refine .vs r 0 4 1 4 [.vs 1 [.int .i64 7] 1, .nil, .nil, .nil] [.slice (some ⟨c, 0, none⟩) 1 cap2, .slice none 0 0, .slice none 0 0, .slice none 0 0] rfl (Nat.le_refl _) ⟨hr.1, hr.2, by simp⟩ rfl (by simp [Value.oneCell']) ?_ ?_
      · intro i u hu
        obtain rfl | rfl | rfl | rfl : i = 0 ∨ i = 1 ∨ i = 2 ∨ i = 3 := by
          have : i < 4 := by
            rcases Nat.lt_or_ge i 4 with h | h
            · exact h
            · simp [List.getElem?_eq_none (show ([_, _, _, _] : List Value).length ≤ i from h)] at hu
          omega
        all_goals simp at hu; subst hu
        · exact hc0
        · exact hcj 1 (by omega) (by omega)
        · exact hcj 2 (by omega) (by omega)
        · exact hcj 3 (by omega) (by omega)
      · intro i u d hu hd
        obtain rfl | rfl | rfl | rfl : i = 0 ∨ i = 1 ∨ i = 2 ∨ i = 3 := by
          have : i < 4 := by
            rcases Nat.lt_or_ge i 4 with h | h
            · exact h
            · simp [List.getElem?_eq_none (show ([_, _, _, _] : List Value).length ≤ i from h)] at hu
          omega
        all_goals simp at hu hd; subst hu hd
        · exact RP.one ⟨hc.1, hc.2, by simp⟩ hcap hcc (by simp [Value.oneCell']) (.int _ _)
        · exact .nil
        · exact .nil
        · exact .nil
    · simp at hv hd
      subst hv hd
      exact .int _ _
end Go.Proofs.Ytfdfmbmhefckaaa
end
section
/- Generations: Where's contract; New's; the example awake20. -/
set_option linter.unusedSimpArgs false
set_option linter.unusedVariables false
namespace Go.Proofs.Ytfdfmbmhefckaaa
open Go.AM Go.RowKit
def seven : I64 := ⟨7, by decide⟩
abbrev zs7 : List (List I64) := [[seven], [], [], []]
theorem rows7 : fromRows zs7 zs7.length = [(k64 0, seven)] := by decide
theorem sevens_of {w : World} {n₀ : Nat} {v : Value} (h : RP w (below n₀) v (.vs 1 [.vs 1 [.int .i64 7] 1, .nil, .nil, .nil] 4)) : ∃ b off cap, v = .slice (some ⟨b, off, none⟩) 4 cap ∧ b < n₀ ∧ RowsAt n₀ w b off zs7 := by
  cases h with
  | vs b off cap sz len cells cs hl hc hb hcs ho hm hr =>
    refine ⟨b, off, cap, rfl, hb, fun j hj => ?_⟩
    have hcl : cs.length = 4 := hcs
    have hj4 : j < 4 := hj
    have hjc : j < cs.length := by omega
    have h1 := hm j _ (List.getElem?_eq_getElem hjc)
    refine ⟨_, h1, ?_⟩
    have hg := List.getElem?_eq_getElem hjc
    obtain rfl | rfl | rfl | rfl : j = 0 ∨ j = 1 ∨ j = 2 ∨ j = 3 := by omega
    · have h2 := hr 0 _ (.vs 1 [.int .i64 7] 1) hg rfl
      generalize cs[0] = u at h2
      cases h2 with
      | vs b2 off2 cap2 sz len cells cs2 hl2 hc2 hb2 hcs2 ho2 hm2 hr2 =>
        refine ⟨some ⟨b2, off2, none⟩, cap2, rfl, fun i hi => ?_⟩
        obtain rfl : i = 0 := by simp at hi; omega
        have hl3 : 0 < cs2.length := by rw [hcs2]; simp
        have h3 := hm2 0 _ (List.getElem?_eq_getElem hl3)
        refine ⟨b2, off2, rfl, hb2, ?_⟩
        rw [h3, RP.int_inv (hr2 0 _ (.int .i64 7) (List.getElem?_eq_getElem hl3) rfl)]
        rfl
    · have h2 := RP.nil_inv (hr 1 _ .nil hg rfl)
      rw [h2]
      exact ⟨none, 0, rfl, fun i hi => by simp at hi⟩
    · have h2 := RP.nil_inv (hr 2 _ .nil hg rfl)
      rw [h2]
      exact ⟨none, 0, rfl, fun i hi => by simp at hi⟩
    · have h2 := RP.nil_inv (hr 3 _ .nil hg rfl)
      rw [h2]
      exact ⟨none, 0, rfl, fun i hi => by simp at hi⟩
theorem where_p : PCon Try.prog 60 [.vs 1 [.vs 1 [.int .i64 7] 1, .nil, .nil, .nil] 4, .int .i64 7] (.int .i64 0) := by
  refine ⟨A60k, fun w args hA => ?_⟩
  obtain ⟨args⟩ := args
  match args, hA.1 with
  | [v1, v2], _ =>
    obtain ⟨b, off, cap, rfl, hb, hn⟩ := sevens_of (hA.2 0 v1 _ rfl rfl)
    obtain rfl := RP.int_inv (hA.2 1 v2 _ rfl rfl)
    have h := Where_in Fence.wide 6 trivial trivial trivial trivial trivial trivial rfl (by omega) b off cap zs7 rfl (by simp) (by rw [rows7]; decide) w hb hn (by rw [rows7]; intro x hx; simp at hx; subst hx; exact ⟨by decide, by decide⟩) (by rw [rows7]; rfl) 7 (by decide) 0 (by rw [rows7]; rfl) (by rw [rows7]; rfl)
    refine (callsIn_wide.1 h).mono ?_
    rintro e w' ⟨rfl, hB⟩
    exact ⟨_, rfl, fun b hb => hB.block b hb, hB.size, sameO_below hB, none, by simp, .int _ _⟩
theorem new_p : PCon Try.prog 59 [] (.ow 1 [.nil, .nil, .nil, .nil] 4) := by
  refine A59p (by simp [A59]) ?_
  simp only [A59, argEnv]
  repeat' (first | (with_reducible first | refine W_seq ?_ | refine then_n ?_ | refine W_skip ?_ | refine W_ret ?_ | refine then_r ?_) | ((with_reducible refine s_reg ?_); intro K hK) | ((with_reducible refine k_nil ?_); (with_reducible apply s_nil hK); (· exact nmX); clear hK; clear K) | ((with_reducible refine k_guard ?_); (first | (refine s_gt rfl ?_) | (refine s_gf1 rfl ?_) | (refine s_gfn rfl ?_) | (refine s_gx1 rfl ?_) | (refine s_gxn rfl ?_) | (refine s_gs rfl ?_))) | ((with_reducible refine k_mv ?_); (refine s_mv rfl ?_)) | ((with_reducible refine k_mkslice (dst := some 1) ?_); ((with_reducible apply s_mkslice); (· rfl); (· rfl); (· (exact ⟨rfl, by decide, by omega, by omega, by (rw [room_i]; omega), by omega⟩)); (· ((first | exact nuI | exact nuN))); intro k1 hk1; (try simp only [upd_none] at hk1))) | ((with_reducible refine k_br ?_); (first | (with_reducible first | refine Br_dec ?_ | refine Br_not ?_ | refine Br_eqF ?_ | refine Br_and ?_ | refine Br_or ?_ | refine Br_neg ?_ | refine Br_band ?_ | refine Br_bor ?_ | refine Br_beq ?_) | (refine Br_t (by first | with_reducible rfl | omega | assumption | rfl) ?_) | (refine Br_f (by first | omega | assumption | decide) ?_) | (with_reducible apply Br_sb <;> intro hbr <;> (first | subst hbr | simp only [hbr] | skip)) | (with_reducible apply Br_s <;> intro hbr))) | (with_reducible refine WN_succ ?_) | ((first | (with_reducible apply q_eqI) | (with_reducible apply q_eqN)); (first | exact nuI | exact nuN)) | ((first | (with_reducible apply q_eqL) | (with_reducible apply q_eqO)); (first | exact liL | exact liO)))
  all_goals first | exact Fin_flat trivial rfl rfl | (refine Fin_tup trivial rfl ?_ (Nat.le_of_ble_eq_true rfl); (repeat (first | exact All2.nil | (apply All2.cons; (· first | exact exc_n | exact exc_e | exact exc_v rfl rfl | exact exc_o upd_self rfl rfl)))); done) | (refine Fin_own trivial rfl upd_self ?_ (Nat.le_of_ble_eq_true rfl); (repeat (first | exact All2.nil | (apply All2.cons; (· first | exact exc_n | exact exc_e | exact exc_v rfl rfl | exact exc_o upd_self rfl rfl)))); done) | exact Fin_nil trivial rfl | exact Fin_sl trivial rfl upd_self rfl rfl
end Go.Proofs.Ytfdfmbmhefckaaa
end
section
/- Accounts: their cells, and the contracts of the simplest functions. -/
set_option linter.unusedSimpArgs false
set_option linter.unusedVariables false
namespace Go.Proofs.Ytfdfmbmhefckaaa
open Go.AM
set_option maxRecDepth 100000
set_option maxHeartbeats 4000000
structure Acct where
  parent : Int
  usage : Int
  min : Int
  low : Int
  max : Int
def Acct.cells (a : Acct) : List D := [.int .i64 a.parent, .int .i64 a.usage, .int .i64 a.min, .int .i64 a.low, .int .i64 a.max]
theorem Acct.cells_len (a : Acct) : a.cells.length = 5 := rfl
abbrev accs (l : List Acct) : D := .vs 5 (l.flatMap Acct.cells) l.length
theorem accs_len (l : List Acct) : (l.flatMap Acct.cells).length = l.length * 5 := fm_len Acct.cells_len l
theorem ac0 {l : List Acct} {i : Nat} (h : i < l.length) : (l.flatMap Acct.cells)[i * 5]? = some (.int .i64 l[i].parent) := fm_cell (j := 0) Acct.cells_len h (by omega)
theorem ac1 {l : List Acct} {i : Nat} (h : i < l.length) : (l.flatMap Acct.cells)[i * 5 + 1]? = some (.int .i64 l[i].usage) := fm_cell (j := 1) Acct.cells_len h (by omega)
theorem ac2 {l : List Acct} {i : Nat} (h : i < l.length) : (l.flatMap Acct.cells)[i * 5 + 2]? = some (.int .i64 l[i].min) := fm_cell (j := 2) Acct.cells_len h (by omega)
theorem ac3 {l : List Acct} {i : Nat} (h : i < l.length) : (l.flatMap Acct.cells)[i * 5 + 3]? = some (.int .i64 l[i].low) := fm_cell (j := 3) Acct.cells_len h (by omega)
theorem ac4 {l : List Acct} {i : Nat} (h : i < l.length) : (l.flatMap Acct.cells)[i * 5 + 4]? = some (.int .i64 l[i].max) := fm_cell (j := 4) Acct.cells_len h (by omega)
theorem acr {l : List Acct} {i : Nat} (h : i < l.length) : ((l.flatMap Acct.cells).drop (i * 5)).take 5 = [.int .i64 l[i].parent, .int .i64 l[i].usage, .int .i64 l[i].min, .int .i64 l[i].low, .int .i64 l[i].max] := fm_row Acct.cells_len h
def AIn (a : Acct) : Prop := (-9223372036854775808 ≤ a.parent ∧ a.parent ≤ 9223372036854775807) ∧ (-9223372036854775808 ≤ a.usage ∧ a.usage ≤ 9223372036854775807) ∧ (-9223372036854775808 ≤ a.min ∧ a.min ≤ 9223372036854775807) ∧
  (-9223372036854775808 ≤ a.low ∧ a.low ≤ 9223372036854775807) ∧ (-9223372036854775808 ≤ a.max ∧ a.max ≤ 9223372036854775807)
def inR (n : Int) : Prop := 0 ≤ n ∧ n ≤ 1048576
instance (n : Int) : Decidable (inR n) := inferInstanceAs (Decidable (0 ≤ n ∧ n ≤ 1048576))
theorem in_c (n : Int) : PCon Try.prog 82 [.int .i64 n] (.bool (decide (inR n))) := by
  unfold inR
  refine A82p (by simp [A82]) ?_
  simp only [A82, argEnv]
  repeat' (first | (with_reducible first | refine W_seq ?_ | refine then_n ?_ | refine W_skip ?_ | refine W_ret ?_ | refine then_r ?_) | ((with_reducible refine s_reg ?_); intro K hK) | ((with_reducible refine k_nil ?_); (with_reducible apply s_nil hK); (· exact nmX); clear hK; clear K) | ((with_reducible refine k_guard ?_); (first | (refine s_gt rfl ?_) | (refine s_gf1 rfl ?_) | (refine s_gfn rfl ?_) | (refine s_gx1 rfl ?_) | (refine s_gxn rfl ?_) | (refine s_gs rfl ?_))) | ((with_reducible refine k_mv ?_); (refine s_mv rfl ?_)) | ((with_reducible refine k_pick ?_); (first | (refine s_pickT rfl rfl ?_) | (refine s_pickF rfl rfl ?_))) | ((with_reducible refine k_leq ?_); (refine s_leq rfl rfl ?_)) | ((with_reducible refine k_geq ?_); (refine s_geq rfl rfl ?_)) | ((with_reducible refine k_br ?_); (first | (with_reducible first | refine Br_dec ?_ | refine Br_not ?_ | refine Br_eqF ?_ | refine Br_and ?_ | refine Br_or ?_ | refine Br_neg ?_ | refine Br_band ?_ | refine Br_bor ?_ | refine Br_beq ?_) | (refine Br_t (by first | with_reducible rfl | omega | assumption | rfl) ?_) | (refine Br_f (by first | omega | assumption | decide) ?_) | (with_reducible apply Br_sb <;> intro hbr <;> (first | subst hbr | simp only [hbr] | skip)) | (with_reducible apply Br_s <;> intro hbr))) | (with_reducible refine WN_succ ?_) | ((first | (with_reducible apply q_eqI) | (with_reducible apply q_eqN)); (first | exact nuI | exact nuN)) | ((first | (with_reducible apply q_eqL) | (with_reducible apply q_eqO)); (first | exact liL | exact liO)))
  all_goals first | exact Fin_bt trivial rfl (by omega) | exact Fin_bf trivial rfl (by omega)
theorem rin_c (n : Int) : PCon Try.prog 54 [.int .i64 n] (.bool (decide (inR n))) := by
  unfold inR
  refine A54p (by simp [A54]) ?_
  simp only [A54, argEnv]
  repeat' (first | (with_reducible first | refine W_seq ?_ | refine then_n ?_ | refine W_skip ?_ | refine W_ret ?_ | refine then_r ?_) | ((with_reducible refine s_reg ?_); intro K hK) | ((with_reducible refine k_nil ?_); (with_reducible apply s_nil hK); (· exact nmX); clear hK; clear K) | ((with_reducible refine k_guard ?_); (first | (refine s_gt rfl ?_) | (refine s_gf1 rfl ?_) | (refine s_gfn rfl ?_) | (refine s_gx1 rfl ?_) | (refine s_gxn rfl ?_) | (refine s_gs rfl ?_))) | ((with_reducible refine k_mv ?_); (refine s_mv rfl ?_)) | ((with_reducible refine k_pick ?_); (first | (refine s_pickT rfl rfl ?_) | (refine s_pickF rfl rfl ?_))) | ((with_reducible refine k_leq ?_); (refine s_leq rfl rfl ?_)) | ((with_reducible refine k_geq ?_); (refine s_geq rfl rfl ?_)) | ((with_reducible refine k_br ?_); (first | (with_reducible first | refine Br_dec ?_ | refine Br_not ?_ | refine Br_eqF ?_ | refine Br_and ?_ | refine Br_or ?_ | refine Br_neg ?_ | refine Br_band ?_ | refine Br_bor ?_ | refine Br_beq ?_) | (refine Br_t (by first | with_reducible rfl | omega | assumption | rfl) ?_) | (refine Br_f (by first | omega | assumption | decide) ?_) | (with_reducible apply Br_sb <;> intro hbr <;> (first | subst hbr | simp only [hbr] | skip)) | (with_reducible apply Br_s <;> intro hbr))) | (with_reducible refine WN_succ ?_) | ((first | (with_reducible apply q_eqI) | (with_reducible apply q_eqN)); (first | exact nuI | exact nuN)) | ((first | (with_reducible apply q_eqL) | (with_reducible apply q_eqO)); (first | exact liL | exact liO)))
  all_goals first | exact Fin_bt trivial rfl (by omega) | exact Fin_bf trivial rfl (by omega)
def okP (i : Nat) (a : Acct) : Prop := (i = 0 ∧ a.parent = -1) ∨ (0 < i ∧ 0 ≤ a.parent ∧ a.parent < i)
instance (i : Nat) (a : Acct) : Decidable (okP i a) := inferInstanceAs (Decidable (_ ∨ _))
def treeTo (l : List Acct) (n : Nat) : Prop := ∀ i, i < n → ∀ h : i < l.length, okP i l[i]
def treeP (l : List Acct) : Prop := treeTo l l.length
theorem treeTo_succ {l : List Acct} {i : Nat} (hi : i < l.length) (h : treeTo l i) (hp : okP i l[i]) : treeTo l (i + 1) := by
  intro j hj hl
  rcases Nat.lt_succ_iff_lt_or_eq.1 hj with h1 | rfl
  · exact h j h1 hl
  · exact hp
theorem treeP_not {l : List Acct} {i : Nat} (hi : i < l.length) (hp : ¬ okP i l[i]) : ¬ treeP l := fun h => hp (h i hi hi)
open Classical in
theorem tree_c (l : List Acct) (hl : l.length ≤ 8) : PCon Try.prog 64 [accs l] (.bool (decide (treeP l))) := by
  refine A64p (by simp [A64]) ?_
  simp only [A64, argEnv]
  have hal := accs_len l
  repeat' (first | (with_reducible first | refine W_seq ?_ | refine then_n ?_ | refine W_block ?_ | refine blk_n ?_ | refine blk_r ?_ | refine blk_e ?_ | refine W_skip ?_ | refine W_ret ?_ | refine then_r ?_ | refine W_exit ?_ | refine then_e ?_) | (refine blk_j (by decide) ?_) | ((with_reducible refine s_reg ?_); intro K hK) | ((with_reducible refine k_nil ?_); (with_reducible apply s_nil hK); (· exact nmX); clear hK; clear K) | ((with_reducible refine k_cond ?_); (first | ((with_reducible apply s_condT); (· rfl); (· exact nmX)) | ((with_reducible apply s_condF); (· rfl); (· exact nmX)) | ((with_reducible apply s_condS); (· rfl); (· exact nmX); (· exact nmX)))) | ((with_reducible refine k_guard ?_); (first | (refine s_gt rfl ?_) | (refine s_gf1 rfl ?_) | (refine s_gfn rfl ?_) | (refine s_gx1 rfl ?_) | (refine s_gxn rfl ?_) | (refine s_gs rfl ?_))) | ((with_reducible refine k_mv ?_); (refine s_mv rfl ?_)) | ((with_reducible refine k_len ?_); (first | (refine s_len rfl rfl ?_) | ((with_reducible apply s_len); (· rfl); (· exact SlOwn.len (by assumption))))) | ((with_reducible refine k_pick ?_); (first | (refine s_pickT rfl rfl ?_) | (refine s_pickF rfl rfl ?_))) | ((with_reducible refine k_eql ?_); (first | (refine s_eql rfl rfl ?_) | (refine s_strEq rfl rfl ?_))) | ((with_reducible refine k_neq ?_); (first | (refine s_neq rfl rfl ?_) | (refine s_strNe rfl rfl ?_))) | ((with_reducible refine k_lss ?_); (refine s_lss rfl rfl ?_)) | ((with_reducible refine k_gtr ?_); (refine s_gtr rfl rfl ?_)) | ((with_reducible refine k_geq ?_); (refine s_geq rfl rfl ?_)) | ((with_reducible refine k_iaddr ?_); (first | ((with_reducible apply s_iaddrV); (· rfl); (· rfl); (· (first | omega | exact ⟨rfl, by omega⟩ | skip))) | ((with_reducible apply s_iaddrO); (· rfl); (· rfl); (· (first | omega | exact ⟨rfl, by omega⟩ | skip)); (· (exact hpX))) | ((with_reducible apply s_iaddrSO); (· rfl); (· assumption); (· rfl); (· (first | omega | exact ⟨rfl, by omega⟩ | skip)); (· (first | exact nuI | exact nuN)); intro ks hks))) | ((with_reducible refine k_load ?_); (first | ((with_reducible apply s_loadV); (· rfl)) | ((with_reducible apply s_loadP); (· rfl); (· (exact hpX))))) | ((with_reducible refine k_loadA ?_); (first | ((with_reducible apply s_loadAV); (· rfl); (· (first | exact Nat.le_of_ble_eq_true rfl | decide | omega | (simp; done) | (simp; omega) | skip))) | ((with_reducible apply s_loadAP); (· rfl); (· (exact hpX)); (· (first | exact Nat.le_of_ble_eq_true rfl | decide | omega | (simp; done) | (simp; omega) | skip))))) | ((with_reducible refine k_add ?_); ((with_reducible apply s_add); (· rfl); (· rfl))) | ((with_reducible refine k_store ?_); ((with_reducible apply s_store0); (· rfl); (· rfl); (· rfl); (· (exact hpX)); (· (exact ⟨rfl, by first | exact Nat.le_of_ble_eq_true rfl | omega | (simp; omega)⟩)); (· ((first | exact liL | exact liO))); (· (first | exact upd_upd | rfl)))) | ((with_reducible refine k_faddr ?_); (first | ((with_reducible apply s_faddrV); (· rfl); (· rfl)) | ((with_reducible apply s_faddrP); (· rfl); (· rfl)))) | ((with_reducible refine k_alloc (dst := some 4) ?_); ((with_reducible apply s_alloc); intro k4 hk4; (try simp only [upd_none] at hk4))) | ((with_reducible refine k_br ?_); (first | (with_reducible first | refine Br_dec ?_ | refine Br_not ?_ | refine Br_eqF ?_ | refine Br_and ?_ | refine Br_or ?_ | refine Br_neg ?_ | refine Br_band ?_ | refine Br_bor ?_ | refine Br_beq ?_) | (refine Br_t (by first | with_reducible rfl | omega | assumption | rfl) ?_) | (refine Br_f (by first | omega | assumption | decide) ?_) | (with_reducible apply Br_sb <;> intro hbr <;> (first | subst hbr | simp only [hbr] | skip)) | (with_reducible apply Br_s <;> intro hbr))) | (with_reducible refine WN_succ ?_) | ((first | (with_reducible apply q_eqI) | (with_reducible apply q_eqN)); (first | exact nuI | exact nuN)) | ((first | (with_reducible apply q_eqL) | (with_reducible apply q_eqO)); (first | exact liL | exact liO)))
  refine W_for l.length (fun i st => treeTo l i ∧ ∃ h', st = ⟨[(5, accs l), (6, .int .i64 l.length), (7, .int .i64 i)], h'⟩) ⟨fun i h => by omega, _, rfl⟩ ?_ ?_
  · rintro i e' h' hi ⟨ht, h1, he⟩
    cases he
    repeat' (first | (with_reducible first | refine W_seq ?_ | refine then_n ?_ | refine W_block ?_ | refine blk_n ?_ | refine blk_r ?_ | refine blk_e ?_ | refine W_skip ?_ | refine W_ret ?_ | refine then_r ?_ | refine W_exit ?_ | refine then_e ?_) | (refine blk_j (by decide) ?_) | ((with_reducible refine s_reg ?_); intro K hK) | ((with_reducible refine k_nil ?_); (with_reducible apply s_nil hK); (· exact nmX); clear hK; clear K) | ((with_reducible refine k_cond ?_); (first | ((with_reducible apply s_condT); (· rfl); (· exact nmX)) | ((with_reducible apply s_condF); (· rfl); (· exact nmX)) | ((with_reducible apply s_condS); (· rfl); (· exact nmX); (· exact nmX)))) | ((with_reducible refine k_guard ?_); (first | (refine s_gt rfl ?_) | (refine s_gf1 rfl ?_) | (refine s_gfn rfl ?_) | (refine s_gx1 rfl ?_) | (refine s_gxn rfl ?_) | (refine s_gs rfl ?_))) | ((with_reducible refine k_mv ?_); (refine s_mv rfl ?_)) | ((with_reducible refine k_len ?_); (first | (refine s_len rfl rfl ?_) | ((with_reducible apply s_len); (· rfl); (· exact SlOwn.len (by assumption))))) | ((with_reducible refine k_pick ?_); (first | (refine s_pickT rfl rfl ?_) | (refine s_pickF rfl rfl ?_))) | ((with_reducible refine k_eql ?_); (first | (refine s_eql rfl rfl ?_) | (refine s_strEq rfl rfl ?_))) | ((with_reducible refine k_neq ?_); (first | (refine s_neq rfl rfl ?_) | (refine s_strNe rfl rfl ?_))) | ((with_reducible refine k_lss ?_); (refine s_lss rfl rfl ?_)) | ((with_reducible refine k_gtr ?_); (refine s_gtr rfl rfl ?_)) | ((with_reducible refine k_geq ?_); (refine s_geq rfl rfl ?_)) | ((with_reducible refine k_iaddr ?_); (first | ((with_reducible apply s_iaddrV); (· rfl); (· rfl); (· (first | omega | exact ⟨rfl, by omega⟩ | skip))) | ((with_reducible apply s_iaddrO); (· rfl); (· rfl); (· (first | omega | exact ⟨rfl, by omega⟩ | skip)); (· (exact hpX))) | ((with_reducible apply s_iaddrSO); (· rfl); (· assumption); (· rfl); (· (first | omega | exact ⟨rfl, by omega⟩ | skip)); (· (first | (simp (disch := omega) only [w64, wu8, wu16, wu32, wu64, tm_nn, td_nn, fd_nn, Int.reduceAdd, Int.reduceSub, Int.reduceMul, Int.reduceDiv, Int.reduceMod, Int.reduceNeg, Int.reduceToNat, Int.toNat_natCast, Int.toNat_zero, Int.zero_add, Int.add_zero, Int.one_mul, Int.reducePow, Nat.mul_one, Nat.zero_add, Nat.add_zero, Nat.zero_mul, Nat.reduceAdd, Nat.reduceMul, Nat.reduceSub, Nat.min_eq_left, IntKind.bits, Nat.sub_zero, acr]; try rfl; done) | rfl)); intro ks hks))) | ((with_reducible refine k_load ?_); (first | ((with_reducible apply s_loadV); (· rfl)) | ((with_reducible apply s_loadP); (· rfl); (· (exact hpX))))) | ((with_reducible refine k_loadA ?_); (first | ((with_reducible apply s_loadAV); (· rfl); (· (first | exact Nat.le_of_ble_eq_true rfl | decide | omega | (simp; done) | (simp; omega) | skip))) | ((with_reducible apply s_loadAP); (· rfl); (· (exact hpX)); (· (first | exact Nat.le_of_ble_eq_true rfl | decide | omega | (simp; done) | (simp; omega) | skip))))) | ((with_reducible refine k_add ?_); ((with_reducible apply s_add); (· rfl); (· rfl))) | ((with_reducible refine k_store ?_); ((with_reducible apply s_store0); (· rfl); (· rfl); (· rfl); (· (exact hpX)); (· (exact ⟨rfl, by first | exact Nat.le_of_ble_eq_true rfl | omega | (simp [acr]; omega)⟩)); (· ((first | (simp (disch := omega) only [upd_self, upd_ne, upd_upd, rep, splice, List.take_succ_cons, List.take_zero, List.drop_succ_cons, List.drop_zero, List.cons_append, List.nil_append, List.append_nil, List.length_cons, List.length_nil, List.reduceReplicate, List.flatten_cons, List.flatten_nil, Nat.reduceAdd, Nat.reduceMul, Nat.reduceSub, Nat.zero_add, Nat.add_zero, List.getElem?_cons_zero, List.getElem?_cons_succ, acr]; try rfl; done) | rfl))); (· (first | exact upd_upd | rfl)))) | ((with_reducible refine k_faddr ?_); (first | ((with_reducible apply s_faddrV); (· rfl); (· rfl)) | ((with_reducible apply s_faddrP); (· rfl); (· rfl)))) | ((with_reducible refine k_alloc (dst := some 4) ?_); ((with_reducible apply s_alloc); intro k4 hk4; (try simp only [upd_none] at hk4))) | ((with_reducible refine k_br ?_); (first | (with_reducible first | refine Br_dec ?_ | refine Br_not ?_ | refine Br_eqF ?_ | refine Br_and ?_ | refine Br_or ?_ | refine Br_neg ?_ | refine Br_band ?_ | refine Br_bor ?_ | refine Br_beq ?_) | (refine Br_t (by first | with_reducible rfl | omega | assumption | rfl) ?_) | (refine Br_f (by first | omega | assumption | decide) ?_) | (with_reducible apply Br_sb <;> intro hbr <;> (first | subst hbr | simp only [hbr] | skip)) | (with_reducible apply Br_s <;> intro hbr))) | (with_reducible refine WN_succ ?_) | ((first | (with_reducible apply q_eqI) | (with_reducible apply q_eqN)); (first | (simp (disch := omega) only [w64, wu8, wu16, wu32, wu64, tm_nn, td_nn, fd_nn, Int.reduceAdd, Int.reduceSub, Int.reduceMul, Int.reduceDiv, Int.reduceMod, Int.reduceNeg, Int.reduceToNat, Int.toNat_natCast, Int.toNat_zero, Int.zero_add, Int.add_zero, Int.one_mul, Int.reducePow, Nat.mul_one, Nat.zero_add, Nat.add_zero, Nat.zero_mul, Nat.reduceAdd, Nat.reduceMul, Nat.reduceSub, Nat.min_eq_left, IntKind.bits, Nat.sub_zero, acr]; try rfl; done) | rfl)) | ((first | (with_reducible apply q_eqL) | (with_reducible apply q_eqO)); (first | (simp (disch := omega) only [upd_self, upd_ne, upd_upd, rep, splice, List.take_succ_cons, List.take_zero, List.drop_succ_cons, List.drop_zero, List.cons_append, List.nil_append, List.append_nil, List.length_cons, List.length_nil, List.reduceReplicate, List.flatten_cons, List.flatten_nil, Nat.reduceAdd, Nat.reduceMul, Nat.reduceSub, Nat.zero_add, Nat.add_zero, List.getElem?_cons_zero, List.getElem?_cons_succ, acr]; try rfl; done) | rfl)))
    all_goals first | exact ⟨treeTo_succ hi ht (by unfold okP; omega), _, rfl⟩ | exact Fin_bf trivial rfl (treeP_not hi (by unfold okP; omega))
  · rintro e' h' ⟨ht, h1, he⟩
    cases he
    repeat' (first | (with_reducible first | refine W_seq ?_ | refine then_n ?_ | refine W_block ?_ | refine blk_n ?_ | refine blk_r ?_ | refine blk_e ?_ | refine W_skip ?_ | refine W_ret ?_ | refine then_r ?_ | refine W_exit ?_ | refine then_e ?_) | (refine blk_j (by decide) ?_) | ((with_reducible refine s_reg ?_); intro K hK) | ((with_reducible refine k_nil ?_); (with_reducible apply s_nil hK); (· exact nmX); clear hK; clear K) | ((with_reducible refine k_cond ?_); (first | ((with_reducible apply s_condT); (· rfl); (· exact nmX)) | ((with_reducible apply s_condF); (· rfl); (· exact nmX)) | ((with_reducible apply s_condS); (· rfl); (· exact nmX); (· exact nmX)))) | ((with_reducible refine k_guard ?_); (first | (refine s_gt rfl ?_) | (refine s_gf1 rfl ?_) | (refine s_gfn rfl ?_) | (refine s_gx1 rfl ?_) | (refine s_gxn rfl ?_) | (refine s_gs rfl ?_))) | ((with_reducible refine k_mv ?_); (refine s_mv rfl ?_)) | ((with_reducible refine k_len ?_); (first | (refine s_len rfl rfl ?_) | ((with_reducible apply s_len); (· rfl); (· exact SlOwn.len (by assumption))))) | ((with_reducible refine k_pick ?_); (first | (refine s_pickT rfl rfl ?_) | (refine s_pickF rfl rfl ?_))) | ((with_reducible refine k_eql ?_); (first | (refine s_eql rfl rfl ?_) | (refine s_strEq rfl rfl ?_))) | ((with_reducible refine k_neq ?_); (first | (refine s_neq rfl rfl ?_) | (refine s_strNe rfl rfl ?_))) | ((with_reducible refine k_lss ?_); (refine s_lss rfl rfl ?_)) | ((with_reducible refine k_gtr ?_); (refine s_gtr rfl rfl ?_)) | ((with_reducible refine k_geq ?_); (refine s_geq rfl rfl ?_)) | ((with_reducible refine k_iaddr ?_); (first | ((with_reducible apply s_iaddrV); (· rfl); (· rfl); (· (first | omega | exact ⟨rfl, by omega⟩ | skip))) | ((with_reducible apply s_iaddrO); (· rfl); (· rfl); (· (first | omega | exact ⟨rfl, by omega⟩ | skip)); (· (exact hpX))) | ((with_reducible apply s_iaddrSO); (· rfl); (· assumption); (· rfl); (· (first | omega | exact ⟨rfl, by omega⟩ | skip)); (· (first | exact nuI | exact nuN)); intro ks hks))) | ((with_reducible refine k_load ?_); (first | ((with_reducible apply s_loadV); (· rfl)) | ((with_reducible apply s_loadP); (· rfl); (· (exact hpX))))) | ((with_reducible refine k_loadA ?_); (first | ((with_reducible apply s_loadAV); (· rfl); (· (first | exact Nat.le_of_ble_eq_true rfl | decide | omega | (simp; done) | (simp; omega) | skip))) | ((with_reducible apply s_loadAP); (· rfl); (· (exact hpX)); (· (first | exact Nat.le_of_ble_eq_true rfl | decide | omega | (simp; done) | (simp; omega) | skip))))) | ((with_reducible refine k_add ?_); ((with_reducible apply s_add); (· rfl); (· rfl))) | ((with_reducible refine k_store ?_); ((with_reducible apply s_store0); (· rfl); (· rfl); (· rfl); (· (exact hpX)); (· (exact ⟨rfl, by first | exact Nat.le_of_ble_eq_true rfl | omega | (simp; omega)⟩)); (· ((first | exact liL | exact liO))); (· (first | exact upd_upd | rfl)))) | ((with_reducible refine k_faddr ?_); (first | ((with_reducible apply s_faddrV); (· rfl); (· rfl)) | ((with_reducible apply s_faddrP); (· rfl); (· rfl)))) | ((with_reducible refine k_alloc (dst := some 4) ?_); ((with_reducible apply s_alloc); intro k4 hk4; (try simp only [upd_none] at hk4))) | ((with_reducible refine k_br ?_); (first | (with_reducible first | refine Br_dec ?_ | refine Br_not ?_ | refine Br_eqF ?_ | refine Br_and ?_ | refine Br_or ?_ | refine Br_neg ?_ | refine Br_band ?_ | refine Br_bor ?_ | refine Br_beq ?_) | (refine Br_t (by first | with_reducible rfl | omega | assumption | rfl) ?_) | (refine Br_f (by first | omega | assumption | decide) ?_) | (with_reducible apply Br_sb <;> intro hbr <;> (first | subst hbr | simp only [hbr] | skip)) | (with_reducible apply Br_s <;> intro hbr))) | (with_reducible refine WN_succ ?_) | ((first | (with_reducible apply q_eqI) | (with_reducible apply q_eqN)); (first | exact nuI | exact nuN)) | ((first | (with_reducible apply q_eqL) | (with_reducible apply q_eqO)); (first | exact liL | exact liO)))
    exact Fin_bt trivial rfl ht
def okA (a : Acct) : Prop := inR a.usage ∧ inR a.min ∧ inR a.low ∧ inR a.max
instance (a : Acct) : Decidable (okA a) := inferInstanceAs (Decidable (_ ∧ _))
def amtTo (l : List Acct) (n : Nat) : Prop := ∀ i, i < n → ∀ h : i < l.length, okA l[i]
def zero0 (l : List Acct) : Prop := ∀ h : 0 < l.length, l[0].min = 0 ∧ l[0].low = 0
def amtP (l : List Acct) : Prop := amtTo l l.length ∧ zero0 l
theorem amtTo_succ {l : List Acct} {i : Nat} (hi : i < l.length) (h : amtTo l i) (hp : okA l[i]) : amtTo l (i + 1) := by
  intro j hj hl
  rcases Nat.lt_succ_iff_lt_or_eq.1 hj with h1 | rfl
  · exact h j h1 hl
  · exact hp
theorem amtTo_not {l : List Acct} {i : Nat} (hi : i < l.length) (hp : ¬ okA l[i]) : ¬ amtTo l l.length := fun h => hp (h i hi hi)
open Classical in
theorem amounts_c (l : List Acct) (h0 : 0 < l.length) (hl : l.length ≤ 8) : PCon Try.prog 65 [accs l] (.bool (decide (amtP l))) := by
  refine A65p (by simp [A65]) ?_
  simp only [A65, argEnv]
  have hal := accs_len l
  have z2 := ac2 h0
  have z3 := ac3 h0
  simp only [Nat.zero_mul] at z2 z3
  repeat' (first | (with_reducible first | refine W_seq ?_ | refine then_n ?_ | refine W_block ?_ | refine blk_n ?_ | refine blk_r ?_ | refine blk_e ?_ | refine W_skip ?_ | refine W_ret ?_ | refine then_r ?_ | refine W_exit ?_ | refine then_e ?_) | (refine blk_j (by decide) ?_) | ((with_reducible refine s_reg ?_); intro K hK) | ((with_reducible refine k_nil ?_); (with_reducible apply s_nil hK); (· exact nmX); clear hK; clear K) | ((with_reducible refine k_cond ?_); (first | ((with_reducible apply s_condT); (· rfl); (· exact nmX)) | ((with_reducible apply s_condF); (· rfl); (· exact nmX)) | ((with_reducible apply s_condS); (· rfl); (· exact nmX); (· exact nmX)))) | ((with_reducible refine k_guard ?_); (first | (refine s_gt rfl ?_) | (refine s_gf1 rfl ?_) | (refine s_gfn rfl ?_) | (refine s_gx1 rfl ?_) | (refine s_gxn rfl ?_) | (refine s_gs rfl ?_))) | ((with_reducible refine k_mv ?_); (refine s_mv rfl ?_)) | ((with_reducible refine k_len ?_); (first | (refine s_len rfl rfl ?_) | ((with_reducible apply s_len); (· rfl); (· exact SlOwn.len (by assumption))))) | ((with_reducible refine k_pick ?_); (first | (refine s_pickT rfl rfl ?_) | (refine s_pickF rfl rfl ?_))) | ((with_reducible refine k_not ?_); (refine s_not rfl (by first | exact Bool.not_true | exact Bool.not_false | rfl) ?_)) | ((with_reducible refine k_eql ?_); (first | (refine s_eql rfl rfl ?_) | (refine s_strEq rfl rfl ?_))) | ((with_reducible refine k_lss ?_); (refine s_lss rfl rfl ?_)) | ((with_reducible refine k_iaddr ?_); (first | ((with_reducible apply s_iaddrV); (· rfl); (· rfl); (· (first | omega | exact ⟨rfl, by omega⟩ | skip))) | ((with_reducible apply s_iaddrO); (· rfl); (· rfl); (· (first | omega | exact ⟨rfl, by omega⟩ | skip)); (· (exact hpX))) | ((with_reducible apply s_iaddrSO); (· rfl); (· assumption); (· rfl); (· (first | omega | exact ⟨rfl, by omega⟩ | skip)); (· (first | exact nuI | exact nuN)); intro ks hks))) | ((with_reducible refine k_load ?_); (first | ((with_reducible apply s_loadV); (· rfl)) | ((with_reducible apply s_loadP); (· rfl); (· (exact hpX))))) | ((with_reducible refine k_loadA ?_); (first | ((with_reducible apply s_loadAV); (· rfl); (· (first | exact Nat.le_of_ble_eq_true rfl | decide | omega | (simp; done) | (simp; omega) | skip))) | ((with_reducible apply s_loadAP); (· rfl); (· (exact hpX)); (· (first | exact Nat.le_of_ble_eq_true rfl | decide | omega | (simp; done) | (simp; omega) | skip))))) | ((with_reducible refine k_add ?_); ((with_reducible apply s_add); (· rfl); (· rfl))) | ((with_reducible refine k_store ?_); ((with_reducible apply s_store0); (· rfl); (· rfl); (· rfl); (· (exact hpX)); (· (exact ⟨rfl, by first | exact Nat.le_of_ble_eq_true rfl | omega | (simp; omega)⟩)); (· ((first | exact liL | exact liO))); (· (first | exact upd_upd | rfl)))) | ((with_reducible refine k_faddr ?_); (first | ((with_reducible apply s_faddrV); (· rfl); (· rfl)) | ((with_reducible apply s_faddrP); (· rfl); (· rfl)))) | ((with_reducible refine k_alloc (dst := some 4) ?_); ((with_reducible apply s_alloc); intro k4 hk4; (try simp only [upd_none] at hk4))) | ((with_reducible refine k_callF ?_); (first | ((with_reducible apply s_call1); (· rfl)) | ((with_reducible apply s_calln); (· rfl)))) | ((with_reducible refine k_br ?_); (first | (with_reducible first | refine Br_dec ?_ | refine Br_not ?_ | refine Br_eqF ?_ | refine Br_and ?_ | refine Br_or ?_ | refine Br_neg ?_ | refine Br_band ?_ | refine Br_bor ?_ | refine Br_beq ?_) | (refine Br_t (by first | with_reducible rfl | omega | assumption | rfl) ?_) | (refine Br_f (by first | omega | assumption | decide) ?_) | (with_reducible apply Br_sb <;> intro hbr <;> (first | subst hbr | simp only [hbr] | skip)) | (with_reducible apply Br_s <;> intro hbr))) | (with_reducible refine WN_succ ?_) | ((first | (with_reducible apply q_eqI) | (with_reducible apply q_eqN)); (first | exact nuI | exact nuN)) | ((first | (with_reducible apply q_eqL) | (with_reducible apply q_eqO)); (first | exact liL | exact liO)))
  refine W_for l.length (fun i st => amtTo l i ∧ ∃ h', st = ⟨[(0, accs l), (5, accs l), (6, .int .i64 l.length), (7, .int .i64 i)], h'⟩) ⟨fun i h => by omega, _, rfl⟩ ?_ ?_
  · rintro i e' h' hi ⟨ht, h1, he⟩
    cases he
    repeat' (first | (with_reducible first | refine W_seq ?_ | refine then_n ?_ | refine W_block ?_ | refine blk_n ?_ | refine blk_r ?_ | refine blk_e ?_ | refine W_skip ?_ | refine W_ret ?_ | refine then_r ?_ | refine W_exit ?_ | refine then_e ?_) | (refine blk_j (by decide) ?_) | ((with_reducible refine s_reg ?_); intro K hK) | ((with_reducible refine k_nil ?_); (with_reducible apply s_nil hK); (· exact nmX); clear hK; clear K) | ((with_reducible refine k_cond ?_); (first | ((with_reducible apply s_condT); (· rfl); (· exact nmX)) | ((with_reducible apply s_condF); (· rfl); (· exact nmX)) | ((with_reducible apply s_condS); (· rfl); (· exact nmX); (· exact nmX)))) | ((with_reducible refine k_guard ?_); (first | (refine s_gt rfl ?_) | (refine s_gf1 rfl ?_) | (refine s_gfn rfl ?_) | (refine s_gx1 rfl ?_) | (refine s_gxn rfl ?_) | (refine s_gs rfl ?_))) | ((with_reducible refine k_mv ?_); (refine s_mv rfl ?_)) | ((with_reducible refine k_len ?_); (first | (refine s_len rfl rfl ?_) | ((with_reducible apply s_len); (· rfl); (· exact SlOwn.len (by assumption))))) | ((with_reducible refine k_pick ?_); (first | (refine s_pickT rfl rfl ?_) | (refine s_pickF rfl rfl ?_))) | ((with_reducible refine k_not ?_); (refine s_not rfl (by first | exact Bool.not_true | exact Bool.not_false | rfl) ?_)) | ((with_reducible refine k_eql ?_); (first | (refine s_eql rfl rfl ?_) | (refine s_strEq rfl rfl ?_))) | ((with_reducible refine k_lss ?_); (refine s_lss rfl rfl ?_)) | ((with_reducible refine k_iaddr ?_); (first | ((with_reducible apply s_iaddrV); (· rfl); (· rfl); (· (first | omega | exact ⟨rfl, by omega⟩ | skip))) | ((with_reducible apply s_iaddrO); (· rfl); (· rfl); (· (first | omega | exact ⟨rfl, by omega⟩ | skip)); (· (exact hpX))) | ((with_reducible apply s_iaddrSO); (· rfl); (· assumption); (· rfl); (· (first | omega | exact ⟨rfl, by omega⟩ | skip)); (· (first | (simp (disch := omega) only [w64, wu8, wu16, wu32, wu64, tm_nn, td_nn, fd_nn, Int.reduceAdd, Int.reduceSub, Int.reduceMul, Int.reduceDiv, Int.reduceMod, Int.reduceNeg, Int.reduceToNat, Int.toNat_natCast, Int.toNat_zero, Int.zero_add, Int.add_zero, Int.one_mul, Int.reducePow, Nat.mul_one, Nat.zero_add, Nat.add_zero, Nat.zero_mul, Nat.reduceAdd, Nat.reduceMul, Nat.reduceSub, Nat.min_eq_left, IntKind.bits, Nat.sub_zero, acr]; try rfl; done) | rfl)); intro ks hks))) | ((with_reducible refine k_load ?_); (first | ((with_reducible apply s_loadV); (· rfl)) | ((with_reducible apply s_loadP); (· rfl); (· (exact hpX))))) | ((with_reducible refine k_loadA ?_); (first | ((with_reducible apply s_loadAV); (· rfl); (· (first | exact Nat.le_of_ble_eq_true rfl | decide | omega | (simp; done) | (simp; omega) | skip))) | ((with_reducible apply s_loadAP); (· rfl); (· (exact hpX)); (· (first | exact Nat.le_of_ble_eq_true rfl | decide | omega | (simp; done) | (simp; omega) | skip))))) | ((with_reducible refine k_add ?_); ((with_reducible apply s_add); (· rfl); (· rfl))) | ((with_reducible refine k_store ?_); ((with_reducible apply s_store0); (· rfl); (· rfl); (· rfl); (· (exact hpX)); (· (exact ⟨rfl, by first | exact Nat.le_of_ble_eq_true rfl | omega | (simp [acr]; omega)⟩)); (· ((first | (simp (disch := omega) only [upd_self, upd_ne, upd_upd, rep, splice, List.take_succ_cons, List.take_zero, List.drop_succ_cons, List.drop_zero, List.cons_append, List.nil_append, List.append_nil, List.length_cons, List.length_nil, List.reduceReplicate, List.flatten_cons, List.flatten_nil, Nat.reduceAdd, Nat.reduceMul, Nat.reduceSub, Nat.zero_add, Nat.add_zero, List.getElem?_cons_zero, List.getElem?_cons_succ, acr]; try rfl; done) | rfl))); (· (first | exact upd_upd | rfl)))) | ((with_reducible refine k_faddr ?_); (first | ((with_reducible apply s_faddrV); (· rfl); (· rfl)) | ((with_reducible apply s_faddrP); (· rfl); (· rfl)))) | ((with_reducible refine k_alloc (dst := some 4) ?_); ((with_reducible apply s_alloc); intro k4 hk4; (try simp only [upd_none] at hk4))) | ((with_reducible refine k_callF ?_); (first | ((with_reducible apply s_call1); (· rfl)) | ((with_reducible apply s_calln); (· rfl)))) | ((with_reducible refine k_con ?_); (first | ((with_reducible apply con_valB (in_c _)); (· (repeat (first | exact All2.nil | (apply All2.cons; (· first | ((apply Rd_sl0); (· exact hpX); (· first | rfl | exact scal_i | exact scal_b | assumption); (· first | rfl | assumption | (simp [acr]; done) | (simp [acr]; omega))) | exact rdX)))))))) | ((with_reducible refine k_br ?_); (first | (with_reducible first | refine Br_dec ?_ | refine Br_not ?_ | refine Br_eqF ?_ | refine Br_and ?_ | refine Br_or ?_ | refine Br_neg ?_ | refine Br_band ?_ | refine Br_bor ?_ | refine Br_beq ?_) | (refine Br_t (by first | with_reducible rfl | omega | assumption | rfl) ?_) | (refine Br_f (by first | omega | assumption | decide) ?_) | (with_reducible apply Br_sb <;> intro hbr <;> (first | subst hbr | simp only [hbr] | skip)) | (with_reducible apply Br_s <;> intro hbr))) | (with_reducible refine WN_succ ?_) | ((first | (with_reducible apply q_eqI) | (with_reducible apply q_eqN)); (first | (simp (disch := omega) only [w64, wu8, wu16, wu32, wu64, tm_nn, td_nn, fd_nn, Int.reduceAdd, Int.reduceSub, Int.reduceMul, Int.reduceDiv, Int.reduceMod, Int.reduceNeg, Int.reduceToNat, Int.toNat_natCast, Int.toNat_zero, Int.zero_add, Int.add_zero, Int.one_mul, Int.reducePow, Nat.mul_one, Nat.zero_add, Nat.add_zero, Nat.zero_mul, Nat.reduceAdd, Nat.reduceMul, Nat.reduceSub, Nat.min_eq_left, IntKind.bits, Nat.sub_zero, acr]; try rfl; done) | rfl)) | ((first | (with_reducible apply q_eqL) | (with_reducible apply q_eqO)); (first | (simp (disch := omega) only [upd_self, upd_ne, upd_upd, rep, splice, List.take_succ_cons, List.take_zero, List.drop_succ_cons, List.drop_zero, List.cons_append, List.nil_append, List.append_nil, List.length_cons, List.length_nil, List.reduceReplicate, List.flatten_cons, List.flatten_nil, Nat.reduceAdd, Nat.reduceMul, Nat.reduceSub, Nat.zero_add, Nat.add_zero, List.getElem?_cons_zero, List.getElem?_cons_succ, acr]; try rfl; done) | rfl)))
    all_goals first | exact ⟨amtTo_succ hi ht (by unfold okA; simp only [*, and_self]), _, rfl⟩ | exact Fin_bf trivial rfl (fun h => amtTo_not hi (by unfold okA; simp only [*, and_false, false_and, not_false_eq_true]) h.1)
  · rintro e' h' ⟨ht, h1, he⟩
    cases he
    repeat' (first | (with_reducible first | refine W_seq ?_ | refine then_n ?_ | refine W_block ?_ | refine blk_n ?_ | refine blk_r ?_ | refine blk_e ?_ | refine W_skip ?_ | refine W_ret ?_ | refine then_r ?_ | refine W_exit ?_ | refine then_e ?_) | (refine blk_j (by decide) ?_) | ((with_reducible refine s_reg ?_); intro K hK) | ((with_reducible refine k_nil ?_); (with_reducible apply s_nil hK); (· exact nmX); clear hK; clear K) | ((with_reducible refine k_cond ?_); (first | ((with_reducible apply s_condT); (· rfl); (· exact nmX)) | ((with_reducible apply s_condF); (· rfl); (· exact nmX)) | ((with_reducible apply s_condS); (· rfl); (· exact nmX); (· exact nmX)))) | ((with_reducible refine k_guard ?_); (first | (refine s_gt rfl ?_) | (refine s_gf1 rfl ?_) | (refine s_gfn rfl ?_) | (refine s_gx1 rfl ?_) | (refine s_gxn rfl ?_) | (refine s_gs rfl ?_))) | ((with_reducible refine k_mv ?_); (refine s_mv rfl ?_)) | ((with_reducible refine k_len ?_); (first | (refine s_len rfl rfl ?_) | ((with_reducible apply s_len); (· rfl); (· exact SlOwn.len (by assumption))))) | ((with_reducible refine k_pick ?_); (first | (refine s_pickT rfl rfl ?_) | (refine s_pickF rfl rfl ?_))) | ((with_reducible refine k_not ?_); (refine s_not rfl (by first | exact Bool.not_true | exact Bool.not_false | rfl) ?_)) | ((with_reducible refine k_eql ?_); (first | (refine s_eql rfl rfl ?_) | (refine s_strEq rfl rfl ?_))) | ((with_reducible refine k_lss ?_); (refine s_lss rfl rfl ?_)) | ((with_reducible refine k_iaddr ?_); (first | ((with_reducible apply s_iaddrV); (· rfl); (· rfl); (· (first | omega | exact ⟨rfl, by omega⟩ | skip))) | ((with_reducible apply s_iaddrO); (· rfl); (· rfl); (· (first | omega | exact ⟨rfl, by omega⟩ | skip)); (· (exact hpX))) | ((with_reducible apply s_iaddrSO); (· rfl); (· assumption); (· rfl); (· (first | omega | exact ⟨rfl, by omega⟩ | skip)); (· (first | (simp (disch := omega) only [w64, wu8, wu16, wu32, wu64, tm_nn, td_nn, fd_nn, Int.reduceAdd, Int.reduceSub, Int.reduceMul, Int.reduceDiv, Int.reduceMod, Int.reduceNeg, Int.reduceToNat, Int.toNat_natCast, Int.toNat_zero, Int.zero_add, Int.add_zero, Int.one_mul, Int.reducePow, Nat.mul_one, Nat.zero_add, Nat.add_zero, Nat.zero_mul, Nat.reduceAdd, Nat.reduceMul, Nat.reduceSub, Nat.min_eq_left, IntKind.bits, Nat.sub_zero, z2, z3]; try rfl; done) | rfl)); intro ks hks))) | ((with_reducible refine k_load ?_); (first | ((with_reducible apply s_loadV); (· rfl)) | ((with_reducible apply s_loadP); (· rfl); (· (exact hpX))))) | ((with_reducible refine k_loadA ?_); (first | ((with_reducible apply s_loadAV); (· rfl); (· (first | exact Nat.le_of_ble_eq_true rfl | decide | omega | (simp; done) | (simp; omega) | skip))) | ((with_reducible apply s_loadAP); (· rfl); (· (exact hpX)); (· (first | exact Nat.le_of_ble_eq_true rfl | decide | omega | (simp; done) | (simp; omega) | skip))))) | ((with_reducible refine k_add ?_); ((with_reducible apply s_add); (· rfl); (· rfl))) | ((with_reducible refine k_store ?_); ((with_reducible apply s_store0); (· rfl); (· rfl); (· rfl); (· (exact hpX)); (· (exact ⟨rfl, by first | exact Nat.le_of_ble_eq_true rfl | omega | (simp [z2, z3]; omega)⟩)); (· ((first | (simp (disch := omega) only [upd_self, upd_ne, upd_upd, rep, splice, List.take_succ_cons, List.take_zero, List.drop_succ_cons, List.drop_zero, List.cons_append, List.nil_append, List.append_nil, List.length_cons, List.length_nil, List.reduceReplicate, List.flatten_cons, List.flatten_nil, Nat.reduceAdd, Nat.reduceMul, Nat.reduceSub, Nat.zero_add, Nat.add_zero, List.getElem?_cons_zero, List.getElem?_cons_succ, z2, z3]; try rfl; done) | rfl))); (· (first | exact upd_upd | rfl)))) | ((with_reducible refine k_faddr ?_); (first | ((with_reducible apply s_faddrV); (· rfl); (· rfl)) | ((with_reducible apply s_faddrP); (· rfl); (· rfl)))) | ((with_reducible refine k_alloc (dst := some 4) ?_); ((with_reducible apply s_alloc); intro k4 hk4; (try simp only [upd_none] at hk4))) | ((with_reducible refine k_callF ?_); (first | ((with_reducible apply s_call1); (· rfl)) | ((with_reducible apply s_calln); (· rfl)))) | ((with_reducible refine k_br ?_); (first | (with_reducible first | refine Br_dec ?_ | refine Br_not ?_ | refine Br_eqF ?_ | refine Br_and ?_ | refine Br_or ?_ | refine Br_neg ?_ | refine Br_band ?_ | refine Br_bor ?_ | refine Br_beq ?_) | (refine Br_t (by first | with_reducible rfl | omega | assumption | rfl) ?_) | (refine Br_f (by first | omega | assumption | decide) ?_) | (with_reducible apply Br_sb <;> intro hbr <;> (first | subst hbr | simp only [hbr] | skip)) | (with_reducible apply Br_s <;> intro hbr))) | (with_reducible refine WN_succ ?_) | ((first | (with_reducible apply q_eqI) | (with_reducible apply q_eqN)); (first | (simp (disch := omega) only [w64, wu8, wu16, wu32, wu64, tm_nn, td_nn, fd_nn, Int.reduceAdd, Int.reduceSub, Int.reduceMul, Int.reduceDiv, Int.reduceMod, Int.reduceNeg, Int.reduceToNat, Int.toNat_natCast, Int.toNat_zero, Int.zero_add, Int.add_zero, Int.one_mul, Int.reducePow, Nat.mul_one, Nat.zero_add, Nat.add_zero, Nat.zero_mul, Nat.reduceAdd, Nat.reduceMul, Nat.reduceSub, Nat.min_eq_left, IntKind.bits, Nat.sub_zero, z2, z3]; try rfl; done) | rfl)) | ((first | (with_reducible apply q_eqL) | (with_reducible apply q_eqO)); (first | (simp (disch := omega) only [upd_self, upd_ne, upd_upd, rep, splice, List.take_succ_cons, List.take_zero, List.drop_succ_cons, List.drop_zero, List.cons_append, List.nil_append, List.append_nil, List.length_cons, List.length_nil, List.reduceReplicate, List.flatten_cons, List.flatten_nil, Nat.reduceAdd, Nat.reduceMul, Nat.reduceSub, Nat.zero_add, Nat.add_zero, List.getElem?_cons_zero, List.getElem?_cons_succ, z2, z3]; try rfl; done) | rfl)))
    · exact Fin_bt trivial rfl ⟨ht, fun _ => by constructor <;> assumption⟩
    · exact Fin_bf trivial rfl (fun h => absurd (h.2 h0).2 (by assumption))
    · exact Fin_bf trivial rfl (fun h => absurd (h.2 h0).1 (by assumption))
end Go.Proofs.Ytfdfmbmhefckaaa
end
